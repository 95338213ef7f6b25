/-
  NARROWER THAN 'FOR EVERY INPUT', by the rows' own cells (each row's printed sentence says how): DigestIs: laid · DigestParts: laid · DigestTwice: laid · DigestParses: laid · DigestShows: laid · HeaderUnlike: laid · HeaderFollows: laid · PledgePlans: laid · PledgeSpan: laid · PledgeMeets: laid · HeaderReads: laid · PledgeDoes: laid · HeaderBytes: laid · HeaderSeeks: laid · HeaderMines: laid.
  DERIVED. THE GIVEN ROWS OF THIS SEAT. 15 by the template 'for every input the law returns true; each argument reads behind the call as it read before'; 0 by the template 'total and deterministic' (their statements: YtnnajeoeeefjaaaDoorTotals.lean).
  GIVEN WITH THE SEED: the statements are not yours to turn. If you find one false, say at which input.
  Laid BY PROGRAM, IN A SANDBOX (cutbox-rows.mjs): the forced cells as the released guide's own fill.sh prints them over the translation a83dc983cdc77da5… (all of the seat's roots in one cut). By AI agents, Wed Nov 11 2026. No macro, syntax, notation, axiom, sorry.
-/
import Derived.Test.YtnnajeoeeefjaaaDoorChecked
import GoSem.Claim
import GoSem.ClaimJoined
import GoSem.ClaimMapViews
import Derived.JoinedTies
import Derived.KernelRfl
namespace Go.Proofs.YtnnajeoeeefjaaaDoor
/- THE CELL 'sum', in the pinned program and in every row, IS THE sha256 OF THE DUMP (.gsa) THAT YtnnajeoeeefjaaaDoorProg.lean LOADS. Nothing in Lean hashes anything: it is a label: what it is worth is what the hold of that sum in a sandbox is worth. -/
noncomputable def Tryd.pinned : Pinned := { name := "ytnnajeoeeefjaaadoor", sum := "a83dc983cdc77da51ee9aacf0121790781b637642e3ed17d0395e135752b2709", checked := Tryd.checked }
namespace Rows
def none {H : Type} : Left H := { results := [], args := [] }

/- WHAT THE LISTED PACKAGE-LEVEL VARIABLES READ AS WHEN THE CALL BEGINS. Each datum BY PROGRAM (the guide's laid-datum.mjs) off the statement by which the dump's own 'gosem.cut.vars' lays the variable. In a bare row this is a premise. The card (YtnnajeoeeefjaaaDoorCards.lean) ties it to the program's text. -/
def laid_trailhead_digest_steps {H : Type} : DataW H := .agg [.lit (.int .u32 1116352408), .lit (.int .u32 1899447441), .lit (.int .u32 3049323471), .lit (.int .u32 3921009573), .lit (.int .u32 961987163), .lit (.int .u32 1508970993), .lit (.int .u32 2453635748), .lit (.int .u32 2870763221), .lit (.int .u32 3624381080), .lit (.int .u32 310598401), .lit (.int .u32 607225278), .lit (.int .u32 1426881987), .lit (.int .u32 1925078388), .lit (.int .u32 2162078206), .lit (.int .u32 2614888103), .lit (.int .u32 3248222580), .lit (.int .u32 3835390401), .lit (.int .u32 4022224774), .lit (.int .u32 264347078), .lit (.int .u32 604807628), .lit (.int .u32 770255983), .lit (.int .u32 1249150122), .lit (.int .u32 1555081692), .lit (.int .u32 1996064986), .lit (.int .u32 2554220882), .lit (.int .u32 2821834349), .lit (.int .u32 2952996808), .lit (.int .u32 3210313671), .lit (.int .u32 3336571891), .lit (.int .u32 3584528711), .lit (.int .u32 113926993), .lit (.int .u32 338241895), .lit (.int .u32 666307205), .lit (.int .u32 773529912), .lit (.int .u32 1294757372), .lit (.int .u32 1396182291), .lit (.int .u32 1695183700), .lit (.int .u32 1986661051), .lit (.int .u32 2177026350), .lit (.int .u32 2456956037), .lit (.int .u32 2730485921), .lit (.int .u32 2820302411), .lit (.int .u32 3259730800), .lit (.int .u32 3345764771), .lit (.int .u32 3516065817), .lit (.int .u32 3600352804), .lit (.int .u32 4094571909), .lit (.int .u32 275423344), .lit (.int .u32 430227734), .lit (.int .u32 506948616), .lit (.int .u32 659060556), .lit (.int .u32 883997877), .lit (.int .u32 958139571), .lit (.int .u32 1322822218), .lit (.int .u32 1537002063), .lit (.int .u32 1747873779), .lit (.int .u32 1955562222), .lit (.int .u32 2024104815), .lit (.int .u32 2227730452), .lit (.int .u32 2361852424), .lit (.int .u32 2428436474), .lit (.int .u32 2756734187), .lit (.int .u32 3204031479), .lit (.int .u32 3329325298)]
def laid_trailhead_digest_starts {H : Type} : DataW H := .agg [.lit (.int .u32 1779033703), .lit (.int .u32 3144134277), .lit (.int .u32 1013904242), .lit (.int .u32 2773480762), .lit (.int .u32 1359893119), .lit (.int .u32 2600822924), .lit (.int .u32 528734635), .lit (.int .u32 1541459225)]

/-- 'trailheadlaw01.DigestIs': WHATEVER THE INPUT: true; the input reads as it did. -/
def digestIsSpec : ChangeSpec := { name := "digestIs", fn := fun _ => fun
  | [d] => { results := [.lit (.bool true)], args := [d] }
  | _ => none }
def digestIsRow : OpenClaim := { program := "ytnnajeoeeefjaaadoor", sum := "a83dc983cdc77da51ee9aacf0121790781b637642e3ed17d0395e135752b2709", func := "trailhead/trailheadlaw01.DigestIs", spec := "digestIs", named := ["trailhead/digest.starts", "trailhead/digest.steps"], apart := false, laid := [("trailhead/digest.steps", laid_trailhead_digest_steps), ("trailhead/digest.starts", laid_trailhead_digest_starts)] }
def DigestIsSaid : Prop := digestIsRow.holds Tryd.pinned (OpenSpec.ofChange digestIsSpec)

/-- ITS FALSE NEIGHBOUR: 'it returns false'. Refute it at one input. -/
def digestIsWrong : ChangeSpec := { name := "digestIs", fn := fun _ => fun
  | [d] => { results := [.lit (.bool false)], args := [d] }
  | _ => none }
def DigestIsWrongFalsely : Prop := digestIsRow.holds Tryd.pinned (OpenSpec.ofChange digestIsWrong)

/-- 'trailheadlaw01.DigestParts': WHATEVER THE INPUT: true; the input reads as it did. -/
def digestPartsSpec : ChangeSpec := { name := "digestParts", fn := fun _ => fun
  | [d1, d2] => { results := [.lit (.bool true)], args := [d1, d2] }
  | _ => none }
def digestPartsRow : OpenClaim := { program := "ytnnajeoeeefjaaadoor", sum := "a83dc983cdc77da51ee9aacf0121790781b637642e3ed17d0395e135752b2709", func := "trailhead/trailheadlaw01.DigestParts", spec := "digestParts", named := ["trailhead/digest.starts", "trailhead/digest.steps"], apart := false, laid := [("trailhead/digest.steps", laid_trailhead_digest_steps), ("trailhead/digest.starts", laid_trailhead_digest_starts)] }
def DigestPartsSaid : Prop := digestPartsRow.holds Tryd.pinned (OpenSpec.ofChange digestPartsSpec)

/-- ITS FALSE NEIGHBOUR: 'it returns false'. Refute it at one input. -/
def digestPartsWrong : ChangeSpec := { name := "digestParts", fn := fun _ => fun
  | [d1, d2] => { results := [.lit (.bool false)], args := [d1, d2] }
  | _ => none }
def DigestPartsWrongFalsely : Prop := digestPartsRow.holds Tryd.pinned (OpenSpec.ofChange digestPartsWrong)

/-- 'trailheadlaw01.DigestTwice': WHATEVER THE INPUT: true; the input reads as it did. -/
def digestTwiceSpec : ChangeSpec := { name := "digestTwice", fn := fun _ => fun
  | [d] => { results := [.lit (.bool true)], args := [d] }
  | _ => none }
def digestTwiceRow : OpenClaim := { program := "ytnnajeoeeefjaaadoor", sum := "a83dc983cdc77da51ee9aacf0121790781b637642e3ed17d0395e135752b2709", func := "trailhead/trailheadlaw01.DigestTwice", spec := "digestTwice", named := ["trailhead/digest.starts", "trailhead/digest.steps"], apart := false, laid := [("trailhead/digest.steps", laid_trailhead_digest_steps), ("trailhead/digest.starts", laid_trailhead_digest_starts)] }
def DigestTwiceSaid : Prop := digestTwiceRow.holds Tryd.pinned (OpenSpec.ofChange digestTwiceSpec)

/-- ITS FALSE NEIGHBOUR: 'it returns false'. Refute it at one input. -/
def digestTwiceWrong : ChangeSpec := { name := "digestTwice", fn := fun _ => fun
  | [d] => { results := [.lit (.bool false)], args := [d] }
  | _ => none }
def DigestTwiceWrongFalsely : Prop := digestTwiceRow.holds Tryd.pinned (OpenSpec.ofChange digestTwiceWrong)

/-- 'trailheadlaw01.DigestParses': WHATEVER THE INPUT: true; the input reads as it did. -/
def digestParsesSpec : ChangeSpec := { name := "digestParses", fn := fun _ => fun
  | [d] => { results := [.lit (.bool true)], args := [d] }
  | _ => none }
def digestParsesRow : OpenClaim := { program := "ytnnajeoeeefjaaadoor", sum := "a83dc983cdc77da51ee9aacf0121790781b637642e3ed17d0395e135752b2709", func := "trailhead/trailheadlaw01.DigestParses", spec := "digestParses", named := ["trailhead/digest.starts", "trailhead/digest.steps"], apart := false, laid := [("trailhead/digest.steps", laid_trailhead_digest_steps), ("trailhead/digest.starts", laid_trailhead_digest_starts)] }
def DigestParsesSaid : Prop := digestParsesRow.holds Tryd.pinned (OpenSpec.ofChange digestParsesSpec)

/-- ITS FALSE NEIGHBOUR: 'it returns false'. Refute it at one input. -/
def digestParsesWrong : ChangeSpec := { name := "digestParses", fn := fun _ => fun
  | [d] => { results := [.lit (.bool false)], args := [d] }
  | _ => none }
def DigestParsesWrongFalsely : Prop := digestParsesRow.holds Tryd.pinned (OpenSpec.ofChange digestParsesWrong)

/-- 'trailheadlaw01.DigestShows': WHATEVER THE INPUT: true; the input reads as it did. -/
def digestShowsSpec : ChangeSpec := { name := "digestShows", fn := fun _ => fun
  | [d] => { results := [.lit (.bool true)], args := [d] }
  | _ => none }
def digestShowsRow : OpenClaim := { program := "ytnnajeoeeefjaaadoor", sum := "a83dc983cdc77da51ee9aacf0121790781b637642e3ed17d0395e135752b2709", func := "trailhead/trailheadlaw01.DigestShows", spec := "digestShows", named := ["trailhead/digest.starts", "trailhead/digest.steps"], apart := false, laid := [("trailhead/digest.steps", laid_trailhead_digest_steps), ("trailhead/digest.starts", laid_trailhead_digest_starts)] }
def DigestShowsSaid : Prop := digestShowsRow.holds Tryd.pinned (OpenSpec.ofChange digestShowsSpec)

/-- ITS FALSE NEIGHBOUR: 'it returns false'. Refute it at one input. -/
def digestShowsWrong : ChangeSpec := { name := "digestShows", fn := fun _ => fun
  | [d] => { results := [.lit (.bool false)], args := [d] }
  | _ => none }
def DigestShowsWrongFalsely : Prop := digestShowsRow.holds Tryd.pinned (OpenSpec.ofChange digestShowsWrong)

/-- 'trailheadlaw06.HeaderUnlike': WHATEVER THE INPUT: true; the input reads as it did. -/
def headerUnlikeSpec : ChangeSpec := { name := "headerUnlike", fn := fun _ => fun
  | [d1, d2] => { results := [.lit (.bool true)], args := [d1, d2] }
  | _ => none }
def headerUnlikeRow : OpenClaim := { program := "ytnnajeoeeefjaaadoor", sum := "a83dc983cdc77da51ee9aacf0121790781b637642e3ed17d0395e135752b2709", func := "trailhead/trailheadlaw06.HeaderUnlike", spec := "headerUnlike", named := ["trailhead/digest.starts", "trailhead/digest.steps"], apart := false, laid := [("trailhead/digest.steps", laid_trailhead_digest_steps), ("trailhead/digest.starts", laid_trailhead_digest_starts)] }
def HeaderUnlikeSaid : Prop := headerUnlikeRow.holds Tryd.pinned (OpenSpec.ofChange headerUnlikeSpec)

/-- ITS FALSE NEIGHBOUR: 'it returns false'. Refute it at one input. -/
def headerUnlikeWrong : ChangeSpec := { name := "headerUnlike", fn := fun _ => fun
  | [d1, d2] => { results := [.lit (.bool false)], args := [d1, d2] }
  | _ => none }
def HeaderUnlikeWrongFalsely : Prop := headerUnlikeRow.holds Tryd.pinned (OpenSpec.ofChange headerUnlikeWrong)

/-- 'trailheadlaw06.HeaderFollows': WHATEVER THE INPUT: true; the input reads as it did. -/
def headerFollowsSpec : ChangeSpec := { name := "headerFollows", fn := fun _ => fun
  | [d] => { results := [.lit (.bool true)], args := [d] }
  | _ => none }
def headerFollowsRow : OpenClaim := { program := "ytnnajeoeeefjaaadoor", sum := "a83dc983cdc77da51ee9aacf0121790781b637642e3ed17d0395e135752b2709", func := "trailhead/trailheadlaw06.HeaderFollows", spec := "headerFollows", named := ["trailhead/digest.starts", "trailhead/digest.steps"], apart := false, laid := [("trailhead/digest.steps", laid_trailhead_digest_steps), ("trailhead/digest.starts", laid_trailhead_digest_starts)] }
def HeaderFollowsSaid : Prop := headerFollowsRow.holds Tryd.pinned (OpenSpec.ofChange headerFollowsSpec)

/-- ITS FALSE NEIGHBOUR: 'it returns false'. Refute it at one input. -/
def headerFollowsWrong : ChangeSpec := { name := "headerFollows", fn := fun _ => fun
  | [d] => { results := [.lit (.bool false)], args := [d] }
  | _ => none }
def HeaderFollowsWrongFalsely : Prop := headerFollowsRow.holds Tryd.pinned (OpenSpec.ofChange headerFollowsWrong)

/-- 'trailheadlaw18.PledgePlans': WHATEVER THE INPUT: true; the input reads as it did. -/
def pledgePlansSpec : ChangeSpec := { name := "pledgePlans", fn := fun _ => fun
  | [d1, d2, d3] => { results := [.lit (.bool true)], args := [d1, d2, d3] }
  | _ => none }
def pledgePlansRow : OpenClaim := { program := "ytnnajeoeeefjaaadoor", sum := "a83dc983cdc77da51ee9aacf0121790781b637642e3ed17d0395e135752b2709", func := "trailhead/trailheadlaw18.PledgePlans", spec := "pledgePlans", named := ["trailhead/digest.starts", "trailhead/digest.steps"], apart := false, laid := [("trailhead/digest.steps", laid_trailhead_digest_steps), ("trailhead/digest.starts", laid_trailhead_digest_starts)] }
def PledgePlansSaid : Prop := pledgePlansRow.holds Tryd.pinned (OpenSpec.ofChange pledgePlansSpec)

/-- ITS FALSE NEIGHBOUR: 'it returns false'. Refute it at one input. -/
def pledgePlansWrong : ChangeSpec := { name := "pledgePlans", fn := fun _ => fun
  | [d1, d2, d3] => { results := [.lit (.bool false)], args := [d1, d2, d3] }
  | _ => none }
def PledgePlansWrongFalsely : Prop := pledgePlansRow.holds Tryd.pinned (OpenSpec.ofChange pledgePlansWrong)

/-- 'trailheadlaw18.PledgeSpan': WHATEVER THE INPUT: true; the input reads as it did. -/
def pledgeSpanSpec : ChangeSpec := { name := "pledgeSpan", fn := fun _ => fun
  | [d1, d2, d3, d4] => { results := [.lit (.bool true)], args := [d1, d2, d3, d4] }
  | _ => none }
def pledgeSpanRow : OpenClaim := { program := "ytnnajeoeeefjaaadoor", sum := "a83dc983cdc77da51ee9aacf0121790781b637642e3ed17d0395e135752b2709", func := "trailhead/trailheadlaw18.PledgeSpan", spec := "pledgeSpan", named := ["trailhead/digest.starts", "trailhead/digest.steps"], apart := false, laid := [("trailhead/digest.steps", laid_trailhead_digest_steps), ("trailhead/digest.starts", laid_trailhead_digest_starts)] }
def PledgeSpanSaid : Prop := pledgeSpanRow.holds Tryd.pinned (OpenSpec.ofChange pledgeSpanSpec)

/-- ITS FALSE NEIGHBOUR: 'it returns false'. Refute it at one input. -/
def pledgeSpanWrong : ChangeSpec := { name := "pledgeSpan", fn := fun _ => fun
  | [d1, d2, d3, d4] => { results := [.lit (.bool false)], args := [d1, d2, d3, d4] }
  | _ => none }
def PledgeSpanWrongFalsely : Prop := pledgeSpanRow.holds Tryd.pinned (OpenSpec.ofChange pledgeSpanWrong)

/-- 'trailheadlaw18.PledgeMeets': WHATEVER THE INPUT: true; the input reads as it did. -/
def pledgeMeetsSpec : ChangeSpec := { name := "pledgeMeets", fn := fun _ => fun
  | [d1, d2, d3, d4, d5, d6] => { results := [.lit (.bool true)], args := [d1, d2, d3, d4, d5, d6] }
  | _ => none }
def pledgeMeetsRow : OpenClaim := { program := "ytnnajeoeeefjaaadoor", sum := "a83dc983cdc77da51ee9aacf0121790781b637642e3ed17d0395e135752b2709", func := "trailhead/trailheadlaw18.PledgeMeets", spec := "pledgeMeets", named := ["trailhead/digest.starts", "trailhead/digest.steps"], apart := false, laid := [("trailhead/digest.steps", laid_trailhead_digest_steps), ("trailhead/digest.starts", laid_trailhead_digest_starts)] }
def PledgeMeetsSaid : Prop := pledgeMeetsRow.holds Tryd.pinned (OpenSpec.ofChange pledgeMeetsSpec)

/-- ITS FALSE NEIGHBOUR: 'it returns false'. Refute it at one input. -/
def pledgeMeetsWrong : ChangeSpec := { name := "pledgeMeets", fn := fun _ => fun
  | [d1, d2, d3, d4, d5, d6] => { results := [.lit (.bool false)], args := [d1, d2, d3, d4, d5, d6] }
  | _ => none }
def PledgeMeetsWrongFalsely : Prop := pledgeMeetsRow.holds Tryd.pinned (OpenSpec.ofChange pledgeMeetsWrong)

/-- 'trailheadlaw06.HeaderReads': WHATEVER THE INPUT: true; the input reads as it did. -/
def headerReadsSpec : ChangeSpec := { name := "headerReads", fn := fun _ => fun
  | [d] => { results := [.lit (.bool true)], args := [d] }
  | _ => none }
def headerReadsRow : OpenClaim := { program := "ytnnajeoeeefjaaadoor", sum := "a83dc983cdc77da51ee9aacf0121790781b637642e3ed17d0395e135752b2709", func := "trailhead/trailheadlaw06.HeaderReads", spec := "headerReads", named := ["trailhead/digest.starts", "trailhead/digest.steps"], apart := false, laid := [("trailhead/digest.steps", laid_trailhead_digest_steps), ("trailhead/digest.starts", laid_trailhead_digest_starts)] }
def HeaderReadsSaid : Prop := headerReadsRow.holds Tryd.pinned (OpenSpec.ofChange headerReadsSpec)

/-- ITS FALSE NEIGHBOUR: 'it returns false'. Refute it at one input. -/
def headerReadsWrong : ChangeSpec := { name := "headerReads", fn := fun _ => fun
  | [d] => { results := [.lit (.bool false)], args := [d] }
  | _ => none }
def HeaderReadsWrongFalsely : Prop := headerReadsRow.holds Tryd.pinned (OpenSpec.ofChange headerReadsWrong)

/-- 'trailheadlaw18.PledgeDoes': WHATEVER THE INPUT: true; the input reads as it did. -/
def pledgeDoesSpec : ChangeSpec := { name := "pledgeDoes", fn := fun _ => fun
  | [d1, d2] => { results := [.lit (.bool true)], args := [d1, d2] }
  | _ => none }
def pledgeDoesRow : OpenClaim := { program := "ytnnajeoeeefjaaadoor", sum := "a83dc983cdc77da51ee9aacf0121790781b637642e3ed17d0395e135752b2709", func := "trailhead/trailheadlaw18.PledgeDoes", spec := "pledgeDoes", named := ["trailhead/digest.starts", "trailhead/digest.steps"], apart := false, laid := [("trailhead/digest.steps", laid_trailhead_digest_steps), ("trailhead/digest.starts", laid_trailhead_digest_starts)] }
def PledgeDoesSaid : Prop := pledgeDoesRow.holds Tryd.pinned (OpenSpec.ofChange pledgeDoesSpec)

/-- ITS FALSE NEIGHBOUR: 'it returns false'. Refute it at one input. -/
def pledgeDoesWrong : ChangeSpec := { name := "pledgeDoes", fn := fun _ => fun
  | [d1, d2] => { results := [.lit (.bool false)], args := [d1, d2] }
  | _ => none }
def PledgeDoesWrongFalsely : Prop := pledgeDoesRow.holds Tryd.pinned (OpenSpec.ofChange pledgeDoesWrong)

/-- 'trailheadlaw06.HeaderBytes': WHATEVER THE INPUT: true; the input reads as it did. -/
def headerBytesSpec : ChangeSpec := { name := "headerBytes", fn := fun _ => fun
  | [d1, d2] => { results := [.lit (.bool true)], args := [d1, d2] }
  | _ => none }
def headerBytesRow : OpenClaim := { program := "ytnnajeoeeefjaaadoor", sum := "a83dc983cdc77da51ee9aacf0121790781b637642e3ed17d0395e135752b2709", func := "trailhead/trailheadlaw06.HeaderBytes", spec := "headerBytes", named := ["trailhead/digest.starts", "trailhead/digest.steps"], apart := false, laid := [("trailhead/digest.steps", laid_trailhead_digest_steps), ("trailhead/digest.starts", laid_trailhead_digest_starts)] }
def HeaderBytesSaid : Prop := headerBytesRow.holds Tryd.pinned (OpenSpec.ofChange headerBytesSpec)

/-- ITS FALSE NEIGHBOUR: 'it returns false'. Refute it at one input. -/
def headerBytesWrong : ChangeSpec := { name := "headerBytes", fn := fun _ => fun
  | [d1, d2] => { results := [.lit (.bool false)], args := [d1, d2] }
  | _ => none }
def HeaderBytesWrongFalsely : Prop := headerBytesRow.holds Tryd.pinned (OpenSpec.ofChange headerBytesWrong)

/-- 'trailheadlaw06.HeaderSeeks': WHATEVER THE INPUT: true; the input reads as it did. -/
def headerSeeksSpec : ChangeSpec := { name := "headerSeeks", fn := fun _ => fun
  | [d1, d2] => { results := [.lit (.bool true)], args := [d1, d2] }
  | _ => none }
def headerSeeksRow : OpenClaim := { program := "ytnnajeoeeefjaaadoor", sum := "a83dc983cdc77da51ee9aacf0121790781b637642e3ed17d0395e135752b2709", func := "trailhead/trailheadlaw06.HeaderSeeks", spec := "headerSeeks", named := ["trailhead/digest.starts", "trailhead/digest.steps"], apart := false, laid := [("trailhead/digest.steps", laid_trailhead_digest_steps), ("trailhead/digest.starts", laid_trailhead_digest_starts)] }
def HeaderSeeksSaid : Prop := headerSeeksRow.holds Tryd.pinned (OpenSpec.ofChange headerSeeksSpec)

/-- ITS FALSE NEIGHBOUR: 'it returns false'. Refute it at one input. -/
def headerSeeksWrong : ChangeSpec := { name := "headerSeeks", fn := fun _ => fun
  | [d1, d2] => { results := [.lit (.bool false)], args := [d1, d2] }
  | _ => none }
def HeaderSeeksWrongFalsely : Prop := headerSeeksRow.holds Tryd.pinned (OpenSpec.ofChange headerSeeksWrong)

/-- 'trailheadlaw06.HeaderMines': WHATEVER THE INPUT: true; the input reads as it did. -/
def headerMinesSpec : ChangeSpec := { name := "headerMines", fn := fun _ => fun
  | [d1, d2, d3] => { results := [.lit (.bool true)], args := [d1, d2, d3] }
  | _ => none }
def headerMinesRow : OpenClaim := { program := "ytnnajeoeeefjaaadoor", sum := "a83dc983cdc77da51ee9aacf0121790781b637642e3ed17d0395e135752b2709", func := "trailhead/trailheadlaw06.HeaderMines", spec := "headerMines", named := ["trailhead/digest.starts", "trailhead/digest.steps"], apart := false, laid := [("trailhead/digest.steps", laid_trailhead_digest_steps), ("trailhead/digest.starts", laid_trailhead_digest_starts)] }
def HeaderMinesSaid : Prop := headerMinesRow.holds Tryd.pinned (OpenSpec.ofChange headerMinesSpec)

/-- ITS FALSE NEIGHBOUR: 'it returns false'. Refute it at one input. -/
def headerMinesWrong : ChangeSpec := { name := "headerMines", fn := fun _ => fun
  | [d1, d2, d3] => { results := [.lit (.bool false)], args := [d1, d2, d3] }
  | _ => none }
def HeaderMinesWrongFalsely : Prop := headerMinesRow.holds Tryd.pinned (OpenSpec.ofChange headerMinesWrong)

/- THE SECOND FORM. 'bulk': how many values and letters a reading holds, each counted each time it is reached (what is shared counts as often as it is met; a slice's spare places count too). A statement '..UptoSaid' is the law's where the arguments, and the package variables that the reading takes, are together of bulk at most 1048576: NARROWER than '..Said'. Prove '..Said' where nothing that the law and all that it calls make is longer than what came in: it says more and counts as full. Else prove '..UptoSaid'. A law counts once. -/
mutual
def uptoBulk {H : Type} : DataW H → Nat
  | .lit (.string bytes) => bytes.length + 1
  | .lit _ => 1
  | .nil => 1
  | .ptr d => uptoBulk d + 1
  | .slice elems spare => uptoBulkAll elems + uptoBulkAll spare + 1
  | .agg parts => uptoBulkAll parts + 1
  | .iface _ d => uptoBulk d + 1
  | .map entries => uptoBulkEntries entries + 1
  | .held _ => 1
def uptoBulkAll {H : Type} : List (DataW H) → Nat
  | [] => 0
  | d :: r => uptoBulk d + uptoBulkAll r
def uptoBulkEntries {H : Type} : List (Lit × DataW H) → Nat
  | [] => 0
  | x :: r => uptoBulkEntry x + uptoBulkEntries r
def uptoBulkEntry {H : Type} : Lit × DataW H → Nat
  | (.string bytes, d) => bytes.length + uptoBulk d + 1
  | (_, d) => uptoBulk d + 1
 end
def uptoSmall : (H : Type) → List (DataW H) → Bool := fun _ ds => decide (uptoBulkAll ds ≤ 1048576)
def OpenSpec.upto (s : _root_.Go.ChangeSpec) : _root_.Go.OpenSpec := { _root_.Go.OpenSpec.ofChange s with cond := some uptoSmall }

/-- 'trailheadlaw01.DigestIs', WHERE WHAT IT READS IS OF BULK AT MOST 1048576: true; the input reads as it did. -/
def digestIsUptoRow : OpenClaim := { program := "ytnnajeoeeefjaaadoor", sum := "a83dc983cdc77da51ee9aacf0121790781b637642e3ed17d0395e135752b2709", func := "trailhead/trailheadlaw01.DigestIs", spec := "digestIs", named := ["trailhead/digest.starts", "trailhead/digest.steps"], apart := false, laid := [("trailhead/digest.steps", laid_trailhead_digest_steps), ("trailhead/digest.starts", laid_trailhead_digest_starts)], narrowed := true }
def DigestIsUptoSaid : Prop := digestIsUptoRow.holds Tryd.pinned (OpenSpec.upto digestIsSpec)

/-- 'trailheadlaw01.DigestParts', WHERE WHAT IT READS IS OF BULK AT MOST 1048576: true; the input reads as it did. -/
def digestPartsUptoRow : OpenClaim := { program := "ytnnajeoeeefjaaadoor", sum := "a83dc983cdc77da51ee9aacf0121790781b637642e3ed17d0395e135752b2709", func := "trailhead/trailheadlaw01.DigestParts", spec := "digestParts", named := ["trailhead/digest.starts", "trailhead/digest.steps"], apart := false, laid := [("trailhead/digest.steps", laid_trailhead_digest_steps), ("trailhead/digest.starts", laid_trailhead_digest_starts)], narrowed := true }
def DigestPartsUptoSaid : Prop := digestPartsUptoRow.holds Tryd.pinned (OpenSpec.upto digestPartsSpec)

/-- 'trailheadlaw01.DigestTwice', WHERE WHAT IT READS IS OF BULK AT MOST 1048576: true; the input reads as it did. -/
def digestTwiceUptoRow : OpenClaim := { program := "ytnnajeoeeefjaaadoor", sum := "a83dc983cdc77da51ee9aacf0121790781b637642e3ed17d0395e135752b2709", func := "trailhead/trailheadlaw01.DigestTwice", spec := "digestTwice", named := ["trailhead/digest.starts", "trailhead/digest.steps"], apart := false, laid := [("trailhead/digest.steps", laid_trailhead_digest_steps), ("trailhead/digest.starts", laid_trailhead_digest_starts)], narrowed := true }
def DigestTwiceUptoSaid : Prop := digestTwiceUptoRow.holds Tryd.pinned (OpenSpec.upto digestTwiceSpec)

/-- 'trailheadlaw01.DigestParses', WHERE WHAT IT READS IS OF BULK AT MOST 1048576: true; the input reads as it did. -/
def digestParsesUptoRow : OpenClaim := { program := "ytnnajeoeeefjaaadoor", sum := "a83dc983cdc77da51ee9aacf0121790781b637642e3ed17d0395e135752b2709", func := "trailhead/trailheadlaw01.DigestParses", spec := "digestParses", named := ["trailhead/digest.starts", "trailhead/digest.steps"], apart := false, laid := [("trailhead/digest.steps", laid_trailhead_digest_steps), ("trailhead/digest.starts", laid_trailhead_digest_starts)], narrowed := true }
def DigestParsesUptoSaid : Prop := digestParsesUptoRow.holds Tryd.pinned (OpenSpec.upto digestParsesSpec)

/-- 'trailheadlaw01.DigestShows', WHERE WHAT IT READS IS OF BULK AT MOST 1048576: true; the input reads as it did. -/
def digestShowsUptoRow : OpenClaim := { program := "ytnnajeoeeefjaaadoor", sum := "a83dc983cdc77da51ee9aacf0121790781b637642e3ed17d0395e135752b2709", func := "trailhead/trailheadlaw01.DigestShows", spec := "digestShows", named := ["trailhead/digest.starts", "trailhead/digest.steps"], apart := false, laid := [("trailhead/digest.steps", laid_trailhead_digest_steps), ("trailhead/digest.starts", laid_trailhead_digest_starts)], narrowed := true }
def DigestShowsUptoSaid : Prop := digestShowsUptoRow.holds Tryd.pinned (OpenSpec.upto digestShowsSpec)

/-- 'trailheadlaw06.HeaderUnlike', WHERE WHAT IT READS IS OF BULK AT MOST 1048576: true; the input reads as it did. -/
def headerUnlikeUptoRow : OpenClaim := { program := "ytnnajeoeeefjaaadoor", sum := "a83dc983cdc77da51ee9aacf0121790781b637642e3ed17d0395e135752b2709", func := "trailhead/trailheadlaw06.HeaderUnlike", spec := "headerUnlike", named := ["trailhead/digest.starts", "trailhead/digest.steps"], apart := false, laid := [("trailhead/digest.steps", laid_trailhead_digest_steps), ("trailhead/digest.starts", laid_trailhead_digest_starts)], narrowed := true }
def HeaderUnlikeUptoSaid : Prop := headerUnlikeUptoRow.holds Tryd.pinned (OpenSpec.upto headerUnlikeSpec)

/-- 'trailheadlaw06.HeaderFollows', WHERE WHAT IT READS IS OF BULK AT MOST 1048576: true; the input reads as it did. -/
def headerFollowsUptoRow : OpenClaim := { program := "ytnnajeoeeefjaaadoor", sum := "a83dc983cdc77da51ee9aacf0121790781b637642e3ed17d0395e135752b2709", func := "trailhead/trailheadlaw06.HeaderFollows", spec := "headerFollows", named := ["trailhead/digest.starts", "trailhead/digest.steps"], apart := false, laid := [("trailhead/digest.steps", laid_trailhead_digest_steps), ("trailhead/digest.starts", laid_trailhead_digest_starts)], narrowed := true }
def HeaderFollowsUptoSaid : Prop := headerFollowsUptoRow.holds Tryd.pinned (OpenSpec.upto headerFollowsSpec)

/-- 'trailheadlaw18.PledgePlans', WHERE WHAT IT READS IS OF BULK AT MOST 1048576: true; the input reads as it did. -/
def pledgePlansUptoRow : OpenClaim := { program := "ytnnajeoeeefjaaadoor", sum := "a83dc983cdc77da51ee9aacf0121790781b637642e3ed17d0395e135752b2709", func := "trailhead/trailheadlaw18.PledgePlans", spec := "pledgePlans", named := ["trailhead/digest.starts", "trailhead/digest.steps"], apart := false, laid := [("trailhead/digest.steps", laid_trailhead_digest_steps), ("trailhead/digest.starts", laid_trailhead_digest_starts)], narrowed := true }
def PledgePlansUptoSaid : Prop := pledgePlansUptoRow.holds Tryd.pinned (OpenSpec.upto pledgePlansSpec)

/-- 'trailheadlaw18.PledgeSpan', WHERE WHAT IT READS IS OF BULK AT MOST 1048576: true; the input reads as it did. -/
def pledgeSpanUptoRow : OpenClaim := { program := "ytnnajeoeeefjaaadoor", sum := "a83dc983cdc77da51ee9aacf0121790781b637642e3ed17d0395e135752b2709", func := "trailhead/trailheadlaw18.PledgeSpan", spec := "pledgeSpan", named := ["trailhead/digest.starts", "trailhead/digest.steps"], apart := false, laid := [("trailhead/digest.steps", laid_trailhead_digest_steps), ("trailhead/digest.starts", laid_trailhead_digest_starts)], narrowed := true }
def PledgeSpanUptoSaid : Prop := pledgeSpanUptoRow.holds Tryd.pinned (OpenSpec.upto pledgeSpanSpec)

/-- 'trailheadlaw18.PledgeMeets', WHERE WHAT IT READS IS OF BULK AT MOST 1048576: true; the input reads as it did. -/
def pledgeMeetsUptoRow : OpenClaim := { program := "ytnnajeoeeefjaaadoor", sum := "a83dc983cdc77da51ee9aacf0121790781b637642e3ed17d0395e135752b2709", func := "trailhead/trailheadlaw18.PledgeMeets", spec := "pledgeMeets", named := ["trailhead/digest.starts", "trailhead/digest.steps"], apart := false, laid := [("trailhead/digest.steps", laid_trailhead_digest_steps), ("trailhead/digest.starts", laid_trailhead_digest_starts)], narrowed := true }
def PledgeMeetsUptoSaid : Prop := pledgeMeetsUptoRow.holds Tryd.pinned (OpenSpec.upto pledgeMeetsSpec)

/-- 'trailheadlaw06.HeaderReads', WHERE WHAT IT READS IS OF BULK AT MOST 1048576: true; the input reads as it did. -/
def headerReadsUptoRow : OpenClaim := { program := "ytnnajeoeeefjaaadoor", sum := "a83dc983cdc77da51ee9aacf0121790781b637642e3ed17d0395e135752b2709", func := "trailhead/trailheadlaw06.HeaderReads", spec := "headerReads", named := ["trailhead/digest.starts", "trailhead/digest.steps"], apart := false, laid := [("trailhead/digest.steps", laid_trailhead_digest_steps), ("trailhead/digest.starts", laid_trailhead_digest_starts)], narrowed := true }
def HeaderReadsUptoSaid : Prop := headerReadsUptoRow.holds Tryd.pinned (OpenSpec.upto headerReadsSpec)

/-- 'trailheadlaw18.PledgeDoes', WHERE WHAT IT READS IS OF BULK AT MOST 1048576: true; the input reads as it did. -/
def pledgeDoesUptoRow : OpenClaim := { program := "ytnnajeoeeefjaaadoor", sum := "a83dc983cdc77da51ee9aacf0121790781b637642e3ed17d0395e135752b2709", func := "trailhead/trailheadlaw18.PledgeDoes", spec := "pledgeDoes", named := ["trailhead/digest.starts", "trailhead/digest.steps"], apart := false, laid := [("trailhead/digest.steps", laid_trailhead_digest_steps), ("trailhead/digest.starts", laid_trailhead_digest_starts)], narrowed := true }
def PledgeDoesUptoSaid : Prop := pledgeDoesUptoRow.holds Tryd.pinned (OpenSpec.upto pledgeDoesSpec)

/-- 'trailheadlaw06.HeaderBytes', WHERE WHAT IT READS IS OF BULK AT MOST 1048576: true; the input reads as it did. -/
def headerBytesUptoRow : OpenClaim := { program := "ytnnajeoeeefjaaadoor", sum := "a83dc983cdc77da51ee9aacf0121790781b637642e3ed17d0395e135752b2709", func := "trailhead/trailheadlaw06.HeaderBytes", spec := "headerBytes", named := ["trailhead/digest.starts", "trailhead/digest.steps"], apart := false, laid := [("trailhead/digest.steps", laid_trailhead_digest_steps), ("trailhead/digest.starts", laid_trailhead_digest_starts)], narrowed := true }
def HeaderBytesUptoSaid : Prop := headerBytesUptoRow.holds Tryd.pinned (OpenSpec.upto headerBytesSpec)

/-- 'trailheadlaw06.HeaderSeeks', WHERE WHAT IT READS IS OF BULK AT MOST 1048576: true; the input reads as it did. -/
def headerSeeksUptoRow : OpenClaim := { program := "ytnnajeoeeefjaaadoor", sum := "a83dc983cdc77da51ee9aacf0121790781b637642e3ed17d0395e135752b2709", func := "trailhead/trailheadlaw06.HeaderSeeks", spec := "headerSeeks", named := ["trailhead/digest.starts", "trailhead/digest.steps"], apart := false, laid := [("trailhead/digest.steps", laid_trailhead_digest_steps), ("trailhead/digest.starts", laid_trailhead_digest_starts)], narrowed := true }
def HeaderSeeksUptoSaid : Prop := headerSeeksUptoRow.holds Tryd.pinned (OpenSpec.upto headerSeeksSpec)

/-- 'trailheadlaw06.HeaderMines', WHERE WHAT IT READS IS OF BULK AT MOST 1048576: true; the input reads as it did. -/
def headerMinesUptoRow : OpenClaim := { program := "ytnnajeoeeefjaaadoor", sum := "a83dc983cdc77da51ee9aacf0121790781b637642e3ed17d0395e135752b2709", func := "trailhead/trailheadlaw06.HeaderMines", spec := "headerMines", named := ["trailhead/digest.starts", "trailhead/digest.steps"], apart := false, laid := [("trailhead/digest.steps", laid_trailhead_digest_steps), ("trailhead/digest.starts", laid_trailhead_digest_starts)], narrowed := true }
def HeaderMinesUptoSaid : Prop := headerMinesUptoRow.holds Tryd.pinned (OpenSpec.upto headerMinesSpec)

end Rows
end Go.Proofs.YtnnajeoeeefjaaaDoor
