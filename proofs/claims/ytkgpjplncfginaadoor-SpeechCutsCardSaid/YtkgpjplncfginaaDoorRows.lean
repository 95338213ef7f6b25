/-
  NARROWER THAN 'FOR EVERY INPUT', by the rows' own cells (each row's printed sentence says how): SpeechWords: laid · SpeechSame: laid · SpeechBare: laid · SpeechReads: laid · SpeechCuts: laid.
  DERIVED. THE GIVEN ROWS OF THIS SEAT. 5 by the template 'for every input the law returns true; each argument reads behind the call as it read before'; 0 by the template 'total and deterministic' (their statements: YtkgpjplncfginaaDoorTotals.lean).
  GIVEN WITH THE SEED: the statements are not yours to turn. If you find one false, say at which input.
  Laid BY PROGRAM, IN A SANDBOX (cutbox-rows.mjs): the forced cells as the released guide's own fill.sh prints them over the translation 37ba8de9f92459e0… (all of the seat's roots in one cut). By AI agents, Wed Nov 11 2026. No macro, syntax, notation, axiom, sorry.
-/
import Derived.Test.YtkgpjplncfginaaDoorChecked
import GoSem.PinnedTables
import GoSem.Claim
import GoSem.ClaimJoined
import GoSem.ClaimMapViews
import Derived.JoinedTies
import Derived.KernelRfl
namespace Go.Proofs.YtkgpjplncfginaaDoor
/- THE CELL 'sum', in the pinned program and in every row, IS THE sha256 OF THE DUMP (.gsa) THAT YtkgpjplncfginaaDoorProg.lean LOADS. Nothing in Lean hashes anything: it is a label: what it is worth is what the hold of that sum in a sandbox is worth. -/
noncomputable def Tryd.pinned : Pinned := { name := "ytkgpjplncfginaadoor", sum := "37ba8de9f92459e05f588510cf848f62d21f90a75f769a785dd8f4e386ca3caf", checked := Tryd.checked }
namespace Rows
def none {H : Type} : Left H := { results := [], args := [] }

/- WHAT THE LISTED PACKAGE-LEVEL VARIABLES READ AS WHEN THE CALL BEGINS. Each datum BY PROGRAM (the guide's laid-datum.mjs) off the statement by which the dump's own 'gosem.cut.vars' lays the variable. In a bare row this is a premise. The card (YtkgpjplncfginaaDoorCards.lean) ties it to the program's text. -/
def laid_trailhead_digest_steps {H : Type} : DataW H := .agg [.lit (.int .u32 1116352408), .lit (.int .u32 1899447441), .lit (.int .u32 3049323471), .lit (.int .u32 3921009573), .lit (.int .u32 961987163), .lit (.int .u32 1508970993), .lit (.int .u32 2453635748), .lit (.int .u32 2870763221), .lit (.int .u32 3624381080), .lit (.int .u32 310598401), .lit (.int .u32 607225278), .lit (.int .u32 1426881987), .lit (.int .u32 1925078388), .lit (.int .u32 2162078206), .lit (.int .u32 2614888103), .lit (.int .u32 3248222580), .lit (.int .u32 3835390401), .lit (.int .u32 4022224774), .lit (.int .u32 264347078), .lit (.int .u32 604807628), .lit (.int .u32 770255983), .lit (.int .u32 1249150122), .lit (.int .u32 1555081692), .lit (.int .u32 1996064986), .lit (.int .u32 2554220882), .lit (.int .u32 2821834349), .lit (.int .u32 2952996808), .lit (.int .u32 3210313671), .lit (.int .u32 3336571891), .lit (.int .u32 3584528711), .lit (.int .u32 113926993), .lit (.int .u32 338241895), .lit (.int .u32 666307205), .lit (.int .u32 773529912), .lit (.int .u32 1294757372), .lit (.int .u32 1396182291), .lit (.int .u32 1695183700), .lit (.int .u32 1986661051), .lit (.int .u32 2177026350), .lit (.int .u32 2456956037), .lit (.int .u32 2730485921), .lit (.int .u32 2820302411), .lit (.int .u32 3259730800), .lit (.int .u32 3345764771), .lit (.int .u32 3516065817), .lit (.int .u32 3600352804), .lit (.int .u32 4094571909), .lit (.int .u32 275423344), .lit (.int .u32 430227734), .lit (.int .u32 506948616), .lit (.int .u32 659060556), .lit (.int .u32 883997877), .lit (.int .u32 958139571), .lit (.int .u32 1322822218), .lit (.int .u32 1537002063), .lit (.int .u32 1747873779), .lit (.int .u32 1955562222), .lit (.int .u32 2024104815), .lit (.int .u32 2227730452), .lit (.int .u32 2361852424), .lit (.int .u32 2428436474), .lit (.int .u32 2756734187), .lit (.int .u32 3204031479), .lit (.int .u32 3329325298)]
def laid_trailhead_digest_starts {H : Type} : DataW H := .agg [.lit (.int .u32 1779033703), .lit (.int .u32 3144134277), .lit (.int .u32 1013904242), .lit (.int .u32 2773480762), .lit (.int .u32 1359893119), .lit (.int .u32 2600822924), .lit (.int .u32 528734635), .lit (.int .u32 1541459225)]
def laid_unicode_utf8_acceptRanges {H : Type} : DataW H := .agg [.agg [.lit (.int .u8 128), .lit (.int .u8 191)], .agg [.lit (.int .u8 160), .lit (.int .u8 191)], .agg [.lit (.int .u8 128), .lit (.int .u8 159)], .agg [.lit (.int .u8 144), .lit (.int .u8 191)], .agg [.lit (.int .u8 128), .lit (.int .u8 143)], .agg [.lit (.int .u8 0), .lit (.int .u8 0)], .agg [.lit (.int .u8 0), .lit (.int .u8 0)], .agg [.lit (.int .u8 0), .lit (.int .u8 0)], .agg [.lit (.int .u8 0), .lit (.int .u8 0)], .agg [.lit (.int .u8 0), .lit (.int .u8 0)], .agg [.lit (.int .u8 0), .lit (.int .u8 0)], .agg [.lit (.int .u8 0), .lit (.int .u8 0)], .agg [.lit (.int .u8 0), .lit (.int .u8 0)], .agg [.lit (.int .u8 0), .lit (.int .u8 0)], .agg [.lit (.int .u8 0), .lit (.int .u8 0)], .agg [.lit (.int .u8 0), .lit (.int .u8 0)]]
def laid_trailhead_speech_words {H : Type} : DataW H := .agg [.lit (.string []), .lit (.string [118, 101, 114, 115, 105, 111, 110]), .lit (.string [118, 101, 114, 97, 99, 107]), .lit (.string [103, 101, 116, 104, 101, 97, 100, 101, 114, 115]), .lit (.string [104, 101, 97, 100, 101, 114, 115]), .lit (.string [105, 110, 118]), .lit (.string [112, 105, 110, 103]), .lit (.string [112, 111, 110, 103]), .lit (.string [115, 101, 110, 100, 104, 101, 97, 100, 101, 114, 115])]
/-- One of Go's own tables, pinned by name: the form's constant. -/
def laid_unicode_utf8_first : DataW Unit := Go.Pinned.utf8First

/-- 'trailheadlaw08.SpeechWords': WHATEVER THE INPUT: true; the input reads as it did. -/
def speechWordsSpec : ChangeSpec := { name := "speechWords", fn := fun _ => fun
  | [d1, d2] => { results := [.lit (.bool true)], args := [d1, d2] }
  | _ => none }
def speechWordsRow : OpenClaim := { program := "ytkgpjplncfginaadoor", sum := "37ba8de9f92459e05f588510cf848f62d21f90a75f769a785dd8f4e386ca3caf", func := "trailhead/trailheadlaw08.SpeechWords", spec := "speechWords", inPlace := ["internal/bytealg.IndexByteString", "internal/bytealg.IndexString", "internal/abi.NoEscape", "internal/bytealg.MakeNoZero"], unfollowed := true, recurses := true, named := ["trailhead/speech.words", "unicode/utf8.first", "unicode/utf8.acceptRanges", "trailhead/digest.starts", "trailhead/digest.steps", "internal/bytealg.MaxLen"], apart := false, laid := [("trailhead/digest.steps", laid_trailhead_digest_steps), ("trailhead/digest.starts", laid_trailhead_digest_starts), ("unicode/utf8.acceptRanges", laid_unicode_utf8_acceptRanges), ("trailhead/speech.words", laid_trailhead_speech_words), ("unicode/utf8.first", laid_unicode_utf8_first)] }
def SpeechWordsSaid : Prop := speechWordsRow.holds Tryd.pinned (OpenSpec.ofChange speechWordsSpec)

/-- ITS FALSE NEIGHBOUR: 'it returns false'. Refute it at one input. -/
def speechWordsWrong : ChangeSpec := { name := "speechWords", fn := fun _ => fun
  | [d1, d2] => { results := [.lit (.bool false)], args := [d1, d2] }
  | _ => none }
def SpeechWordsWrongFalsely : Prop := speechWordsRow.holds Tryd.pinned (OpenSpec.ofChange speechWordsWrong)

/-- 'trailheadlaw08.SpeechSame': WHATEVER THE INPUT: true; the input reads as it did. -/
def speechSameSpec : ChangeSpec := { name := "speechSame", fn := fun _ => fun
  | [d1, d2] => { results := [.lit (.bool true)], args := [d1, d2] }
  | _ => none }
def speechSameRow : OpenClaim := { program := "ytkgpjplncfginaadoor", sum := "37ba8de9f92459e05f588510cf848f62d21f90a75f769a785dd8f4e386ca3caf", func := "trailhead/trailheadlaw08.SpeechSame", spec := "speechSame", inPlace := ["internal/bytealg.IndexByteString", "internal/bytealg.IndexString", "internal/abi.NoEscape", "internal/bytealg.MakeNoZero"], unfollowed := true, recurses := true, named := ["trailhead/speech.words", "unicode/utf8.first", "unicode/utf8.acceptRanges", "trailhead/digest.starts", "trailhead/digest.steps", "internal/bytealg.MaxLen"], apart := false, laid := [("trailhead/digest.steps", laid_trailhead_digest_steps), ("trailhead/digest.starts", laid_trailhead_digest_starts), ("unicode/utf8.acceptRanges", laid_unicode_utf8_acceptRanges), ("trailhead/speech.words", laid_trailhead_speech_words), ("unicode/utf8.first", laid_unicode_utf8_first)] }
def SpeechSameSaid : Prop := speechSameRow.holds Tryd.pinned (OpenSpec.ofChange speechSameSpec)

/-- ITS FALSE NEIGHBOUR: 'it returns false'. Refute it at one input. -/
def speechSameWrong : ChangeSpec := { name := "speechSame", fn := fun _ => fun
  | [d1, d2] => { results := [.lit (.bool false)], args := [d1, d2] }
  | _ => none }
def SpeechSameWrongFalsely : Prop := speechSameRow.holds Tryd.pinned (OpenSpec.ofChange speechSameWrong)

/-- 'trailheadlaw08.SpeechBare': WHATEVER THE INPUT: true; the input reads as it did. -/
def speechBareSpec : ChangeSpec := { name := "speechBare", fn := fun _ => fun
  | [d1, d2] => { results := [.lit (.bool true)], args := [d1, d2] }
  | _ => none }
def speechBareRow : OpenClaim := { program := "ytkgpjplncfginaadoor", sum := "37ba8de9f92459e05f588510cf848f62d21f90a75f769a785dd8f4e386ca3caf", func := "trailhead/trailheadlaw08.SpeechBare", spec := "speechBare", inPlace := ["internal/bytealg.IndexByteString", "internal/bytealg.IndexString", "internal/abi.NoEscape", "internal/bytealg.MakeNoZero"], unfollowed := true, recurses := true, named := ["trailhead/speech.words", "unicode/utf8.first", "unicode/utf8.acceptRanges", "trailhead/digest.starts", "trailhead/digest.steps", "internal/bytealg.MaxLen"], apart := false, laid := [("trailhead/digest.steps", laid_trailhead_digest_steps), ("trailhead/digest.starts", laid_trailhead_digest_starts), ("unicode/utf8.acceptRanges", laid_unicode_utf8_acceptRanges), ("trailhead/speech.words", laid_trailhead_speech_words), ("unicode/utf8.first", laid_unicode_utf8_first)] }
def SpeechBareSaid : Prop := speechBareRow.holds Tryd.pinned (OpenSpec.ofChange speechBareSpec)

/-- ITS FALSE NEIGHBOUR: 'it returns false'. Refute it at one input. -/
def speechBareWrong : ChangeSpec := { name := "speechBare", fn := fun _ => fun
  | [d1, d2] => { results := [.lit (.bool false)], args := [d1, d2] }
  | _ => none }
def SpeechBareWrongFalsely : Prop := speechBareRow.holds Tryd.pinned (OpenSpec.ofChange speechBareWrong)

/-- 'trailheadlaw08.SpeechReads': WHATEVER THE INPUT: true; the input reads as it did. -/
def speechReadsSpec : ChangeSpec := { name := "speechReads", fn := fun _ => fun
  | [d1, d2] => { results := [.lit (.bool true)], args := [d1, d2] }
  | _ => none }
def speechReadsRow : OpenClaim := { program := "ytkgpjplncfginaadoor", sum := "37ba8de9f92459e05f588510cf848f62d21f90a75f769a785dd8f4e386ca3caf", func := "trailhead/trailheadlaw08.SpeechReads", spec := "speechReads", inPlace := ["internal/bytealg.IndexByteString", "internal/bytealg.IndexString", "internal/abi.NoEscape", "internal/bytealg.MakeNoZero"], unfollowed := true, recurses := true, named := ["trailhead/speech.words", "unicode/utf8.first", "unicode/utf8.acceptRanges", "trailhead/digest.starts", "trailhead/digest.steps", "internal/bytealg.MaxLen"], apart := false, laid := [("trailhead/digest.steps", laid_trailhead_digest_steps), ("trailhead/digest.starts", laid_trailhead_digest_starts), ("unicode/utf8.acceptRanges", laid_unicode_utf8_acceptRanges), ("trailhead/speech.words", laid_trailhead_speech_words), ("unicode/utf8.first", laid_unicode_utf8_first)] }
def SpeechReadsSaid : Prop := speechReadsRow.holds Tryd.pinned (OpenSpec.ofChange speechReadsSpec)

/-- ITS FALSE NEIGHBOUR: 'it returns false'. Refute it at one input. -/
def speechReadsWrong : ChangeSpec := { name := "speechReads", fn := fun _ => fun
  | [d1, d2] => { results := [.lit (.bool false)], args := [d1, d2] }
  | _ => none }
def SpeechReadsWrongFalsely : Prop := speechReadsRow.holds Tryd.pinned (OpenSpec.ofChange speechReadsWrong)

/-- 'trailheadlaw08.SpeechCuts': WHATEVER THE INPUT: true; the input reads as it did. -/
def speechCutsSpec : ChangeSpec := { name := "speechCuts", fn := fun _ => fun
  | [d1, d2, d3] => { results := [.lit (.bool true)], args := [d1, d2, d3] }
  | _ => none }
def speechCutsRow : OpenClaim := { program := "ytkgpjplncfginaadoor", sum := "37ba8de9f92459e05f588510cf848f62d21f90a75f769a785dd8f4e386ca3caf", func := "trailhead/trailheadlaw08.SpeechCuts", spec := "speechCuts", inPlace := ["internal/bytealg.IndexByteString", "internal/bytealg.IndexString", "internal/abi.NoEscape", "internal/bytealg.MakeNoZero"], unfollowed := true, recurses := true, named := ["trailhead/speech.words", "unicode/utf8.first", "unicode/utf8.acceptRanges", "trailhead/digest.starts", "trailhead/digest.steps", "internal/bytealg.MaxLen"], apart := false, laid := [("trailhead/digest.steps", laid_trailhead_digest_steps), ("trailhead/digest.starts", laid_trailhead_digest_starts), ("unicode/utf8.acceptRanges", laid_unicode_utf8_acceptRanges), ("trailhead/speech.words", laid_trailhead_speech_words), ("unicode/utf8.first", laid_unicode_utf8_first)] }
def SpeechCutsSaid : Prop := speechCutsRow.holds Tryd.pinned (OpenSpec.ofChange speechCutsSpec)

/-- ITS FALSE NEIGHBOUR: 'it returns false'. Refute it at one input. -/
def speechCutsWrong : ChangeSpec := { name := "speechCuts", fn := fun _ => fun
  | [d1, d2, d3] => { results := [.lit (.bool false)], args := [d1, d2, d3] }
  | _ => none }
def SpeechCutsWrongFalsely : Prop := speechCutsRow.holds Tryd.pinned (OpenSpec.ofChange speechCutsWrong)

/- THE SECOND FORM. 'bulk': how many values and letters a reading holds, each counted each time it is reached (what is shared counts as often as it is met; a slice's spare places count too). A statement '..UptoSaid' is the law's where the arguments, and the package variables that the reading takes, are together of bulk at most 1048576: NARROWER than '..Said'. Prove '..Said' where nothing that the law and all that it calls make is longer than what came in: it says more and counts as full. Else prove '..UptoSaid'. A law counts once. -/
mutual
def uptoBulk {H : Type} : DataW H → Nat
  | .lit (.string bytes) => bytes.length + 1
  | .lit _ => 1
  | .nil => 1
  | .ptr d => uptoBulk d + 1
  | .slice elems spare => uptoBulkAll elems + uptoBulkAll spare + 1
  | .agg parts => uptoBulkAll parts + 1
  | .iface _ d => uptoBulk d + 1
  | .map entries => uptoBulkEntries entries + 1
  | .held _ => 1
def uptoBulkAll {H : Type} : List (DataW H) → Nat
  | [] => 0
  | d :: r => uptoBulk d + uptoBulkAll r
def uptoBulkEntries {H : Type} : List (Lit × DataW H) → Nat
  | [] => 0
  | x :: r => uptoBulkEntry x + uptoBulkEntries r
def uptoBulkEntry {H : Type} : Lit × DataW H → Nat
  | (.string bytes, d) => bytes.length + uptoBulk d + 1
  | (_, d) => uptoBulk d + 1
 end
def uptoSmall : (H : Type) → List (DataW H) → Bool := fun _ ds => decide (uptoBulkAll ds ≤ 1048576)
def OpenSpec.upto (s : _root_.Go.ChangeSpec) : _root_.Go.OpenSpec := { _root_.Go.OpenSpec.ofChange s with cond := some uptoSmall }

/-- 'trailheadlaw08.SpeechWords', WHERE WHAT IT READS IS OF BULK AT MOST 1048576: true; the input reads as it did. -/
def speechWordsUptoRow : OpenClaim := { program := "ytkgpjplncfginaadoor", sum := "37ba8de9f92459e05f588510cf848f62d21f90a75f769a785dd8f4e386ca3caf", func := "trailhead/trailheadlaw08.SpeechWords", spec := "speechWords", inPlace := ["internal/bytealg.IndexByteString", "internal/bytealg.IndexString", "internal/abi.NoEscape", "internal/bytealg.MakeNoZero"], unfollowed := true, recurses := true, named := ["trailhead/speech.words", "unicode/utf8.first", "unicode/utf8.acceptRanges", "trailhead/digest.starts", "trailhead/digest.steps", "internal/bytealg.MaxLen"], apart := false, laid := [("trailhead/digest.steps", laid_trailhead_digest_steps), ("trailhead/digest.starts", laid_trailhead_digest_starts), ("unicode/utf8.acceptRanges", laid_unicode_utf8_acceptRanges), ("trailhead/speech.words", laid_trailhead_speech_words), ("unicode/utf8.first", laid_unicode_utf8_first)], narrowed := true }
def SpeechWordsUptoSaid : Prop := speechWordsUptoRow.holds Tryd.pinned (OpenSpec.upto speechWordsSpec)

/-- 'trailheadlaw08.SpeechSame', WHERE WHAT IT READS IS OF BULK AT MOST 1048576: true; the input reads as it did. -/
def speechSameUptoRow : OpenClaim := { program := "ytkgpjplncfginaadoor", sum := "37ba8de9f92459e05f588510cf848f62d21f90a75f769a785dd8f4e386ca3caf", func := "trailhead/trailheadlaw08.SpeechSame", spec := "speechSame", inPlace := ["internal/bytealg.IndexByteString", "internal/bytealg.IndexString", "internal/abi.NoEscape", "internal/bytealg.MakeNoZero"], unfollowed := true, recurses := true, named := ["trailhead/speech.words", "unicode/utf8.first", "unicode/utf8.acceptRanges", "trailhead/digest.starts", "trailhead/digest.steps", "internal/bytealg.MaxLen"], apart := false, laid := [("trailhead/digest.steps", laid_trailhead_digest_steps), ("trailhead/digest.starts", laid_trailhead_digest_starts), ("unicode/utf8.acceptRanges", laid_unicode_utf8_acceptRanges), ("trailhead/speech.words", laid_trailhead_speech_words), ("unicode/utf8.first", laid_unicode_utf8_first)], narrowed := true }
def SpeechSameUptoSaid : Prop := speechSameUptoRow.holds Tryd.pinned (OpenSpec.upto speechSameSpec)

/-- 'trailheadlaw08.SpeechBare', WHERE WHAT IT READS IS OF BULK AT MOST 1048576: true; the input reads as it did. -/
def speechBareUptoRow : OpenClaim := { program := "ytkgpjplncfginaadoor", sum := "37ba8de9f92459e05f588510cf848f62d21f90a75f769a785dd8f4e386ca3caf", func := "trailhead/trailheadlaw08.SpeechBare", spec := "speechBare", inPlace := ["internal/bytealg.IndexByteString", "internal/bytealg.IndexString", "internal/abi.NoEscape", "internal/bytealg.MakeNoZero"], unfollowed := true, recurses := true, named := ["trailhead/speech.words", "unicode/utf8.first", "unicode/utf8.acceptRanges", "trailhead/digest.starts", "trailhead/digest.steps", "internal/bytealg.MaxLen"], apart := false, laid := [("trailhead/digest.steps", laid_trailhead_digest_steps), ("trailhead/digest.starts", laid_trailhead_digest_starts), ("unicode/utf8.acceptRanges", laid_unicode_utf8_acceptRanges), ("trailhead/speech.words", laid_trailhead_speech_words), ("unicode/utf8.first", laid_unicode_utf8_first)], narrowed := true }
def SpeechBareUptoSaid : Prop := speechBareUptoRow.holds Tryd.pinned (OpenSpec.upto speechBareSpec)

/-- 'trailheadlaw08.SpeechReads', WHERE WHAT IT READS IS OF BULK AT MOST 1048576: true; the input reads as it did. -/
def speechReadsUptoRow : OpenClaim := { program := "ytkgpjplncfginaadoor", sum := "37ba8de9f92459e05f588510cf848f62d21f90a75f769a785dd8f4e386ca3caf", func := "trailhead/trailheadlaw08.SpeechReads", spec := "speechReads", inPlace := ["internal/bytealg.IndexByteString", "internal/bytealg.IndexString", "internal/abi.NoEscape", "internal/bytealg.MakeNoZero"], unfollowed := true, recurses := true, named := ["trailhead/speech.words", "unicode/utf8.first", "unicode/utf8.acceptRanges", "trailhead/digest.starts", "trailhead/digest.steps", "internal/bytealg.MaxLen"], apart := false, laid := [("trailhead/digest.steps", laid_trailhead_digest_steps), ("trailhead/digest.starts", laid_trailhead_digest_starts), ("unicode/utf8.acceptRanges", laid_unicode_utf8_acceptRanges), ("trailhead/speech.words", laid_trailhead_speech_words), ("unicode/utf8.first", laid_unicode_utf8_first)], narrowed := true }
def SpeechReadsUptoSaid : Prop := speechReadsUptoRow.holds Tryd.pinned (OpenSpec.upto speechReadsSpec)

/-- 'trailheadlaw08.SpeechCuts', WHERE WHAT IT READS IS OF BULK AT MOST 1048576: true; the input reads as it did. -/
def speechCutsUptoRow : OpenClaim := { program := "ytkgpjplncfginaadoor", sum := "37ba8de9f92459e05f588510cf848f62d21f90a75f769a785dd8f4e386ca3caf", func := "trailhead/trailheadlaw08.SpeechCuts", spec := "speechCuts", inPlace := ["internal/bytealg.IndexByteString", "internal/bytealg.IndexString", "internal/abi.NoEscape", "internal/bytealg.MakeNoZero"], unfollowed := true, recurses := true, named := ["trailhead/speech.words", "unicode/utf8.first", "unicode/utf8.acceptRanges", "trailhead/digest.starts", "trailhead/digest.steps", "internal/bytealg.MaxLen"], apart := false, laid := [("trailhead/digest.steps", laid_trailhead_digest_steps), ("trailhead/digest.starts", laid_trailhead_digest_starts), ("unicode/utf8.acceptRanges", laid_unicode_utf8_acceptRanges), ("trailhead/speech.words", laid_trailhead_speech_words), ("unicode/utf8.first", laid_unicode_utf8_first)], narrowed := true }
def SpeechCutsUptoSaid : Prop := speechCutsUptoRow.holds Tryd.pinned (OpenSpec.upto speechCutsSpec)

end Rows
end Go.Proofs.YtkgpjplncfginaaDoor
