/-
  No cell of these rows narrows 'for every input' (looked for: loops, veiled, ifaces, maps, wideKeys, modest, calm, conditions, laid).
  DERIVED. THE GIVEN ROWS OF THIS SEAT. 9 by the template 'for every input the law returns true; each argument reads behind the call as it read before'; 0 by the template 'total and deterministic' (their statements: YtodjcmbkbijliaaTotals.lean).
  GIVEN WITH THE SEED: the statements are not yours to turn. If you find one false, say at which input.
  Laid BY PROGRAM, IN A SANDBOX (cutbox-rows.mjs): the forced cells as the released guide's own fill.sh prints them over the translation c07653e04e8e6729… (all of the seat's roots in one cut). By AI agents, Wed Nov 11 2026. No macro, syntax, notation, axiom, sorry.
-/
import Derived.Test.YtodjcmbkbijliaaChecked
import GoSem.Claim
import GoSem.ClaimJoined
import GoSem.ClaimMapViews
import Derived.JoinedTies
import Derived.KernelRfl
namespace Go.Proofs.Ytodjcmbkbijliaa
/- THE CELL 'sum', in the pinned program and in every row, IS THE sha256 OF THE DUMP (.gsa) THAT YtodjcmbkbijliaaProg.lean LOADS. Nothing in Lean hashes anything: it is a label: what it is worth is what the hold of that sum in a sandbox is worth. -/
noncomputable def Try.pinned : Pinned := { name := "ytodjcmbkbijliaa", sum := "c07653e04e8e672990b50c971878f2931e4f85d3fa2a0793a453c3d885de5b3e", checked := Try.checked }
namespace Rows
def none {H : Type} : Left H := { results := [], args := [] }

/-- 'trailheadlaw05.ScrollParts': WHATEVER THE INPUT: true; the input reads as it did. -/
def scrollPartsSpec : ChangeSpec := { name := "scrollParts", fn := fun _ => fun
  | [d1, d2] => { results := [.lit (.bool true)], args := [d1, d2] }
  | _ => none }
def scrollPartsRow : OpenClaim := { program := "ytodjcmbkbijliaa", sum := "c07653e04e8e672990b50c971878f2931e4f85d3fa2a0793a453c3d885de5b3e", func := "trailhead/trailheadlaw05.ScrollParts", spec := "scrollParts", apart := false }
def ScrollPartsSaid : Prop := scrollPartsRow.holds Try.pinned (OpenSpec.ofChange scrollPartsSpec)

/-- ITS FALSE NEIGHBOUR: 'it returns false'. Refute it at one input. -/
def scrollPartsWrong : ChangeSpec := { name := "scrollParts", fn := fun _ => fun
  | [d1, d2] => { results := [.lit (.bool false)], args := [d1, d2] }
  | _ => none }
def ScrollPartsWrongFalsely : Prop := scrollPartsRow.holds Try.pinned (OpenSpec.ofChange scrollPartsWrong)

/-- 'trailheadlaw05.ScrollNames': WHATEVER THE INPUT: true; the input reads as it did. -/
def scrollNamesSpec : ChangeSpec := { name := "scrollNames", fn := fun _ => fun
  | [d1, d2] => { results := [.lit (.bool true)], args := [d1, d2] }
  | _ => none }
def scrollNamesRow : OpenClaim := { program := "ytodjcmbkbijliaa", sum := "c07653e04e8e672990b50c971878f2931e4f85d3fa2a0793a453c3d885de5b3e", func := "trailhead/trailheadlaw05.ScrollNames", spec := "scrollNames", apart := false }
def ScrollNamesSaid : Prop := scrollNamesRow.holds Try.pinned (OpenSpec.ofChange scrollNamesSpec)

/-- ITS FALSE NEIGHBOUR: 'it returns false'. Refute it at one input. -/
def scrollNamesWrong : ChangeSpec := { name := "scrollNames", fn := fun _ => fun
  | [d1, d2] => { results := [.lit (.bool false)], args := [d1, d2] }
  | _ => none }
def ScrollNamesWrongFalsely : Prop := scrollNamesRow.holds Try.pinned (OpenSpec.ofChange scrollNamesWrong)

/-- 'trailheadlaw05.ScrollWide': WHATEVER THE INPUT: true; the input reads as it did. -/
def scrollWideSpec : ChangeSpec := { name := "scrollWide", fn := fun _ => fun
  | [d1, d2] => { results := [.lit (.bool true)], args := [d1, d2] }
  | _ => none }
def scrollWideRow : OpenClaim := { program := "ytodjcmbkbijliaa", sum := "c07653e04e8e672990b50c971878f2931e4f85d3fa2a0793a453c3d885de5b3e", func := "trailhead/trailheadlaw05.ScrollWide", spec := "scrollWide", apart := false }
def ScrollWideSaid : Prop := scrollWideRow.holds Try.pinned (OpenSpec.ofChange scrollWideSpec)

/-- ITS FALSE NEIGHBOUR: 'it returns false'. Refute it at one input. -/
def scrollWideWrong : ChangeSpec := { name := "scrollWide", fn := fun _ => fun
  | [d1, d2] => { results := [.lit (.bool false)], args := [d1, d2] }
  | _ => none }
def ScrollWideWrongFalsely : Prop := scrollWideRow.holds Try.pinned (OpenSpec.ofChange scrollWideWrong)

/-- 'trailheadlaw21.ShakeSilent': WHATEVER THE INPUT: true; the input reads as it did. -/
def shakeSilentSpec : ChangeSpec := { name := "shakeSilent", fn := fun _ => fun
  | [d1, d2, d3, d4] => { results := [.lit (.bool true)], args := [d1, d2, d3, d4] }
  | _ => none }
def shakeSilentRow : OpenClaim := { program := "ytodjcmbkbijliaa", sum := "c07653e04e8e672990b50c971878f2931e4f85d3fa2a0793a453c3d885de5b3e", func := "trailhead/trailheadlaw21.ShakeSilent", spec := "shakeSilent", apart := false }
def ShakeSilentSaid : Prop := shakeSilentRow.holds Try.pinned (OpenSpec.ofChange shakeSilentSpec)

/-- ITS FALSE NEIGHBOUR: 'it returns false'. Refute it at one input. -/
def shakeSilentWrong : ChangeSpec := { name := "shakeSilent", fn := fun _ => fun
  | [d1, d2, d3, d4] => { results := [.lit (.bool false)], args := [d1, d2, d3, d4] }
  | _ => none }
def ShakeSilentWrongFalsely : Prop := shakeSilentRow.holds Try.pinned (OpenSpec.ofChange shakeSilentWrong)

/-- 'trailheadlaw05.ScrollCounts': WHATEVER THE INPUT: true; the input reads as it did. -/
def scrollCountsSpec : ChangeSpec := { name := "scrollCounts", fn := fun _ => fun
  | [d1, d2, d3] => { results := [.lit (.bool true)], args := [d1, d2, d3] }
  | _ => none }
def scrollCountsRow : OpenClaim := { program := "ytodjcmbkbijliaa", sum := "c07653e04e8e672990b50c971878f2931e4f85d3fa2a0793a453c3d885de5b3e", func := "trailhead/trailheadlaw05.ScrollCounts", spec := "scrollCounts", apart := false }
def ScrollCountsSaid : Prop := scrollCountsRow.holds Try.pinned (OpenSpec.ofChange scrollCountsSpec)

/-- ITS FALSE NEIGHBOUR: 'it returns false'. Refute it at one input. -/
def scrollCountsWrong : ChangeSpec := { name := "scrollCounts", fn := fun _ => fun
  | [d1, d2, d3] => { results := [.lit (.bool false)], args := [d1, d2, d3] }
  | _ => none }
def ScrollCountsWrongFalsely : Prop := scrollCountsRow.holds Try.pinned (OpenSpec.ofChange scrollCountsWrong)

/-- 'trailheadlaw05.ScrollPuts': WHATEVER THE INPUT: true; the input reads as it did. -/
def scrollPutsSpec : ChangeSpec := { name := "scrollPuts", fn := fun _ => fun
  | [d] => { results := [.lit (.bool true)], args := [d] }
  | _ => none }
def scrollPutsRow : OpenClaim := { program := "ytodjcmbkbijliaa", sum := "c07653e04e8e672990b50c971878f2931e4f85d3fa2a0793a453c3d885de5b3e", func := "trailhead/trailheadlaw05.ScrollPuts", spec := "scrollPuts", apart := false }
def ScrollPutsSaid : Prop := scrollPutsRow.holds Try.pinned (OpenSpec.ofChange scrollPutsSpec)

/-- ITS FALSE NEIGHBOUR: 'it returns false'. Refute it at one input. -/
def scrollPutsWrong : ChangeSpec := { name := "scrollPuts", fn := fun _ => fun
  | [d] => { results := [.lit (.bool false)], args := [d] }
  | _ => none }
def ScrollPutsWrongFalsely : Prop := scrollPutsRow.holds Try.pinned (OpenSpec.ofChange scrollPutsWrong)

/-- 'trailheadlaw21.ShakeAgrees': WHATEVER THE INPUT: true; the input reads as it did. -/
def shakeAgreesSpec : ChangeSpec := { name := "shakeAgrees", fn := fun _ => fun
  | [d1, d2, d3, d4] => { results := [.lit (.bool true)], args := [d1, d2, d3, d4] }
  | _ => none }
def shakeAgreesRow : OpenClaim := { program := "ytodjcmbkbijliaa", sum := "c07653e04e8e672990b50c971878f2931e4f85d3fa2a0793a453c3d885de5b3e", func := "trailhead/trailheadlaw21.ShakeAgrees", spec := "shakeAgrees", apart := false }
def ShakeAgreesSaid : Prop := shakeAgreesRow.holds Try.pinned (OpenSpec.ofChange shakeAgreesSpec)

/-- ITS FALSE NEIGHBOUR: 'it returns false'. Refute it at one input. -/
def shakeAgreesWrong : ChangeSpec := { name := "shakeAgrees", fn := fun _ => fun
  | [d1, d2, d3, d4] => { results := [.lit (.bool false)], args := [d1, d2, d3, d4] }
  | _ => none }
def ShakeAgreesWrongFalsely : Prop := shakeAgreesRow.holds Try.pinned (OpenSpec.ofChange shakeAgreesWrong)

/-- 'trailheadlaw21.ShakeEnds': WHATEVER THE INPUT: true; the input reads as it did. -/
def shakeEndsSpec : ChangeSpec := { name := "shakeEnds", fn := fun _ => fun
  | [d1, d2, d3, d4] => { results := [.lit (.bool true)], args := [d1, d2, d3, d4] }
  | _ => none }
def shakeEndsRow : OpenClaim := { program := "ytodjcmbkbijliaa", sum := "c07653e04e8e672990b50c971878f2931e4f85d3fa2a0793a453c3d885de5b3e", func := "trailhead/trailheadlaw21.ShakeEnds", spec := "shakeEnds", apart := false }
def ShakeEndsSaid : Prop := shakeEndsRow.holds Try.pinned (OpenSpec.ofChange shakeEndsSpec)

/-- ITS FALSE NEIGHBOUR: 'it returns false'. Refute it at one input. -/
def shakeEndsWrong : ChangeSpec := { name := "shakeEnds", fn := fun _ => fun
  | [d1, d2, d3, d4] => { results := [.lit (.bool false)], args := [d1, d2, d3, d4] }
  | _ => none }
def ShakeEndsWrongFalsely : Prop := shakeEndsRow.holds Try.pinned (OpenSpec.ofChange shakeEndsWrong)

/-- 'trailheadlaw21.ShakeDoes': WHATEVER THE INPUT: true; the input reads as it did. -/
def shakeDoesSpec : ChangeSpec := { name := "shakeDoes", fn := fun _ => fun
  | [d1, d2, d3, d4] => { results := [.lit (.bool true)], args := [d1, d2, d3, d4] }
  | _ => none }
def shakeDoesRow : OpenClaim := { program := "ytodjcmbkbijliaa", sum := "c07653e04e8e672990b50c971878f2931e4f85d3fa2a0793a453c3d885de5b3e", func := "trailhead/trailheadlaw21.ShakeDoes", spec := "shakeDoes", apart := false }
def ShakeDoesSaid : Prop := shakeDoesRow.holds Try.pinned (OpenSpec.ofChange shakeDoesSpec)

/-- ITS FALSE NEIGHBOUR: 'it returns false'. Refute it at one input. -/
def shakeDoesWrong : ChangeSpec := { name := "shakeDoes", fn := fun _ => fun
  | [d1, d2, d3, d4] => { results := [.lit (.bool false)], args := [d1, d2, d3, d4] }
  | _ => none }
def ShakeDoesWrongFalsely : Prop := shakeDoesRow.holds Try.pinned (OpenSpec.ofChange shakeDoesWrong)

/- THE SECOND FORM. 'bulk': how many values and letters a reading holds, each counted each time it is reached (what is shared counts as often as it is met; a slice's spare places count too). A statement '..UptoSaid' is the law's where the arguments, and the package variables that the reading takes, are together of bulk at most 1048576: NARROWER than '..Said'. Prove '..Said' where nothing that the law and all that it calls make is longer than what came in: it says more and counts as full. Else prove '..UptoSaid'. A law counts once. -/
mutual
def uptoBulk {H : Type} : DataW H → Nat
  | .lit (.string bytes) => bytes.length + 1
  | .lit _ => 1
  | .nil => 1
  | .ptr d => uptoBulk d + 1
  | .slice elems spare => uptoBulkAll elems + uptoBulkAll spare + 1
  | .agg parts => uptoBulkAll parts + 1
  | .iface _ d => uptoBulk d + 1
  | .map entries => uptoBulkEntries entries + 1
  | .held _ => 1
def uptoBulkAll {H : Type} : List (DataW H) → Nat
  | [] => 0
  | d :: r => uptoBulk d + uptoBulkAll r
def uptoBulkEntries {H : Type} : List (Lit × DataW H) → Nat
  | [] => 0
  | x :: r => uptoBulkEntry x + uptoBulkEntries r
def uptoBulkEntry {H : Type} : Lit × DataW H → Nat
  | (.string bytes, d) => bytes.length + uptoBulk d + 1
  | (_, d) => uptoBulk d + 1
 end
def uptoSmall : (H : Type) → List (DataW H) → Bool := fun _ ds => decide (uptoBulkAll ds ≤ 1048576)
def OpenSpec.upto (s : _root_.Go.ChangeSpec) : _root_.Go.OpenSpec := { _root_.Go.OpenSpec.ofChange s with cond := some uptoSmall }

/-- 'trailheadlaw05.ScrollParts', WHERE WHAT IT READS IS OF BULK AT MOST 1048576: true; the input reads as it did. -/
def scrollPartsUptoRow : OpenClaim := { program := "ytodjcmbkbijliaa", sum := "c07653e04e8e672990b50c971878f2931e4f85d3fa2a0793a453c3d885de5b3e", func := "trailhead/trailheadlaw05.ScrollParts", spec := "scrollParts", apart := false, narrowed := true }
def ScrollPartsUptoSaid : Prop := scrollPartsUptoRow.holds Try.pinned (OpenSpec.upto scrollPartsSpec)

/-- 'trailheadlaw05.ScrollNames', WHERE WHAT IT READS IS OF BULK AT MOST 1048576: true; the input reads as it did. -/
def scrollNamesUptoRow : OpenClaim := { program := "ytodjcmbkbijliaa", sum := "c07653e04e8e672990b50c971878f2931e4f85d3fa2a0793a453c3d885de5b3e", func := "trailhead/trailheadlaw05.ScrollNames", spec := "scrollNames", apart := false, narrowed := true }
def ScrollNamesUptoSaid : Prop := scrollNamesUptoRow.holds Try.pinned (OpenSpec.upto scrollNamesSpec)

/-- 'trailheadlaw05.ScrollWide', WHERE WHAT IT READS IS OF BULK AT MOST 1048576: true; the input reads as it did. -/
def scrollWideUptoRow : OpenClaim := { program := "ytodjcmbkbijliaa", sum := "c07653e04e8e672990b50c971878f2931e4f85d3fa2a0793a453c3d885de5b3e", func := "trailhead/trailheadlaw05.ScrollWide", spec := "scrollWide", apart := false, narrowed := true }
def ScrollWideUptoSaid : Prop := scrollWideUptoRow.holds Try.pinned (OpenSpec.upto scrollWideSpec)

/-- 'trailheadlaw21.ShakeSilent', WHERE WHAT IT READS IS OF BULK AT MOST 1048576: true; the input reads as it did. -/
def shakeSilentUptoRow : OpenClaim := { program := "ytodjcmbkbijliaa", sum := "c07653e04e8e672990b50c971878f2931e4f85d3fa2a0793a453c3d885de5b3e", func := "trailhead/trailheadlaw21.ShakeSilent", spec := "shakeSilent", apart := false, narrowed := true }
def ShakeSilentUptoSaid : Prop := shakeSilentUptoRow.holds Try.pinned (OpenSpec.upto shakeSilentSpec)

/-- 'trailheadlaw05.ScrollCounts', WHERE WHAT IT READS IS OF BULK AT MOST 1048576: true; the input reads as it did. -/
def scrollCountsUptoRow : OpenClaim := { program := "ytodjcmbkbijliaa", sum := "c07653e04e8e672990b50c971878f2931e4f85d3fa2a0793a453c3d885de5b3e", func := "trailhead/trailheadlaw05.ScrollCounts", spec := "scrollCounts", apart := false, narrowed := true }
def ScrollCountsUptoSaid : Prop := scrollCountsUptoRow.holds Try.pinned (OpenSpec.upto scrollCountsSpec)

/-- 'trailheadlaw05.ScrollPuts', WHERE WHAT IT READS IS OF BULK AT MOST 1048576: true; the input reads as it did. -/
def scrollPutsUptoRow : OpenClaim := { program := "ytodjcmbkbijliaa", sum := "c07653e04e8e672990b50c971878f2931e4f85d3fa2a0793a453c3d885de5b3e", func := "trailhead/trailheadlaw05.ScrollPuts", spec := "scrollPuts", apart := false, narrowed := true }
def ScrollPutsUptoSaid : Prop := scrollPutsUptoRow.holds Try.pinned (OpenSpec.upto scrollPutsSpec)

/-- 'trailheadlaw21.ShakeAgrees', WHERE WHAT IT READS IS OF BULK AT MOST 1048576: true; the input reads as it did. -/
def shakeAgreesUptoRow : OpenClaim := { program := "ytodjcmbkbijliaa", sum := "c07653e04e8e672990b50c971878f2931e4f85d3fa2a0793a453c3d885de5b3e", func := "trailhead/trailheadlaw21.ShakeAgrees", spec := "shakeAgrees", apart := false, narrowed := true }
def ShakeAgreesUptoSaid : Prop := shakeAgreesUptoRow.holds Try.pinned (OpenSpec.upto shakeAgreesSpec)

/-- 'trailheadlaw21.ShakeEnds', WHERE WHAT IT READS IS OF BULK AT MOST 1048576: true; the input reads as it did. -/
def shakeEndsUptoRow : OpenClaim := { program := "ytodjcmbkbijliaa", sum := "c07653e04e8e672990b50c971878f2931e4f85d3fa2a0793a453c3d885de5b3e", func := "trailhead/trailheadlaw21.ShakeEnds", spec := "shakeEnds", apart := false, narrowed := true }
def ShakeEndsUptoSaid : Prop := shakeEndsUptoRow.holds Try.pinned (OpenSpec.upto shakeEndsSpec)

/-- 'trailheadlaw21.ShakeDoes', WHERE WHAT IT READS IS OF BULK AT MOST 1048576: true; the input reads as it did. -/
def shakeDoesUptoRow : OpenClaim := { program := "ytodjcmbkbijliaa", sum := "c07653e04e8e672990b50c971878f2931e4f85d3fa2a0793a453c3d885de5b3e", func := "trailhead/trailheadlaw21.ShakeDoes", spec := "shakeDoes", apart := false, narrowed := true }
def ShakeDoesUptoSaid : Prop := shakeDoesUptoRow.holds Try.pinned (OpenSpec.upto shakeDoesSpec)

end Rows
end Go.Proofs.Ytodjcmbkbijliaa
