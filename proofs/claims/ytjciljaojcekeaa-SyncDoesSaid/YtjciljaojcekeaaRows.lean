/-
  No cell of these rows narrows 'for every input' (looked for: loops, veiled, ifaces, maps, wideKeys, modest, calm, conditions, laid).
  DERIVED. THE GIVEN ROWS OF THIS SEAT. 24 by the template 'for every input the law returns true; each argument reads behind the call as it read before'; 0 by the template 'total and deterministic' (their statements: YtjciljaojcekeaaTotals.lean).
  GIVEN WITH THE SEED: the statements are not yours to turn. If you find one false, say at which input.
  Laid BY PROGRAM, IN A SANDBOX (cutbox-rows.mjs): the forced cells as the released guide's own fill.sh prints them over the translation a1773d275b552503… (all of the seat's roots in one cut). By AI agents, Wed Nov 11 2026. No macro, syntax, notation, axiom, sorry.
-/
import Derived.Test.YtjciljaojcekeaaChecked
import GoSem.Claim
import GoSem.ClaimJoined
import GoSem.ClaimMapViews
import Derived.JoinedTies
import Derived.KernelRfl
namespace Go.Proofs.Ytjciljaojcekeaa
/- THE CELL 'sum', in the pinned program and in every row, IS THE sha256 OF THE DUMP (.gsa) THAT YtjciljaojcekeaaProg.lean LOADS. Nothing in Lean hashes anything: it is a label: what it is worth is what the hold of that sum in a sandbox is worth. -/
noncomputable def Try.pinned : Pinned := { name := "ytjciljaojcekeaa", sum := "a1773d275b552503c75cc5e553605073c7e9ab71ccb3004177786fad1ba0b538", checked := Try.checked }
namespace Rows
def none {H : Type} : Left H := { results := [], args := [] }

/-- 'trailheadlaw22.SyncWork': WHATEVER THE INPUT: true; the input reads as it did. -/
def syncWorkSpec : ChangeSpec := { name := "syncWork", fn := fun _ => fun
  | [d1, d2, d3] => { results := [.lit (.bool true)], args := [d1, d2, d3] }
  | _ => none }
def syncWorkRow : OpenClaim := { program := "ytjciljaojcekeaa", sum := "a1773d275b552503c75cc5e553605073c7e9ab71ccb3004177786fad1ba0b538", func := "trailhead/trailheadlaw22.SyncWork", spec := "syncWork", apart := false }
def SyncWorkSaid : Prop := syncWorkRow.holds Try.pinned (OpenSpec.ofChange syncWorkSpec)

/-- ITS FALSE NEIGHBOUR: 'it returns false'. Refute it at one input. -/
def syncWorkWrong : ChangeSpec := { name := "syncWork", fn := fun _ => fun
  | [d1, d2, d3] => { results := [.lit (.bool false)], args := [d1, d2, d3] }
  | _ => none }
def SyncWorkWrongFalsely : Prop := syncWorkRow.holds Try.pinned (OpenSpec.ofChange syncWorkWrong)

/-- 'trailheadlaw03.CompactDecodes': WHATEVER THE INPUT: true; the input reads as it did. -/
def compactDecodesSpec : ChangeSpec := { name := "compactDecodes", fn := fun _ => fun
  | [d] => { results := [.lit (.bool true)], args := [d] }
  | _ => none }
def compactDecodesRow : OpenClaim := { program := "ytjciljaojcekeaa", sum := "a1773d275b552503c75cc5e553605073c7e9ab71ccb3004177786fad1ba0b538", func := "trailhead/trailheadlaw03.CompactDecodes", spec := "compactDecodes", apart := false }
def CompactDecodesSaid : Prop := compactDecodesRow.holds Try.pinned (OpenSpec.ofChange compactDecodesSpec)

/-- ITS FALSE NEIGHBOUR: 'it returns false'. Refute it at one input. -/
def compactDecodesWrong : ChangeSpec := { name := "compactDecodes", fn := fun _ => fun
  | [d] => { results := [.lit (.bool false)], args := [d] }
  | _ => none }
def CompactDecodesWrongFalsely : Prop := compactDecodesRow.holds Try.pinned (OpenSpec.ofChange compactDecodesWrong)

/-- 'trailheadlaw22.SyncSlow': WHATEVER THE INPUT: true; the input reads as it did. -/
def syncSlowSpec : ChangeSpec := { name := "syncSlow", fn := fun _ => fun
  | [d1, d2, d3, d4] => { results := [.lit (.bool true)], args := [d1, d2, d3, d4] }
  | _ => none }
def syncSlowRow : OpenClaim := { program := "ytjciljaojcekeaa", sum := "a1773d275b552503c75cc5e553605073c7e9ab71ccb3004177786fad1ba0b538", func := "trailhead/trailheadlaw22.SyncSlow", spec := "syncSlow", apart := false }
def SyncSlowSaid : Prop := syncSlowRow.holds Try.pinned (OpenSpec.ofChange syncSlowSpec)

/-- ITS FALSE NEIGHBOUR: 'it returns false'. Refute it at one input. -/
def syncSlowWrong : ChangeSpec := { name := "syncSlow", fn := fun _ => fun
  | [d1, d2, d3, d4] => { results := [.lit (.bool false)], args := [d1, d2, d3, d4] }
  | _ => none }
def SyncSlowWrongFalsely : Prop := syncSlowRow.holds Try.pinned (OpenSpec.ofChange syncSlowWrong)

/-- 'trailheadlaw02.WholeOrder': WHATEVER THE INPUT: true; the input reads as it did. -/
def wholeOrderSpec : ChangeSpec := { name := "wholeOrder", fn := fun _ => fun
  | [d1, d2] => { results := [.lit (.bool true)], args := [d1, d2] }
  | _ => none }
def wholeOrderRow : OpenClaim := { program := "ytjciljaojcekeaa", sum := "a1773d275b552503c75cc5e553605073c7e9ab71ccb3004177786fad1ba0b538", func := "trailhead/trailheadlaw02.WholeOrder", spec := "wholeOrder", inPlace := ["math/bits.Add64"], apart := false }
def WholeOrderSaid : Prop := wholeOrderRow.holds Try.pinned (OpenSpec.ofChange wholeOrderSpec)

/-- ITS FALSE NEIGHBOUR: 'it returns false'. Refute it at one input. -/
def wholeOrderWrong : ChangeSpec := { name := "wholeOrder", fn := fun _ => fun
  | [d1, d2] => { results := [.lit (.bool false)], args := [d1, d2] }
  | _ => none }
def WholeOrderWrongFalsely : Prop := wholeOrderRow.holds Try.pinned (OpenSpec.ofChange wholeOrderWrong)

/-- 'trailheadlaw02.WholeHashes': WHATEVER THE INPUT: true; the input reads as it did. -/
def wholeHashesSpec : ChangeSpec := { name := "wholeHashes", fn := fun _ => fun
  | [d1, d2] => { results := [.lit (.bool true)], args := [d1, d2] }
  | _ => none }
def wholeHashesRow : OpenClaim := { program := "ytjciljaojcekeaa", sum := "a1773d275b552503c75cc5e553605073c7e9ab71ccb3004177786fad1ba0b538", func := "trailhead/trailheadlaw02.WholeHashes", spec := "wholeHashes", inPlace := ["math/bits.Add64"], apart := false }
def WholeHashesSaid : Prop := wholeHashesRow.holds Try.pinned (OpenSpec.ofChange wholeHashesSpec)

/-- ITS FALSE NEIGHBOUR: 'it returns false'. Refute it at one input. -/
def wholeHashesWrong : ChangeSpec := { name := "wholeHashes", fn := fun _ => fun
  | [d1, d2] => { results := [.lit (.bool false)], args := [d1, d2] }
  | _ => none }
def WholeHashesWrongFalsely : Prop := wholeHashesRow.holds Try.pinned (OpenSpec.ofChange wholeHashesWrong)

/-- 'trailheadlaw22.SyncFair': WHATEVER THE INPUT: true; the input reads as it did. -/
def syncFairSpec : ChangeSpec := { name := "syncFair", fn := fun _ => fun
  | [d1, d2, d3] => { results := [.lit (.bool true)], args := [d1, d2, d3] }
  | _ => none }
def syncFairRow : OpenClaim := { program := "ytjciljaojcekeaa", sum := "a1773d275b552503c75cc5e553605073c7e9ab71ccb3004177786fad1ba0b538", func := "trailhead/trailheadlaw22.SyncFair", spec := "syncFair", apart := false }
def SyncFairSaid : Prop := syncFairRow.holds Try.pinned (OpenSpec.ofChange syncFairSpec)

/-- ITS FALSE NEIGHBOUR: 'it returns false'. Refute it at one input. -/
def syncFairWrong : ChangeSpec := { name := "syncFair", fn := fun _ => fun
  | [d1, d2, d3] => { results := [.lit (.bool false)], args := [d1, d2, d3] }
  | _ => none }
def SyncFairWrongFalsely : Prop := syncFairRow.holds Try.pinned (OpenSpec.ofChange syncFairWrong)

/-- 'trailheadlaw03.CompactMeets': WHATEVER THE INPUT: true; the input reads as it did. -/
def compactMeetsSpec : ChangeSpec := { name := "compactMeets", fn := fun _ => fun
  | [d1, d2, d3] => { results := [.lit (.bool true)], args := [d1, d2, d3] }
  | _ => none }
def compactMeetsRow : OpenClaim := { program := "ytjciljaojcekeaa", sum := "a1773d275b552503c75cc5e553605073c7e9ab71ccb3004177786fad1ba0b538", func := "trailhead/trailheadlaw03.CompactMeets", spec := "compactMeets", apart := false }
def CompactMeetsSaid : Prop := compactMeetsRow.holds Try.pinned (OpenSpec.ofChange compactMeetsSpec)

/-- ITS FALSE NEIGHBOUR: 'it returns false'. Refute it at one input. -/
def compactMeetsWrong : ChangeSpec := { name := "compactMeets", fn := fun _ => fun
  | [d1, d2, d3] => { results := [.lit (.bool false)], args := [d1, d2, d3] }
  | _ => none }
def CompactMeetsWrongFalsely : Prop := compactMeetsRow.holds Try.pinned (OpenSpec.ofChange compactMeetsWrong)

/-- 'trailheadlaw03.CompactTargets': WHATEVER THE INPUT: true; the input reads as it did. -/
def compactTargetsSpec : ChangeSpec := { name := "compactTargets", fn := fun _ => fun
  | [d1, d2] => { results := [.lit (.bool true)], args := [d1, d2] }
  | _ => none }
def compactTargetsRow : OpenClaim := { program := "ytjciljaojcekeaa", sum := "a1773d275b552503c75cc5e553605073c7e9ab71ccb3004177786fad1ba0b538", func := "trailhead/trailheadlaw03.CompactTargets", spec := "compactTargets", apart := false }
def CompactTargetsSaid : Prop := compactTargetsRow.holds Try.pinned (OpenSpec.ofChange compactTargetsSpec)

/-- ITS FALSE NEIGHBOUR: 'it returns false'. Refute it at one input. -/
def compactTargetsWrong : ChangeSpec := { name := "compactTargets", fn := fun _ => fun
  | [d1, d2] => { results := [.lit (.bool false)], args := [d1, d2] }
  | _ => none }
def CompactTargetsWrongFalsely : Prop := compactTargetsRow.holds Try.pinned (OpenSpec.ofChange compactTargetsWrong)

/-- 'trailheadlaw02.WholeSums': WHATEVER THE INPUT: true; the input reads as it did. -/
def wholeSumsSpec : ChangeSpec := { name := "wholeSums", fn := fun _ => fun
  | [d1, d2, d3] => { results := [.lit (.bool true)], args := [d1, d2, d3] }
  | _ => none }
def wholeSumsRow : OpenClaim := { program := "ytjciljaojcekeaa", sum := "a1773d275b552503c75cc5e553605073c7e9ab71ccb3004177786fad1ba0b538", func := "trailhead/trailheadlaw02.WholeSums", spec := "wholeSums", inPlace := ["math/bits.Add64", "math/bits.Sub64"], apart := false }
def WholeSumsSaid : Prop := wholeSumsRow.holds Try.pinned (OpenSpec.ofChange wholeSumsSpec)

/-- ITS FALSE NEIGHBOUR: 'it returns false'. Refute it at one input. -/
def wholeSumsWrong : ChangeSpec := { name := "wholeSums", fn := fun _ => fun
  | [d1, d2, d3] => { results := [.lit (.bool false)], args := [d1, d2, d3] }
  | _ => none }
def WholeSumsWrongFalsely : Prop := wholeSumsRow.holds Try.pinned (OpenSpec.ofChange wholeSumsWrong)

/-- 'trailheadlaw02.WholeMoves': WHATEVER THE INPUT: true; the input reads as it did. -/
def wholeMovesSpec : ChangeSpec := { name := "wholeMoves", fn := fun _ => fun
  | [d1, d2] => { results := [.lit (.bool true)], args := [d1, d2] }
  | _ => none }
def wholeMovesRow : OpenClaim := { program := "ytjciljaojcekeaa", sum := "a1773d275b552503c75cc5e553605073c7e9ab71ccb3004177786fad1ba0b538", func := "trailhead/trailheadlaw02.WholeMoves", spec := "wholeMoves", inPlace := ["math/bits.Add64"], apart := false }
def WholeMovesSaid : Prop := wholeMovesRow.holds Try.pinned (OpenSpec.ofChange wholeMovesSpec)

/-- ITS FALSE NEIGHBOUR: 'it returns false'. Refute it at one input. -/
def wholeMovesWrong : ChangeSpec := { name := "wholeMoves", fn := fun _ => fun
  | [d1, d2] => { results := [.lit (.bool false)], args := [d1, d2] }
  | _ => none }
def WholeMovesWrongFalsely : Prop := wholeMovesRow.holds Try.pinned (OpenSpec.ofChange wholeMovesWrong)

/-- 'trailheadlaw22.SyncDoes': WHATEVER THE INPUT: true; the input reads as it did. -/
def syncDoesSpec : ChangeSpec := { name := "syncDoes", fn := fun _ => fun
  | [d1, d2] => { results := [.lit (.bool true)], args := [d1, d2] }
  | _ => none }
def syncDoesRow : OpenClaim := { program := "ytjciljaojcekeaa", sum := "a1773d275b552503c75cc5e553605073c7e9ab71ccb3004177786fad1ba0b538", func := "trailhead/trailheadlaw22.SyncDoes", spec := "syncDoes", apart := false }
def SyncDoesSaid : Prop := syncDoesRow.holds Try.pinned (OpenSpec.ofChange syncDoesSpec)

/-- ITS FALSE NEIGHBOUR: 'it returns false'. Refute it at one input. -/
def syncDoesWrong : ChangeSpec := { name := "syncDoes", fn := fun _ => fun
  | [d1, d2] => { results := [.lit (.bool false)], args := [d1, d2] }
  | _ => none }
def SyncDoesWrongFalsely : Prop := syncDoesRow.holds Try.pinned (OpenSpec.ofChange syncDoesWrong)

/-- 'trailheadlaw03.CompactEncodes': WHATEVER THE INPUT: true; the input reads as it did. -/
def compactEncodesSpec : ChangeSpec := { name := "compactEncodes", fn := fun _ => fun
  | [d] => { results := [.lit (.bool true)], args := [d] }
  | _ => none }
def compactEncodesRow : OpenClaim := { program := "ytjciljaojcekeaa", sum := "a1773d275b552503c75cc5e553605073c7e9ab71ccb3004177786fad1ba0b538", func := "trailhead/trailheadlaw03.CompactEncodes", spec := "compactEncodes", apart := false }
def CompactEncodesSaid : Prop := compactEncodesRow.holds Try.pinned (OpenSpec.ofChange compactEncodesSpec)

/-- ITS FALSE NEIGHBOUR: 'it returns false'. Refute it at one input. -/
def compactEncodesWrong : ChangeSpec := { name := "compactEncodes", fn := fun _ => fun
  | [d] => { results := [.lit (.bool false)], args := [d] }
  | _ => none }
def CompactEncodesWrongFalsely : Prop := compactEncodesRow.holds Try.pinned (OpenSpec.ofChange compactEncodesWrong)

/-- 'trailheadlaw03.CompactOrder': WHATEVER THE INPUT: true; the input reads as it did. -/
def compactOrderSpec : ChangeSpec := { name := "compactOrder", fn := fun _ => fun
  | [d1, d2] => { results := [.lit (.bool true)], args := [d1, d2] }
  | _ => none }
def compactOrderRow : OpenClaim := { program := "ytjciljaojcekeaa", sum := "a1773d275b552503c75cc5e553605073c7e9ab71ccb3004177786fad1ba0b538", func := "trailhead/trailheadlaw03.CompactOrder", spec := "compactOrder", apart := false }
def CompactOrderSaid : Prop := compactOrderRow.holds Try.pinned (OpenSpec.ofChange compactOrderSpec)

/-- ITS FALSE NEIGHBOUR: 'it returns false'. Refute it at one input. -/
def compactOrderWrong : ChangeSpec := { name := "compactOrder", fn := fun _ => fun
  | [d1, d2] => { results := [.lit (.bool false)], args := [d1, d2] }
  | _ => none }
def CompactOrderWrongFalsely : Prop := compactOrderRow.holds Try.pinned (OpenSpec.ofChange compactOrderWrong)

/-- 'trailheadlaw03.CompactSmall': WHATEVER THE INPUT: true; the input reads as it did. -/
def compactSmallSpec : ChangeSpec := { name := "compactSmall", fn := fun _ => fun
  | [d1, d2] => { results := [.lit (.bool true)], args := [d1, d2] }
  | _ => none }
def compactSmallRow : OpenClaim := { program := "ytjciljaojcekeaa", sum := "a1773d275b552503c75cc5e553605073c7e9ab71ccb3004177786fad1ba0b538", func := "trailhead/trailheadlaw03.CompactSmall", spec := "compactSmall", apart := false }
def CompactSmallSaid : Prop := compactSmallRow.holds Try.pinned (OpenSpec.ofChange compactSmallSpec)

/-- ITS FALSE NEIGHBOUR: 'it returns false'. Refute it at one input. -/
def compactSmallWrong : ChangeSpec := { name := "compactSmall", fn := fun _ => fun
  | [d1, d2] => { results := [.lit (.bool false)], args := [d1, d2] }
  | _ => none }
def CompactSmallWrongFalsely : Prop := compactSmallRow.holds Try.pinned (OpenSpec.ofChange compactSmallWrong)

/-- 'trailheadlaw02.WholeBack': WHATEVER THE INPUT: true; the input reads as it did. -/
def wholeBackSpec : ChangeSpec := { name := "wholeBack", fn := fun _ => fun
  | [d1, d2] => { results := [.lit (.bool true)], args := [d1, d2] }
  | _ => none }
def wholeBackRow : OpenClaim := { program := "ytjciljaojcekeaa", sum := "a1773d275b552503c75cc5e553605073c7e9ab71ccb3004177786fad1ba0b538", func := "trailhead/trailheadlaw02.WholeBack", spec := "wholeBack", inPlace := ["math/bits.Add64", "math/bits.Sub64"], apart := false }
def WholeBackSaid : Prop := wholeBackRow.holds Try.pinned (OpenSpec.ofChange wholeBackSpec)

/-- ITS FALSE NEIGHBOUR: 'it returns false'. Refute it at one input. -/
def wholeBackWrong : ChangeSpec := { name := "wholeBack", fn := fun _ => fun
  | [d1, d2] => { results := [.lit (.bool false)], args := [d1, d2] }
  | _ => none }
def WholeBackWrongFalsely : Prop := wholeBackRow.holds Try.pinned (OpenSpec.ofChange wholeBackWrong)

/-- 'trailheadlaw02.WholeQuotients': WHATEVER THE INPUT: true; the input reads as it did. -/
def wholeQuotientsSpec : ChangeSpec := { name := "wholeQuotients", fn := fun _ => fun
  | [d1, d2] => { results := [.lit (.bool true)], args := [d1, d2] }
  | _ => none }
def wholeQuotientsRow : OpenClaim := { program := "ytjciljaojcekeaa", sum := "a1773d275b552503c75cc5e553605073c7e9ab71ccb3004177786fad1ba0b538", func := "trailhead/trailheadlaw02.WholeQuotients", spec := "wholeQuotients", inPlace := ["math/bits.Add64", "math/bits.Sub64"], apart := false }
def WholeQuotientsSaid : Prop := wholeQuotientsRow.holds Try.pinned (OpenSpec.ofChange wholeQuotientsSpec)

/-- ITS FALSE NEIGHBOUR: 'it returns false'. Refute it at one input. -/
def wholeQuotientsWrong : ChangeSpec := { name := "wholeQuotients", fn := fun _ => fun
  | [d1, d2] => { results := [.lit (.bool false)], args := [d1, d2] }
  | _ => none }
def WholeQuotientsWrongFalsely : Prop := wholeQuotientsRow.holds Try.pinned (OpenSpec.ofChange wholeQuotientsWrong)

/-- 'trailheadlaw02.WholeProducts': WHATEVER THE INPUT: true; the input reads as it did. -/
def wholeProductsSpec : ChangeSpec := { name := "wholeProducts", fn := fun _ => fun
  | [d1, d2] => { results := [.lit (.bool true)], args := [d1, d2] }
  | _ => none }
def wholeProductsRow : OpenClaim := { program := "ytjciljaojcekeaa", sum := "a1773d275b552503c75cc5e553605073c7e9ab71ccb3004177786fad1ba0b538", func := "trailhead/trailheadlaw02.WholeProducts", spec := "wholeProducts", inPlace := ["math/bits.Add64"], named := ["math/bits.divideError", "math/bits.overflowError"], apart := false }
def WholeProductsSaid : Prop := wholeProductsRow.holds Try.pinned (OpenSpec.ofChange wholeProductsSpec)

/-- ITS FALSE NEIGHBOUR: 'it returns false'. Refute it at one input. -/
def wholeProductsWrong : ChangeSpec := { name := "wholeProducts", fn := fun _ => fun
  | [d1, d2] => { results := [.lit (.bool false)], args := [d1, d2] }
  | _ => none }
def WholeProductsWrongFalsely : Prop := wholeProductsRow.holds Try.pinned (OpenSpec.ofChange wholeProductsWrong)

/-- 'trailheadlaw04.WorkFalls': WHATEVER THE INPUT: true; the input reads as it did. -/
def workFallsSpec : ChangeSpec := { name := "workFalls", fn := fun _ => fun
  | [d1, d2] => { results := [.lit (.bool true)], args := [d1, d2] }
  | _ => none }
def workFallsRow : OpenClaim := { program := "ytjciljaojcekeaa", sum := "a1773d275b552503c75cc5e553605073c7e9ab71ccb3004177786fad1ba0b538", func := "trailhead/trailheadlaw04.WorkFalls", spec := "workFalls", inPlace := ["math/bits.Add64", "math/bits.Sub64"], apart := false }
def WorkFallsSaid : Prop := workFallsRow.holds Try.pinned (OpenSpec.ofChange workFallsSpec)

/-- ITS FALSE NEIGHBOUR: 'it returns false'. Refute it at one input. -/
def workFallsWrong : ChangeSpec := { name := "workFalls", fn := fun _ => fun
  | [d1, d2] => { results := [.lit (.bool false)], args := [d1, d2] }
  | _ => none }
def WorkFallsWrongFalsely : Prop := workFallsRow.holds Try.pinned (OpenSpec.ofChange workFallsWrong)

/-- 'trailheadlaw04.WorkNear': WHATEVER THE INPUT: true; the input reads as it did. -/
def workNearSpec : ChangeSpec := { name := "workNear", fn := fun _ => fun
  | [d1, d2, d3] => { results := [.lit (.bool true)], args := [d1, d2, d3] }
  | _ => none }
def workNearRow : OpenClaim := { program := "ytjciljaojcekeaa", sum := "a1773d275b552503c75cc5e553605073c7e9ab71ccb3004177786fad1ba0b538", func := "trailhead/trailheadlaw04.WorkNear", spec := "workNear", inPlace := ["math/bits.Add64", "math/bits.Sub64"], apart := false }
def WorkNearSaid : Prop := workNearRow.holds Try.pinned (OpenSpec.ofChange workNearSpec)

/-- ITS FALSE NEIGHBOUR: 'it returns false'. Refute it at one input. -/
def workNearWrong : ChangeSpec := { name := "workNear", fn := fun _ => fun
  | [d1, d2, d3] => { results := [.lit (.bool false)], args := [d1, d2, d3] }
  | _ => none }
def WorkNearWrongFalsely : Prop := workNearRow.holds Try.pinned (OpenSpec.ofChange workNearWrong)

/-- 'trailheadlaw10.PaceSlower': WHATEVER THE INPUT: true; the input reads as it did. -/
def paceSlowerSpec : ChangeSpec := { name := "paceSlower", fn := fun _ => fun
  | [d1, d2, d3, d4] => { results := [.lit (.bool true)], args := [d1, d2, d3, d4] }
  | _ => none }
def paceSlowerRow : OpenClaim := { program := "ytjciljaojcekeaa", sum := "a1773d275b552503c75cc5e553605073c7e9ab71ccb3004177786fad1ba0b538", func := "trailhead/trailheadlaw10.PaceSlower", spec := "paceSlower", inPlace := ["math/bits.Add64"], named := ["math/bits.divideError", "math/bits.overflowError"], apart := false }
def PaceSlowerSaid : Prop := paceSlowerRow.holds Try.pinned (OpenSpec.ofChange paceSlowerSpec)

/-- ITS FALSE NEIGHBOUR: 'it returns false'. Refute it at one input. -/
def paceSlowerWrong : ChangeSpec := { name := "paceSlower", fn := fun _ => fun
  | [d1, d2, d3, d4] => { results := [.lit (.bool false)], args := [d1, d2, d3, d4] }
  | _ => none }
def PaceSlowerWrongFalsely : Prop := paceSlowerRow.holds Try.pinned (OpenSpec.ofChange paceSlowerWrong)

/-- 'trailheadlaw10.PaceEven': WHATEVER THE INPUT: true; the input reads as it did. -/
def paceEvenSpec : ChangeSpec := { name := "paceEven", fn := fun _ => fun
  | [d1, d2, d3, d4] => { results := [.lit (.bool true)], args := [d1, d2, d3, d4] }
  | _ => none }
def paceEvenRow : OpenClaim := { program := "ytjciljaojcekeaa", sum := "a1773d275b552503c75cc5e553605073c7e9ab71ccb3004177786fad1ba0b538", func := "trailhead/trailheadlaw10.PaceEven", spec := "paceEven", inPlace := ["math/bits.Add64"], named := ["math/bits.divideError", "math/bits.overflowError"], apart := false }
def PaceEvenSaid : Prop := paceEvenRow.holds Try.pinned (OpenSpec.ofChange paceEvenSpec)

/-- ITS FALSE NEIGHBOUR: 'it returns false'. Refute it at one input. -/
def paceEvenWrong : ChangeSpec := { name := "paceEven", fn := fun _ => fun
  | [d1, d2, d3, d4] => { results := [.lit (.bool false)], args := [d1, d2, d3, d4] }
  | _ => none }
def PaceEvenWrongFalsely : Prop := paceEvenRow.holds Try.pinned (OpenSpec.ofChange paceEvenWrong)

/-- 'trailheadlaw10.PaceBounds': WHATEVER THE INPUT: true; the input reads as it did. -/
def paceBoundsSpec : ChangeSpec := { name := "paceBounds", fn := fun _ => fun
  | [d1, d2, d3, d4] => { results := [.lit (.bool true)], args := [d1, d2, d3, d4] }
  | _ => none }
def paceBoundsRow : OpenClaim := { program := "ytjciljaojcekeaa", sum := "a1773d275b552503c75cc5e553605073c7e9ab71ccb3004177786fad1ba0b538", func := "trailhead/trailheadlaw10.PaceBounds", spec := "paceBounds", inPlace := ["math/bits.Add64"], named := ["math/bits.divideError", "math/bits.overflowError"], apart := false }
def PaceBoundsSaid : Prop := paceBoundsRow.holds Try.pinned (OpenSpec.ofChange paceBoundsSpec)

/-- ITS FALSE NEIGHBOUR: 'it returns false'. Refute it at one input. -/
def paceBoundsWrong : ChangeSpec := { name := "paceBounds", fn := fun _ => fun
  | [d1, d2, d3, d4] => { results := [.lit (.bool false)], args := [d1, d2, d3, d4] }
  | _ => none }
def PaceBoundsWrongFalsely : Prop := paceBoundsRow.holds Try.pinned (OpenSpec.ofChange paceBoundsWrong)

/-- 'trailheadlaw10.PaceStarts': WHATEVER THE INPUT: true; the input reads as it did. -/
def paceStartsSpec : ChangeSpec := { name := "paceStarts", fn := fun _ => fun
  | [d1, d2] => { results := [.lit (.bool true)], args := [d1, d2] }
  | _ => none }
def paceStartsRow : OpenClaim := { program := "ytjciljaojcekeaa", sum := "a1773d275b552503c75cc5e553605073c7e9ab71ccb3004177786fad1ba0b538", func := "trailhead/trailheadlaw10.PaceStarts", spec := "paceStarts", inPlace := ["math/bits.Add64"], named := ["math/bits.divideError", "math/bits.overflowError"], apart := false }
def PaceStartsSaid : Prop := paceStartsRow.holds Try.pinned (OpenSpec.ofChange paceStartsSpec)

/-- ITS FALSE NEIGHBOUR: 'it returns false'. Refute it at one input. -/
def paceStartsWrong : ChangeSpec := { name := "paceStarts", fn := fun _ => fun
  | [d1, d2] => { results := [.lit (.bool false)], args := [d1, d2] }
  | _ => none }
def PaceStartsWrongFalsely : Prop := paceStartsRow.holds Try.pinned (OpenSpec.ofChange paceStartsWrong)

/-- 'trailheadlaw10.PaceSame': WHATEVER THE INPUT: true; the input reads as it did. -/
def paceSameSpec : ChangeSpec := { name := "paceSame", fn := fun _ => fun
  | [d1, d2, d3] => { results := [.lit (.bool true)], args := [d1, d2, d3] }
  | _ => none }
def paceSameRow : OpenClaim := { program := "ytjciljaojcekeaa", sum := "a1773d275b552503c75cc5e553605073c7e9ab71ccb3004177786fad1ba0b538", func := "trailhead/trailheadlaw10.PaceSame", spec := "paceSame", inPlace := ["math/bits.Add64"], named := ["math/bits.divideError", "math/bits.overflowError"], apart := false }
def PaceSameSaid : Prop := paceSameRow.holds Try.pinned (OpenSpec.ofChange paceSameSpec)

/-- ITS FALSE NEIGHBOUR: 'it returns false'. Refute it at one input. -/
def paceSameWrong : ChangeSpec := { name := "paceSame", fn := fun _ => fun
  | [d1, d2, d3] => { results := [.lit (.bool false)], args := [d1, d2, d3] }
  | _ => none }
def PaceSameWrongFalsely : Prop := paceSameRow.holds Try.pinned (OpenSpec.ofChange paceSameWrong)

/- THE SECOND FORM. 'bulk': how many values and letters a reading holds, each counted each time it is reached (what is shared counts as often as it is met; a slice's spare places count too). A statement '..UptoSaid' is the law's where the arguments, and the package variables that the reading takes, are together of bulk at most 1048576: NARROWER than '..Said'. Prove '..Said' where nothing that the law and all that it calls make is longer than what came in: it says more and counts as full. Else prove '..UptoSaid'. A law counts once. -/
mutual
def uptoBulk {H : Type} : DataW H → Nat
  | .lit (.string bytes) => bytes.length + 1
  | .lit _ => 1
  | .nil => 1
  | .ptr d => uptoBulk d + 1
  | .slice elems spare => uptoBulkAll elems + uptoBulkAll spare + 1
  | .agg parts => uptoBulkAll parts + 1
  | .iface _ d => uptoBulk d + 1
  | .map entries => uptoBulkEntries entries + 1
  | .held _ => 1
def uptoBulkAll {H : Type} : List (DataW H) → Nat
  | [] => 0
  | d :: r => uptoBulk d + uptoBulkAll r
def uptoBulkEntries {H : Type} : List (Lit × DataW H) → Nat
  | [] => 0
  | x :: r => uptoBulkEntry x + uptoBulkEntries r
def uptoBulkEntry {H : Type} : Lit × DataW H → Nat
  | (.string bytes, d) => bytes.length + uptoBulk d + 1
  | (_, d) => uptoBulk d + 1
 end
def uptoSmall : (H : Type) → List (DataW H) → Bool := fun _ ds => decide (uptoBulkAll ds ≤ 1048576)
def OpenSpec.upto (s : _root_.Go.ChangeSpec) : _root_.Go.OpenSpec := { _root_.Go.OpenSpec.ofChange s with cond := some uptoSmall }

/-- 'trailheadlaw22.SyncWork', WHERE WHAT IT READS IS OF BULK AT MOST 1048576: true; the input reads as it did. -/
def syncWorkUptoRow : OpenClaim := { program := "ytjciljaojcekeaa", sum := "a1773d275b552503c75cc5e553605073c7e9ab71ccb3004177786fad1ba0b538", func := "trailhead/trailheadlaw22.SyncWork", spec := "syncWork", apart := false, narrowed := true }
def SyncWorkUptoSaid : Prop := syncWorkUptoRow.holds Try.pinned (OpenSpec.upto syncWorkSpec)

/-- 'trailheadlaw03.CompactDecodes', WHERE WHAT IT READS IS OF BULK AT MOST 1048576: true; the input reads as it did. -/
def compactDecodesUptoRow : OpenClaim := { program := "ytjciljaojcekeaa", sum := "a1773d275b552503c75cc5e553605073c7e9ab71ccb3004177786fad1ba0b538", func := "trailhead/trailheadlaw03.CompactDecodes", spec := "compactDecodes", apart := false, narrowed := true }
def CompactDecodesUptoSaid : Prop := compactDecodesUptoRow.holds Try.pinned (OpenSpec.upto compactDecodesSpec)

/-- 'trailheadlaw22.SyncSlow', WHERE WHAT IT READS IS OF BULK AT MOST 1048576: true; the input reads as it did. -/
def syncSlowUptoRow : OpenClaim := { program := "ytjciljaojcekeaa", sum := "a1773d275b552503c75cc5e553605073c7e9ab71ccb3004177786fad1ba0b538", func := "trailhead/trailheadlaw22.SyncSlow", spec := "syncSlow", apart := false, narrowed := true }
def SyncSlowUptoSaid : Prop := syncSlowUptoRow.holds Try.pinned (OpenSpec.upto syncSlowSpec)

/-- 'trailheadlaw02.WholeOrder', WHERE WHAT IT READS IS OF BULK AT MOST 1048576: true; the input reads as it did. -/
def wholeOrderUptoRow : OpenClaim := { program := "ytjciljaojcekeaa", sum := "a1773d275b552503c75cc5e553605073c7e9ab71ccb3004177786fad1ba0b538", func := "trailhead/trailheadlaw02.WholeOrder", spec := "wholeOrder", inPlace := ["math/bits.Add64"], apart := false, narrowed := true }
def WholeOrderUptoSaid : Prop := wholeOrderUptoRow.holds Try.pinned (OpenSpec.upto wholeOrderSpec)

/-- 'trailheadlaw02.WholeHashes', WHERE WHAT IT READS IS OF BULK AT MOST 1048576: true; the input reads as it did. -/
def wholeHashesUptoRow : OpenClaim := { program := "ytjciljaojcekeaa", sum := "a1773d275b552503c75cc5e553605073c7e9ab71ccb3004177786fad1ba0b538", func := "trailhead/trailheadlaw02.WholeHashes", spec := "wholeHashes", inPlace := ["math/bits.Add64"], apart := false, narrowed := true }
def WholeHashesUptoSaid : Prop := wholeHashesUptoRow.holds Try.pinned (OpenSpec.upto wholeHashesSpec)

/-- 'trailheadlaw22.SyncFair', WHERE WHAT IT READS IS OF BULK AT MOST 1048576: true; the input reads as it did. -/
def syncFairUptoRow : OpenClaim := { program := "ytjciljaojcekeaa", sum := "a1773d275b552503c75cc5e553605073c7e9ab71ccb3004177786fad1ba0b538", func := "trailhead/trailheadlaw22.SyncFair", spec := "syncFair", apart := false, narrowed := true }
def SyncFairUptoSaid : Prop := syncFairUptoRow.holds Try.pinned (OpenSpec.upto syncFairSpec)

/-- 'trailheadlaw03.CompactMeets', WHERE WHAT IT READS IS OF BULK AT MOST 1048576: true; the input reads as it did. -/
def compactMeetsUptoRow : OpenClaim := { program := "ytjciljaojcekeaa", sum := "a1773d275b552503c75cc5e553605073c7e9ab71ccb3004177786fad1ba0b538", func := "trailhead/trailheadlaw03.CompactMeets", spec := "compactMeets", apart := false, narrowed := true }
def CompactMeetsUptoSaid : Prop := compactMeetsUptoRow.holds Try.pinned (OpenSpec.upto compactMeetsSpec)

/-- 'trailheadlaw03.CompactTargets', WHERE WHAT IT READS IS OF BULK AT MOST 1048576: true; the input reads as it did. -/
def compactTargetsUptoRow : OpenClaim := { program := "ytjciljaojcekeaa", sum := "a1773d275b552503c75cc5e553605073c7e9ab71ccb3004177786fad1ba0b538", func := "trailhead/trailheadlaw03.CompactTargets", spec := "compactTargets", apart := false, narrowed := true }
def CompactTargetsUptoSaid : Prop := compactTargetsUptoRow.holds Try.pinned (OpenSpec.upto compactTargetsSpec)

/-- 'trailheadlaw02.WholeSums', WHERE WHAT IT READS IS OF BULK AT MOST 1048576: true; the input reads as it did. -/
def wholeSumsUptoRow : OpenClaim := { program := "ytjciljaojcekeaa", sum := "a1773d275b552503c75cc5e553605073c7e9ab71ccb3004177786fad1ba0b538", func := "trailhead/trailheadlaw02.WholeSums", spec := "wholeSums", inPlace := ["math/bits.Add64", "math/bits.Sub64"], apart := false, narrowed := true }
def WholeSumsUptoSaid : Prop := wholeSumsUptoRow.holds Try.pinned (OpenSpec.upto wholeSumsSpec)

/-- 'trailheadlaw02.WholeMoves', WHERE WHAT IT READS IS OF BULK AT MOST 1048576: true; the input reads as it did. -/
def wholeMovesUptoRow : OpenClaim := { program := "ytjciljaojcekeaa", sum := "a1773d275b552503c75cc5e553605073c7e9ab71ccb3004177786fad1ba0b538", func := "trailhead/trailheadlaw02.WholeMoves", spec := "wholeMoves", inPlace := ["math/bits.Add64"], apart := false, narrowed := true }
def WholeMovesUptoSaid : Prop := wholeMovesUptoRow.holds Try.pinned (OpenSpec.upto wholeMovesSpec)

/-- 'trailheadlaw22.SyncDoes', WHERE WHAT IT READS IS OF BULK AT MOST 1048576: true; the input reads as it did. -/
def syncDoesUptoRow : OpenClaim := { program := "ytjciljaojcekeaa", sum := "a1773d275b552503c75cc5e553605073c7e9ab71ccb3004177786fad1ba0b538", func := "trailhead/trailheadlaw22.SyncDoes", spec := "syncDoes", apart := false, narrowed := true }
def SyncDoesUptoSaid : Prop := syncDoesUptoRow.holds Try.pinned (OpenSpec.upto syncDoesSpec)

/-- 'trailheadlaw03.CompactEncodes', WHERE WHAT IT READS IS OF BULK AT MOST 1048576: true; the input reads as it did. -/
def compactEncodesUptoRow : OpenClaim := { program := "ytjciljaojcekeaa", sum := "a1773d275b552503c75cc5e553605073c7e9ab71ccb3004177786fad1ba0b538", func := "trailhead/trailheadlaw03.CompactEncodes", spec := "compactEncodes", apart := false, narrowed := true }
def CompactEncodesUptoSaid : Prop := compactEncodesUptoRow.holds Try.pinned (OpenSpec.upto compactEncodesSpec)

/-- 'trailheadlaw03.CompactOrder', WHERE WHAT IT READS IS OF BULK AT MOST 1048576: true; the input reads as it did. -/
def compactOrderUptoRow : OpenClaim := { program := "ytjciljaojcekeaa", sum := "a1773d275b552503c75cc5e553605073c7e9ab71ccb3004177786fad1ba0b538", func := "trailhead/trailheadlaw03.CompactOrder", spec := "compactOrder", apart := false, narrowed := true }
def CompactOrderUptoSaid : Prop := compactOrderUptoRow.holds Try.pinned (OpenSpec.upto compactOrderSpec)

/-- 'trailheadlaw03.CompactSmall', WHERE WHAT IT READS IS OF BULK AT MOST 1048576: true; the input reads as it did. -/
def compactSmallUptoRow : OpenClaim := { program := "ytjciljaojcekeaa", sum := "a1773d275b552503c75cc5e553605073c7e9ab71ccb3004177786fad1ba0b538", func := "trailhead/trailheadlaw03.CompactSmall", spec := "compactSmall", apart := false, narrowed := true }
def CompactSmallUptoSaid : Prop := compactSmallUptoRow.holds Try.pinned (OpenSpec.upto compactSmallSpec)

/-- 'trailheadlaw02.WholeBack', WHERE WHAT IT READS IS OF BULK AT MOST 1048576: true; the input reads as it did. -/
def wholeBackUptoRow : OpenClaim := { program := "ytjciljaojcekeaa", sum := "a1773d275b552503c75cc5e553605073c7e9ab71ccb3004177786fad1ba0b538", func := "trailhead/trailheadlaw02.WholeBack", spec := "wholeBack", inPlace := ["math/bits.Add64", "math/bits.Sub64"], apart := false, narrowed := true }
def WholeBackUptoSaid : Prop := wholeBackUptoRow.holds Try.pinned (OpenSpec.upto wholeBackSpec)

/-- 'trailheadlaw02.WholeQuotients', WHERE WHAT IT READS IS OF BULK AT MOST 1048576: true; the input reads as it did. -/
def wholeQuotientsUptoRow : OpenClaim := { program := "ytjciljaojcekeaa", sum := "a1773d275b552503c75cc5e553605073c7e9ab71ccb3004177786fad1ba0b538", func := "trailhead/trailheadlaw02.WholeQuotients", spec := "wholeQuotients", inPlace := ["math/bits.Add64", "math/bits.Sub64"], apart := false, narrowed := true }
def WholeQuotientsUptoSaid : Prop := wholeQuotientsUptoRow.holds Try.pinned (OpenSpec.upto wholeQuotientsSpec)

/-- 'trailheadlaw02.WholeProducts', WHERE WHAT IT READS IS OF BULK AT MOST 1048576: true; the input reads as it did. -/
def wholeProductsUptoRow : OpenClaim := { program := "ytjciljaojcekeaa", sum := "a1773d275b552503c75cc5e553605073c7e9ab71ccb3004177786fad1ba0b538", func := "trailhead/trailheadlaw02.WholeProducts", spec := "wholeProducts", inPlace := ["math/bits.Add64"], named := ["math/bits.divideError", "math/bits.overflowError"], apart := false, narrowed := true }
def WholeProductsUptoSaid : Prop := wholeProductsUptoRow.holds Try.pinned (OpenSpec.upto wholeProductsSpec)

/-- 'trailheadlaw04.WorkFalls', WHERE WHAT IT READS IS OF BULK AT MOST 1048576: true; the input reads as it did. -/
def workFallsUptoRow : OpenClaim := { program := "ytjciljaojcekeaa", sum := "a1773d275b552503c75cc5e553605073c7e9ab71ccb3004177786fad1ba0b538", func := "trailhead/trailheadlaw04.WorkFalls", spec := "workFalls", inPlace := ["math/bits.Add64", "math/bits.Sub64"], apart := false, narrowed := true }
def WorkFallsUptoSaid : Prop := workFallsUptoRow.holds Try.pinned (OpenSpec.upto workFallsSpec)

/-- 'trailheadlaw04.WorkNear', WHERE WHAT IT READS IS OF BULK AT MOST 1048576: true; the input reads as it did. -/
def workNearUptoRow : OpenClaim := { program := "ytjciljaojcekeaa", sum := "a1773d275b552503c75cc5e553605073c7e9ab71ccb3004177786fad1ba0b538", func := "trailhead/trailheadlaw04.WorkNear", spec := "workNear", inPlace := ["math/bits.Add64", "math/bits.Sub64"], apart := false, narrowed := true }
def WorkNearUptoSaid : Prop := workNearUptoRow.holds Try.pinned (OpenSpec.upto workNearSpec)

/-- 'trailheadlaw10.PaceSlower', WHERE WHAT IT READS IS OF BULK AT MOST 1048576: true; the input reads as it did. -/
def paceSlowerUptoRow : OpenClaim := { program := "ytjciljaojcekeaa", sum := "a1773d275b552503c75cc5e553605073c7e9ab71ccb3004177786fad1ba0b538", func := "trailhead/trailheadlaw10.PaceSlower", spec := "paceSlower", inPlace := ["math/bits.Add64"], named := ["math/bits.divideError", "math/bits.overflowError"], apart := false, narrowed := true }
def PaceSlowerUptoSaid : Prop := paceSlowerUptoRow.holds Try.pinned (OpenSpec.upto paceSlowerSpec)

/-- 'trailheadlaw10.PaceEven', WHERE WHAT IT READS IS OF BULK AT MOST 1048576: true; the input reads as it did. -/
def paceEvenUptoRow : OpenClaim := { program := "ytjciljaojcekeaa", sum := "a1773d275b552503c75cc5e553605073c7e9ab71ccb3004177786fad1ba0b538", func := "trailhead/trailheadlaw10.PaceEven", spec := "paceEven", inPlace := ["math/bits.Add64"], named := ["math/bits.divideError", "math/bits.overflowError"], apart := false, narrowed := true }
def PaceEvenUptoSaid : Prop := paceEvenUptoRow.holds Try.pinned (OpenSpec.upto paceEvenSpec)

/-- 'trailheadlaw10.PaceBounds', WHERE WHAT IT READS IS OF BULK AT MOST 1048576: true; the input reads as it did. -/
def paceBoundsUptoRow : OpenClaim := { program := "ytjciljaojcekeaa", sum := "a1773d275b552503c75cc5e553605073c7e9ab71ccb3004177786fad1ba0b538", func := "trailhead/trailheadlaw10.PaceBounds", spec := "paceBounds", inPlace := ["math/bits.Add64"], named := ["math/bits.divideError", "math/bits.overflowError"], apart := false, narrowed := true }
def PaceBoundsUptoSaid : Prop := paceBoundsUptoRow.holds Try.pinned (OpenSpec.upto paceBoundsSpec)

/-- 'trailheadlaw10.PaceStarts', WHERE WHAT IT READS IS OF BULK AT MOST 1048576: true; the input reads as it did. -/
def paceStartsUptoRow : OpenClaim := { program := "ytjciljaojcekeaa", sum := "a1773d275b552503c75cc5e553605073c7e9ab71ccb3004177786fad1ba0b538", func := "trailhead/trailheadlaw10.PaceStarts", spec := "paceStarts", inPlace := ["math/bits.Add64"], named := ["math/bits.divideError", "math/bits.overflowError"], apart := false, narrowed := true }
def PaceStartsUptoSaid : Prop := paceStartsUptoRow.holds Try.pinned (OpenSpec.upto paceStartsSpec)

/-- 'trailheadlaw10.PaceSame', WHERE WHAT IT READS IS OF BULK AT MOST 1048576: true; the input reads as it did. -/
def paceSameUptoRow : OpenClaim := { program := "ytjciljaojcekeaa", sum := "a1773d275b552503c75cc5e553605073c7e9ab71ccb3004177786fad1ba0b538", func := "trailhead/trailheadlaw10.PaceSame", spec := "paceSame", inPlace := ["math/bits.Add64"], named := ["math/bits.divideError", "math/bits.overflowError"], apart := false, narrowed := true }
def PaceSameUptoSaid : Prop := paceSameUptoRow.holds Try.pinned (OpenSpec.upto paceSameSpec)

end Rows
end Go.Proofs.Ytjciljaojcekeaa
