/-
  DERIVED. GIVEN WITH THE SEED: THE CARDS: each row of YtnaenbijnpbhaaaDoorRows.lean that lists a variable, with what it lists TIED to the program's text (the seventh form; the later family's looks); each row that meets fmt, with fmt's text TOLD by the authors' own Lean function (tested against real Go, not proved from fmt's source: count such statements apart). THE CARD IS WHAT COUNTS. Prove the row's statement (the work); the ties are given (YtnaenbijnpbhaaaDoorTie.lean); close each card by the builder's one call (the guide's Derived/Test/ToyasCard.lean, 'card_holds'). Laid BY PROGRAM, IN A SANDBOX (cutbox-door.mjs). By AI agents, Wed Nov 11 2026. No macro, syntax, notation, axiom, sorry.
-/
import Derived.Test.YtnaenbijnpbhaaaDoorRows
import GoSem.ClaimSeven
namespace Go.Proofs.YtnaenbijnpbhaaaDoor
namespace Rows

/-- THE TIED CARD OF 'trailheadlaw18.PledgeDoes'. -/
def pledgeDoesCard : Claim7 := { stood := { row := pledgeDoesRow, standIns := [], harness := (true, "986e9d15405392813b0b0b5b39ddffdce46621151611b3ad28ec50a537eb1df1"), looks := false }, kinds := [], alts := [], laidByText := true, laidKinds := [.data, .data], laidTests := true, laidLooks := .later }
def PledgeDoesCardSaid : Prop := Claim7.holds Tryd.pinned (.plain (OpenSpec.ofChange pledgeDoesSpec)) pledgeDoesCard

/-- THE SECOND FORM's CARD OF 'trailheadlaw18.PledgeDoes'. -/
def pledgeDoesUptoCard : Claim7 := { stood := { row := pledgeDoesUptoRow, standIns := [], harness := (true, "986e9d15405392813b0b0b5b39ddffdce46621151611b3ad28ec50a537eb1df1"), looks := false }, kinds := [], alts := [], laidByText := true, laidKinds := [.data, .data], laidTests := true, laidLooks := .later }
def PledgeDoesUptoCardSaid : Prop := Claim7.holds Tryd.pinned (.plain (OpenSpec.upto pledgeDoesSpec)) pledgeDoesUptoCard
end Rows
end Go.Proofs.YtnaenbijnpbhaaaDoor
