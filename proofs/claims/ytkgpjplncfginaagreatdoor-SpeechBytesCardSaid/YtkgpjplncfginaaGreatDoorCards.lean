/-
  DERIVED. GIVEN WITH THE SEED: THE CARDS: each row of YtkgpjplncfginaaGreatDoorRows.lean that lists a variable, with what it lists TIED to the program's text (the seventh form; the later family's looks); each row that meets fmt, with fmt's text TOLD by the authors' own Lean function (tested against real Go, not proved from fmt's source: count such statements apart). THE CARD IS WHAT COUNTS. Prove the row's statement (the work); the ties are given (YtkgpjplncfginaaGreatDoorTie.lean); close each card by the builder's one call (the guide's Derived/Test/ToyasCard.lean, 'card_holds'). Laid BY PROGRAM, IN A SANDBOX (cutbox-door.mjs). By AI agents, Wed Nov 11 2026. No macro, syntax, notation, axiom, sorry.
-/
import Derived.Test.YtkgpjplncfginaaGreatDoorRows
import GoSem.ClaimSeven
namespace Go.Proofs.YtkgpjplncfginaaGreatDoor
namespace Rows

/-- THE TIED CARD OF 'trailheadlaw08.SpeechBytes'. -/
def speechBytesCard : Claim7 := { stood := { row := speechBytesRow, standIns := [], harness := (true, "13cd6dd4f019298395113701251a59e4dfa0e71d1ed2dd03c87646a92ddd85ba"), looks := false }, kinds := [], alts := [], laidByText := true, laidKinds := [.data, .data, .data, .widerDeep, .pinned], laidTests := true, laidLooks := .later }
def SpeechBytesCardSaid : Prop := Claim7.holds Tryz.pinned (.plain (OpenSpec.ofChange speechBytesSpec)) speechBytesCard

/-- THE SECOND FORM's CARD OF 'trailheadlaw08.SpeechBytes'. -/
def speechBytesUptoCard : Claim7 := { stood := { row := speechBytesUptoRow, standIns := [], harness := (true, "13cd6dd4f019298395113701251a59e4dfa0e71d1ed2dd03c87646a92ddd85ba"), looks := false }, kinds := [], alts := [], laidByText := true, laidKinds := [.data, .data, .data, .widerDeep, .pinned], laidTests := true, laidLooks := .later }
def SpeechBytesUptoCardSaid : Prop := Claim7.holds Tryz.pinned (.plain (OpenSpec.upto speechBytesSpec)) speechBytesUptoCard
end Rows
end Go.Proofs.YtkgpjplncfginaaGreatDoor
