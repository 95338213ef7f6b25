/-
  DERIVED. GIVEN WITH THE SEED: THE CARDS: each row of YtkcdbbflelgbeaaDoorRows.lean that lists a variable, with what it lists TIED to the program's text (the seventh form; the later family's looks); each row that meets fmt, with fmt's text TOLD by the authors' own Lean function (tested against real Go, not proved from fmt's source: count such statements apart). THE CARD IS WHAT COUNTS. Prove the row's statement (the work); the ties are given (YtkcdbbflelgbeaaDoorTie.lean); close each card by the builder's one call (the guide's Derived/Test/ToyasCard.lean, 'card_holds'). Laid BY PROGRAM, IN A SANDBOX (cutbox-door.mjs). By AI agents, Wed Nov 11 2026. No macro, syntax, notation, axiom, sorry.
-/
import Derived.Test.YtkcdbbflelgbeaaDoorRows
import GoSem.ClaimSeven
namespace Go.Proofs.YtkcdbbflelgbeaaDoor
namespace Rows

/-- THE TIED CARD OF 'trailheadlaw07.EnvelopeBytes'. -/
def envelopeBytesCard : Claim7 := { stood := { row := envelopeBytesRow, standIns := [], harness := (true, "8afda9190d44602343dd20be439765929c7cae05cdc7e3638bcee49a6e684250"), looks := false }, kinds := [], alts := [], laidByText := true, laidKinds := [.data, .data, .data, .pinned], laidTests := true, laidLooks := .later }
def EnvelopeBytesCardSaid : Prop := Claim7.holds Tryd.pinned (.plain (OpenSpec.ofChange envelopeBytesSpec)) envelopeBytesCard

/-- THE TIED CARD OF 'trailheadlaw07.EnvelopeTakes'. -/
def envelopeTakesCard : Claim7 := { stood := { row := envelopeTakesRow, standIns := [], harness := (true, "8afda9190d44602343dd20be439765929c7cae05cdc7e3638bcee49a6e684250"), looks := false }, kinds := [], alts := [], laidByText := true, laidKinds := [.data, .data, .data, .pinned], laidTests := true, laidLooks := .later }
def EnvelopeTakesCardSaid : Prop := Claim7.holds Tryd.pinned (.plain (OpenSpec.ofChange envelopeTakesSpec)) envelopeTakesCard

/-- THE TIED CARD OF 'trailheadlaw07.EnvelopeUnlike'. -/
def envelopeUnlikeCard : Claim7 := { stood := { row := envelopeUnlikeRow, standIns := [], harness := (true, "8afda9190d44602343dd20be439765929c7cae05cdc7e3638bcee49a6e684250"), looks := false }, kinds := [], alts := [], laidByText := true, laidKinds := [.data, .data, .data, .pinned], laidTests := true, laidLooks := .later }
def EnvelopeUnlikeCardSaid : Prop := Claim7.holds Tryd.pinned (.plain (OpenSpec.ofChange envelopeUnlikeSpec)) envelopeUnlikeCard

/-- THE TIED CARD OF 'trailheadlaw07.EnvelopeAll'. -/
def envelopeAllCard : Claim7 := { stood := { row := envelopeAllRow, standIns := [], harness := (true, "8afda9190d44602343dd20be439765929c7cae05cdc7e3638bcee49a6e684250"), looks := false }, kinds := [], alts := [], laidByText := true, laidKinds := [.data, .data, .data, .pinned], laidTests := true, laidLooks := .later }
def EnvelopeAllCardSaid : Prop := Claim7.holds Tryd.pinned (.plain (OpenSpec.ofChange envelopeAllSpec)) envelopeAllCard

/-- THE TIED CARD OF 'trailheadlaw07.EnvelopeCuts'. -/
def envelopeCutsCard : Claim7 := { stood := { row := envelopeCutsRow, standIns := [], harness := (true, "8afda9190d44602343dd20be439765929c7cae05cdc7e3638bcee49a6e684250"), looks := false }, kinds := [], alts := [], laidByText := true, laidKinds := [.data, .data, .data, .pinned], laidTests := true, laidLooks := .later }
def EnvelopeCutsCardSaid : Prop := Claim7.holds Tryd.pinned (.plain (OpenSpec.ofChange envelopeCutsSpec)) envelopeCutsCard

/-- THE SECOND FORM's CARD OF 'trailheadlaw07.EnvelopeBytes'. -/
def envelopeBytesUptoCard : Claim7 := { stood := { row := envelopeBytesUptoRow, standIns := [], harness := (true, "8afda9190d44602343dd20be439765929c7cae05cdc7e3638bcee49a6e684250"), looks := false }, kinds := [], alts := [], laidByText := true, laidKinds := [.data, .data, .data, .pinned], laidTests := true, laidLooks := .later }
def EnvelopeBytesUptoCardSaid : Prop := Claim7.holds Tryd.pinned (.plain (OpenSpec.upto envelopeBytesSpec)) envelopeBytesUptoCard

/-- THE SECOND FORM's CARD OF 'trailheadlaw07.EnvelopeTakes'. -/
def envelopeTakesUptoCard : Claim7 := { stood := { row := envelopeTakesUptoRow, standIns := [], harness := (true, "8afda9190d44602343dd20be439765929c7cae05cdc7e3638bcee49a6e684250"), looks := false }, kinds := [], alts := [], laidByText := true, laidKinds := [.data, .data, .data, .pinned], laidTests := true, laidLooks := .later }
def EnvelopeTakesUptoCardSaid : Prop := Claim7.holds Tryd.pinned (.plain (OpenSpec.upto envelopeTakesSpec)) envelopeTakesUptoCard

/-- THE SECOND FORM's CARD OF 'trailheadlaw07.EnvelopeUnlike'. -/
def envelopeUnlikeUptoCard : Claim7 := { stood := { row := envelopeUnlikeUptoRow, standIns := [], harness := (true, "8afda9190d44602343dd20be439765929c7cae05cdc7e3638bcee49a6e684250"), looks := false }, kinds := [], alts := [], laidByText := true, laidKinds := [.data, .data, .data, .pinned], laidTests := true, laidLooks := .later }
def EnvelopeUnlikeUptoCardSaid : Prop := Claim7.holds Tryd.pinned (.plain (OpenSpec.upto envelopeUnlikeSpec)) envelopeUnlikeUptoCard

/-- THE SECOND FORM's CARD OF 'trailheadlaw07.EnvelopeAll'. -/
def envelopeAllUptoCard : Claim7 := { stood := { row := envelopeAllUptoRow, standIns := [], harness := (true, "8afda9190d44602343dd20be439765929c7cae05cdc7e3638bcee49a6e684250"), looks := false }, kinds := [], alts := [], laidByText := true, laidKinds := [.data, .data, .data, .pinned], laidTests := true, laidLooks := .later }
def EnvelopeAllUptoCardSaid : Prop := Claim7.holds Tryd.pinned (.plain (OpenSpec.upto envelopeAllSpec)) envelopeAllUptoCard

/-- THE SECOND FORM's CARD OF 'trailheadlaw07.EnvelopeCuts'. -/
def envelopeCutsUptoCard : Claim7 := { stood := { row := envelopeCutsUptoRow, standIns := [], harness := (true, "8afda9190d44602343dd20be439765929c7cae05cdc7e3638bcee49a6e684250"), looks := false }, kinds := [], alts := [], laidByText := true, laidKinds := [.data, .data, .data, .pinned], laidTests := true, laidLooks := .later }
def EnvelopeCutsUptoCardSaid : Prop := Claim7.holds Tryd.pinned (.plain (OpenSpec.upto envelopeCutsSpec)) envelopeCutsUptoCard
end Rows
end Go.Proofs.YtkcdbbflelgbeaaDoor
