/-
  DERIVED. GIVEN WITH THE SEED: THE CARDS: each row of YtkgpjplncfginaaDoorRows.lean that lists a variable, with what it lists TIED to the program's text (the seventh form; the later family's looks); each row that meets fmt, with fmt's text TOLD by the authors' own Lean function (tested against real Go, not proved from fmt's source: count such statements apart). THE CARD IS WHAT COUNTS. Prove the row's statement (the work); the ties are given (YtkgpjplncfginaaDoorTie.lean); close each card by the builder's one call (the guide's Derived/Test/ToyasCard.lean, 'card_holds'). Laid BY PROGRAM, IN A SANDBOX (cutbox-door.mjs). By AI agents, Wed Nov 11 2026. No macro, syntax, notation, axiom, sorry.
-/
import Derived.Test.YtkgpjplncfginaaDoorRows
import GoSem.ClaimSeven
namespace Go.Proofs.YtkgpjplncfginaaDoor
namespace Rows

/-- THE TIED CARD OF 'trailheadlaw08.SpeechWords'. -/
def speechWordsCard : Claim7 := { stood := { row := speechWordsRow, standIns := [], harness := (true, "725188cf61a2bf5f17c85f2341c13d83f5bcee9bd459005885ec753391808577"), looks := false }, kinds := [], alts := [], laidByText := true, laidKinds := [.data, .data, .data, .widerDeep, .pinned], laidTests := true, laidLooks := .later }
def SpeechWordsCardSaid : Prop := Claim7.holds Tryd.pinned (.plain (OpenSpec.ofChange speechWordsSpec)) speechWordsCard

/-- THE TIED CARD OF 'trailheadlaw08.SpeechSame'. -/
def speechSameCard : Claim7 := { stood := { row := speechSameRow, standIns := [], harness := (true, "725188cf61a2bf5f17c85f2341c13d83f5bcee9bd459005885ec753391808577"), looks := false }, kinds := [], alts := [], laidByText := true, laidKinds := [.data, .data, .data, .widerDeep, .pinned], laidTests := true, laidLooks := .later }
def SpeechSameCardSaid : Prop := Claim7.holds Tryd.pinned (.plain (OpenSpec.ofChange speechSameSpec)) speechSameCard

/-- THE TIED CARD OF 'trailheadlaw08.SpeechBare'. -/
def speechBareCard : Claim7 := { stood := { row := speechBareRow, standIns := [], harness := (true, "725188cf61a2bf5f17c85f2341c13d83f5bcee9bd459005885ec753391808577"), looks := false }, kinds := [], alts := [], laidByText := true, laidKinds := [.data, .data, .data, .widerDeep, .pinned], laidTests := true, laidLooks := .later }
def SpeechBareCardSaid : Prop := Claim7.holds Tryd.pinned (.plain (OpenSpec.ofChange speechBareSpec)) speechBareCard

/-- THE TIED CARD OF 'trailheadlaw08.SpeechReads'. -/
def speechReadsCard : Claim7 := { stood := { row := speechReadsRow, standIns := [], harness := (true, "725188cf61a2bf5f17c85f2341c13d83f5bcee9bd459005885ec753391808577"), looks := false }, kinds := [], alts := [], laidByText := true, laidKinds := [.data, .data, .data, .widerDeep, .pinned], laidTests := true, laidLooks := .later }
def SpeechReadsCardSaid : Prop := Claim7.holds Tryd.pinned (.plain (OpenSpec.ofChange speechReadsSpec)) speechReadsCard

/-- THE TIED CARD OF 'trailheadlaw08.SpeechCuts'. -/
def speechCutsCard : Claim7 := { stood := { row := speechCutsRow, standIns := [], harness := (true, "725188cf61a2bf5f17c85f2341c13d83f5bcee9bd459005885ec753391808577"), looks := false }, kinds := [], alts := [], laidByText := true, laidKinds := [.data, .data, .data, .widerDeep, .pinned], laidTests := true, laidLooks := .later }
def SpeechCutsCardSaid : Prop := Claim7.holds Tryd.pinned (.plain (OpenSpec.ofChange speechCutsSpec)) speechCutsCard

/-- THE SECOND FORM's CARD OF 'trailheadlaw08.SpeechWords'. -/
def speechWordsUptoCard : Claim7 := { stood := { row := speechWordsUptoRow, standIns := [], harness := (true, "725188cf61a2bf5f17c85f2341c13d83f5bcee9bd459005885ec753391808577"), looks := false }, kinds := [], alts := [], laidByText := true, laidKinds := [.data, .data, .data, .widerDeep, .pinned], laidTests := true, laidLooks := .later }
def SpeechWordsUptoCardSaid : Prop := Claim7.holds Tryd.pinned (.plain (OpenSpec.upto speechWordsSpec)) speechWordsUptoCard

/-- THE SECOND FORM's CARD OF 'trailheadlaw08.SpeechSame'. -/
def speechSameUptoCard : Claim7 := { stood := { row := speechSameUptoRow, standIns := [], harness := (true, "725188cf61a2bf5f17c85f2341c13d83f5bcee9bd459005885ec753391808577"), looks := false }, kinds := [], alts := [], laidByText := true, laidKinds := [.data, .data, .data, .widerDeep, .pinned], laidTests := true, laidLooks := .later }
def SpeechSameUptoCardSaid : Prop := Claim7.holds Tryd.pinned (.plain (OpenSpec.upto speechSameSpec)) speechSameUptoCard

/-- THE SECOND FORM's CARD OF 'trailheadlaw08.SpeechBare'. -/
def speechBareUptoCard : Claim7 := { stood := { row := speechBareUptoRow, standIns := [], harness := (true, "725188cf61a2bf5f17c85f2341c13d83f5bcee9bd459005885ec753391808577"), looks := false }, kinds := [], alts := [], laidByText := true, laidKinds := [.data, .data, .data, .widerDeep, .pinned], laidTests := true, laidLooks := .later }
def SpeechBareUptoCardSaid : Prop := Claim7.holds Tryd.pinned (.plain (OpenSpec.upto speechBareSpec)) speechBareUptoCard

/-- THE SECOND FORM's CARD OF 'trailheadlaw08.SpeechReads'. -/
def speechReadsUptoCard : Claim7 := { stood := { row := speechReadsUptoRow, standIns := [], harness := (true, "725188cf61a2bf5f17c85f2341c13d83f5bcee9bd459005885ec753391808577"), looks := false }, kinds := [], alts := [], laidByText := true, laidKinds := [.data, .data, .data, .widerDeep, .pinned], laidTests := true, laidLooks := .later }
def SpeechReadsUptoCardSaid : Prop := Claim7.holds Tryd.pinned (.plain (OpenSpec.upto speechReadsSpec)) speechReadsUptoCard

/-- THE SECOND FORM's CARD OF 'trailheadlaw08.SpeechCuts'. -/
def speechCutsUptoCard : Claim7 := { stood := { row := speechCutsUptoRow, standIns := [], harness := (true, "725188cf61a2bf5f17c85f2341c13d83f5bcee9bd459005885ec753391808577"), looks := false }, kinds := [], alts := [], laidByText := true, laidKinds := [.data, .data, .data, .widerDeep, .pinned], laidTests := true, laidLooks := .later }
def SpeechCutsUptoCardSaid : Prop := Claim7.holds Tryd.pinned (.plain (OpenSpec.upto speechCutsSpec)) speechCutsUptoCard
end Rows
end Go.Proofs.YtkgpjplncfginaaDoor
