/-
  DERIVED. GIVEN WITH THE SEED: THE CARDS: each row of YtnnajeoeeefjaaaDoorRows.lean that lists a variable, with what it lists TIED to the program's text (the seventh form; the later family's looks); each row that meets fmt, with fmt's text TOLD by the authors' own Lean function (tested against real Go, not proved from fmt's source: count such statements apart). THE CARD IS WHAT COUNTS. Prove the row's statement (the work); the ties are given (YtnnajeoeeefjaaaDoorTie.lean); close each card by the builder's one call (the guide's Derived/Test/ToyasCard.lean, 'card_holds'). Laid BY PROGRAM, IN A SANDBOX (cutbox-door.mjs). By AI agents, Wed Nov 11 2026. No macro, syntax, notation, axiom, sorry.
-/
import Derived.Test.YtnnajeoeeefjaaaDoorRows
import GoSem.ClaimSeven
namespace Go.Proofs.YtnnajeoeeefjaaaDoor
namespace Rows

/-- THE TIED CARD OF 'trailheadlaw01.DigestIs'. -/
def digestIsCard : Claim7 := { stood := { row := digestIsRow, standIns := [], harness := (true, "27b7b1b9fed20d507fb3f5d1e0a302dafc00c28084ccd1c687741aa54effa028"), looks := false }, kinds := [], alts := [], laidByText := true, laidKinds := [.data, .data], laidTests := true, laidLooks := .later }
def DigestIsCardSaid : Prop := Claim7.holds Tryd.pinned (.plain (OpenSpec.ofChange digestIsSpec)) digestIsCard

/-- THE TIED CARD OF 'trailheadlaw01.DigestParts'. -/
def digestPartsCard : Claim7 := { stood := { row := digestPartsRow, standIns := [], harness := (true, "27b7b1b9fed20d507fb3f5d1e0a302dafc00c28084ccd1c687741aa54effa028"), looks := false }, kinds := [], alts := [], laidByText := true, laidKinds := [.data, .data], laidTests := true, laidLooks := .later }
def DigestPartsCardSaid : Prop := Claim7.holds Tryd.pinned (.plain (OpenSpec.ofChange digestPartsSpec)) digestPartsCard

/-- THE TIED CARD OF 'trailheadlaw01.DigestTwice'. -/
def digestTwiceCard : Claim7 := { stood := { row := digestTwiceRow, standIns := [], harness := (true, "27b7b1b9fed20d507fb3f5d1e0a302dafc00c28084ccd1c687741aa54effa028"), looks := false }, kinds := [], alts := [], laidByText := true, laidKinds := [.data, .data], laidTests := true, laidLooks := .later }
def DigestTwiceCardSaid : Prop := Claim7.holds Tryd.pinned (.plain (OpenSpec.ofChange digestTwiceSpec)) digestTwiceCard

/-- THE TIED CARD OF 'trailheadlaw01.DigestParses'. -/
def digestParsesCard : Claim7 := { stood := { row := digestParsesRow, standIns := [], harness := (true, "27b7b1b9fed20d507fb3f5d1e0a302dafc00c28084ccd1c687741aa54effa028"), looks := false }, kinds := [], alts := [], laidByText := true, laidKinds := [.data, .data], laidTests := true, laidLooks := .later }
def DigestParsesCardSaid : Prop := Claim7.holds Tryd.pinned (.plain (OpenSpec.ofChange digestParsesSpec)) digestParsesCard

/-- THE TIED CARD OF 'trailheadlaw01.DigestShows'. -/
def digestShowsCard : Claim7 := { stood := { row := digestShowsRow, standIns := [], harness := (true, "27b7b1b9fed20d507fb3f5d1e0a302dafc00c28084ccd1c687741aa54effa028"), looks := false }, kinds := [], alts := [], laidByText := true, laidKinds := [.data, .data], laidTests := true, laidLooks := .later }
def DigestShowsCardSaid : Prop := Claim7.holds Tryd.pinned (.plain (OpenSpec.ofChange digestShowsSpec)) digestShowsCard

/-- THE TIED CARD OF 'trailheadlaw06.HeaderUnlike'. -/
def headerUnlikeCard : Claim7 := { stood := { row := headerUnlikeRow, standIns := [], harness := (true, "27b7b1b9fed20d507fb3f5d1e0a302dafc00c28084ccd1c687741aa54effa028"), looks := false }, kinds := [], alts := [], laidByText := true, laidKinds := [.data, .data], laidTests := true, laidLooks := .later }
def HeaderUnlikeCardSaid : Prop := Claim7.holds Tryd.pinned (.plain (OpenSpec.ofChange headerUnlikeSpec)) headerUnlikeCard

/-- THE TIED CARD OF 'trailheadlaw06.HeaderFollows'. -/
def headerFollowsCard : Claim7 := { stood := { row := headerFollowsRow, standIns := [], harness := (true, "27b7b1b9fed20d507fb3f5d1e0a302dafc00c28084ccd1c687741aa54effa028"), looks := false }, kinds := [], alts := [], laidByText := true, laidKinds := [.data, .data], laidTests := true, laidLooks := .later }
def HeaderFollowsCardSaid : Prop := Claim7.holds Tryd.pinned (.plain (OpenSpec.ofChange headerFollowsSpec)) headerFollowsCard

/-- THE TIED CARD OF 'trailheadlaw18.PledgePlans'. -/
def pledgePlansCard : Claim7 := { stood := { row := pledgePlansRow, standIns := [], harness := (true, "27b7b1b9fed20d507fb3f5d1e0a302dafc00c28084ccd1c687741aa54effa028"), looks := false }, kinds := [], alts := [], laidByText := true, laidKinds := [.data, .data], laidTests := true, laidLooks := .later }
def PledgePlansCardSaid : Prop := Claim7.holds Tryd.pinned (.plain (OpenSpec.ofChange pledgePlansSpec)) pledgePlansCard

/-- THE TIED CARD OF 'trailheadlaw18.PledgeSpan'. -/
def pledgeSpanCard : Claim7 := { stood := { row := pledgeSpanRow, standIns := [], harness := (true, "27b7b1b9fed20d507fb3f5d1e0a302dafc00c28084ccd1c687741aa54effa028"), looks := false }, kinds := [], alts := [], laidByText := true, laidKinds := [.data, .data], laidTests := true, laidLooks := .later }
def PledgeSpanCardSaid : Prop := Claim7.holds Tryd.pinned (.plain (OpenSpec.ofChange pledgeSpanSpec)) pledgeSpanCard

/-- THE TIED CARD OF 'trailheadlaw18.PledgeMeets'. -/
def pledgeMeetsCard : Claim7 := { stood := { row := pledgeMeetsRow, standIns := [], harness := (true, "27b7b1b9fed20d507fb3f5d1e0a302dafc00c28084ccd1c687741aa54effa028"), looks := false }, kinds := [], alts := [], laidByText := true, laidKinds := [.data, .data], laidTests := true, laidLooks := .later }
def PledgeMeetsCardSaid : Prop := Claim7.holds Tryd.pinned (.plain (OpenSpec.ofChange pledgeMeetsSpec)) pledgeMeetsCard

/-- THE TIED CARD OF 'trailheadlaw06.HeaderReads'. -/
def headerReadsCard : Claim7 := { stood := { row := headerReadsRow, standIns := [], harness := (true, "27b7b1b9fed20d507fb3f5d1e0a302dafc00c28084ccd1c687741aa54effa028"), looks := false }, kinds := [], alts := [], laidByText := true, laidKinds := [.data, .data], laidTests := true, laidLooks := .later }
def HeaderReadsCardSaid : Prop := Claim7.holds Tryd.pinned (.plain (OpenSpec.ofChange headerReadsSpec)) headerReadsCard

/-- THE TIED CARD OF 'trailheadlaw18.PledgeDoes'. -/
def pledgeDoesCard : Claim7 := { stood := { row := pledgeDoesRow, standIns := [], harness := (true, "27b7b1b9fed20d507fb3f5d1e0a302dafc00c28084ccd1c687741aa54effa028"), looks := false }, kinds := [], alts := [], laidByText := true, laidKinds := [.data, .data], laidTests := true, laidLooks := .later }
def PledgeDoesCardSaid : Prop := Claim7.holds Tryd.pinned (.plain (OpenSpec.ofChange pledgeDoesSpec)) pledgeDoesCard

/-- THE TIED CARD OF 'trailheadlaw06.HeaderBytes'. -/
def headerBytesCard : Claim7 := { stood := { row := headerBytesRow, standIns := [], harness := (true, "27b7b1b9fed20d507fb3f5d1e0a302dafc00c28084ccd1c687741aa54effa028"), looks := false }, kinds := [], alts := [], laidByText := true, laidKinds := [.data, .data], laidTests := true, laidLooks := .later }
def HeaderBytesCardSaid : Prop := Claim7.holds Tryd.pinned (.plain (OpenSpec.ofChange headerBytesSpec)) headerBytesCard

/-- THE TIED CARD OF 'trailheadlaw06.HeaderSeeks'. -/
def headerSeeksCard : Claim7 := { stood := { row := headerSeeksRow, standIns := [], harness := (true, "27b7b1b9fed20d507fb3f5d1e0a302dafc00c28084ccd1c687741aa54effa028"), looks := false }, kinds := [], alts := [], laidByText := true, laidKinds := [.data, .data], laidTests := true, laidLooks := .later }
def HeaderSeeksCardSaid : Prop := Claim7.holds Tryd.pinned (.plain (OpenSpec.ofChange headerSeeksSpec)) headerSeeksCard

/-- THE TIED CARD OF 'trailheadlaw06.HeaderMines'. -/
def headerMinesCard : Claim7 := { stood := { row := headerMinesRow, standIns := [], harness := (true, "27b7b1b9fed20d507fb3f5d1e0a302dafc00c28084ccd1c687741aa54effa028"), looks := false }, kinds := [], alts := [], laidByText := true, laidKinds := [.data, .data], laidTests := true, laidLooks := .later }
def HeaderMinesCardSaid : Prop := Claim7.holds Tryd.pinned (.plain (OpenSpec.ofChange headerMinesSpec)) headerMinesCard

/-- THE SECOND FORM's CARD OF 'trailheadlaw01.DigestIs'. -/
def digestIsUptoCard : Claim7 := { stood := { row := digestIsUptoRow, standIns := [], harness := (true, "27b7b1b9fed20d507fb3f5d1e0a302dafc00c28084ccd1c687741aa54effa028"), looks := false }, kinds := [], alts := [], laidByText := true, laidKinds := [.data, .data], laidTests := true, laidLooks := .later }
def DigestIsUptoCardSaid : Prop := Claim7.holds Tryd.pinned (.plain (OpenSpec.upto digestIsSpec)) digestIsUptoCard

/-- THE SECOND FORM's CARD OF 'trailheadlaw01.DigestParts'. -/
def digestPartsUptoCard : Claim7 := { stood := { row := digestPartsUptoRow, standIns := [], harness := (true, "27b7b1b9fed20d507fb3f5d1e0a302dafc00c28084ccd1c687741aa54effa028"), looks := false }, kinds := [], alts := [], laidByText := true, laidKinds := [.data, .data], laidTests := true, laidLooks := .later }
def DigestPartsUptoCardSaid : Prop := Claim7.holds Tryd.pinned (.plain (OpenSpec.upto digestPartsSpec)) digestPartsUptoCard

/-- THE SECOND FORM's CARD OF 'trailheadlaw01.DigestTwice'. -/
def digestTwiceUptoCard : Claim7 := { stood := { row := digestTwiceUptoRow, standIns := [], harness := (true, "27b7b1b9fed20d507fb3f5d1e0a302dafc00c28084ccd1c687741aa54effa028"), looks := false }, kinds := [], alts := [], laidByText := true, laidKinds := [.data, .data], laidTests := true, laidLooks := .later }
def DigestTwiceUptoCardSaid : Prop := Claim7.holds Tryd.pinned (.plain (OpenSpec.upto digestTwiceSpec)) digestTwiceUptoCard

/-- THE SECOND FORM's CARD OF 'trailheadlaw01.DigestParses'. -/
def digestParsesUptoCard : Claim7 := { stood := { row := digestParsesUptoRow, standIns := [], harness := (true, "27b7b1b9fed20d507fb3f5d1e0a302dafc00c28084ccd1c687741aa54effa028"), looks := false }, kinds := [], alts := [], laidByText := true, laidKinds := [.data, .data], laidTests := true, laidLooks := .later }
def DigestParsesUptoCardSaid : Prop := Claim7.holds Tryd.pinned (.plain (OpenSpec.upto digestParsesSpec)) digestParsesUptoCard

/-- THE SECOND FORM's CARD OF 'trailheadlaw01.DigestShows'. -/
def digestShowsUptoCard : Claim7 := { stood := { row := digestShowsUptoRow, standIns := [], harness := (true, "27b7b1b9fed20d507fb3f5d1e0a302dafc00c28084ccd1c687741aa54effa028"), looks := false }, kinds := [], alts := [], laidByText := true, laidKinds := [.data, .data], laidTests := true, laidLooks := .later }
def DigestShowsUptoCardSaid : Prop := Claim7.holds Tryd.pinned (.plain (OpenSpec.upto digestShowsSpec)) digestShowsUptoCard

/-- THE SECOND FORM's CARD OF 'trailheadlaw06.HeaderUnlike'. -/
def headerUnlikeUptoCard : Claim7 := { stood := { row := headerUnlikeUptoRow, standIns := [], harness := (true, "27b7b1b9fed20d507fb3f5d1e0a302dafc00c28084ccd1c687741aa54effa028"), looks := false }, kinds := [], alts := [], laidByText := true, laidKinds := [.data, .data], laidTests := true, laidLooks := .later }
def HeaderUnlikeUptoCardSaid : Prop := Claim7.holds Tryd.pinned (.plain (OpenSpec.upto headerUnlikeSpec)) headerUnlikeUptoCard

/-- THE SECOND FORM's CARD OF 'trailheadlaw06.HeaderFollows'. -/
def headerFollowsUptoCard : Claim7 := { stood := { row := headerFollowsUptoRow, standIns := [], harness := (true, "27b7b1b9fed20d507fb3f5d1e0a302dafc00c28084ccd1c687741aa54effa028"), looks := false }, kinds := [], alts := [], laidByText := true, laidKinds := [.data, .data], laidTests := true, laidLooks := .later }
def HeaderFollowsUptoCardSaid : Prop := Claim7.holds Tryd.pinned (.plain (OpenSpec.upto headerFollowsSpec)) headerFollowsUptoCard

/-- THE SECOND FORM's CARD OF 'trailheadlaw18.PledgePlans'. -/
def pledgePlansUptoCard : Claim7 := { stood := { row := pledgePlansUptoRow, standIns := [], harness := (true, "27b7b1b9fed20d507fb3f5d1e0a302dafc00c28084ccd1c687741aa54effa028"), looks := false }, kinds := [], alts := [], laidByText := true, laidKinds := [.data, .data], laidTests := true, laidLooks := .later }
def PledgePlansUptoCardSaid : Prop := Claim7.holds Tryd.pinned (.plain (OpenSpec.upto pledgePlansSpec)) pledgePlansUptoCard

/-- THE SECOND FORM's CARD OF 'trailheadlaw18.PledgeSpan'. -/
def pledgeSpanUptoCard : Claim7 := { stood := { row := pledgeSpanUptoRow, standIns := [], harness := (true, "27b7b1b9fed20d507fb3f5d1e0a302dafc00c28084ccd1c687741aa54effa028"), looks := false }, kinds := [], alts := [], laidByText := true, laidKinds := [.data, .data], laidTests := true, laidLooks := .later }
def PledgeSpanUptoCardSaid : Prop := Claim7.holds Tryd.pinned (.plain (OpenSpec.upto pledgeSpanSpec)) pledgeSpanUptoCard

/-- THE SECOND FORM's CARD OF 'trailheadlaw18.PledgeMeets'. -/
def pledgeMeetsUptoCard : Claim7 := { stood := { row := pledgeMeetsUptoRow, standIns := [], harness := (true, "27b7b1b9fed20d507fb3f5d1e0a302dafc00c28084ccd1c687741aa54effa028"), looks := false }, kinds := [], alts := [], laidByText := true, laidKinds := [.data, .data], laidTests := true, laidLooks := .later }
def PledgeMeetsUptoCardSaid : Prop := Claim7.holds Tryd.pinned (.plain (OpenSpec.upto pledgeMeetsSpec)) pledgeMeetsUptoCard

/-- THE SECOND FORM's CARD OF 'trailheadlaw06.HeaderReads'. -/
def headerReadsUptoCard : Claim7 := { stood := { row := headerReadsUptoRow, standIns := [], harness := (true, "27b7b1b9fed20d507fb3f5d1e0a302dafc00c28084ccd1c687741aa54effa028"), looks := false }, kinds := [], alts := [], laidByText := true, laidKinds := [.data, .data], laidTests := true, laidLooks := .later }
def HeaderReadsUptoCardSaid : Prop := Claim7.holds Tryd.pinned (.plain (OpenSpec.upto headerReadsSpec)) headerReadsUptoCard

/-- THE SECOND FORM's CARD OF 'trailheadlaw18.PledgeDoes'. -/
def pledgeDoesUptoCard : Claim7 := { stood := { row := pledgeDoesUptoRow, standIns := [], harness := (true, "27b7b1b9fed20d507fb3f5d1e0a302dafc00c28084ccd1c687741aa54effa028"), looks := false }, kinds := [], alts := [], laidByText := true, laidKinds := [.data, .data], laidTests := true, laidLooks := .later }
def PledgeDoesUptoCardSaid : Prop := Claim7.holds Tryd.pinned (.plain (OpenSpec.upto pledgeDoesSpec)) pledgeDoesUptoCard

/-- THE SECOND FORM's CARD OF 'trailheadlaw06.HeaderBytes'. -/
def headerBytesUptoCard : Claim7 := { stood := { row := headerBytesUptoRow, standIns := [], harness := (true, "27b7b1b9fed20d507fb3f5d1e0a302dafc00c28084ccd1c687741aa54effa028"), looks := false }, kinds := [], alts := [], laidByText := true, laidKinds := [.data, .data], laidTests := true, laidLooks := .later }
def HeaderBytesUptoCardSaid : Prop := Claim7.holds Tryd.pinned (.plain (OpenSpec.upto headerBytesSpec)) headerBytesUptoCard

/-- THE SECOND FORM's CARD OF 'trailheadlaw06.HeaderSeeks'. -/
def headerSeeksUptoCard : Claim7 := { stood := { row := headerSeeksUptoRow, standIns := [], harness := (true, "27b7b1b9fed20d507fb3f5d1e0a302dafc00c28084ccd1c687741aa54effa028"), looks := false }, kinds := [], alts := [], laidByText := true, laidKinds := [.data, .data], laidTests := true, laidLooks := .later }
def HeaderSeeksUptoCardSaid : Prop := Claim7.holds Tryd.pinned (.plain (OpenSpec.upto headerSeeksSpec)) headerSeeksUptoCard

/-- THE SECOND FORM's CARD OF 'trailheadlaw06.HeaderMines'. -/
def headerMinesUptoCard : Claim7 := { stood := { row := headerMinesUptoRow, standIns := [], harness := (true, "27b7b1b9fed20d507fb3f5d1e0a302dafc00c28084ccd1c687741aa54effa028"), looks := false }, kinds := [], alts := [], laidByText := true, laidKinds := [.data, .data], laidTests := true, laidLooks := .later }
def HeaderMinesUptoCardSaid : Prop := Claim7.holds Tryd.pinned (.plain (OpenSpec.upto headerMinesSpec)) headerMinesUptoCard
end Rows
end Go.Proofs.YtnnajeoeeefjaaaDoor
