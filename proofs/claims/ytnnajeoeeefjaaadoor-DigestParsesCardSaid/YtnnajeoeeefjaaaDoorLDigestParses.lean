/- DigestParses: the statement on data, and the card. -/
import Derived.Test.YtnnajeoeeefjaaaDoorQ66
import Derived.Test.YtnnajeoeeefjaaaDoorRDigestParses
namespace Go.Proofs.YtnnajeoeeefjaaaDoor.Sy
open Go
set_option linter.unusedVariables false
set_option linter.unusedSimpArgs false

theorem digestParses_pure : DigestParsesPure := by
  intro s hs
  refine ⟨30000, ?_⟩
  obtain ⟨hb, _⟩ : byteL s ∧ s.length ≤ reachBytes := hs
  have hk : 20000 < 30000 := by omega
  generalize 30000 = k at hk
  have e0 : gv0 = H8 := rfl
  have e1 : gv1 = K64 := rfl
  rw [e0, e1]
  unfold trailheadlaw01_DigestParses.f trailheadlaw01_DigestParses.tree
  rw [alive01 k hk, Option.bind_some, Bool.not_true, cond_false]
  by_cases hl : (s.length : Int) > 100
  · rw [dt hl]; rfl
  rw [df hl, cond_false]
  rcases parse_eq k s hb (by omega) with ⟨x, h1, h2, h3, h4⟩ | ⟨h1, h2⟩
  · rw [h1, Option.bind_some, rshow_eq k x h3 h2 (by omega), Option.bind_some, dt h4]
    rfl
  · rw [h1]
    rfl

theorem digestParses_said : Rows.DigestParsesCardSaid := digestParses_card digestParses_pure

end Go.Proofs.YtnnajeoeeefjaaaDoor.Sy
