/- DigestIs: the statement on data, and the card. -/
import Derived.Test.YtnnajeoeeefjaaaDoorQ64
import Derived.Test.YtnnajeoeeefjaaaDoorRDigestIs
namespace Go.Proofs.YtnnajeoeeefjaaaDoor.Sy
open Go
set_option linter.unusedVariables false
set_option linter.unusedSimpArgs false

theorem digestIs_pure : DigestIsPure := by
  intro s hs
  refine ⟨30000, ?_⟩
  obtain ⟨hb, _⟩ : byteL s ∧ s.length ≤ reachBytes := hs
  have hk : 20000 < 30000 ∧ 29000 < 30000 := by omega
  generalize 30000 = k at hk
  have e0 : gv0 = H8 := rfl
  have e1 : gv1 = K64 := rfl
  rw [e0, e1]
  unfold trailheadlaw01_DigestIs.f trailheadlaw01_DigestIs.tree
  rw [alive01 k hk.1, Option.bind_some, Bool.not_true, cond_false]
  by_cases hl : (s.length : Int) > 1024
  · rw [dt hl]; rfl
  rw [df hl, cond_false, of1_eq k s hb hk.1 (by omega), Option.bind_some, rof_eq k s hb (by omega) (by omega), Option.bind_some, dt rfl, cond_true]
  rw [double1_eq k s hb hk.1 (by omega), Option.bind_some, rdouble_eq k s hb (by omega) (by omega), Option.bind_some, dt rfl]

theorem digestIs_said : Rows.DigestIsCardSaid := digestIs_card digestIs_pure

end Go.Proofs.YtnnajeoeeefjaaaDoor.Sy
