/- EnvelopeTakes: the statement on data, and the card. -/
import Derived.Test.YtkcdbbflelgbeaaDoorQ101
import Derived.Test.YtkcdbbflelgbeaaDoorREnvelopeTakes
namespace Go.Proofs.YtkcdbbflelgbeaaDoor.Sy
open Go
set_option linter.unusedVariables false
set_option linter.unusedSimpArgs false

theorem envelopeTakes_pure : EnvelopeTakesPure := by
  intro s hs
  refine ⟨300000, ?_⟩
  obtain ⟨hb, _⟩ : byteL s ∧ s.length ≤ reachBytes := hs
  have hk : 200000 < 300000 := by omega
  generalize 300000 = k at hk
  have e0 : gv1 = H8 := rfl
  have e1 : gv2 = K64 := rfl
  rw [e0, e1]
  unfold trailheadlaw07_EnvelopeTakes.f trailheadlaw07_EnvelopeTakes.tree
  rw [alive07 k hk, Option.bind_some, Bool.not_true, cond_false]
  by_cases hl : (s.length : Int) > 4096
  · rw [dt hl]; rfl
  rw [df hl, cond_false, take_eq7 k s hb (by omega) (by omega), Option.bind_some, rtake_eq7 k s hb (by omega) hk, Option.bind_some, eqDen7]
  have e : decide ((tk s).1 = ((tk s).1.1, (tk s).1.2)) = true := dt rfl
  simp only [e, cond_true, beqt rfl]
  rfl

theorem envelopeTakes_said : Rows.EnvelopeTakesCardSaid := envelopeTakes_card envelopeTakes_pure

end Go.Proofs.YtkcdbbflelgbeaaDoor.Sy
