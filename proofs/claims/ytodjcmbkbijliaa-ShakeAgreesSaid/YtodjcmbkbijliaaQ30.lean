/- ShakeSilent: the statement on data. -/
import Derived.Test.YtodjcmbkbijliaaRShakeSilent
namespace Go.Proofs.Ytodjcmbkbijliaa.Sy
open Go Go.Proofs
set_option linter.unusedVariables false
set_option linter.unusedSimpArgs false

theorem i64_ok {n : Int} (h : -9223372036854775808 ≤ n) (h' : n ≤ 9223372036854775807) : IntKind.i64.wrap n = n := by rw [IntKind.wrap_i64]; omega

theorem alive21 (k : Nat) : trailheadlaw21_alive.f k = some true := by kernel_rfl

theorem shakeSilent_pure : ShakeSilentPure := by
  intro a0 _ a1 _ a2 _ a3 _
  refine ⟨0, ?_⟩
  unfold trailheadlaw21_ShakeSilent.f trailheadlaw21_ShakeSilent.tree
  rw [alive21]
  simp only [Option.bind_some, Bool.not_true, cond_false]
  by_cases h1 : a2 < 0
  · rw [decide_eq_true h1]; rfl
  rw [decide_eq_false h1, cond_false]
  by_cases h2 : a2 > 1099511627776
  · rw [decide_eq_true h2]; rfl
  rw [decide_eq_false h2, cond_false]
  by_cases h3 : a3 < 0
  · rw [decide_eq_true h3]; rfl
  rw [decide_eq_false h3, cond_false]
  by_cases h4 : a3 > 1099511627776
  · rw [decide_eq_true h4]; rfl
  rw [decide_eq_false h4, cond_false]
  have e1 : addI .i64 a2 60 = a2 + 60 := i64_ok (by omega) (by omega)
  have e2 : addI .i64 (a2 + 60) 1 = a2 + 60 + 1 := i64_ok (by omega) (by omega)
  have e3 : addI .i64 (a2 + 60 + 1) a3 = a2 + 60 + 1 + a3 := i64_ok (by omega) (by omega)
  have s1 : subI .i64 (a2 + 60) a2 = 60 := by
    have : a2 + 60 - a2 = 60 := by omega
    unfold subI; rw [this]; rfl
  have s2 : subI .i64 (a2 + 60 + 1 + a3) a2 = 61 + a3 := by
    have : a2 + 60 + 1 + a3 - a2 = 61 + a3 := by omega
    unfold subI; rw [this]; exact i64_ok (by omega) (by omega)
  have d1 : decide ((60 : Int) > 60) = false := rfl
  have d2 : decide (61 + a3 > 60) = true := decide_eq_true (by omega)
  rw [e1, e2, e3]
  cases a1 <;> simp [shake_Open.f, shake_Open.tree, shake_Own_hello.f, shake_Own_hello.tree, shake_Hand_Tick.f, shake_Hand_Tick.tree, shake_Hand_Gone.f, shake_Hand_Gone.tree, s1, s2, d1, d2]

theorem shakeSilent_said : Rows.ShakeSilentSaid := shakeSilent_row shakeSilent_pure

end Go.Proofs.Ytodjcmbkbijliaa.Sy
