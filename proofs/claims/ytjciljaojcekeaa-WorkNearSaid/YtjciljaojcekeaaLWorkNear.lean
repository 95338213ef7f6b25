/- WorkNear: the statement on data alone, and the row. -/
import Derived.Test.YtjciljaojcekeaaQ23
import Derived.Test.YtjciljaojcekeaaRWorkNear
namespace Go.Proofs.Ytjciljaojcekeaa.Sx
open Go
set_option linter.unusedVariables false
set_option linter.unusedSimpArgs false
set_option maxRecDepth 100000

theorem workNear_pure : WorkNearPure := by
  intro a ha b hb c hc
  refine Ev.get ?_
  unfold trailheadlaw04_WorkNear.f trailheadlaw04_WorkNear.tree
  refine Ev.bind work_alive ?_
  simp only [Bool.not_true, cond_false]
  obtain ⟨x, hx, rfl⟩ := num_of ha
  obtain ⟨y, hy, rfl⟩ := num_of hb
  obtain ⟨z, hz, rfl⟩ := num_of hc
  refine Ev.bind (refadd_num hx hz) ?_
  have near : Ev (fun k => work_Near.f k (toNum x) (toNum y) (toNum z)) (decide (y ≤ x + z)) := by
    unfold work_Near.f work_Near.tree
    refine Ev.bind (sub_num hy hx) ?_
    by_cases h : y < x
    · rw [decide_eq_true h]
      exact Ev.const fun k => by rw [decide_eq_true (show y ≤ x + z by omega)]; rfl
    · rw [decide_eq_false h, subNum (by omega)]
      simp only [cond_false]
      refine Ev.bind (less_num hz (by omega)) (Ev.const fun k => ?_)
      congr 1
      rw [Bool.eq_iff_iff, Bool.not_eq_true', decide_eq_false_iff_not, decide_eq_true_iff]; omega
  refine Ev.bind near ?_
  by_cases h : 2 ^ 256 ≤ x + z
  · rw [decide_eq_true h, decide_eq_true (show y ≤ x + z by omega)]; exact Ev.const fun _ => rfl
  · rw [decide_eq_false h]
    simp only [cond_false]
    refine Ev.bind (refless_num (by omega) hy) (Ev.const fun k => ?_)
    congr 1
    rw [beq_iff_eq, Bool.eq_iff_iff, Bool.not_eq_true', decide_eq_false_iff_not, decide_eq_true_iff]; omega

theorem workNear_said : Rows.WorkNearSaid := workNear_row workNear_pure

end Go.Proofs.Ytjciljaojcekeaa.Sx
