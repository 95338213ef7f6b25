/- WorkFalls: the statement on data alone, and the row. -/
import Derived.Test.YtjciljaojcekeaaQ23
import Derived.Test.YtjciljaojcekeaaRWorkFalls
namespace Go.Proofs.Ytjciljaojcekeaa.Sx
open Go
set_option linter.unusedVariables false
set_option linter.unusedSimpArgs false
set_option maxRecDepth 100000

theorem workFalls_pure : WorkFallsPure := by
  intro a ha b hb
  refine Ev.get ?_
  unfold trailheadlaw04_WorkFalls.f trailheadlaw04_WorkFalls.tree
  refine Ev.bind work_alive ?_
  simp only [Bool.not_true, cond_false]
  obtain ⟨x, hx, rfl⟩ := num_of ha
  obtain ⟨y, hy, rfl⟩ := num_of hb
  refine Ev.bind (refless_num hy hx) ?_
  by_cases h : y < x
  · rw [decide_eq_true h]; exact Ev.const fun _ => rfl
  rw [decide_eq_false h]
  simp only [cond_false]
  have h1 := wk_lt hx
  have h2 := wk_lt hy
  refine Ev.bind (of_work hx) (Ev.bind (of_work hy) (Ev.bind (refless_num h1 h2) (Ev.const fun k => ?_)))
  have h3 := wk_mono (show x ≤ y by omega) hy
  have h4 := wk_pos x
  have h5 := wk_pos y
  rw [decide_eq_false (show ¬ wk x < wk y by omega), zeroNum, toNum_eq h2 (by omega), toNum_eq h1 (by omega), decide_eq_false (show ¬ wk x = 0 by omega), decide_eq_false (show ¬ wk y = 0 by omega)]
  rfl

theorem workFalls_said : Rows.WorkFallsSaid := workFalls_row workFalls_pure

end Go.Proofs.Ytjciljaojcekeaa.Sx
