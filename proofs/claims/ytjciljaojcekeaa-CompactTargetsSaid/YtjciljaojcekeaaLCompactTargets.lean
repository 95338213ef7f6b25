/- CompactTargets: the statement on data alone, and the row. -/
import Derived.Test.YtjciljaojcekeaaQ22
import Derived.Test.YtjciljaojcekeaaRCompactTargets
namespace Go.Proofs.Ytjciljaojcekeaa.Sx
open Go
set_option linter.unusedVariables false
set_option linter.unusedSimpArgs false
set_option maxRecDepth 100000

theorem compactTargets_pure : CompactTargetsPure := by
  intro b hb l hl
  refine Ev.get ?_
  unfold trailheadlaw03_CompactTargets.f trailheadlaw03_CompactTargets.tree
  refine Ev.bind compact_alive ?_
  simp only [Bool.not_true, cond_false]
  refine Ev.bind (target_ev b l) (Ev.bind (reftarget_ev b l) (Ev.bind (target_ev l l) (Ev.bind (refdecA l) (Ev.const fun k => ?_))))
  rw [decide_eq_true rfl]
  simp only [cond_true, beq_self_eq_true]
  have h := dAll_lt l
  rw [zeroNum, toNum_eq h (by omega)]
  unfold tgt
  generalize dAll l = q at *
  obtain ⟨y, yl, yh⟩ := q
  cases yl <;> cases yh <;> by_cases h0 : y = 0 <;> simp [h0]

theorem compactTargets_said : Rows.CompactTargetsSaid := compactTargets_row compactTargets_pure

end Go.Proofs.Ytjciljaojcekeaa.Sx
