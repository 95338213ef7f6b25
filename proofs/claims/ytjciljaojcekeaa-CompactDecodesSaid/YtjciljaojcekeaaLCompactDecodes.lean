/- CompactDecodes: the statement on data alone, and the row. -/
import Derived.Test.YtjciljaojcekeaaQ22
import Derived.Test.YtjciljaojcekeaaRCompactDecodes
namespace Go.Proofs.Ytjciljaojcekeaa.Sx
open Go
set_option linter.unusedVariables false
set_option linter.unusedSimpArgs false
set_option maxRecDepth 100000

theorem compactDecodes_pure : CompactDecodesPure := by
  intro b hb
  refine Ev.get ?_
  unfold trailheadlaw03_CompactDecodes.f trailheadlaw03_CompactDecodes.tree
  refine Ev.bind compact_alive ?_
  simp only [Bool.not_true, cond_false]
  refine Ev.bind (decA b) (Ev.bind (refdecA b) ?_)
  rw [decide_eq_true rfl]
  simp only [cond_true, beq_self_eq_true]
  refine Ev.const fun k => ?_
  unfold compact_Good.f compact_Good.tree
  by_cases h0 : b ≥ 0
  · rw [decide_eq_true h0]
    simp only [cond_true, Option.bind_some]
    congr 1
    rw [beq_iff_eq, Bool.eq_iff_iff, decide_eq_true_iff, decide_eq_true_iff]; omega
  · rw [decide_eq_false h0]; rfl

theorem compactDecodes_said : Rows.CompactDecodesSaid := compactDecodes_row compactDecodes_pure

end Go.Proofs.Ytjciljaojcekeaa.Sx
