/- CompactMeets: the statement on data alone, and the row. -/
import Derived.Test.YtjciljaojcekeaaQ22
import Derived.Test.YtjciljaojcekeaaRCompactMeets
namespace Go.Proofs.Ytjciljaojcekeaa.Sx
open Go
set_option linter.unusedVariables false
set_option linter.unusedSimpArgs false
set_option maxRecDepth 100000

theorem compactMeets_pure : CompactMeetsPure := by
  intro h hh a ha b hb
  refine Ev.get ?_
  unfold trailheadlaw03_CompactMeets.f trailheadlaw03_CompactMeets.tree
  refine Ev.bind compact_alive ?_
  simp only [Bool.not_true, cond_false]
  obtain ⟨x, hx, rfl⟩ := hash_of hh
  obtain ⟨y, hy, rfl⟩ := num_of ha
  obtain ⟨z, hz, rfl⟩ := num_of hb
  refine Ev.bind (number_ev hx) (Ev.bind (meets_ev hx hy) (Ev.bind (refless_num hy hx) ?_))
  simp only [beq_self_eq_true, cond_true, Bool.not_not]
  by_cases h1 : y < x
  · rw [decide_eq_true h1]; exact Ev.const fun _ => rfl
  rw [decide_eq_false h1]
  simp only [cond_false]
  refine Ev.bind (refless_num hz hy) ?_
  by_cases h2 : z < y
  · rw [decide_eq_true h2]; exact Ev.const fun _ => rfl
  rw [decide_eq_false h2]
  simp only [cond_false]
  refine Ev.bind (meets_ev hx hz) (Ev.const fun k => ?_)
  rw [decide_eq_false (show ¬ z < x by omega)]; rfl

theorem compactMeets_said : Rows.CompactMeetsSaid := compactMeets_row compactMeets_pure

end Go.Proofs.Ytjciljaojcekeaa.Sx
