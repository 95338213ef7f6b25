/- WholeHashes: the statement on data alone, and the row. -/
import Derived.Test.YtjciljaojcekeaaQ19
import Derived.Test.YtjciljaojcekeaaRWholeHashes
namespace Go.Proofs.Ytjciljaojcekeaa.Sx
open Go
set_option linter.unusedVariables false
set_option linter.unusedSimpArgs false
set_option maxRecDepth 100000

theorem wholeHashes_pure : WholeHashesPure := by
  intro h hh a ha
  refine Ev.get ?_
  unfold trailheadlaw02_WholeHashes.f trailheadlaw02_WholeHashes.tree
  refine Ev.bind whole_alive ?_
  simp only [Bool.not_true, cond_false]
  obtain ⟨x, hx, rfl⟩ := hash_of hh
  obtain ⟨y, hy, rfl⟩ := num_of ha
  refine Ev.bind (from_ev hx) (Ev.bind (hashes_loop hx false _ 32 0 rfl).ev ?_)
  simp only [sel]
  refine Ev.bind (hash_ev hx) ?_
  rw [decide_eq_true rfl]
  simp only [cond_true]
  refine Ev.bind (hash_ev hy) (Ev.bind (from_ev hy) (Ev.const fun k => ?_))
  rw [decide_eq_true rfl]

theorem wholeHashes_said : Rows.WholeHashesSaid := wholeHashes_row wholeHashes_pure

end Go.Proofs.Ytjciljaojcekeaa.Sx
