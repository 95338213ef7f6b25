/- WholeQuotients: the statement on data alone, and the row. -/
import Derived.Test.YtjciljaojcekeaaQ15
import Derived.Test.YtjciljaojcekeaaRWholeQuotients
namespace Go.Proofs.Ytjciljaojcekeaa.Sx
open Go
set_option linter.unusedVariables false
set_option linter.unusedSimpArgs false
set_option maxRecDepth 100000

theorem wholeQuotients_pure : WholeQuotientsPure := by
  intro a ha b hb
  refine Ev.get ?_
  unfold trailheadlaw02_WholeQuotients.f trailheadlaw02_WholeQuotients.tree
  refine Ev.bind whole_alive ?_
  simp only [Bool.not_true, cond_false]
  obtain ⟨x, hx, rfl⟩ := num_of ha
  obtain ⟨y, hy, rfl⟩ := num_of hb
  refine Ev.bind (quo_ev hx hy) (Ev.bind (refquo_ev hx hy) ?_)
  rw [decide_eq_true rfl, decide_eq_true rfl]
  simp only [cond_true]
  refine Ev.bind (zero_ev hy) ?_
  by_cases h0 : y = 0
  · rw [decide_eq_true h0]; exact Ev.const fun _ => rfl
  · rw [decide_eq_false h0, if_neg h0]
    simp only [cond_false]
    have hl := Nat.mod_lt x (show 0 < y by omega)
    refine Ev.bind (less_num (by omega) hy) (Ev.const fun k => ?_)
    rw [decide_eq_true hl]

theorem wholeQuotients_said : Rows.WholeQuotientsSaid := wholeQuotients_row wholeQuotients_pure

end Go.Proofs.Ytjciljaojcekeaa.Sx
