/- CompactOrder: the statement on data alone, and the row. -/
import Derived.Test.YtjciljaojcekeaaQ22
import Derived.Test.YtjciljaojcekeaaRCompactOrder
namespace Go.Proofs.Ytjciljaojcekeaa.Sx
open Go
set_option linter.unusedVariables false
set_option linter.unusedSimpArgs false
set_option maxRecDepth 100000

theorem compactOrder_pure : CompactOrderPure := by
  intro a ha b hb
  refine Ev.get ?_
  unfold trailheadlaw03_CompactOrder.f trailheadlaw03_CompactOrder.tree
  refine Ev.bind compact_alive ?_
  simp only [Bool.not_true, cond_false]
  obtain ⟨x, hx, rfl⟩ := num_of ha
  obtain ⟨y, hy, rfl⟩ := num_of hb
  refine Ev.bind (refless_num hy hx) ?_
  by_cases h : y < x
  · rw [decide_eq_true h]; exact Ev.const fun _ => rfl
  rw [decide_eq_false h]
  simp only [cond_false]
  refine Ev.bind (enc_ev hx) (Ev.bind (decA _) (Ev.bind (enc_ev hy) (Ev.bind (decA _) ?_)))
  rw [dAll_enc hx, dAll_enc hy]
  refine Ev.bind (refless_num (Nat.lt_of_le_of_lt (cut_le y) hy) (Nat.lt_of_le_of_lt (cut_le x) hx)) (Ev.const fun k => ?_)
  rw [decide_eq_false (show ¬ cut y < cut x by have := cut_mono (show x ≤ y by omega); omega)]; rfl

theorem compactOrder_said : Rows.CompactOrderSaid := compactOrder_row compactOrder_pure

end Go.Proofs.Ytjciljaojcekeaa.Sx
