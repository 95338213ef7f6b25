/- CompactEncodes: the statement on data alone, and the row. -/
import Derived.Test.YtjciljaojcekeaaQ22
import Derived.Test.YtjciljaojcekeaaRCompactEncodes
namespace Go.Proofs.Ytjciljaojcekeaa.Sx
open Go
set_option linter.unusedVariables false
set_option linter.unusedSimpArgs false
set_option maxRecDepth 100000

theorem compactEncodes_pure : CompactEncodesPure := by
  intro a ha
  refine Ev.get ?_
  unfold trailheadlaw03_CompactEncodes.f trailheadlaw03_CompactEncodes.tree
  refine Ev.bind compact_alive ?_
  simp only [Bool.not_true, cond_false]
  obtain ⟨x, hx, rfl⟩ := num_of ha
  have hc := Nat.lt_of_le_of_lt (cut_le x) hx
  refine Ev.bind (enc_ev hx) (Ev.bind (decA _) (Ev.bind (refenc_ev hx) ?_))
  rw [dAll_enc hx]
  simp only [bne_self_eq_false, cond_false]
  refine Ev.bind (enc_ev hc) ?_
  rw [enc_cut]
  simp only [bne_self_eq_false, cond_false]
  refine Ev.bind (refless_num hx hc) ?_
  rw [decide_eq_false (show ¬ x < cut x by have := cut_le x; omega)]
  simp only [cond_false]
  refine Ev.bind (refsub_num hx hc) ?_
  rw [toNum_eq hx hc, subNum (cut_le x)]
  by_cases h : x = cut x
  · rw [decide_eq_true h]; exact Ev.const fun _ => rfl
  rw [decide_eq_false h]
  simp only [cond_false]
  have e : x - cut x = x % 2 ^ ex x := by have := cut_add x; omega
  have hl := lost_lt (Ne.symm h)
  rw [e]
  refine Ev.bind (moveup_num _ 15) (Ev.bind (refless_num (by omega) hx) ?_)
  rw [decide_eq_true hl]
  simp only [cond_true]
  refine Ev.bind (moveup_num _ 15) (Ev.bind (movedown_num (by omega) 15) (Ev.const fun k => ?_))
  rw [Nat.mul_div_cancel _ (by omega), decide_eq_true rfl]

theorem compactEncodes_said : Rows.CompactEncodesSaid := compactEncodes_row compactEncodes_pure

end Go.Proofs.Ytjciljaojcekeaa.Sx
