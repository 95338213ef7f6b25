/- PaceBounds: the statement on data alone, and the row. -/
import Derived.Test.YtjciljaojcekeaaQ24
import Derived.Test.YtjciljaojcekeaaRPaceBounds
namespace Go.Proofs.Ytjciljaojcekeaa.Sx
open Go
set_option linter.unusedVariables false
set_option linter.unusedSimpArgs false
set_option maxRecDepth 100000

theorem paceBounds_pure : PaceBoundsPure := by
  intro p hp bits hbits from_ hf to_ hto
  obtain ⟨lim, iv, sp, fu, easy, u, v, r⟩ := p
  refine Ev.get ?_
  unfold trailheadlaw10_PaceBounds.f trailheadlaw10_PaceBounds.tree
  refine Ev.bind pace_alive ?_
  simp only [Bool.not_true, cond_false]
  refine Ev.bind (reftarget_ev bits lim) ?_
  cases ht : (tgt bits lim).2
  · exact Ev.const fun _ => rfl
  simp only [Bool.not_true, cond_false]
  refine Ev.bind (refgood_ev lim iv sp fu easy u v r) ?_
  cases hg : pgood lim iv sp fu
  · exact Ev.const fun _ => rfl
  simp only [Bool.not_true, cond_false]
  obtain ⟨E, w, o, h⟩ := okp_of hg ht
  have hw := h.w2
  obtain ⟨ho0, hoE⟩ := okp_le h
  have hE := h.lt
  rw [h.old]
  refine Ev.bind (moveup_num o 2) ?_
  rw [show toNum (o * 2 ^ 2) = toNum (o * 2 ^ 2 % 2 ^ 256) from toNum_congr (by rw [Nat.mod_mod])]
  refine Ev.bind (movedown_num (Nat.mod_lt _ (by omega)) 2) ?_
  rw [toNum_eq (by omega) (by omega)]
  by_cases h5 : o * 2 ^ 2 < 2 ^ 256
  · rw [Nat.mod_eq_of_lt h5, decide_eq_true (show o * 2 ^ 2 / 2 ^ 2 = o by omega)]
    simp only [Bool.not_true, cond_false]
    refine Ev.bind (retarget_ev lim iv sp fu easy u v r bits from_ to_) (Ev.bind (reftarget_ev _ _) ?_)
    rw [okp_tgt h]
    simp only [cond_true]
    refine Ev.bind (moveup_num o 2) ?_
    have hN : o * took w (subI .i64 to_ from_) / w ≤ o * 4 := by
      rw [Nat.div_le_iff_le_mul_add_pred (by omega)]
      have := Nat.mul_le_mul_left o (took_le w (subI .i64 to_ from_))
      rw [show o * (4 * w) = w * (o * 4) by rw [Nat.mul_comm w, Nat.mul_assoc]] at this
      omega
    generalize o * took w (subI .i64 to_ from_) / w = N at *
    have hb : (if E < N then E else cut (if N = 0 then 1 else N)) ≤ o * 4 ∧ (if E < N then E else cut (if N = 0 then 1 else N)) ≤ E := by
      split
      · omega
      · have := cut_le (if N = 0 then 1 else N)
        have hp := h.pos
        split at this <;> rename_i hz <;> simp only [hz, if_true, if_false] <;> omega
    refine Ev.bind (refless_num h5 (Nat.lt_of_le_of_lt hb.2 hE)) (Ev.const fun k => ?_)
    rw [decide_eq_false (by omega)]; rfl
  · rw [decide_eq_false (by omega)]; exact Ev.const fun _ => rfl

theorem paceBounds_said : Rows.PaceBoundsSaid := paceBounds_row paceBounds_pure

end Go.Proofs.Ytjciljaojcekeaa.Sx
