/- PaceSlower: the statement on data alone, and the row. -/
import Derived.Test.YtjciljaojcekeaaQ24
import Derived.Test.YtjciljaojcekeaaRPaceSlower
namespace Go.Proofs.Ytjciljaojcekeaa.Sx
open Go
set_option linter.unusedVariables false
set_option linter.unusedSimpArgs false
set_option maxRecDepth 100000

theorem paceSlower_pure : PaceSlowerPure := by
  intro p hp bits hbits a ha b hb
  have ha' := wf_i64.1 ha
  have hb' := wf_i64.1 hb
  obtain ⟨lim, iv, sp, fu, easy, u, v, r⟩ := p
  refine Ev.get ?_
  unfold trailheadlaw10_PaceSlower.f trailheadlaw10_PaceSlower.tree
  refine Ev.bind pace_alive ?_
  simp only [Bool.not_true, cond_false]
  refine Ev.bind (refgood_ev lim iv sp fu easy u v r) ?_
  cases hg : pgood lim iv sp fu
  · exact Ev.const fun _ => rfl
  simp only [Bool.not_true, cond_false]
  by_cases h1 : a < 0
  · rw [decide_eq_true h1]; exact Ev.const fun _ => rfl
  rw [decide_eq_false h1]
  simp only [cond_false]
  by_cases h2 : b < a
  · rw [decide_eq_true h2]; exact Ev.const fun _ => rfl
  rw [decide_eq_false h2]
  simp only [cond_false]
  by_cases h3 : b > 1099511627776
  · rw [decide_eq_true h3]; exact Ev.const fun _ => rfl
  rw [decide_eq_false h3]
  simp only [cond_false]
  refine Ev.bind (retarget_ev lim iv sp fu easy u v r bits 0 a) (Ev.bind (reftarget_ev _ _) (Ev.bind (retarget_ev lim iv sp fu easy u v r bits 0 b) (Ev.bind (reftarget_ev _ _) (Ev.bind (refless_num (tgt_lt _ _) (tgt_lt _ _)) (Ev.const fun k => ?_)))))
  rw [subI_zero ha', subI_zero hb']
  congr 1
  rw [Bool.not_eq_true', decide_eq_false_iff_not, Nat.not_lt]
  cases ht : (tgt bits lim).2
  · have e : ∀ d, rt lim iv sp fu bits d = lim := fun d => by unfold rt; rw [if_neg (by rw [ht]; simp)]
    rw [e, e]; exact Nat.le_refl _
  · obtain ⟨E, w, o, h⟩ := okp_of hg ht
    rw [okp_tgt h, okp_tgt h]
    have hw := h.w2
    have hpos := h.pos
    have hN : o * took w a / w ≤ o * took w b / w := Nat.div_le_div_right (Nat.mul_le_mul_left _ (took_mono w (by omega)))
    generalize o * took w a / w = A at *
    generalize o * took w b / w = B at *
    simp only
    by_cases hB : E < B
    · rw [if_pos hB]
      by_cases hA : E < A
      · rw [if_pos hA]; exact Nat.le_refl _
      · rw [if_neg hA]
        refine Nat.le_trans (cut_le _) ?_
        split <;> omega
    · rw [if_neg hB, if_neg (by omega)]
      refine cut_mono ?_
      split <;> split <;> omega

theorem paceSlower_said : Rows.PaceSlowerSaid := paceSlower_row paceSlower_pure

end Go.Proofs.Ytjciljaojcekeaa.Sx
