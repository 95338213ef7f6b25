/- PaceEven: the statement on data alone, and the row. -/
import Derived.Test.YtjciljaojcekeaaQ25
import Derived.Test.YtjciljaojcekeaaRPaceEven
namespace Go.Proofs.Ytjciljaojcekeaa.Sx
open Go
set_option linter.unusedVariables false
set_option linter.unusedSimpArgs false
set_option maxRecDepth 100000

theorem paceEven_pure : PaceEvenPure := by
  intro p hp a ha from_ hf more hm
  have hf' := wf_i64.1 hf
  have hm' := wf_i64.1 hm
  obtain ⟨lim, iv, sp, fu, easy, u, v, r⟩ := p
  refine Ev.get ?_
  unfold trailheadlaw10_PaceEven.f trailheadlaw10_PaceEven.tree
  refine Ev.bind pace_alive ?_
  simp only [Bool.not_true, cond_false]
  refine Ev.bind (refgood_ev lim iv sp fu easy u v r) ?_
  cases hg : pgood lim iv sp fu
  · exact Ev.const fun _ => rfl
  simp only [Bool.not_true, cond_false]
  by_cases h1 : from_ < 0
  · rw [decide_eq_true h1]; exact Ev.const fun _ => rfl
  rw [decide_eq_false h1]
  simp only [cond_false]
  by_cases h2 : from_ > 1099511627776
  · rw [decide_eq_true h2]; exact Ev.const fun _ => rfl
  rw [decide_eq_false h2]
  simp only [cond_false]
  by_cases h3 : more < 0
  · rw [decide_eq_true h3]; exact Ev.const fun _ => rfl
  rw [decide_eq_false h3]
  simp only [cond_false]
  by_cases h4 : more > 1099511627776
  · rw [decide_eq_true h4]; exact Ev.const fun _ => rfl
  rw [decide_eq_false h4]
  simp only [cond_false]
  obtain ⟨n, hn, rfl⟩ := num_of ha
  have hB := refenc_ev hn
  have hdB := dAll_enc hn
  have hcB := enc_cut n
  obtain ⟨B, eB⟩ : ∃ B : Int, (enc' n : Int) = B := ⟨_, rfl⟩
  rw [← Int.natCast_inj, eB] at hcB
  rw [eB] at hB hdB
  refine Ev.bind hB ?_
  have hT := reftarget_ev B lim
  obtain ⟨T, eT⟩ : ∃ T, tgt B lim = T := ⟨_, rfl⟩
  rw [eT] at hT
  obtain ⟨t0, tb⟩ := T
  refine Ev.bind hT ?_
  cases tb
  · exact Ev.const fun _ => rfl
  simp only [Bool.not_true, cond_false]
  obtain ⟨E, w, o, h⟩ := okp_of hg (congrArg Prod.snd eT)
  have et : t0 = o := congrArg Prod.fst (eT.symm.trans h.old)
  subst et
  have hw := h.w2
  have hwm := h.wm
  have ew := h.ew
  have ho : t0 = cut n := by rw [tgt_ok h.old, hdB]
  obtain ⟨ho0, hoE⟩ := okp_le h
  have hE := h.lt
  have hmul : mulI .i64 iv sp = (w : Int) := by unfold mulI; rw [ew, wrapI _ (by omega)]
  rw [hmul]
  have hr1 := retarget_ev lim iv sp fu easy u v r B from_ (addI .i64 from_ (w : Int))
  rw [add_sub (by omega) (by omega), okp_rt h, took_same _ rfl, Nat.mul_div_cancel _ (by omega), if_neg (by omega), if_neg (by omega), ho, hcB] at hr1
  refine Ev.bind hr1 ?_
  simp only [bne_self_eq_false, cond_false]
  refine Ev.bind (moveup_num t0 2) (Ev.bind (reftarget_ev _ _) ?_)
  rw [h.self]
  rw [show toNum (t0 * 2 ^ 2) = toNum (t0 * 2 ^ 2 % 2 ^ 256) from toNum_congr (by rw [Nat.mod_mod])]
  have hF := refenc_ev (show t0 * 2 ^ 2 % 2 ^ 256 < 2 ^ 256 from Nat.mod_lt _ (by omega))
  obtain ⟨F, eF⟩ : ∃ F : Int, (enc' (t0 * 2 ^ 2 % 2 ^ 256) : Int) = F := ⟨_, rfl⟩
  rw [eF] at hF
  refine Ev.bind hF (Ev.bind (movedown_num (Nat.mod_lt _ (by omega)) 2) ?_)
  rw [toNum_eq (by omega) (by omega)]
  have hre := even_most h easy u v r (show 0 ≤ from_ ∧ from_ ≤ 2 ^ 40 by omega) (show 0 ≤ more ∧ more ≤ 2 ^ 40 by omega)
  by_cases h5 : t0 * 2 ^ 2 < 2 ^ 256
  · rw [Nat.mod_eq_of_lt h5, show t0 * 2 ^ 2 = 4 * t0 by omega] at eF
    rw [eF] at hre
    rw [Nat.mod_eq_of_lt h5, decide_eq_true (show t0 * 2 ^ 2 / 2 ^ 2 = t0 by omega)]
    simp only [Bool.not_true, cond_false]
    refine Ev.bind (refless_num hE h5) ?_
    by_cases h6 : E < t0 * 2 ^ 2
    · rw [decide_eq_true h6]
      simp only [cond_true]
      rw [if_pos (by omega)] at hre
      exact Ev.bind hre (Ev.const fun k => by simp)
    · rw [decide_eq_false h6]
      simp only [cond_false]
      rw [if_neg (by omega)] at hre
      exact Ev.bind hre (Ev.const fun k => by simp)
  · rw [decide_eq_false (by omega)]
    simp only [Bool.not_false, cond_true]
    rw [if_pos (by omega)] at hre
    exact Ev.bind hre (Ev.const fun k => by simp)

theorem paceEven_said : Rows.PaceEvenSaid := paceEven_row paceEven_pure

end Go.Proofs.Ytjciljaojcekeaa.Sx
