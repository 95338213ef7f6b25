/- WholeBack: the statement on data alone, and the row. -/
import Derived.Test.YtjciljaojcekeaaQ14
import Derived.Test.YtjciljaojcekeaaRWholeBack
namespace Go.Proofs.Ytjciljaojcekeaa.Sx
open Go
set_option linter.unusedVariables false
set_option linter.unusedSimpArgs false
set_option maxRecDepth 100000

theorem wholeBack_pure : WholeBackPure := by
  intro a ha n hn
  have hn' := wf_i64.1 hn
  refine Ev.get ?_
  unfold trailheadlaw02_WholeBack.f trailheadlaw02_WholeBack.tree
  refine Ev.bind whole_alive ?_
  simp only [Bool.not_true, cond_false]
  by_cases h0 : n < 0
  · rw [decide_eq_true h0]; exact Ev.const fun _ => rfl
  rw [decide_eq_false h0]
  simp only [cond_false]
  by_cases h1 : n > 255
  · rw [decide_eq_true h1]; exact Ev.const fun _ => rfl
  rw [decide_eq_false h1]
  simp only [cond_false]
  obtain ⟨m, rfl⟩ : ∃ m : Nat, n = (m : Int) := ⟨n.toNat, by omega⟩
  obtain ⟨x, hx, rfl⟩ := num_of ha
  have hm : m ≤ 256 := by omega
  refine Ev.bind (up_num x m) ?_
  rw [show toNum (x * 2 ^ m) = toNum (x * 2 ^ m % 2 ^ 256) from toNum_congr (by rw [Nat.mod_mod])]
  refine Ev.bind (down_num (Nat.mod_lt _ (by omega)) m) ?_
  rw [up_down hm]
  refine Ev.bind (down_num hx m) ?_
  refine Ev.bind (up_num (x / 2 ^ m) m) ?_
  have hp : 0 < 2 ^ m := Nat.two_pow_pos m
  have hq : 0 < 2 ^ (256 - m) := Nat.two_pow_pos _
  have hdm : x / 2 ^ m * 2 ^ m ≤ x := Nat.div_mul_le_self _ _
  have hml : x % 2 ^ (256 - m) ≤ x := Nat.mod_le _ _
  refine Ev.bind (sub_num hx (Nat.lt_of_le_of_lt hml hx)) ?_
  refine Ev.bind (sub_num hx (Nat.lt_of_le_of_lt hdm hx)) ?_
  rw [subNum hml, subNum hdm, decide_eq_false (show ¬ x < x / 2 ^ m * 2 ^ m by omega)]
  simp only [Bool.not_false, cond_true]
  have e1 : x - x / 2 ^ m * 2 ^ m = x % 2 ^ m := by have := Nat.div_add_mod x (2 ^ m); rw [Nat.mul_comm] at this; omega
  rw [e1]
  obtain ⟨l1, _, hl1, k1⟩ := len_num (x := x % 2 ^ m) (Nat.lt_of_le_of_lt (Nat.mod_le _ _) hx)
  refine Ev.bind hl1 ?_
  have := k1.le (Nat.mod_lt x hp)
  rw [decide_eq_true (show (l1 : Int) ≤ (m : Int) by omega)]
  simp only [cond_true]
  obtain ⟨l2, _, hl2, k2⟩ := len_num (x := x % 2 ^ (256 - m)) (Nat.lt_of_le_of_lt (Nat.mod_le _ _) hx)
  refine Ev.bind hl2 ?_
  have h2 := k2.le (Nat.mod_lt x hq)
  have e2 : subI .i64 256 (m : Int) = ((256 - m : Nat) : Int) := by unfold subI; rw [wrap_i64 (by omega) (by omega)]; omega
  rw [e2, decide_eq_true (show (l2 : Int) ≤ ((256 - m : Nat) : Int) by omega)]
  simp only [cond_true]
  refine Ev.bind (up_num (x - x % 2 ^ (256 - m)) m) ?_
  have e3 : toNum ((x - x % 2 ^ (256 - m)) * 2 ^ m) = toNum 0 := toNum_congr (by
    have e : x - x % 2 ^ (256 - m) = x / 2 ^ (256 - m) * 2 ^ (256 - m) := by have := Nat.div_add_mod x (2 ^ (256 - m)); rw [Nat.mul_comm] at this; omega
    rw [e, Nat.mul_assoc, ← Nat.pow_add, show 256 - m + m = 256 by omega, Nat.mul_mod_left])
  rw [e3, ← zeroNum, decide_eq_true rfl]
  simp only [cond_true]
  obtain ⟨l3, b3, hl3, k3⟩ := len_num hx
  refine Ev.bind hl3 (Ev.const fun k => ?_)
  have e4 : addI .i64 (l3 : Int) (m : Int) = ((l3 + m : Nat) : Int) := by unfold addI; rw [wrap_i64 (by omega) (by omega)]; omega
  rw [e4]
  by_cases hc : ((l3 + m : Nat) : Int) > 256
  · rw [decide_eq_true hc]; rfl
  · rw [decide_eq_false hc]
    simp only [cond_false]
    have : 2 ^ l3 ≤ 2 ^ (256 - m) := Nat.pow_le_pow_right (by omega) (by omega)
    rw [Nat.mod_eq_of_lt (Nat.lt_of_lt_of_le k3.1 this), decide_eq_true rfl]

theorem wholeBack_said : Rows.WholeBackSaid := wholeBack_row wholeBack_pure

end Go.Proofs.Ytjciljaojcekeaa.Sx
