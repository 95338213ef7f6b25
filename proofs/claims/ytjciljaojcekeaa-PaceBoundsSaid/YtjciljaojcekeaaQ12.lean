/- Down: divided by a power of two. -/
import Derived.Test.YtjciljaojcekeaaQ11
namespace Go.Proofs.Ytjciljaojcekeaa.Sx
open Go
set_option linter.unusedVariables false
set_option linter.unusedSimpArgs false
set_option maxRecDepth 100000

theorem orI_comm (x y : Int) : orI .u64 x y = orI .u64 y x := by
  unfold orI; rw [BitVec.or_comm]

theorem pq' (s : Nat) (hs : s < 64) : 2 ^ (64 - s) * 2 ^ s = 2 ^ 64 := by rw [← Nat.pow_add]; congr 1; omega

/-- A word moved down, with what comes from the one above. -/
def dnW (s n m : Nat) : Nat := n / 2 ^ s + 2 ^ (64 - s) * (m % 2 ^ s)

theorem dnW_lt (s n m : Nat) (hs : s < 64) (h : n < 2 ^ 64) : dnW s n m < 2 ^ 64 := by
  unfold dnW
  have h1 : n / 2 ^ s < 2 ^ (64 - s) := (Nat.div_lt_iff_lt_mul (Nat.two_pow_pos _)).2 (by rw [pq' s hs]; exact h)
  have := Nat.mul_le_mul_left (2 ^ (64 - s)) (Nat.mod_lt m (Nat.two_pow_pos s))
  rw [pq' s hs, Nat.succ_eq_add_one, Nat.mul_add, Nat.mul_one] at this
  omega

theorem word_down (s n m : Nat) (hs : s < 64) (h : n < 2 ^ 64) : orI .u64 (shrI .u64 (n : Int) (s : Int)) (shlI .u64 (m : Int) (subI .i64 64 (s : Int))) = ((dnW s n m : Nat) : Int) := by
  have hlt := dnW_lt s n m hs h
  have h1 : n / 2 ^ s < 2 ^ (64 - s) := (Nat.div_lt_iff_lt_mul (Nat.two_pow_pos _)).2 (by rw [pq' s hs]; exact h)
  have e : m * 2 ^ (64 - s) % 2 ^ 64 = 2 ^ (64 - s) * (m % 2 ^ s) := by rw [← pq' s hs, Nat.mul_comm m, Nat.mul_mod_mul_left]
  rw [sub64s s (by omega), shl_u64 _ _ (by omega), shr_u64' _ _ (by omega), e, orI_comm, or_u64 (64 - s) (m % 2 ^ s) (n / 2 ^ s) h1 (by unfold dnW at hlt; omega)]
  unfold dnW
  rw [Nat.add_comm]

theorem top_down (s n : Nat) : n / 2 ^ s = dnW s n 0 := by
  unfold dnW; simp

theorem downV (s n0 n1 n2 n3 : Nat) (hs : s < 64) : (n0 + 2 ^ 64 * (n1 + 2 ^ 64 * (n2 + 2 ^ 64 * n3))) / 2 ^ s = dnW s n0 n1 + 2 ^ 64 * (dnW s n1 n2 + 2 ^ 64 * (dnW s n2 n3 + 2 ^ 64 * dnW s n3 0)) := by
  unfold dnW
  have hp := Nat.two_pow_pos s
  have e0 := Nat.div_add_mod n0 (2 ^ s)
  have e1 := Nat.div_add_mod n1 (2 ^ s)
  have e2 := Nat.div_add_mod n2 (2 ^ s)
  have e3 := Nat.div_add_mod n3 (2 ^ s)
  have l0 := Nat.mod_lt n0 hp
  have hq := pq' s hs
  simp only [Nat.zero_mod, Nat.mul_zero, Nat.add_zero]
  generalize n0 / 2 ^ s = a0 at *
  generalize n1 / 2 ^ s = a1 at *
  generalize n2 / 2 ^ s = a2 at *
  generalize n3 / 2 ^ s = a3 at *
  generalize n0 % 2 ^ s = b0 at *
  generalize n1 % 2 ^ s = b1 at *
  generalize n2 % 2 ^ s = b2 at *
  generalize n3 % 2 ^ s = b3 at *
  generalize 2 ^ (64 - s) = q at *
  generalize 2 ^ s = p at *
  have k : ∀ b : Nat, p * (q * b) = 2 ^ 64 * b := fun b => by rw [← hq, Nat.mul_comm q p, Nat.mul_assoc]
  have e : n0 + 2 ^ 64 * (n1 + 2 ^ 64 * (n2 + 2 ^ 64 * n3)) = b0 + p * (a0 + q * b1 + 2 ^ 64 * (a1 + q * b2 + 2 ^ 64 * (a2 + q * b3 + 2 ^ 64 * a3))) := by
    simp only [Nat.mul_add, Nat.mul_left_comm p (2 ^ 64), k]
    omega
  rw [e, Nat.add_mul_div_left _ _ hp, Nat.div_eq_of_lt l0, Nat.zero_add]

theorem down_ev {a : List Int} (ha : goodT numT a) (n : Nat) : Ev (fun k => whole_Down.f k a (n : Int)) (toNum (vN a / 2 ^ n)) := by
  by_cases hn : n < 256
  · obtain ⟨n0, n1, n2, n3, rfl, h0, h1, h2, h3⟩ := num4 ha
    refine Ev.of 6 fun m => ?_
    have hs : n % 64 < 64 := by omega
    obtain ⟨d1, d2⟩ := s_ok (n % 64) hs
    unfold whole_Down.f whole_Down.tree
    rw [mx0, quo64 n hn, rem64, decide_eq_false (show ¬ (n : Int) ≥ 256 by omega)]
    simp only [cond_false]
    rw [vN4]
    have hw : n / 64 < 4 := by omega
    have en : n = 64 * (n / 64) + n % 64 := by omega
    have z0 := dnW_lt (n % 64) 0 0 hs (by omega)
    have c0 := dnW_lt (n % 64) n0 n1 hs h0
    have c1 := dnW_lt (n % 64) n1 n2 hs h1
    have c2 := dnW_lt (n % 64) n2 n3 hs h2
    have c3 := dnW_lt (n % 64) n3 0 hs h3
    have zz : dnW (n % 64) 0 0 = 0 := by unfold dnW; simp
    rw [show (n0 + 2 ^ 64 * (n1 + 2 ^ 64 * (n2 + 2 ^ 64 * n3))) / 2 ^ n = (n0 + 2 ^ 64 * (n1 + 2 ^ 64 * (n2 + 2 ^ 64 * n3))) / 2 ^ (64 * (n / 64)) / 2 ^ (n % 64) by
      conv => lhs; rw [en, pow_words]
      rw [Nat.div_div_eq_div_mul]]
    generalize n / 64 = w at *
    generalize n % 64 = s at *
    match w, hw with
    | 0, _ =>
      rw [show ((0 : Nat) : Int) = 0 from rfl, show subI .i64 4 0 = 4 from by decide, down_run0 _ _ _ d1 d2, word_down s n0 n1 hs h0, word_down s n1 n2 hs h1, word_down s n2 n3 hs h2, shr_u64' _ _ (by omega), top_down s n3]
      refine congrArg some (toNum_of (good4 c0 c1 c2 c3) ?_)
      rw [show 2 ^ (64 * 0) = 1 from rfl, Nat.div_one, downV s n0 n1 n2 n3 hs, vN4]; omega
    | 1, _ =>
      rw [show ((1 : Nat) : Int) = 1 from rfl, show subI .i64 4 1 = 3 from by decide, down_run1 _ _ _ d1 d2, word_down s n1 n2 hs h1, word_down s n2 n3 hs h2, shr_u64' _ _ (by omega), top_down s n3, show (0 : Int) = ((0 : Nat) : Int) from rfl]
      refine congrArg some (toNum_of (good4 c1 c2 c3 (by omega)) ?_)
      rw [show (n0 + 2 ^ 64 * (n1 + 2 ^ 64 * (n2 + 2 ^ 64 * n3))) / 2 ^ (64 * 1) = n1 + 2 ^ 64 * (n2 + 2 ^ 64 * (n3 + 2 ^ 64 * 0)) by omega, downV s n1 n2 n3 0 hs, vN4, zz]; omega
    | 2, _ =>
      rw [show ((2 : Nat) : Int) = 2 from rfl, show subI .i64 4 2 = 2 from by decide, down_run2 _ _ _ d1 d2, word_down s n2 n3 hs h2, shr_u64' _ _ (by omega), top_down s n3, show (0 : Int) = ((0 : Nat) : Int) from rfl]
      refine congrArg some (toNum_of (good4 c2 c3 (by omega) (by omega)) ?_)
      rw [show (n0 + 2 ^ 64 * (n1 + 2 ^ 64 * (n2 + 2 ^ 64 * n3))) / 2 ^ (64 * 2) = n2 + 2 ^ 64 * (n3 + 2 ^ 64 * (0 + 2 ^ 64 * 0)) by omega, downV s n2 n3 0 0 hs, vN4, zz]; omega
    | 3, _ =>
      rw [show ((3 : Nat) : Int) = 3 from rfl, show subI .i64 4 3 = 1 from by decide, down_run3 _ _ _ d1 d2, shr_u64' _ _ (by omega), top_down s n3, show (0 : Int) = ((0 : Nat) : Int) from rfl]
      refine congrArg some (toNum_of (good4 c3 (by omega) (by omega) (by omega)) ?_)
      rw [show (n0 + 2 ^ 64 * (n1 + 2 ^ 64 * (n2 + 2 ^ 64 * n3))) / 2 ^ (64 * 3) = n3 + 2 ^ 64 * (0 + 2 ^ 64 * (0 + 2 ^ 64 * 0)) by omega, downV s n3 0 0 0 hs, vN4, zz]; omega
  · refine Ev.const fun k => ?_
    unfold whole_Down.f whole_Down.tree
    rw [decide_eq_true (show (n : Int) ≥ 256 by omega)]
    simp only [cond_true]
    rw [← toNum_zero]
    have : 2 ^ 256 ≤ 2 ^ n := Nat.pow_le_pow_right (by omega) (by omega)
    have l := vN_lt ha
    rw [Nat.div_eq_of_lt (by omega)]

end Go.Proofs.Ytjciljaojcekeaa.Sx
