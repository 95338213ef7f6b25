/- Up and Down: multiplied, or divided, by a power of two. -/
import Derived.Test.YtjciljaojcekeaaQ10
namespace Go.Proofs.Ytjciljaojcekeaa.Sx
open Go
set_option linter.unusedVariables false
set_option linter.unusedSimpArgs false
set_option maxRecDepth 100000

theorem mulp (p n0 n1 n2 n3 : Nat) : (n0 + 2 ^ 64 * (n1 + 2 ^ 64 * (n2 + 2 ^ 64 * n3))) * p = p * n0 + 2 ^ 64 * (p * n1 + 2 ^ 64 * (p * n2 + 2 ^ 64 * (p * n3))) := by
  rw [Nat.mul_comm, Nat.mul_add, Nat.mul_left_comm p, Nat.mul_add p, Nat.mul_left_comm p (2 ^ 64) (n2 + 2 ^ 64 * n3), Nat.mul_add p, Nat.mul_left_comm p (2 ^ 64) n3]

theorem mx0 (n : Nat) : mxI (n : Int) 0 = (n : Int) := by
  unfold mxI; rw [if_neg (by omega)]

theorem s_ok (s : Nat) (hs : s < 64) : decide ((s : Int) < 0) = false ∧ decide (subI .i64 64 (s : Int) < 0) = false := by
  rw [sub64s s (by omega)]
  exact ⟨decide_eq_false (by omega), decide_eq_false (by omega)⟩

theorem pow_words (w s : Nat) : 2 ^ (64 * w + s) = 2 ^ (64 * w) * 2 ^ s := Nat.pow_add _ _ _

theorem up_ev {a : List Int} (ha : goodT numT a) (n : Nat) : Ev (fun k => whole_Up.f k a (n : Int)) (toNum (vN a * 2 ^ n)) := by
  by_cases hn : n < 256
  · obtain ⟨n0, n1, n2, n3, rfl, h0, h1, h2, h3⟩ := num4 ha
    refine Ev.of 6 fun m => ?_
    have hs : n % 64 < 64 := by omega
    obtain ⟨d1, d2⟩ := s_ok (n % 64) hs
    unfold whole_Up.f whole_Up.tree
    rw [mx0, quo64 n hn, rem64, decide_eq_false (show ¬ (n : Int) ≥ 256 by omega)]
    simp only [cond_false]
    rw [vN4]
    have hw : n / 64 < 4 := by omega
    have en : n = 64 * (n / 64) + n % 64 := by omega
    have l0 := loW_le (n % 64) n0 hs
    have l1 := loW_le (n % 64) n1 hs
    have l2 := loW_le (n % 64) n2 hs
    have l3 := loW_le (n % 64) n3 hs
    have g0 := hiW_lt (n % 64) n0 hs h0
    have g1 := hiW_lt (n % 64) n1 hs h1
    have g2 := hiW_lt (n % 64) n2 hs h2
    have t0 := split_up (n % 64) n0 hs
    have t1 := split_up (n % 64) n1 hs
    have t2 := split_up (n % 64) n2 hs
    have t3 := split_up (n % 64) n3 hs
    have hpp := Nat.two_pow_pos (n % 64)
    rw [show (n0 + 2 ^ 64 * (n1 + 2 ^ 64 * (n2 + 2 ^ 64 * n3))) * 2 ^ n = 2 ^ (64 * (n / 64)) * ((n0 + 2 ^ 64 * (n1 + 2 ^ 64 * (n2 + 2 ^ 64 * n3))) * 2 ^ (n % 64)) by
      conv => lhs; rw [en, pow_words]
      rw [Nat.mul_left_comm]]
    rw [mulp]
    generalize n / 64 = w at *
    generalize n % 64 = s at *
    match w, hw with
    | 0, _ =>
      rw [show ((0 : Nat) : Int) = 0 from rfl, up_run0 _ _ _ d1 d2, shl_lo s n0 hs, word_up s n1 n0 hs h0, word_up s n2 n1 hs h1, word_up s n3 n2 hs h2]
      refine congrArg some (toNum_of (good4 (by omega) (by omega) (by omega) (by omega)) ?_)
      rw [vN4]; omega
    | 1, _ =>
      rw [show ((1 : Nat) : Int) = 1 from rfl, up_run1 _ _ _ d1 d2, shl_lo s n0 hs, word_up s n1 n0 hs h0, word_up s n2 n1 hs h1, show (0 : Int) = ((0 : Nat) : Int) from rfl]
      refine congrArg some (toNum_of (good4 (by omega) (by omega) (by omega) (by omega)) ?_)
      rw [vN4]; omega
    | 2, _ =>
      rw [show ((2 : Nat) : Int) = 2 from rfl, up_run2 _ _ _ d1 d2, shl_lo s n0 hs, word_up s n1 n0 hs h0, show (0 : Int) = ((0 : Nat) : Int) from rfl]
      refine congrArg some (toNum_of (good4 (by omega) (by omega) (by omega) (by omega)) ?_)
      rw [vN4]; omega
    | 3, _ =>
      rw [show ((3 : Nat) : Int) = 3 from rfl, up_run3 _ _ _ d1 d2, shl_lo s n0 hs, show (0 : Int) = ((0 : Nat) : Int) from rfl]
      refine congrArg some (toNum_of (good4 (by omega) (by omega) (by omega) (by omega)) ?_)
      rw [vN4]; omega
  · refine Ev.const fun k => ?_
    unfold whole_Up.f whole_Up.tree
    rw [decide_eq_true (show (n : Int) ≥ 256 by omega)]
    simp only [cond_true]
    rw [← toNum_zero]
    refine congrArg some (toNum_congr ?_)
    rw [show n = 256 + (n - 256) by omega, Nat.pow_add, Nat.mul_left_comm, Nat.mul_mod_right]

end Go.Proofs.Ytjciljaojcekeaa.Sx
