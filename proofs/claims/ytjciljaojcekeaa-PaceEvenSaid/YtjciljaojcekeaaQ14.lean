
/- What the functions come to at numbers that are told as 'toNum'; WholeBack. -/
import Derived.Test.YtjciljaojcekeaaQ13
namespace Go.Proofs.Ytjciljaojcekeaa.Sx
open Go
set_option linter.unusedVariables false
set_option linter.unusedSimpArgs false
set_option maxRecDepth 100000

theorem toNum_inj {x y : Nat} (hx : x < 2 ^ 256) (hy : y < 2 ^ 256) (h : toNum x = toNum y) : x = y := by
  have := congrArg vN h
  rwa [vN_toNum_lt hx, vN_toNum_lt hy] at this

theorem toNum_eq {x y : Nat} (hx : x < 2 ^ 256) (hy : y < 2 ^ 256) : decide (toNum x = toNum y) = decide (x = y) := by
  rw [Bool.eq_iff_iff, decide_eq_true_iff, decide_eq_true_iff]
  exact ⟨toNum_inj hx hy, fun h => by rw [h]⟩

theorem num_of {a : List Int} (ha : goodT numT a) : ∃ x : Nat, x < 2 ^ 256 ∧ a = toNum x := ⟨vN a, vN_lt ha, (toNum_vN ha).symm⟩

theorem up_num (x n : Nat) : Ev (fun k => whole_Up.f k (toNum x) (n : Int)) (toNum (x * 2 ^ n)) := by
  have h := up_ev (toNum_good x) n
  rwa [show toNum (vN (toNum x) * 2 ^ n) = toNum (x * 2 ^ n) from toNum_congr (by rw [vN_toNum, Nat.mod_mul_mod])] at h

theorem down_num {x : Nat} (hx : x < 2 ^ 256) (n : Nat) : Ev (fun k => whole_Down.f k (toNum x) (n : Int)) (toNum (x / 2 ^ n)) := by
  have h := down_ev (toNum_good x) n
  rwa [vN_toNum_lt hx] at h

theorem moveup_num (x n : Nat) : Ev (fun k => trailheadref02_Move.f k (toNum x) (n : Int)) (toNum (x * 2 ^ n)) := by
  have h := move_up_ev (toNum_good x) n
  rwa [show toNum (vN (toNum x) * 2 ^ n) = toNum (x * 2 ^ n) from toNum_congr (by rw [vN_toNum, Nat.mod_mul_mod])] at h

theorem movedown_num {x : Nat} (hx : x < 2 ^ 256) (n : Nat) : Ev (fun k => trailheadref02_Move.f k (toNum x) (-(n : Int))) (toNum (x / 2 ^ n)) := by
  have h := move_down_ev (toNum_good x) n
  rwa [vN_toNum_lt hx] at h

theorem add_num {x y : Nat} (hx : x < 2 ^ 256) (hy : y < 2 ^ 256) : Ev (fun k => whole_Add.f k (toNum x) (toNum y)) (toNum (x + y), decide (2 ^ 256 ≤ x + y)) := by
  have h := add_ev (toNum_good x) (toNum_good y)
  rwa [vN_toNum_lt hx, vN_toNum_lt hy] at h

theorem refadd_num {x y : Nat} (hx : x < 2 ^ 256) (hy : y < 2 ^ 256) : Ev (fun k => trailheadref02_Add.f k (toNum x) (toNum y)) (toNum (x + y), decide (2 ^ 256 ≤ x + y)) := by
  have h := refadd_ev (toNum_good x) (toNum_good y)
  rwa [vN_toNum_lt hx, vN_toNum_lt hy] at h

theorem sub_num {x y : Nat} (hx : x < 2 ^ 256) (hy : y < 2 ^ 256) : Ev (fun k => whole_Sub.f k (toNum x) (toNum y)) (toNum (x + 2 ^ 256 - y), decide (x < y)) := by
  have h := sub_ev (toNum_good x) (toNum_good y)
  rwa [vN_toNum_lt hx, vN_toNum_lt hy] at h

theorem refsub_num {x y : Nat} (hx : x < 2 ^ 256) (hy : y < 2 ^ 256) : Ev (fun k => trailheadref02_Sub.f k (toNum x) (toNum y)) (toNum (x + 2 ^ 256 - y), decide (x < y)) := by
  have h := refsub_ev (toNum_good x) (toNum_good y)
  rwa [vN_toNum_lt hx, vN_toNum_lt hy] at h

theorem less_num {x y : Nat} (hx : x < 2 ^ 256) (hy : y < 2 ^ 256) : Ev (fun k => whole_Less.f k (toNum x) (toNum y)) (decide (x < y)) := by
  have h := less_ev (toNum_good x) (toNum_good y)
  rwa [vN_toNum_lt hx, vN_toNum_lt hy] at h

theorem refless_num {x y : Nat} (hx : x < 2 ^ 256) (hy : y < 2 ^ 256) : Ev (fun k => trailheadref02_Less.f k (toNum x) (toNum y)) (decide (x < y)) := by
  have h := refless_ev (toNum_good x) (toNum_good y)
  rwa [vN_toNum_lt hx, vN_toNum_lt hy] at h

theorem not_num {x : Nat} (hx : x < 2 ^ 256) : Ev (fun k => whole_Not.f k (toNum x)) (toNum (2 ^ 256 - 1 - x)) := by
  have h := not_ev (toNum_good x)
  rwa [vN_toNum_lt hx] at h

theorem len_num {x : Nat} (hx : x < 2 ^ 256) : ∃ m : Nat, m ≤ 256 ∧ Ev (fun k => whole_Len.f k (toNum x)) (m : Int) ∧ IsLen x m := by
  have h := len_ev (toNum_good x)
  rwa [vN_toNum_lt hx] at h

theorem subNum {x y : Nat} (h : y ≤ x) : toNum (x + 2 ^ 256 - y) = toNum (x - y) := toNum_congr (by omega)

theorem zeroNum : ([0, 0, 0, 0] : List Int) = toNum 0 := rfl
theorem ofNum (x : Nat) (hx : x < 2 ^ 64) : ([(x : Int), 0, 0, 0] : List Int) = toNum x := by
  refine toNum_of (good4 hx (n1 := 0) (n2 := 0) (n3 := 0) (by omega) (by omega) (by omega)) ?_
  rw [vN4]; omega

theorem IsLen.le {x m j : Nat} (h : IsLen x m) (hx : x < 2 ^ j) : m ≤ j := by
  rcases Nat.lt_or_ge j m with hl | hl
  · have h1 := h.2 (by omega)
    have : 2 ^ j ≤ 2 ^ (m - 1) := Nat.pow_le_pow_right (by omega) (by omega)
    omega
  · exact hl

theorem up_down {x n : Nat} (hn : n ≤ 256) : x * 2 ^ n % 2 ^ 256 / 2 ^ n = x % 2 ^ (256 - n) := by
  rw [show (2 : Nat) ^ 256 = 2 ^ (256 - n) * 2 ^ n by rw [← Nat.pow_add]; congr 1; omega, Nat.mul_mod_mul_right, Nat.mul_div_cancel _ (Nat.two_pow_pos n)]

end Go.Proofs.Ytjciljaojcekeaa.Sx
