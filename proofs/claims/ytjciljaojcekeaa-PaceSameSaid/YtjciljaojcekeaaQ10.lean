/- Numbers of four words, moved up and down. -/
import Derived.Test.YtjciljaojcekeaaQ9
namespace Go.Proofs.Ytjciljaojcekeaa.Sx
open Go
set_option linter.unusedVariables false
set_option linter.unusedSimpArgs false
set_option maxRecDepth 100000

theorem shl_u64 (n s : Nat) (hs : s ≤ 64) : shlI .u64 (n : Int) (s : Int) = ((n * 2 ^ s % 2 ^ 64 : Nat) : Int) := by
  unfold shlI
  simp only [Int.toNat_natCast]
  rw [show IntKind.u64.bits = 64 from rfl, Nat.min_eq_left hs, show ((2 : Int) ^ s) = ((2 ^ s : Nat) : Int) by simp, ← Int.natCast_mul]
  unfold IntKind.wrap
  simp only [IntKind.signed, IntKind.bits, Bool.false_and, Bool.false_eq_true, if_false]
  rfl

theorem shr_u64' (n s : Nat) (hs : s ≤ 64) : shrI .u64 (n : Int) (s : Int) = ((n / 2 ^ s : Nat) : Int) := by
  unfold shrI
  simp only [IntKind.bits, Int.toNat_natCast]
  rw [Nat.min_eq_left hs]
  rw [show ((2 : Int) ^ s) = ((2 ^ s : Nat) : Int) by simp, ← Int.ofNat_eq_natCast, ← Int.ofNat_eq_natCast, Int.ofNat_fdiv]
  rfl

theorem or_u64 (s u y : Nat) (hy : y < 2 ^ s) (h : 2 ^ s * u + y < 2 ^ 64) : orI .u64 ((2 ^ s * u : Nat) : Int) (y : Int) = ((2 ^ s * u + y : Nat) : Int) := by
  unfold orI
  show IntKind.wrap .u64 (((BitVec.ofInt 64 ((2 ^ s * u : Nat) : Int) ||| BitVec.ofInt 64 (y : Int)).toNat : Nat) : Int) = _
  have e1 : (BitVec.ofInt 64 ((2 ^ s * u : Nat) : Int) ||| BitVec.ofInt 64 (y : Int)).toNat = 2 ^ s * u + y := by
    rw [BitVec.ofInt_natCast, BitVec.ofInt_natCast, BitVec.toNat_or, BitVec.toNat_ofNat, BitVec.toNat_ofNat, Nat.mod_eq_of_lt (by omega), Nat.mod_eq_of_lt (by omega)]
    exact (Nat.two_pow_add_eq_or_of_lt hy u).symm
  rw [e1]
  exact wrap_u64 (by omega) (by omega)

/-- What a word holds when it is moved up: 'lo' of the word itself, 'hi' of the one below. -/
def loW (s n : Nat) : Nat := 2 ^ s * (n % 2 ^ (64 - s))
def hiW (s n : Nat) : Nat := n / 2 ^ (64 - s)

theorem pq (s : Nat) (hs : s < 64) : 2 ^ s * 2 ^ (64 - s) = 2 ^ 64 := by rw [← Nat.pow_add]; congr 1; omega

theorem split_up (s n : Nat) (hs : s < 64) : 2 ^ s * n = loW s n + 2 ^ 64 * hiW s n := by
  unfold loW hiW
  rw [← pq s hs, Nat.mul_assoc, ← Nat.mul_add, Nat.add_comm, Nat.div_add_mod]

theorem hiW_lt (s n : Nat) (hs : s < 64) (h : n < 2 ^ 64) : hiW s n < 2 ^ s := by
  unfold hiW
  rw [Nat.div_lt_iff_lt_mul (Nat.two_pow_pos _), pq s hs]; exact h

theorem loW_le (s n : Nat) (hs : s < 64) : loW s n + 2 ^ s ≤ 2 ^ 64 := by
  unfold loW
  have := Nat.mul_le_mul_left (2 ^ s) (Nat.mod_lt n (Nat.two_pow_pos (64 - s)))
  rw [pq s hs, Nat.succ_eq_add_one, Nat.mul_add, Nat.mul_one] at this
  exact this

theorem sub64s (s : Nat) (hs : s ≤ 64) : subI .i64 64 (s : Int) = ((64 - s : Nat) : Int) := by
  unfold subI; rw [wrap_i64 (by omega) (by omega)]; omega

theorem shl_lo (s n : Nat) (hs : s < 64) : shlI .u64 (n : Int) (s : Int) = ((loW s n : Nat) : Int) := by
  rw [shl_u64 _ _ (by omega)]
  congr 1
  unfold loW
  rw [← pq s hs, Nat.mul_comm n, Nat.mul_mod_mul_left]

theorem word_up (s n m : Nat) (hs : s < 64) (hm : m < 2 ^ 64) : orI .u64 (shlI .u64 (n : Int) (s : Int)) (shrI .u64 (m : Int) (subI .i64 64 (s : Int))) = ((loW s n + hiW s m : Nat) : Int) := by
  rw [shl_lo s n hs, sub64s s (by omega), shr_u64' _ _ (by omega)]
  have h1 := hiW_lt s m hs hm
  have h2 := loW_le s n hs
  exact or_u64 s (n % 2 ^ (64 - s)) (m / 2 ^ (64 - s)) h1 (by unfold loW hiW at *; omega)

section
variable (k m : Nat) (s : Int) (h : decide (s < 0) = false) (h' : decide (subI .i64 64 s < 0) = false) (a0 a1 a2 a3 : Int) (y : List Int)
include h h'

theorem up_run0 : whole_Up.l0.f k 0 s [a0, a1, a2, a3] y (m + 6) 0 [0, 0, 0, 0] = some (4, [shlI .u64 a0 s, orI .u64 (shlI .u64 a1 s) (shrI .u64 a0 (subI .i64 64 s)), orI .u64 (shlI .u64 a2 s) (shrI .u64 a1 (subI .i64 64 s)), orI .u64 (shlI .u64 a3 s) (shrI .u64 a2 (subI .i64 64 s))]) := by
  simp only [whole_Up.l0.f, whole_Up.l0.go, whole_Up.l0.step, h, h']
  kernel_rfl

theorem up_run1 : whole_Up.l0.f k 1 s [a0, a1, a2, a3] y (m + 6) 1 [0, 0, 0, 0] = some (4, [0, shlI .u64 a0 s, orI .u64 (shlI .u64 a1 s) (shrI .u64 a0 (subI .i64 64 s)), orI .u64 (shlI .u64 a2 s) (shrI .u64 a1 (subI .i64 64 s))]) := by
  simp only [whole_Up.l0.f, whole_Up.l0.go, whole_Up.l0.step, h, h']
  kernel_rfl

theorem up_run2 : whole_Up.l0.f k 2 s [a0, a1, a2, a3] y (m + 6) 2 [0, 0, 0, 0] = some (4, [0, 0, shlI .u64 a0 s, orI .u64 (shlI .u64 a1 s) (shrI .u64 a0 (subI .i64 64 s))]) := by
  simp only [whole_Up.l0.f, whole_Up.l0.go, whole_Up.l0.step, h, h']
  kernel_rfl

theorem up_run3 : whole_Up.l0.f k 3 s [a0, a1, a2, a3] y (m + 6) 3 [0, 0, 0, 0] = some (4, [0, 0, 0, shlI .u64 a0 s]) := by
  simp only [whole_Up.l0.f, whole_Up.l0.go, whole_Up.l0.step, h, h']
  kernel_rfl

theorem down_run0 : whole_Down.l0.f k 0 s 4 [a0, a1, a2, a3] y (m + 6) 0 [0, 0, 0, 0] = some (4, [orI .u64 (shrI .u64 a0 s) (shlI .u64 a1 (subI .i64 64 s)), orI .u64 (shrI .u64 a1 s) (shlI .u64 a2 (subI .i64 64 s)), orI .u64 (shrI .u64 a2 s) (shlI .u64 a3 (subI .i64 64 s)), shrI .u64 a3 s]) := by
  simp only [whole_Down.l0.f, whole_Down.l0.go, whole_Down.l0.step, h, h']
  kernel_rfl

theorem down_run1 : whole_Down.l0.f k 1 s 3 [a0, a1, a2, a3] y (m + 6) 0 [0, 0, 0, 0] = some (3, [orI .u64 (shrI .u64 a1 s) (shlI .u64 a2 (subI .i64 64 s)), orI .u64 (shrI .u64 a2 s) (shlI .u64 a3 (subI .i64 64 s)), shrI .u64 a3 s, 0]) := by
  simp only [whole_Down.l0.f, whole_Down.l0.go, whole_Down.l0.step, h, h']
  kernel_rfl

theorem down_run2 : whole_Down.l0.f k 2 s 2 [a0, a1, a2, a3] y (m + 6) 0 [0, 0, 0, 0] = some (2, [orI .u64 (shrI .u64 a2 s) (shlI .u64 a3 (subI .i64 64 s)), shrI .u64 a3 s, 0, 0]) := by
  simp only [whole_Down.l0.f, whole_Down.l0.go, whole_Down.l0.step, h, h']
  kernel_rfl

theorem down_run3 : whole_Down.l0.f k 3 s 1 [a0, a1, a2, a3] y (m + 6) 0 [0, 0, 0, 0] = some (1, [shrI .u64 a3 s, 0, 0, 0]) := by
  simp only [whole_Down.l0.f, whole_Down.l0.go, whole_Down.l0.step, h, h']
  kernel_rfl
end

end Go.Proofs.Ytjciljaojcekeaa.Sx
