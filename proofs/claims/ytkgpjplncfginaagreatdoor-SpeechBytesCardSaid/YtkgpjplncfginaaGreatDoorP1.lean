/- Numbers and their bytes; small facts on the machine's arithmetic. -/
import Derived.Test.YtkgpjplncfginaaGreatDoorSy20
namespace Go.Proofs.YtkgpjplncfginaaGreatDoor.Sy
open Go
set_option linter.unusedVariables false
set_option linter.unusedSimpArgs false

theorem w_u64 (n : Int) : IntKind.u64.wrap n = n % 18446744073709551616 := by simp [IntKind.wrap, IntKind.bits, IntKind.signed]
theorem i64_id {n : Int} (h : -9223372036854775808 ≤ n) (h' : n ≤ 9223372036854775807) : IntKind.i64.wrap n = n := by rw [IntKind.wrap_i64]; omega
theorem add_id {a b : Int} (h : -9223372036854775808 ≤ a + b) (h' : a + b ≤ 9223372036854775807) : addI .i64 a b = a + b := i64_id h h'
theorem sub_id {a b : Int} (h : -9223372036854775808 ≤ a - b) (h' : a - b ≤ 9223372036854775807) : subI .i64 a b = a - b := i64_id h h'
theorem mul_id {a b : Int} (h : -9223372036854775808 ≤ a * b) (h' : a * b ≤ 9223372036854775807) : mulI .i64 a b = a * b := i64_id h h'

theorem dt {p : Prop} [Decidable p] (h : p) : decide p = true := decide_eq_true h
theorem df {p : Prop} [Decidable p] (h : ¬ p) : decide p = false := decide_eq_false h
theorem beqt {a b : Int} (h : a = b) : (a == b) = true := by simp [h]
theorem beqf {a b : Int} (h : a ≠ b) : (a == b) = false := by simp [h]
theorem fits_ok {n : Nat} (h : n ≤ 140737488355328) : fits n = true := decide_eq_true h

/-! ### Little ends -/

theorem pow256_le {a b : Nat} (h : a ≤ b) : (256 : Int) ^ a ≤ 256 ^ b := by
  have h := Nat.pow_le_pow_right (n := 256) (by omega) h
  have e (k : Nat) : (256 : Int) ^ k = ((256 ^ k : Nat) : Int) := by rw [Int.natCast_pow]; rfl
  rw [e, e]; omega

/-- A number's n lowest bytes, the lowest first. -/
def num : Nat → Int → List Int
  | 0, _ => []
  | n + 1, v => v % 256 :: num n (v / 256)

/-- What bytes tell. -/
def val : List Int → Int
  | [] => 0
  | b :: r => b + 256 * val r

@[simp] theorem num_length : ∀ n v, (num n v).length = n
  | 0, _ => rfl
  | n + 1, v => by simp [num, num_length n]

theorem num_byteL : ∀ n v, byteL (num n v)
  | 0, _ => by intro y hy; cases hy
  | n + 1, v => by
    intro y hy
    simp only [num, List.mem_cons] at hy
    rcases hy with rfl | hy
    · omega
    · exact num_byteL n _ y hy

theorem byteL_cons {b : Int} {s : List Int} : byteL (b :: s) ↔ (0 ≤ b ∧ b < 256) ∧ byteL s := by simp [byteL]
theorem byteL_nil : byteL [] := by intro y hy; cases hy
theorem byteL_take {a : List Int} (n : Nat) (ha : byteL a) : byteL (a.take n) := fun y hy => ha y (List.mem_of_mem_take hy)
theorem byteL_drop {a : List Int} (n : Nat) (ha : byteL a) : byteL (a.drop n) := fun y hy => ha y (List.mem_of_mem_drop hy)

theorem val_nonneg : ∀ s, byteL s → 0 ≤ val s
  | [], _ => by simp [val]
  | b :: r, h => by
    rw [byteL_cons] at h
    have := val_nonneg r h.2
    simp only [val]; omega

theorem val_lt : ∀ s, byteL s → val s < 256 ^ s.length
  | [], _ => by simp [val]
  | b :: r, h => by
    rw [byteL_cons] at h
    have := val_lt r h.2
    simp only [val, List.length_cons, Int.pow_succ]; omega

theorem val_num : ∀ n v, val (num n v) = v % 256 ^ n
  | 0, v => by simp [num, val]
  | n + 1, v => by
    simp only [num, val, val_num n]
    generalize hP : (256 : Int) ^ n = P
    rw [Int.pow_succ, hP, Int.mul_comm P 256]
    rw [Int.emod_def v (256 * P), ← Int.ediv_ediv_of_nonneg (by omega), Int.emod_def v 256, Int.emod_def (v / 256) P, Int.mul_sub, Int.mul_assoc]
    omega

theorem num_val : ∀ s, byteL s → num s.length (val s) = s
  | [], _ => rfl
  | b :: r, h => by
    rw [byteL_cons] at h
    have ih := num_val r h.2
    simp only [List.length_cons, num, val]
    have e1 : (b + 256 * val r) % 256 = b := by omega
    have e2 : (b + 256 * val r) / 256 = val r := by omega
    rw [e1, e2, ih]

theorem num_add : ∀ (n m : Nat) (q v : Int), n ≤ m → num n (v + 256 ^ m * q) = num n v
  | 0, _, _, _, _ => rfl
  | n + 1, m, q, v, h => by
    obtain ⟨m, rfl⟩ : ∃ p, m = p + 1 := ⟨m - 1, by omega⟩
    have e : v + 256 ^ (m + 1) * q = v + 256 * (256 ^ m * q) := by rw [Int.pow_succ, Int.mul_comm (256 ^ m) 256, Int.mul_assoc]
    rw [e]
    simp only [num]
    have e1 : (v + 256 * (256 ^ m * q)) % 256 = v % 256 := by omega
    have e2 : (v + 256 * (256 ^ m * q)) / 256 = v / 256 + 256 ^ m * q := by omega
    rw [e1, e2, num_add n m q _ (by omega)]

theorem num_mod (n m : Nat) (v : Int) (h : n ≤ m) : num n (v % 256 ^ m) = num n v := by
  have := num_add n m (v / 256 ^ m) (v % 256 ^ m) h
  rw [Int.emod_add_mul_ediv] at this
  exact this.symm

theorem num_append : ∀ (n m : Nat) (v : Int), num (n + m) v = num n v ++ num m (v / 256 ^ n)
  | 0, m, v => by simp [num]
  | n + 1, m, v => by
    have e : n + 1 + m = (n + m) + 1 := by omega
    rw [e]
    simp only [num, List.cons_append]
    rw [num_append n m, Int.pow_succ, Int.mul_comm (256 ^ n) 256, Int.ediv_ediv_of_nonneg (by omega)]

theorem val_append : ∀ a b : List Int, val (a ++ b) = val a + 256 ^ a.length * val b
  | [], b => by simp [val]
  | x :: a, b => by
    simp only [List.cons_append, val, val_append a b, List.length_cons, Int.pow_succ, Int.mul_add]
    rw [Int.mul_comm (256 ^ a.length) 256, Int.mul_assoc]; omega

theorem num_inj {n : Nat} {a b : Int} (ha : 0 ≤ a) (ha' : a < 256 ^ n) (hb : 0 ≤ b) (hb' : b < 256 ^ n) (h : num n a = num n b) : a = b := by
  have := congrArg val h
  rw [val_num, val_num, Int.emod_eq_of_lt ha ha', Int.emod_eq_of_lt hb hb'] at this
  exact this

theorem val_inj {a b : List Int} (ha : byteL a) (hb : byteL b) (hl : a.length = b.length) (h : val a = val b) : a = b := by
  have := num_val a ha
  rw [h, hl, num_val b hb] at this
  exact this.symm

theorem toStr_id : ∀ s, byteL s → toStr s = s
  | [], _ => rfl
  | b :: r, h => by
    rw [byteL_cons] at h
    have ih := toStr_id r h.2
    unfold toStr at ih ⊢
    rw [List.map_cons, ih]
    congr 1
    unfold byteI
    omega

/-! ### Shifts -/

theorem shr_byte (x : Int) (i : Nat) (hi : i < 8) : IntKind.wrap .u8 (shrI .i64 x (8 * (i : Int))) = x / 256 ^ i % 256 := by
  rw [IntKind.wrap_u8]
  congr 1
  unfold shrI
  have e : min (8 * (i : Int)).toNat (IntKind.bits .i64) = 8 * i := by
    have : IntKind.bits .i64 = 64 := rfl
    rw [this]; omega
  rw [e, Int.fdiv_eq_ediv_of_nonneg _ (Int.le_of_lt (Int.pow_pos (by omega))), Int.pow_mul]
  rfl

/-- A byte is put on top of what stands below it. -/
theorem or_top (a : Int) (b : Int) (i : Nat) (hi : i ≤ 6) (ha : 0 ≤ a) (ha' : a < 256 ^ i) (hb : 0 ≤ b) (hb' : b < 256) : orI .i64 a (shlI .i64 (IntKind.wrap .i64 b) (8 * (i : Int))) = a + 256 ^ i * b := by
  obtain ⟨n, rfl⟩ : ∃ n : Nat, a = n := ⟨a.toNat, by omega⟩
  obtain ⟨m, rfl⟩ : ∃ m : Nat, b = m := ⟨b.toNat, by omega⟩
  have hP : (256 : Int) ^ i = ((2 ^ (8 * i) : Nat) : Int) := by
    rw [Nat.pow_mul, Int.natCast_pow]; rfl
  have hP8 : 2 ^ (8 * i) * 256 ≤ 2 ^ 56 := by
    have : 2 ^ (8 * i) * 256 = 2 ^ (8 * i + 8) := by rw [Nat.pow_add]
    rw [this]; exact Nat.pow_le_pow_right (by omega) (by omega)
  rw [hP] at ha' ⊢
  have hn : n < 2 ^ (8 * i) := by omega
  have hm : m < 256 := by omega
  have hlt : 2 ^ (8 * i) * m + n < 2 ^ 56 := by
    have : 2 ^ (8 * i) * m + 2 ^ (8 * i) ≤ 2 ^ (8 * i) * 256 := by rw [← Nat.mul_succ]; exact Nat.mul_le_mul_left _ hm
    omega
  have e0 : IntKind.wrap .i64 (m : Int) = m := i64_id (by omega) (by omega)
  have e1 : shlI .i64 (m : Int) (8 * (i : Int)) = ((2 ^ (8 * i) * m : Nat) : Int) := by
    unfold shlI
    have e : min (8 * (i : Int)).toNat (IntKind.bits .i64) = 8 * i := by
      have : IntKind.bits .i64 = 64 := rfl
      rw [this]; omega
    rw [e]
    have e2 : (m : Int) * 2 ^ (8 * i) = ((2 ^ (8 * i) * m : Nat) : Int) := by rw [Int.natCast_mul, Int.natCast_pow, Int.mul_comm]; rfl
    rw [e2]; exact i64_id (by omega) (by omega)
  rw [e0, e1]
  unfold orI
  have hb : IntKind.bits .i64 = 64 := rfl
  rw [hb, BitVec.toNat_or]
  have t (z : Nat) (hz : z < 2 ^ 56) : (BitVec.ofInt 64 (z : Int)).toNat = z := by
    rw [BitVec.toNat_ofInt]; omega
  rw [t _ (by omega), t _ (by omega), Nat.or_comm, ← Nat.two_pow_add_eq_or_of_lt hn]
  rw [i64_id (by omega) (by omega)]
  push_cast; omega

end Go.Proofs.YtkgpjplncfginaaGreatDoor.Sy
