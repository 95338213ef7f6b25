/- Words of 32 bits, as the digest uses them. -/
import Derived.Test.YtkgpjplncfginaaGreatDoorP1
import Derived.Test.YtkgpjplncfginaaGreatDoorWA
namespace Go.Proofs.YtkgpjplncfginaaGreatDoor.Sy
open Go
set_option linter.unusedVariables false
set_option linter.unusedSimpArgs false

theorem w_u32 (n : Int) : IntKind.u32.wrap n = n % 4294967296 := by simp [IntKind.wrap, IntKind.bits, IntKind.signed]

def w32 (x : Int) : Prop := 0 ≤ x ∧ x < 4294967296
theorem w32_wrap (n : Int) : w32 (IntKind.u32.wrap n) := by rw [w_u32]; unfold w32; omega
theorem wrap_w32 {n : Int} (h : w32 n) : IntKind.u32.wrap n = n := by rw [w_u32]; unfold w32 at h; omega
theorem w32_add (a b : Int) : w32 (addI .u32 a b) := w32_wrap _
theorem w32_xor (a b : Int) : w32 (xorI .u32 a b) := w32_wrap _
theorem w32_0 : w32 0 := ⟨by omega, by omega⟩

abbrev B32 (x : Int) : BitVec 32 := BitVec.ofInt 32 x
theorem B32_nat (b : BitVec 32) : B32 ((b.toNat : Nat) : Int) = b := by
  apply BitVec.eq_of_toNat_eq
  rw [BitVec.toNat_ofInt]
  have := b.isLt
  omega
theorem nat_B32 {x : Int} (h : w32 x) : (((B32 x).toNat : Nat) : Int) = x := by
  unfold w32 at h
  rw [BitVec.toNat_ofInt]; omega
theorem w32_nat (b : BitVec 32) : w32 ((b.toNat : Nat) : Int) := by
  have := b.isLt
  unfold w32; omega

theorem xor_B (x y : Int) : xorI .u32 x y = (((B32 x ^^^ B32 y).toNat : Nat) : Int) := by
  show IntKind.u32.wrap _ = _
  exact wrap_w32 (w32_nat _)
theorem and_B (x y : Int) : andI .u32 x y = (((B32 x &&& B32 y).toNat : Nat) : Int) := by
  show IntKind.u32.wrap _ = _
  exact wrap_w32 (w32_nat _)
theorem or_B (x y : Int) : orI .u32 x y = (((B32 x ||| B32 y).toNat : Nat) : Int) := by
  show IntKind.u32.wrap _ = _
  exact wrap_w32 (w32_nat _)
theorem not_B (x : Int) : B32 (notI .u32 x) = ~~~ B32 x := by
  unfold notI
  rw [xor_B, B32_nat]
  have e : B32 (if IntKind.signed .u32 then -1 else IntKind.max .u32) = BitVec.allOnes 32 := by decide
  rw [e]
  exact BitVec.allOnes_xor
theorem sub_B {x : Int} (h : w32 x) : B32 (subI .u32 4294967295 x) = ~~~ B32 x := by
  unfold w32 at h
  apply BitVec.eq_of_toNat_eq
  rw [BitVec.toNat_not, BitVec.toNat_ofInt, BitVec.toNat_ofInt]
  unfold subI
  rw [w_u32]
  omega

theorem xor_0 {x : Int} (h : w32 x) : xorI .u32 0 x = x := by
  rw [xor_B]
  have e : B32 0 = 0#32 := by decide
  rw [e, BitVec.zero_xor, nat_B32 h]

def chI (a b c : Int) : Int := orI .u32 (andI .u32 a b) (andI .u32 (subI .u32 4294967295 a) c)
def majI (a b c : Int) : Int := orI .u32 (orI .u32 (andI .u32 a b) (andI .u32 a c)) (andI .u32 b c)

theorem ch_eq (a b c : Int) (ha : w32 a) : xorI .u32 (andI .u32 a b) (andI .u32 (notI .u32 a) c) = chI a b c := by
  unfold chI
  rw [xor_B, or_B, and_B, and_B, and_B, B32_nat, B32_nat, B32_nat, not_B, sub_B ha]
  congr 2
  apply BitVec.eq_of_getLsbD_eq
  intro i hi
  simp only [BitVec.getLsbD_xor, BitVec.getLsbD_or, BitVec.getLsbD_and, BitVec.getLsbD_not]
  cases (B32 a).getLsbD i <;> cases (B32 b).getLsbD i <;> cases (B32 c).getLsbD i <;> simp

theorem maj_eq (a b c : Int) : xorI .u32 (xorI .u32 (andI .u32 a b) (andI .u32 a c)) (andI .u32 b c) = majI a b c := by
  unfold majI
  rw [xor_B, xor_B, or_B, or_B, and_B, and_B, and_B, B32_nat, B32_nat, B32_nat, B32_nat, B32_nat]
  congr 2
  apply BitVec.eq_of_getLsbD_eq
  intro i hi
  simp only [BitVec.getLsbD_xor, BitVec.getLsbD_or, BitVec.getLsbD_and]
  cases (B32 a).getLsbD i <;> cases (B32 b).getLsbD i <;> cases (B32 c).getLsbD i <;> rfl

/-! ### Turning -/

/-- A word, turned right. -/
def rot (x : Int) (n : Nat) : Int := x / 2 ^ n + x % 2 ^ n * 2 ^ (32 - n)

theorem pow_split {n : Nat} (h : n ≤ 32) : (2 : Int) ^ n * 2 ^ (32 - n) = 4294967296 := by
  rw [← Int.pow_add, Nat.add_sub_cancel' h]; rfl

theorem shr32 (x : Int) (n : Nat) (hn : n ≤ 32) : shrI .u32 x (n : Int) = x / 2 ^ n := by
  unfold shrI
  have e : min (n : Int).toNat (IntKind.bits .u32) = n := by
    have : IntKind.bits .u32 = 32 := rfl
    rw [this]; omega
  rw [e, Int.fdiv_eq_ediv_of_nonneg _ (Int.le_of_lt (Int.pow_pos (by omega)))]

theorem shl32 (x : Int) (n : Nat) (hn : n ≤ 32) : shlI .u32 x ((32 - n : Nat) : Int) = x % 2 ^ n * 2 ^ (32 - n) := by
  unfold shlI
  have e : min (((32 - n : Nat) : Int)).toNat (IntKind.bits .u32) = 32 - n := by
    have : IntKind.bits .u32 = 32 := rfl
    rw [this]; omega
  rw [e, w_u32, ← pow_split hn, Int.mul_comm x, Int.mul_comm (2 ^ n), Int.mul_emod_mul_of_pos _ _ (Int.pow_pos (by omega)), Int.mul_comm]

theorem rot_w32 {x : Int} {n : Nat} (hx : w32 x) (hn : n ≤ 32) : w32 (rot x n) ∧ x / 2 ^ n < 2 ^ (32 - n) := by
  unfold w32 at hx ⊢
  have hp : (0 : Int) < 2 ^ n := Int.pow_pos (by omega)
  have hq : (0 : Int) < 2 ^ (32 - n) := Int.pow_pos (by omega)
  have hs := pow_split hn
  have h1 : x / 2 ^ n < 2 ^ (32 - n) := by
    apply Int.ediv_lt_of_lt_mul hp
    rw [Int.mul_comm]; omega
  have h2 := Int.emod_nonneg x (Int.ne_of_gt hp)
  have h3 := Int.emod_lt_of_pos x hp
  have h4 : 0 ≤ x / 2 ^ n := Int.ediv_nonneg hx.1 (Int.le_of_lt hp)
  have h5 : (x % 2 ^ n + 1) * 2 ^ (32 - n) ≤ 2 ^ n * 2 ^ (32 - n) := Int.mul_le_mul_of_nonneg_right (by omega) (Int.le_of_lt hq)
  have h6 : 0 ≤ x % 2 ^ n * 2 ^ (32 - n) := Int.mul_nonneg h2 (Int.le_of_lt hq)
  rw [Int.add_mul, hs, Int.one_mul] at h5
  unfold rot
  refine ⟨⟨by omega, by omega⟩, h1⟩

theorem right_eq (k : Nat) (x : Int) (n : Nat) (hx : w32 x) (hn : n ≤ 32) : trailheadref01_right.f k x (n : Int) = some (rot x n) := by
  unfold trailheadref01_right.f trailheadref01_right.tree
  have e : subI .u64 32 (n : Int) = ((32 - n : Nat) : Int) := by unfold subI; rw [w_u64]; omega
  rw [e, df (by omega), df (by omega), shr32 x n hn, shl32 x n hn]
  simp only [cond_false]
  congr 1
  exact wrap_w32 (rot_w32 hx hn).1

theorem and_31 (m : Nat) (h : m < 18446744073709551616) : andI .u64 (m : Int) 31 = ((m % 32 : Nat) : Int) := by
  unfold andI
  have hb : IntKind.bits .u64 = 64 := rfl
  rw [hb, BitVec.toNat_and, BitVec.toNat_ofInt, BitVec.toNat_ofInt]
  have e1 : ((m : Int) % ((2 ^ 64 : Nat) : Int)).toNat = m := by omega
  have e2 : ((31 : Int) % ((2 ^ 64 : Nat) : Int)).toNat = 2 ^ 5 - 1 := by decide
  rw [e1, e2, Nat.and_two_pow_sub_one_eq_mod, w_u64]
  omega

theorem or_split (a b : Int) (s : Nat) (hs : s ≤ 32) (ha : 0 ≤ a) (hb : 0 ≤ b) (hb' : b < 2 ^ s) (h : a * 2 ^ s + b < 4294967296) : orI .u32 (a * 2 ^ s) b = a * 2 ^ s + b := by
  obtain ⟨n, rfl⟩ : ∃ n : Nat, a = n := ⟨a.toNat, by omega⟩
  obtain ⟨m, rfl⟩ : ∃ m : Nat, b = m := ⟨b.toNat, by omega⟩
  have e : (n : Int) * 2 ^ s = ((2 ^ s * n : Nat) : Int) := by rw [Int.natCast_mul, Int.natCast_pow, Int.mul_comm]; rfl
  have hm : m < 2 ^ s := by
    have : (2 : Int) ^ s = ((2 ^ s : Nat) : Int) := by rw [Int.natCast_pow]; rfl
    omega
  rw [e] at h ⊢
  rw [or_B, BitVec.toNat_or, BitVec.toNat_ofInt, BitVec.toNat_ofInt]
  have h0 : (0 : Int) ≤ ((2 ^ s * n : Nat) : Int) := by omega
  generalize hz : 2 ^ s * n = z at h ⊢
  have e1 : ((z : Int) % ((2 ^ 32 : Nat) : Int)).toNat = z := by omega
  have e2 : ((m : Int) % ((2 ^ 32 : Nat) : Int)).toNat = m := by omega
  rw [e1, e2, ← hz, ← Nat.two_pow_add_eq_or_of_lt hm]
  omega

theorem rotl_eq (k : Nat) (x : Int) (n : Nat) (hx : w32 x) (h1 : 1 ≤ n) (hn : n ≤ 31) : math_bits_RotateLeft32.f k x (subI .i64 0 (n : Int)) = some (rot x n) := by
  unfold math_bits_RotateLeft32.f math_bits_RotateLeft32.tree
  have e0 : IntKind.wrap .u64 (subI .i64 0 (n : Int)) = ((18446744073709551616 - n : Nat) : Int) := by
    rw [sub_id (by omega) (by omega), w_u64]; omega
  have e1 : andI .u64 ((18446744073709551616 - n : Nat) : Int) 31 = ((32 - n : Nat) : Int) := by
    rw [and_31 _ (by omega)]; omega
  have e2 : subI .u64 32 ((32 - n : Nat) : Int) = (n : Int) := by unfold subI; rw [w_u64]; omega
  rw [e0, e1, e2, df (by omega), df (by omega), shr32 x n (by omega), shl32 x n (by omega)]
  simp only [cond_false]
  obtain ⟨hw, hlt⟩ := rot_w32 hx (n := n) (by omega)
  have hp : (0 : Int) < 2 ^ n := Int.pow_pos (by omega)
  unfold w32 at hx hw
  rw [or_split _ _ _ (by omega) (Int.emod_nonneg x (Int.ne_of_gt hp)) (Int.ediv_nonneg hx.1 (Int.le_of_lt hp)) hlt (by unfold rot at hw; omega)]
  unfold rot
  rw [Int.add_comm]

theorem turn_l0 (k : Nat) (x : Int) (l : List Nat) (hx : w32 x) (hl : ∀ n ∈ l, 1 ≤ n ∧ n ≤ 31) (hll : l.length ≤ 100) : ∀ (d n i : Nat) (acc : Int), i + d = l.length → d < n →
    digest_turn.l0.f k x (l.length : Int) (l.map Int.ofNat) n acc (i : Int) = some ((l.drop i).foldl (fun a n => xorI .u32 a (rot x n)) acc, (l.length : Int)) := by
  intro d
  induction d with
  | zero =>
    intro n i acc hi hn
    obtain ⟨n, rfl⟩ : ∃ q, n = q + 1 := ⟨n - 1, by omega⟩
    unfold digest_turn.l0.f digest_turn.l0.go digest_turn.l0.step
    have : i = l.length := by omega
    subst this
    rw [df (Int.lt_irrefl _), List.drop_length]
    rfl
  | succ d ih =>
    intro n i acc hi hn
    obtain ⟨n, rfl⟩ : ∃ q, n = q + 1 := ⟨n - 1, by omega⟩
    have hlt : i < l.length := by omega
    have ih' := ih n (i + 1) (xorI .u32 acc (rot x l[i])) (by omega) (by omega)
    unfold digest_turn.l0.f at ih' ⊢
    unfold digest_turn.l0.go digest_turn.l0.step
    obtain ⟨h1, h31⟩ := hl _ (List.getElem_mem hlt)
    have e2 : (l.map Int.ofNat).getD i (0 : Int) = ((l[i] : Nat) : Int) := by
      rw [List.getD_eq_getElem?_getD, List.getElem?_map, List.getElem?_eq_getElem hlt]; rfl
    have hlen : (l.map Int.ofNat).length = l.length := by simp
    have c1 : decide ((i : Int) < (l.length : Int)) = true := dt (by omega)
    have c2 : decide ((0 : Int) ≤ (i : Int)) = true := dt (by omega)
    have c3 : decide (i < l.length) = true := dt hlt
    have e1 : addI .i64 (i : Int) 1 = ((i + 1 : Nat) : Int) := add_id (by omega) (by omega)
    simp only [hlen, c1, c2, c3, cond_true, Int.toNat_natCast, e1, e2]
    rw [rotl_eq k x l[i] hx h1 h31, Option.bind_some, ih', List.drop_eq_getElem_cons hlt]
    rfl

theorem turn_eq (k : Nat) (x : Int) (l : List Nat) (hk : l.length < k) (hx : w32 x) (hl : ∀ n ∈ l, 1 ≤ n ∧ n ≤ 31) (hll : l.length ≤ 100) : digest_turn.f k x (l.map Int.ofNat) = some (l.foldl (fun a n => xorI .u32 a (rot x n)) 0) := by
  unfold digest_turn.f digest_turn.tree
  have := turn_l0 k x l hx hl hll l.length k 0 0 (by omega) hk
  have hlen : (l.map Int.ofNat).length = l.length := by simp
  rw [show ((0 : Nat) : Int) = 0 from rfl] at this
  rw [hlen, this]
  rfl

theorem turn2 (k : Nat) (x : Int) (a b : Nat) (hk : 5 < k) (hx : w32 x) (ha : 1 ≤ a ∧ a ≤ 31) (hb : 1 ≤ b ∧ b ≤ 31) : digest_turn.f k x [(a : Int), (b : Int)] = some (xorI .u32 (rot x a) (rot x b)) := by
  have := turn_eq k x [a, b] (by simp; omega) hx (by intro n hn; simp at hn; rcases hn with rfl | rfl <;> assumption) (by simp)
  have e : [a, b].map Int.ofNat = [(a : Int), (b : Int)] := rfl
  rw [e] at this
  rw [this]
  simp only [List.foldl_cons, List.foldl_nil]
  rw [xor_0 (rot_w32 hx (by omega)).1]

theorem turn3 (k : Nat) (x : Int) (a b c : Nat) (hk : 5 < k) (hx : w32 x) (ha : 1 ≤ a ∧ a ≤ 31) (hb : 1 ≤ b ∧ b ≤ 31) (hc : 1 ≤ c ∧ c ≤ 31) : digest_turn.f k x [(a : Int), (b : Int), (c : Int)] = some (xorI .u32 (xorI .u32 (rot x a) (rot x b)) (rot x c)) := by
  have := turn_eq k x [a, b, c] (by simp; omega) hx (by intro n hn; simp at hn; rcases hn with rfl | rfl | rfl <;> assumption) (by simp)
  have e : [a, b, c].map Int.ofNat = [(a : Int), (b : Int), (c : Int)] := rfl
  rw [e] at this
  rw [this]
  simp only [List.foldl_cons, List.foldl_nil]
  rw [xor_0 (rot_w32 hx (by omega)).1]

end Go.Proofs.YtkgpjplncfginaaGreatDoor.Sy
