/- What the functions on numbers of four words come to: order. -/
import Derived.Test.YtjciljaojcekeaaP0
import Derived.Test.YtjciljaojcekeaaWA
namespace Go.Proofs.Ytjciljaojcekeaa.Sx
open Go
set_option linter.unusedVariables false
set_option linter.unusedSimpArgs false

theorem cmp_at (k m : Nat) (n0 n1 n2 n3 m0 m1 m2 m3 : Nat) : whole_Compare.l0.f k 0 [(n0 : Int), (n1 : Int), (n2 : Int), (n3 : Int)] [(m0 : Int), (m1 : Int), (m2 : Int), (m3 : Int)] (m + 5) 3 =
    some (if n3 < m3 then .inr (-1) else if m3 < n3 then .inr 1 else if n2 < m2 then .inr (-1) else if m2 < n2 then .inr 1 else if n1 < m1 then .inr (-1) else if m1 < n1 then .inr 1 else if n0 < m0 then .inr (-1) else if m0 < n0 then .inr 1 else .inl (-1)) := by
  have s3 : subI .i64 3 1 = 2 := by decide
  have s2 : subI .i64 2 1 = 1 := by decide
  have s1 : subI .i64 1 1 = 0 := by decide
  have s0 : subI .i64 0 1 = -1 := by decide
  simp [whole_Compare.l0.f, whole_Compare.l0.go, whole_Compare.l0.step, s3, s2, s1, s0, Bool.cond_decide]
  by_cases h : n3 < m3
  · simp [h]
  by_cases h' : m3 < n3
  · simp [h, h']
  by_cases h2 : n2 < m2
  · simp [h, h', h2]
  by_cases h2' : m2 < n2
  · simp [h, h', h2, h2']
  by_cases h1 : n1 < m1
  · simp [h, h', h2, h2', h1]
  by_cases h1' : m1 < n1
  · simp [h, h', h2, h2', h1, h1']
  by_cases h0 : n0 < m0
  · simp [h, h', h2, h2', h1, h1', h0]
  by_cases h0' : m0 < n0
  · simp [h, h', h2, h2', h1, h1', h0, h0']
  simp [h, h', h2, h2', h1, h1', h0, h0']

def cmpV (a b : List Int) : Int := if vN a < vN b then -1 else if vN b < vN a then 1 else 0

theorem cmp_ev {a b : List Int} (ha : goodT numT a) (hb : goodT numT b) : Ev (fun k => whole_Compare.f k a b) (cmpV a b) := by
  obtain ⟨n0, n1, n2, n3, rfl, h0, h1, h2, h3⟩ := num4 ha
  obtain ⟨m0, m1, m2, m3, rfl, g0, g1, g2, g3⟩ := num4 hb
  refine Ev.of 5 fun m => ?_
  unfold whole_Compare.f whole_Compare.tree
  rw [cmp_at, cmpV, vN4, vN4]
  by_cases e3 : n3 < m3
  · rw [if_pos e3, if_pos (by omega)]; rfl
  rw [if_neg e3]
  by_cases e3' : m3 < n3
  · rw [if_pos e3', if_neg (by omega), if_pos (by omega)]; rfl
  rw [if_neg e3']
  by_cases e2 : n2 < m2
  · rw [if_pos e2, if_pos (by omega)]; rfl
  rw [if_neg e2]
  by_cases e2' : m2 < n2
  · rw [if_pos e2', if_neg (by omega), if_pos (by omega)]; rfl
  rw [if_neg e2']
  by_cases e1 : n1 < m1
  · rw [if_pos e1, if_pos (by omega)]; rfl
  rw [if_neg e1]
  by_cases e1' : m1 < n1
  · rw [if_pos e1', if_neg (by omega), if_pos (by omega)]; rfl
  rw [if_neg e1']
  by_cases e0 : n0 < m0
  · rw [if_pos e0, if_pos (by omega)]; rfl
  rw [if_neg e0]
  by_cases e0' : m0 < n0
  · rw [if_pos e0', if_neg (by omega), if_pos (by omega)]; rfl
  rw [if_neg e0', if_neg (by omega), if_neg (by omega)]; rfl

theorem less_ev {a b : List Int} (ha : goodT numT a) (hb : goodT numT b) : Ev (fun k => whole_Less.f k a b) (decide (vN a < vN b)) := by
  refine Ev.bind (cmp_ev ha hb) (Ev.const fun k => ?_)
  unfold cmpV
  by_cases h : vN a < vN b
  · simp [h]
  · by_cases h' : vN b < vN a <;> simp [h, h']

/-! ### The reference's order, bit by bit -/

theorem wrap_u64 {n : Int} (h : 0 ≤ n) (h' : n < 2 ^ 64) : IntKind.wrap .u64 n = n := by
  unfold IntKind.wrap
  simp only [IntKind.signed, IntKind.bits, Bool.false_and, Bool.false_eq_true, if_false]
  omega

theorem wrap_i64 {n : Int} (h : -2 ^ 63 ≤ n) (h' : n < 2 ^ 63) : IntKind.wrap .i64 n = n := by
  unfold IntKind.wrap
  by_cases hs : n % 18446744073709551616 ≥ 9223372036854775808
  · have : (IntKind.i64.signed && decide (n % (2 ^ IntKind.i64.bits : Int) ≥ (2 ^ (IntKind.i64.bits - 1) : Int))) = true := by
      simp only [IntKind.signed, IntKind.bits, Bool.true_and]; exact decide_eq_true hs
    simp only [this, if_true]
    simp only [IntKind.bits]; omega
  · have : (IntKind.i64.signed && decide (n % (2 ^ IntKind.i64.bits : Int) ≥ (2 ^ (IntKind.i64.bits - 1) : Int))) = false := by
      simp only [IntKind.signed, IntKind.bits, Bool.true_and]; exact decide_eq_false hs
    simp only [this, Bool.false_eq_true, if_false]
    simp only [IntKind.bits]; omega

def bitV (a : List Int) (i : Nat) : Int := ((vN a / 2 ^ i % 2 : Nat) : Int)

theorem word_bit (n r s : Nat) (h : n < 2 ^ 64) (hs : s < 64) : (n + 2 ^ 64 * r) / 2 ^ s % 2 = n / 2 ^ s % 2 := by
  have e : 2 ^ 64 * r = 2 ^ s * (2 * (2 ^ (63 - s) * r)) := by
    rw [← Nat.mul_assoc 2, ← Nat.mul_assoc, ← Nat.pow_succ', ← Nat.pow_add]
    congr 2; omega
  rw [e, Nat.add_mul_div_left _ _ (Nat.two_pow_pos s), Nat.add_mul_mod_self_left]

theorem skip_word (n r q : Nat) (h : n < 2 ^ 64) : (n + 2 ^ 64 * r) / 2 ^ (64 + q) = r / 2 ^ q := by
  rw [Nat.pow_add, ← Nat.div_div_eq_div_mul]
  congr 1
  omega

theorem bitV4 (n0 n1 n2 n3 : Nat) (h0 : n0 < 2 ^ 64) (h1 : n1 < 2 ^ 64) (h2 : n2 < 2 ^ 64) (h3 : n3 < 2 ^ 64) (w s : Nat) (hw : w < 4) (hs : s < 64) :
    (n0 + 2 ^ 64 * (n1 + 2 ^ 64 * (n2 + 2 ^ 64 * n3))) / 2 ^ (64 * w + s) % 2 = ([n0, n1, n2, n3].getD w 0) / 2 ^ s % 2 := by
  match w, hw with
  | 0, _ => simpa using word_bit n0 _ s h0 hs
  | 1, _ => rw [show 64 * 1 + s = 64 + s by omega, skip_word _ _ _ h0]; simpa using word_bit n1 _ s h1 hs
  | 2, _ => rw [show 64 * 2 + s = 64 + (64 + s) by omega, skip_word _ _ _ h0, skip_word _ _ _ h1]; simpa using word_bit n2 _ s h2 hs
  | 3, _ => rw [show 64 * 3 + s = 64 + (64 + (64 + s)) by omega, skip_word _ _ _ h0, skip_word _ _ _ h1, skip_word _ _ _ h2]; simp

theorem shr_u64 (n s : Nat) (hs : s < 64) : shrI .u64 (n : Int) (s : Int) = ((n / 2 ^ s : Nat) : Int) := by
  unfold shrI
  simp only [IntKind.bits, Int.toNat_natCast]
  rw [Nat.min_eq_left (by omega)]
  rw [show ((2 : Int) ^ s) = ((2 ^ s : Nat) : Int) by simp, ← Int.ofNat_eq_natCast, ← Int.ofNat_eq_natCast, Int.ofNat_fdiv]
  rfl

theorem bit_at {a : List Int} (ha : goodT numT a) (k i : Nat) (hi : i < 256) : trailheadref02_Bit.f k a (i : Int) = some (bitV a i) := by
  obtain ⟨n0, n1, n2, n3, rfl, h0, h1, h2, h3⟩ := num4 ha
  have hq : quoI .i64 (i : Int) 64 = ((i / 64 : Nat) : Int) := by
    unfold quoI
    rw [show ((i : Int).tdiv 64) = ((i / 64 : Nat) : Int) by rw [Int.tdiv_eq_ediv_of_nonneg (by omega)]; omega]
    exact wrap_i64 (by omega) (by omega)
  have hr : remI (i : Int) 64 = ((i % 64 : Nat) : Int) := by
    unfold remI
    rw [Int.tmod_eq_emod_of_nonneg (by omega)]; omega
  unfold trailheadref02_Bit.f trailheadref02_Bit.tree
  rw [hq, hr, wrap_u64 (n := ((i % 64 : Nat) : Int)) (by omega) (by omega), Int.toNat_natCast]
  have d1 : decide ((i : Int) < 0) = false := decide_eq_false (by omega)
  have d2 : decide ((i : Int) > 255) = false := decide_eq_false (by omega)
  have d3 : decide ((0 : Int) ≤ ((i / 64 : Nat) : Int)) = true := decide_eq_true (by omega)
  have d4 : decide (((i / 64 : Nat) : Int) < 4) = true := decide_eq_true (by omega)
  have d5 : decide (i / 64 < 4) = true := decide_eq_true (by omega)
  have d6 : decide (((i % 64 : Nat) : Int) < 0) = false := decide_eq_false (by omega)
  rw [d1, d2, d3, d4, d5, d6]
  simp only [cond_false, cond_true]
  congr 1
  have hw : i / 64 < 4 := by omega
  have hs : i % 64 < 64 := by omega
  have e : List.getD [(n0 : Int), (n1 : Int), (n2 : Int), (n3 : Int)] (i / 64) 0 = (([n0, n1, n2, n3].getD (i / 64) 0 : Nat) : Int) := by
    generalize i / 64 = w at hw
    match w, hw with
    | 0, _ => rfl
    | 1, _ => rfl
    | 2, _ => rfl
    | 3, _ => rfl
  rw [e, shr_u64 _ _ hs]
  have e2 : ∀ y : Nat, remI (y : Int) 2 = ((y % 2 : Nat) : Int) := fun y => by
    unfold remI
    rw [Int.tmod_eq_emod_of_nonneg (by omega)]; omega
  have e3 : ∀ y : Nat, IntKind.wrap .i64 ((y % 2 : Nat) : Int) = ((y % 2 : Nat) : Int) := fun y => wrap_i64 (by omega) (by omega)
  rw [e2, e3]
  unfold bitV
  rw [vN4, ← bitV4 n0 n1 n2 n3 h0 h1 h2 h3 _ _ hw hs, show 64 * (i / 64) + i % 64 = i by omega]

end Go.Proofs.Ytjciljaojcekeaa.Sx
