/- How many bits a number has. -/
import Derived.Test.YtjciljaojcekeaaQ1
namespace Go.Proofs.Ytjciljaojcekeaa.Sx
open Go
set_option linter.unusedVariables false
set_option linter.unusedSimpArgs false

/-- 'm' is the number of bits of 'x'. -/
def IsLen (x m : Nat) : Prop := x < 2 ^ m ∧ (0 < m → 2 ^ (m - 1) ≤ x)

theorem IsLen.unique {x m n : Nat} (h : IsLen x m) (k : IsLen x n) : m = n := by
  rcases Nat.lt_trichotomy m n with hl | he | hl
  · have h1 := k.2 (by omega)
    have h2 : 2 ^ m ≤ 2 ^ (n - 1) := Nat.pow_le_pow_right (by omega) (by omega)
    have := h.1
    omega
  · exact he
  · have h1 := h.2 (by omega)
    have h2 : 2 ^ n ≤ 2 ^ (m - 1) := Nat.pow_le_pow_right (by omega) (by omega)
    have := k.1
    omega

theorem IsLen.zero : IsLen 0 0 := ⟨by simp, fun h => by omega⟩

theorem IsLen.shift {n s t : Nat} (h : IsLen (n / 2 ^ s) t) (h0 : 0 < n / 2 ^ s) : IsLen n (s + t) := by
  have hp := Nat.two_pow_pos s
  refine ⟨?_, fun _ => ?_⟩
  · have := (Nat.div_lt_iff_lt_mul hp).1 h.1
    rw [Nat.pow_add, Nat.mul_comm]; exact this
  · have ht : 0 < t := by
      rcases Nat.eq_zero_or_pos t with e | e
      · have := h.1; rw [e, Nat.pow_zero] at this; omega
      · exact e
    have := (Nat.le_div_iff_mul_le hp).1 (h.2 ht)
    rw [show s + t - 1 = (t - 1) + s by omega, Nat.pow_add]; exact this

theorem tab_len : ∀ x : Nat, x < 256 → ∃ m : Nat, m ≤ 8 ∧ strAt bytes0 x = (m : Int) ∧ IsLen x m := by
  have h : ∀ x : Fin 256, (strAt bytes0 x.1).toNat ≤ 8 ∧ strAt bytes0 x.1 = ((strAt bytes0 x.1).toNat : Int) ∧ x.1 < 2 ^ (strAt bytes0 x.1).toNat ∧ (0 < (strAt bytes0 x.1).toNat → 2 ^ ((strAt bytes0 x.1).toNat - 1) ≤ x.1) := by decide +kernel
  intro x hx
  obtain ⟨h1, h2, h3, h4⟩ := h ⟨x, hx⟩
  exact ⟨_, h1, h2, h3, h4⟩

theorem wrap_u8 {n : Int} (h : 0 ≤ n) (h' : n < 256) : IntKind.wrap .u8 n = n := by
  unfold IntKind.wrap
  simp only [IntKind.signed, IntKind.bits, Bool.false_and, Bool.false_eq_true, if_false]
  omega

/-- A leaf of Len64. -/
theorem len_leaf (n : Nat) (B : Int) (x s : Nat) (hB : B = (s : Int)) (hs : s ≤ 56) (hx : n / 2 ^ s = x) (hlt : x < 256) (hpos : 0 < x ∨ s = 0) :
    ∃ m : Nat, m ≤ 64 ∧ (bif decide ((0 : Int) ≤ IntKind.wrap .u8 (x : Int)) then (bif decide (IntKind.wrap .u8 (x : Int) < (ByteArray.size bytes0 : Int)) then some (addI .i64 B (IntKind.wrap .i64 (strAt bytes0 (Int.toNat (IntKind.wrap .u8 (x : Int)))))) else none) else none) = some (m : Int) ∧ IsLen n m := by
  obtain ⟨m, h1, h2, h3⟩ := tab_len x hlt
  have hsz : (ByteArray.size bytes0 : Int) = 256 := by kernel_rfl
  rw [wrap_u8 (by omega) (by omega), hsz, decide_eq_true (by omega), decide_eq_true (by omega), Int.toNat_natCast, h2, wrap_i64 (by omega) (by omega)]
  refine ⟨s + m, by omega, ?_, ?_⟩
  · simp only [cond_true, addI]
    rw [hB, wrap_i64 (by omega) (by omega)]; simp
  · rcases hpos with h | h
    · exact IsLen.shift (by rw [hx]; exact h3) (by rw [hx]; exact h)
    · subst h; simp at hx; subst hx; simpa using h3

theorem len64 (n : Nat) (hn : n < 2 ^ 64) : ∃ m : Nat, m ≤ 64 ∧ (∀ k, math_bits_Len64.f k (n : Int) = some (m : Int)) ∧ IsLen n m := by
  have sh : ∀ (x s : Nat), s < 64 → shrI .u64 (x : Int) (s : Int) = ((x / 2 ^ s : Nat) : Int) := fun x s hs => shr_u64 x s hs
  have s32 : ∀ x : Nat, shrI .u64 (x : Int) 32 = ((x / 2 ^ 32 : Nat) : Int) := fun x => sh x 32 (by omega)
  have s16 : ∀ x : Nat, shrI .u64 (x : Int) 16 = ((x / 2 ^ 16 : Nat) : Int) := fun x => sh x 16 (by omega)
  have s8 : ∀ x : Nat, shrI .u64 (x : Int) 8 = ((x / 2 ^ 8 : Nat) : Int) := fun x => sh x 8 (by omega)
  have key : ∀ (T : Option Int), (∀ k, math_bits_Len64.f k (n : Int) = T) → (∃ m : Nat, m ≤ 64 ∧ T = some (m : Int) ∧ IsLen n m) → ∃ m : Nat, m ≤ 64 ∧ (∀ k, math_bits_Len64.f k (n : Int) = some (m : Int)) ∧ IsLen n m := by
    rintro T h ⟨m, h1, h2, h3⟩
    exact ⟨m, h1, fun k => (h k).trans h2, h3⟩
  refine key _ (fun k => rfl) ?_
  simp only [math_bits_Len64.tree, s32, s16, s8]
  have dd : ∀ a b c : Nat, n / 2 ^ a / 2 ^ b / 2 ^ c = n / 2 ^ (a + b + c) := fun a b c => by rw [Nat.div_div_eq_div_mul, Nat.div_div_eq_div_mul, ← Nat.pow_add, ← Nat.pow_add, Nat.add_assoc]
  have d2 : ∀ a b : Nat, n / 2 ^ a / 2 ^ b = n / 2 ^ (a + b) := fun a b => by rw [Nat.div_div_eq_div_mul, ← Nat.pow_add]
  simp only [dd, d2, Nat.reduceAdd]
  by_cases h1 : (n : Int) ≥ 4294967296
  · rw [decide_eq_true h1]
    by_cases h2 : ((n / 2 ^ 32 : Nat) : Int) ≥ 65536
    · rw [decide_eq_true h2]
      by_cases h3 : ((n / 2 ^ 48 : Nat) : Int) ≥ 256
      · rw [decide_eq_true h3]; simp only [cond_true, cond_false]; exact len_leaf n 56 _ 56 rfl (by omega) rfl (by omega) (by omega)
      · rw [decide_eq_false h3]; simp only [cond_true, cond_false]; exact len_leaf n 48 _ 48 rfl (by omega) rfl (by omega) (by omega)
    · rw [decide_eq_false h2]
      by_cases h3 : ((n / 2 ^ 32 : Nat) : Int) ≥ 256
      · rw [decide_eq_true h3]; simp only [cond_true, cond_false]; exact len_leaf n 40 _ 40 rfl (by omega) rfl (by omega) (by omega)
      · rw [decide_eq_false h3]; simp only [cond_true, cond_false]; exact len_leaf n 32 _ 32 rfl (by omega) rfl (by omega) (by omega)
  · rw [decide_eq_false h1]
    by_cases h2 : (n : Int) ≥ 65536
    · rw [decide_eq_true h2]
      by_cases h3 : ((n / 2 ^ 16 : Nat) : Int) ≥ 256
      · rw [decide_eq_true h3]; simp only [cond_true, cond_false]; exact len_leaf n 24 _ 24 rfl (by omega) rfl (by omega) (by omega)
      · rw [decide_eq_false h3]; simp only [cond_true, cond_false]; exact len_leaf n 16 _ 16 rfl (by omega) rfl (by omega) (by omega)
    · rw [decide_eq_false h2]
      by_cases h3 : (n : Int) ≥ 256
      · rw [decide_eq_true h3]; simp only [cond_true, cond_false]; exact len_leaf n 8 _ 8 rfl (by omega) rfl (by omega) (by omega)
      · rw [decide_eq_false h3]; simp only [cond_true, cond_false]; exact len_leaf n 0 _ 0 rfl (by omega) (by simp) (by omega) (by omega)

end Go.Proofs.Ytjciljaojcekeaa.Sx
