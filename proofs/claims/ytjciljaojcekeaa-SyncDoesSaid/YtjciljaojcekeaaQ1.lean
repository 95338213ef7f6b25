/- The reference's Less. -/
import Derived.Test.YtjciljaojcekeaaQ0
namespace Go.Proofs.Ytjciljaojcekeaa.Sx
open Go
set_option linter.unusedVariables false
set_option linter.unusedSimpArgs false

def lessR (a b : List Int) : Nat → Int ⊕ Bool
  | 0 => .inl (-1)
  | i + 1 => if bitV a i = bitV b i then lessR a b i else .inr (decide (bitV a i < bitV b i))

theorem subI_one {i : Int} (h : -2 ^ 62 < i) (h' : i < 2 ^ 62) : subI .i64 i 1 = i - 1 := wrap_i64 (by omega) (by omega)
theorem addI_one {i : Int} (h : -2 ^ 62 < i) (h' : i < 2 ^ 62) : addI .i64 i 1 = i + 1 := wrap_i64 (by omega) (by omega)

theorem refless_loop {a b : List Int} (ha : goodT numT a) (hb : goodT numT b) (x : Bool) : ∀ i : Nat, i ≤ 256 → Ev2 (fun k n => trailheadref02_Less.l0.f k x a b n ((i : Int) - 1)) (lessR a b i)
  | 0, _ => Ev2.succ (G := fun k n => some (.inl (-1))) (fun k n => rfl) (Ev2.const fun _ _ => rfl)
  | i + 1, hi => by
    have ih := refless_loop ha hb x i (by omega)
    refine Ev2.succ (G := fun k n => if bitV a i = bitV b i then trailheadref02_Less.l0.f k x a b n ((i : Int) - 1) else some (.inr (decide (bitV a i < bitV b i)))) (fun k n => ?_) ?_
    · have e : (((i + 1 : Nat) : Int) - 1) = (i : Int) := by omega
      rw [e]
      simp only [trailheadref02_Less.l0.f, trailheadref02_Less.l0.go, trailheadref02_Less.l0.step]
      rw [bit_at ha k i (by omega), bit_at hb k i (by omega), decide_eq_true (by omega), subI_one (by omega) (by omega)]
      simp only [cond_true, Option.bind_some]
      by_cases h : bitV a i = bitV b i
      · simp [h]
      · rw [if_neg h, bne_iff_ne.2 h]; rfl
    · unfold lessR
      by_cases h : bitV a i = bitV b i
      · simp only [h, if_true]; exact ih
      · simp only [h, if_false]; exact Ev2.const fun _ _ => rfl

theorem lessR_eq (a b : List Int) : ∀ i : Nat, sel (lessR a b i) (fun _ => false) (fun q => q) = decide (vN a % 2 ^ i < vN b % 2 ^ i)
  | 0 => by simp [lessR, sel, Nat.mod_one]
  | i + 1 => by
    have ih := lessR_eq a b i
    have ea := Nat.mod_pow_succ (b := 2) (k := i) (x := vN a)
    have eb := Nat.mod_pow_succ (b := 2) (k := i) (x := vN b)
    have la := Nat.mod_lt (vN a) (Nat.two_pow_pos i)
    have lb := Nat.mod_lt (vN b) (Nat.two_pow_pos i)
    unfold lessR
    by_cases h : bitV a i = bitV b i
    · rw [if_pos h, ih, ea, eb]
      unfold bitV at h
      have h := Int.ofNat.inj h
      rw [h]
      congr 1
      simp
    · rw [if_neg h]
      simp only [sel]
      unfold bitV at h ⊢
      rw [ea, eb]
      have h1 : vN a / 2 ^ i % 2 < 2 := Nat.mod_lt _ (by omega)
      have h2 : vN b / 2 ^ i % 2 < 2 := Nat.mod_lt _ (by omega)
      generalize vN a / 2 ^ i % 2 = x at *
      generalize vN b / 2 ^ i % 2 = y at *
      generalize vN a % 2 ^ i = u at *
      generalize vN b % 2 ^ i = v at *
      generalize 2 ^ i = w at *
      match x, y, h1, h2 with
      | 0, 0, _, _ => exact absurd rfl h
      | 1, 1, _, _ => exact absurd rfl h
      | 0, 1, _, _ => simp; omega
      | 1, 0, _, _ => simp; omega

theorem refless_ev {a b : List Int} (ha : goodT numT a) (hb : goodT numT b) : Ev (fun k => trailheadref02_Less.f k a b) (decide (vN a < vN b)) := by
  have h := (refless_loop ha hb false 256 (Nat.le_refl _)).ev
  unfold trailheadref02_Less.f trailheadref02_Less.tree
  refine Ev.bind h (Ev.const fun k => ?_)
  have e := lessR_eq a b 256
  rw [Nat.mod_eq_of_lt (vN_lt ha), Nat.mod_eq_of_lt (vN_lt hb)] at e
  rw [← e]
  cases lessR a b 256 <;> rfl

end Go.Proofs.Ytjciljaojcekeaa.Sx
