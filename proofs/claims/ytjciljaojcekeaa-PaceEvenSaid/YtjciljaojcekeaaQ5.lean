
/- WholeOrder, on data alone: Compare, Less, Zero and Len answer what the document says, of all numbers. -/
import Derived.Test.YtjciljaojcekeaaQ4
namespace Go.Proofs.Ytjciljaojcekeaa.Sx
open Go
set_option linter.unusedVariables false
set_option linter.unusedSimpArgs false

theorem whole_alive : Ev (fun k => trailheadlaw02_alive.f k) true := Ev.of 20 fun m => by kernel_rfl

theorem getD0 (a b c d : Int) : List.getD [a, b, c, d] (Int.toNat 0) 0 = a := rfl
theorem getD1 (a b c d : Int) : List.getD [a, b, c, d] (Int.toNat 1) 0 = b := rfl
theorem getD2 (a b c d : Int) : List.getD [a, b, c, d] (Int.toNat 2) 0 = c := rfl
theorem getD3 (a b c d : Int) : List.getD [a, b, c, d] (Int.toNat 3) 0 = d := rfl

theorem len_ev {a : List Int} (ha : goodT numT a) : ∃ m : Nat, m ≤ 256 ∧ Ev (fun k => whole_Len.f k a) (m : Int) ∧ IsLen (vN a) m := by
  obtain ⟨n0, n1, n2, n3, rfl, h0, h1, h2, h3⟩ := num4 ha
  obtain ⟨m0, b0, e0, l0⟩ := len64 n0 h0
  obtain ⟨m1, b1, e1, l1⟩ := len64 n1 h1
  obtain ⟨m2, b2, e2, l2⟩ := len64 n2 h2
  obtain ⟨m3, b3, e3, l3⟩ := len64 n3 h3
  have s3 : subI .i64 3 1 = 2 := by decide
  have s2 : subI .i64 2 1 = 1 := by decide
  have s1 : subI .i64 1 1 = 0 := by decide
  have s0 : subI .i64 0 1 = -1 := by decide
  have u3 : mulI .i64 64 3 = 192 := by decide
  have u2 : mulI .i64 64 2 = 128 := by decide
  have u1 : mulI .i64 64 1 = 64 := by decide
  have u0 : mulI .i64 64 0 = 0 := by decide
  have ad : ∀ (x : Nat) (y : Nat), x ≤ 192 → y ≤ 64 → addI .i64 (x : Int) (y : Int) = ((x + y : Nat) : Int) := fun x y hx hy => by
    unfold addI; rw [wrap_i64 (by omega) (by omega)]; omega
  have ad3 : addI .i64 192 (m3 : Int) = ((192 + m3 : Nat) : Int) := ad 192 m3 (by omega) b3
  have ad2 : addI .i64 128 (m2 : Int) = ((128 + m2 : Nat) : Int) := ad 128 m2 (by omega) b2
  have ad1 : addI .i64 64 (m1 : Int) = ((64 + m1 : Nat) : Int) := ad 64 m1 (by omega) b1
  have ad0 : addI .i64 0 (m0 : Int) = ((0 + m0 : Nat) : Int) := ad 0 m0 (by omega) b0
  have run : ∀ m : Nat, whole_Len.f (m + 5) [(n0 : Int), (n1 : Int), (n2 : Int), (n3 : Int)] =
      some (if n3 ≠ 0 then ((192 + m3 : Nat) : Int) else if n2 ≠ 0 then ((128 + m2 : Nat) : Int) else if n1 ≠ 0 then ((64 + m1 : Nat) : Int) else if n0 ≠ 0 then ((0 + m0 : Nat) : Int) else 0) := by
    intro m
    simp only [whole_Len.f, whole_Len.tree, whole_Len.l0.f, whole_Len.l0.go, whole_Len.l0.step, getD3, getD2, getD1, getD0, e3, e2, e1, e0, s3, s2, s1, s0, u3, u2, u1, u0, Option.bind_some, ad3, ad2, ad1, ad0]
    have z : ∀ n : Nat, ((n : Int) != 0) = decide (n ≠ 0) := fun n => by
      by_cases h : n = 0
      · subst h; rfl
      · rw [decide_eq_true h]; simp; exact h
    rw [z, z, z, z]
    by_cases c3 : n3 ≠ 0
    · rw [if_pos c3, decide_eq_true c3]; rfl
    rw [if_neg c3, decide_eq_false c3]
    by_cases c2 : n2 ≠ 0
    · rw [if_pos c2, decide_eq_true c2]; rfl
    rw [if_neg c2, decide_eq_false c2]
    by_cases c1 : n1 ≠ 0
    · rw [if_pos c1, decide_eq_true c1]; rfl
    rw [if_neg c1, decide_eq_false c1]
    by_cases c0 : n0 ≠ 0
    · rw [if_pos c0, decide_eq_true c0]; rfl
    rw [if_neg c0, decide_eq_false c0]; rfl
  rw [vN4]
  by_cases c3 : n3 = 0
  · by_cases c2 : n2 = 0
    · by_cases c1 : n1 = 0
      · by_cases c0 : n0 = 0
        · refine ⟨0, by omega, Ev.of 5 fun m => ?_, ?_⟩
          · rw [run]; simp [c3, c2, c1, c0]
          · subst c3 c2 c1 c0; exact IsLen.zero
        · refine ⟨0 + m0, by omega, Ev.of 5 fun m => ?_, ?_⟩
          · rw [run]; simp [c3, c2, c1, c0]
          · subst c3 c2 c1; simpa using l0
      · refine ⟨64 + m1, by omega, Ev.of 5 fun m => ?_, ?_⟩
        · rw [run]; simp [c3, c2, c1]
        · subst c3 c2
          have e : (n0 + 2 ^ 64 * (n1 + 2 ^ 64 * (0 + 2 ^ 64 * 0))) / 2 ^ 64 = n1 := by omega
          exact IsLen.shift (by rw [e]; exact l1) (by rw [e]; omega)
    · refine ⟨128 + m2, by omega, Ev.of 5 fun m => ?_, ?_⟩
      · rw [run]; simp [c3, c2]
      · subst c3
        have e : (n0 + 2 ^ 64 * (n1 + 2 ^ 64 * (n2 + 2 ^ 64 * 0))) / 2 ^ 128 = n2 := by omega
        exact IsLen.shift (by rw [e]; exact l2) (by rw [e]; omega)
  · refine ⟨192 + m3, by omega, Ev.of 5 fun m => ?_, ?_⟩
    · rw [run]; simp [c3]
    · have e : (n0 + 2 ^ 64 * (n1 + 2 ^ 64 * (n2 + 2 ^ 64 * n3))) / 2 ^ 192 = n3 := by omega
      exact IsLen.shift (by rw [e]; exact l3) (by rw [e]; omega)

/-- The highest bit that is set, and one, among the lowest 'i'. -/
def topBit (a : List Int) : Nat → Nat
  | 0 => 0
  | i + 1 => if bitV a i = 1 then i + 1 else topBit a i

theorem topBit_succ (a : List Int) (i : Nat) : topBit a (i + 1) = if bitV a i = 1 then i + 1 else topBit a i := rfl

theorem topBit_le (a : List Int) : ∀ i, topBit a i ≤ i
  | 0 => Nat.le_refl _
  | i + 1 => by
    have := topBit_le a i
    unfold topBit; split <;> omega

theorem topBit_len (a : List Int) : ∀ i, IsLen (vN a % 2 ^ i) (topBit a i)
  | 0 => by simp only [Nat.pow_zero, Nat.mod_one, topBit]; exact IsLen.zero
  | i + 1 => by
    have ih := topBit_len a i
    have ea := Nat.mod_pow_succ (b := 2) (k := i) (x := vN a)
    have la := Nat.mod_lt (vN a) (Nat.two_pow_pos i)
    have h1 : vN a / 2 ^ i % 2 < 2 := Nat.mod_lt _ (by omega)
    unfold topBit bitV
    rw [ea]
    generalize vN a / 2 ^ i % 2 = x at *
    match x, h1 with
    | 0, _ => rw [if_neg (by simp)]; simpa using ih
    | 1, _ =>
      rw [if_pos (show ((1 : Nat) : Int) = 1 from rfl)]
      refine ⟨by rw [Nat.pow_succ]; omega, fun _ => by simp⟩

theorem top_loop {a b : List Int} (ha : goodT numT a) (x4 x5 : Bool) (x6 : Int) : ∀ j i : Nat, j + i = 256 → Ev2 (fun k n => trailheadlaw02_WholeOrder.l0.f k x4 x5 x6 a b n ((topBit a i : Nat) : Int) (i : Int)) (((topBit a 256 : Nat) : Int), 256)
  | 0, i, h => by
    have : i = 256 := by omega
    subst this
    exact Ev2.succ (G := fun k n => some (((topBit a 256 : Nat) : Int), 256)) (fun k n => rfl) (Ev2.const fun _ _ => rfl)
  | j + 1, i, h => by
    have ih := top_loop (b := b) ha x4 x5 x6 j (i + 1) (by omega)
    refine Ev2.succ (G := fun k n => trailheadlaw02_WholeOrder.l0.f k x4 x5 x6 a b n ((topBit a (i + 1) : Nat) : Int) ((i + 1 : Nat) : Int)) (fun k n => ?_) ih
    simp only [trailheadlaw02_WholeOrder.l0.f, trailheadlaw02_WholeOrder.l0.go, trailheadlaw02_WholeOrder.l0.step]
    rw [decide_eq_true (by omega), bit_at ha k i (by omega), addI_one (by omega) (by omega)]
    simp only [cond_true, Option.bind_some]
    have e : ((i : Int) + 1) = ((i + 1 : Nat) : Int) := by omega
    rw [e, topBit_succ]
    by_cases hb : bitV a i = 1
    · rw [if_pos hb, hb]; rfl
    · rw [if_neg hb]
      have : (bitV a i == 1) = false := by simp [hb]
      rw [this]; rfl

end Go.Proofs.Ytjciljaojcekeaa.Sx
