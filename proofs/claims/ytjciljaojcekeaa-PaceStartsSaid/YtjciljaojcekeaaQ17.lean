/- Div64, digit by digit. -/
import Derived.Test.YtjciljaojcekeaaQ16
namespace Go.Proofs.Ytjciljaojcekeaa.Sx
open Go
set_option linter.unusedVariables false
set_option linter.unusedSimpArgs false
set_option maxRecDepth 100000

theorem big_iff {q y0 r u1 : Nat} (hq : q < 2 ^ 32) (h0 : y0 < 2 ^ 32) (hr : r < 2 ^ 32) (hu1 : u1 < 2 ^ 32) :
    decide (mulI .u64 (q : Int) (y0 : Int) > addI .u64 (mulI .u64 4294967296 (r : Int)) (u1 : Int)) = decide (2 ^ 32 * r + u1 < q * y0) := by
  have hm := Nat.mul_le_mul (show q ≤ 2 ^ 32 - 1 by omega) (show y0 ≤ 2 ^ 32 - 1 by omega)
  rw [mulU, show (4294967296 : Int) = ((4294967296 : Nat) : Int) from rfl, mulU, addU, Bool.eq_iff_iff, decide_eq_true_iff, decide_eq_true_iff]
  generalize q * y0 = c at *
  omega

structure Digit (y1 y0 u32 u1 Q : Nat) : Prop where
  h1 : 2 ^ 31 ≤ y1
  h1' : y1 < 2 ^ 32
  h0 : y0 < 2 ^ 32
  hu : u32 < y1 * 2 ^ 32 + y0
  hu1 : u1 < 2 ^ 32
  hQ : (u32 * 2 ^ 32 + u1) / (y1 * 2 ^ 32 + y0) = Q

namespace Digit
variable {y1 y0 u32 u1 Q : Nat} (d : Digit y1 y0 u32 u1 Q)
include d

theorem lt : Q < 2 ^ 32 := by
  obtain ⟨h1, h1', h0, hu, hu1, hQ⟩ := d
  rw [← hQ, Nat.div_lt_iff_lt_mul (show 0 < y1 * 2 ^ 32 + y0 by omega)]
  have : ∀ y : Nat, u32 < y → u32 * 2 ^ 32 + u1 < 2 ^ 32 * y := fun y hy => by omega
  exact this _ hu

theorem le_iff {q r : Nat} (hq : q * y1 + r = u32) : q ≤ Q ↔ q * y0 ≤ 2 ^ 32 * r + u1 := by
  subst hq
  obtain ⟨h1, h1', h0, hu, hu1, hQ⟩ := d
  rw [← hQ, Nat.le_div_iff_mul_le (show 0 < y1 * 2 ^ 32 + y0 by omega), Nat.mul_add, ← Nat.mul_assoc]
  generalize q * y1 = a at *
  generalize q * y0 = c at *
  omega

/-- One less, and out. -/
theorem out {q r : Nat} (hq : q * y1 + r = u32) (hQ : Q < q) (hr : 2 ^ 32 ≤ r + y1) : Q = q - 1 := by
  obtain ⟨p, rfl⟩ : ∃ p, q = p + 1 := ⟨q - 1, by omega⟩
  have hq' : p * y1 + (r + y1) = u32 := by rw [← hq, Nat.add_mul]; omega
  have hle := (d.le_iff hq').2 (by
    have hp : p < 2 ^ 32 := by
      refine Nat.lt_of_mul_lt_mul_right (a := y1) ?_
      have := d.h0
      have := d.hu
      omega
    have := Nat.mul_le_mul (show p ≤ 2 ^ 32 by omega) (show y0 ≤ 2 ^ 32 by have := d.h0; omega)
    generalize p * y0 = c at *
    omega)
  omega

theorem loop0 (x2 x6 x7 x8 x11 x14 : Int) : ∀ (m q r : Nat), q = Q + m → q * y1 + r = u32 → r < 2 ^ 32 → q < 2 ^ 64 →
    Ev2 (fun k n => math_bits_Div64.l0.f k x2 x6 x7 x8 (y1 : Int) (y0 : Int) x11 (u1 : Int) x14 n (q : Int) (r : Int)) ((Q : Int), ((u32 - Q * y1 : Nat) : Int)) := by
  have hlt := d.lt
  intro m
  induction m with
  | zero =>
    intro q r e hq hr hq64
    have hle := (d.le_iff hq).1 (by omega)
    have e' : Q = q := by omega
    have e1 : u32 - Q * y1 = r := by rw [e']; omega
    rw [e1, e']
    rw [e'] at hlt
    refine Ev2.succ (G := fun k n => some ((q : Int), (r : Int))) (fun k n => ?_) (Ev2.const fun _ _ => rfl)
    simp only [math_bits_Div64.l0.f, math_bits_Div64.l0.go, math_bits_Div64.l0.step]
    rw [decide_eq_false (show ¬ (q : Int) ≥ 4294967296 by omega), big_iff hlt d.h0 hr d.hu1, decide_eq_false (show ¬ 2 ^ 32 * r + u1 < q * y0 by omega)]; rfl
  | succ m ih =>
    intro q r e hq hr hq64
    have hnot : ¬ q * y0 ≤ 2 ^ 32 * r + u1 := fun h => by have := (d.le_iff hq).2 h; omega
    have h1 := d.h1
    have h1' := d.h1'
    have es : subI .u64 (q : Int) 1 = ((q - 1 : Nat) : Int) := by
      have := subU q 1 (by omega)
      rw [show ((1 : Nat) : Int) = 1 from rfl] at this
      rw [this, Nat.mod_eq_of_lt (by omega)]
    have ea : addI .u64 (r : Int) (y1 : Int) = ((r + y1 : Nat) : Int) := by rw [addU, Nat.mod_eq_of_lt (by omega)]
    have hq' : (q - 1) * y1 + (r + y1) = u32 := by
      obtain ⟨p, rfl⟩ : ∃ p, q = p + 1 := ⟨q - 1, by omega⟩
      rw [← hq, Nat.add_sub_cancel, Nat.add_mul]; omega
    have cond : (decide ((q : Int) ≥ 4294967296) || decide (mulI .u64 (q : Int) (y0 : Int) > addI .u64 (mulI .u64 4294967296 (r : Int)) (u1 : Int))) = true := by
      rcases Nat.lt_or_ge q (2 ^ 32) with hs | hs
      · rw [Bool.or_eq_true]
        right
        rw [big_iff hs d.h0 hr d.hu1, decide_eq_true_iff]; omega
      · rw [Bool.or_eq_true]; left; exact decide_eq_true (by omega)
    by_cases hb : 2 ^ 32 ≤ r + y1
    · have ho := d.out hq (by omega) hb
      have e1 : u32 - Q * y1 = r + y1 := by rw [ho]; omega
      rw [e1, ho]
      refine Ev2.succ (G := fun k n => some (((q - 1 : Nat) : Int), ((r + y1 : Nat) : Int))) (fun k n => ?_) (Ev2.const fun _ _ => rfl)
      simp only [math_bits_Div64.l0.f, math_bits_Div64.l0.go, math_bits_Div64.l0.step, es, ea]
      rw [decide_eq_true (show ((r + y1 : Nat) : Int) ≥ 4294967296 by omega)]
      rcases Bool.or_eq_true _ _ ▸ cond with h | h
      · rw [h]; rfl
      · rw [h]; cases decide ((q : Int) ≥ 4294967296) <;> rfl
    · refine Ev2.succ (fun k n => ?_) (ih (q - 1) (r + y1) (by omega) hq' (by omega) (by omega))
      simp only [math_bits_Div64.l0.f, math_bits_Div64.l0.go, math_bits_Div64.l0.step, es, ea]
      rw [decide_eq_false (show ¬ ((r + y1 : Nat) : Int) ≥ 4294967296 by omega)]
      rcases Bool.or_eq_true _ _ ▸ cond with h | h
      · rw [h]; rfl
      · rw [h]; cases decide ((q : Int) ≥ 4294967296) <;> rfl

theorem loop2 (x2 x6 x7 x8 x15 x17 : Int) : ∀ (m q r : Nat), q = Q + m → q * y1 + r = u32 → r < 2 ^ 32 → q < 2 ^ 64 →
    Ev2 (fun k n => math_bits_Div64.l2.f k x2 x6 x7 x8 (y1 : Int) (y0 : Int) (u1 : Int) x15 x17 n (r : Int) (q : Int)) (((u32 - Q * y1 : Nat) : Int), (Q : Int)) := by
  have hlt := d.lt
  intro m
  induction m with
  | zero =>
    intro q r e hq hr hq64
    have hle := (d.le_iff hq).1 (by omega)
    have e' : Q = q := by omega
    have e1 : u32 - Q * y1 = r := by rw [e']; omega
    rw [e1, e']
    rw [e'] at hlt
    refine Ev2.succ (G := fun k n => some ((r : Int), (q : Int))) (fun k n => ?_) (Ev2.const fun _ _ => rfl)
    simp only [math_bits_Div64.l2.f, math_bits_Div64.l2.go, math_bits_Div64.l2.step]
    rw [decide_eq_false (show ¬ (q : Int) ≥ 4294967296 by omega), big_iff hlt d.h0 hr d.hu1, decide_eq_false (show ¬ 2 ^ 32 * r + u1 < q * y0 by omega)]; rfl
  | succ m ih =>
    intro q r e hq hr hq64
    have hnot : ¬ q * y0 ≤ 2 ^ 32 * r + u1 := fun h => by have := (d.le_iff hq).2 h; omega
    have h1 := d.h1
    have h1' := d.h1'
    have es : subI .u64 (q : Int) 1 = ((q - 1 : Nat) : Int) := by
      have := subU q 1 (by omega)
      rw [show ((1 : Nat) : Int) = 1 from rfl] at this
      rw [this, Nat.mod_eq_of_lt (by omega)]
    have ea : addI .u64 (r : Int) (y1 : Int) = ((r + y1 : Nat) : Int) := by rw [addU, Nat.mod_eq_of_lt (by omega)]
    have hq' : (q - 1) * y1 + (r + y1) = u32 := by
      obtain ⟨p, rfl⟩ : ∃ p, q = p + 1 := ⟨q - 1, by omega⟩
      rw [← hq, Nat.add_sub_cancel, Nat.add_mul]; omega
    have cond : (decide ((q : Int) ≥ 4294967296) || decide (mulI .u64 (q : Int) (y0 : Int) > addI .u64 (mulI .u64 4294967296 (r : Int)) (u1 : Int))) = true := by
      rcases Nat.lt_or_ge q (2 ^ 32) with hs | hs
      · rw [Bool.or_eq_true]
        right
        rw [big_iff hs d.h0 hr d.hu1, decide_eq_true_iff]; omega
      · rw [Bool.or_eq_true]; left; exact decide_eq_true (by omega)
    by_cases hb : 2 ^ 32 ≤ r + y1
    · have ho := d.out hq (by omega) hb
      have e1 : u32 - Q * y1 = r + y1 := by rw [ho]; omega
      rw [e1, ho]
      refine Ev2.succ (G := fun k n => some (((r + y1 : Nat) : Int), ((q - 1 : Nat) : Int))) (fun k n => ?_) (Ev2.const fun _ _ => rfl)
      simp only [math_bits_Div64.l2.f, math_bits_Div64.l2.go, math_bits_Div64.l2.step, es, ea]
      rw [decide_eq_true (show ((r + y1 : Nat) : Int) ≥ 4294967296 by omega)]
      rcases Bool.or_eq_true _ _ ▸ cond with h | h
      · rw [h]; rfl
      · rw [h]; cases decide ((q : Int) ≥ 4294967296) <;> rfl
    · refine Ev2.succ (fun k n => ?_) (ih (q - 1) (r + y1) (by omega) hq' (by omega) (by omega))
      simp only [math_bits_Div64.l2.f, math_bits_Div64.l2.go, math_bits_Div64.l2.step, es, ea]
      rw [decide_eq_false (show ¬ ((r + y1 : Nat) : Int) ≥ 4294967296 by omega)]
      rcases Bool.or_eq_true _ _ ▸ cond with h | h
      · rw [h]; rfl
      · rw [h]; cases decide ((q : Int) ≥ 4294967296) <;> rfl


theorem ge : Q ≤ u32 / y1 := by
  obtain ⟨h1, h1', h0, hu, hu1, hQ⟩ := d
  rw [Nat.le_div_iff_mul_le (show 0 < y1 by omega)]
  have h := Nat.div_mul_le_self (u32 * 2 ^ 32 + u1) (y1 * 2 ^ 32 + y0)
  rw [hQ, Nat.mul_add, ← Nat.mul_assoc] at h
  generalize Q * y1 = a at *
  generalize Q * y0 = c at *
  omega
end Digit

theorem rem_of {a p b z r : Nat} (h : a * p + b = z + r) (hr : r < 2 ^ 64) : subI .u64 (addI .u64 (mulI .u64 (a : Int) (p : Int)) (b : Int)) ((z % 2 ^ 64 : Nat) : Int) = (r : Int) := by
  rw [mulU, addU, subU' _ _ (Nat.mod_lt _ (by omega))]
  congr 1
  generalize a * p = c at *
  omega

theorem comb {U W R1 R0 z1 z0 : Nat} (e1 : z1 + R1 = U * 2 ^ 32 + W / 2 ^ 32) (e2 : z0 + R0 = R1 * 2 ^ 32 + W % 2 ^ 32) : U * 2 ^ 64 + W = z1 * 2 ^ 32 + z0 + R0 := by omega

theorem div64 (hi lo y : Nat) (hlo : lo < 2 ^ 64) (hy : y < 2 ^ 64) (h : hi < y) : Ev (fun k => math_bits_Div64.f k (hi : Int) (lo : Int) (y : Int)) ((((hi * 2 ^ 64 + lo) / y : Nat) : Int), (((hi * 2 ^ 64 + lo) % y : Nat) : Int)) := by
  unfold math_bits_Div64.f math_bits_Div64.tree
  have b1 : ((y : Int) == 0) = false := by simp; omega
  rw [b1, decide_eq_false (show ¬ (y : Int) ≤ (hi : Int) by omega)]
  simp only [cond_false]
  by_cases h0 : hi = 0
  · subst h0
    refine Ev.const fun k => ?_
    have b2 : (((0 : Nat) : Int) == 0) = true := rfl
    rw [b2, decide_eq_false (show ¬ (y : Int) = 0 by omega), quoU _ _ hlo, remU]
    simp
  have b2 : ((hi : Int) == 0) = false := by simp; omega
  rw [b2]
  simp only [cond_false]
  obtain ⟨m, hm, hl, kl⟩ := len64 y hy
  have hm1 : 1 ≤ m := by
    rcases Nat.eq_zero_or_pos m with e | e
    · rw [e] at kl; have := kl.1; omega
    · exact e
  have hs : 64 - m < 64 := by omega
  refine Ev.bind (v := ((64 - m : Nat) : Int)) (Ev.const fun k => ?_) ?_
  · unfold math_bits_LeadingZeros64.f math_bits_LeadingZeros64.tree
    rw [hl k]; simp only [Option.bind_some]; rw [sub64s m hm]
  have hy1 := kl.1
  have hy2 := kl.2 hm1
  have hpm : 2 ^ m * 2 ^ (64 - m) = 2 ^ 64 := by rw [← Nat.pow_add]; congr 1; omega
  have hpm' : 2 ^ (m - 1) * 2 ^ (64 - m) = 2 ^ 63 := by rw [← Nat.pow_add]; congr 1; omega
  rw [wrap_u64 (n := ((64 - m : Nat) : Int)) (by omega) (by omega)]
  generalize hsd : 64 - m = s at *
  have hps := Nat.two_pow_pos s
  -- the divisor, moved up
  have hYlt : y * 2 ^ s < 2 ^ 64 := by rw [← hpm]; exact Nat.mul_lt_mul_of_pos_right hy1 hps
  have hYge : 2 ^ 63 ≤ y * 2 ^ s := by rw [← hpm']; exact Nat.mul_le_mul_right _ hy2
  have eY : shlI .u64 (y : Int) (s : Int) = ((y * 2 ^ s : Nat) : Int) := by rw [shl_u64 _ _ (by omega), Nat.mod_eq_of_lt hYlt]
  -- the number, moved up
  have hhi : hi * 2 ^ s + 2 ^ s ≤ y * 2 ^ s := by
    have := Nat.mul_le_mul_right (2 ^ s) (show hi + 1 ≤ y by omega)
    rwa [Nat.add_mul, Nat.one_mul] at this
  have hlw : lo / 2 ^ (64 - s) < 2 ^ s := hiW_lt s lo (by omega) hlo
  have e64 : subI .u64 64 (s : Int) = ((64 - s : Nat) : Int) := by
    have := subU 64 s (by omega)
    rw [show ((64 : Nat) : Int) = 64 from rfl] at this
    rw [this, Nat.mod_eq_of_lt (by omega)]
  have eU : orI .u64 (shlI .u64 (hi : Int) (s : Int)) (shrI .u64 (lo : Int) (subI .u64 64 (s : Int))) = ((hi * 2 ^ s + lo / 2 ^ (64 - s) : Nat) : Int) := by
    rw [shl_u64 _ _ (by omega), e64, shr_u64' _ _ (by omega), Nat.mod_eq_of_lt (by omega), Nat.mul_comm hi]
    exact or_u64 s hi (lo / 2 ^ (64 - s)) hlw (by rw [Nat.mul_comm]; omega)
  have eL : shlI .u64 (lo : Int) (s : Int) = ((loW s lo : Nat) : Int) := shl_lo s lo (by omega)
  have hL : loW s lo < 2 ^ 64 := by have := loW_le s lo (by omega); omega
  have hsp := split_up s lo (by omega)
  have hN : (hi * 2 ^ 64 + lo) * 2 ^ s = (hi * 2 ^ s + lo / 2 ^ (64 - s)) * 2 ^ 64 + loW s lo := by
    have e1 : hiW s lo = lo / 2 ^ (64 - s) := rfl
    rw [← e1, Nat.add_mul, Nat.add_mul, Nat.mul_right_comm, Nat.mul_comm lo, hsp]; omega
  have hul : hi * 2 ^ s + lo / 2 ^ (64 - s) < y * 2 ^ s := by omega
  rw [eY, eU, eL, e64]
  have hlt64 : ¬ ((s : Int)) < 0 := by omega
  have hlt64' : ¬ (((64 - s : Nat) : Int)) < 0 := by omega
  rw [decide_eq_false hlt64, decide_eq_false hlt64']
  simp only [cond_false, shr32]
  rw [mask32 _ hYlt, mask32 _ hL]
  generalize hU : hi * 2 ^ s + lo / 2 ^ (64 - s) = U at *
  generalize hYd : y * 2 ^ s = Y at *
  generalize loW s lo = W at *
  have hY10 : Y / 2 ^ 32 * 2 ^ 32 + Y % 2 ^ 32 = Y := by omega
  obtain ⟨Q1, hQ1⟩ : ∃ q, (U * 2 ^ 32 + W / 2 ^ 32) / Y = q := ⟨_, rfl⟩
  obtain ⟨R1, hR1⟩ : ∃ q, (U * 2 ^ 32 + W / 2 ^ 32) % Y = q := ⟨_, rfl⟩
  have d1 : Digit (Y / 2 ^ 32) (Y % 2 ^ 32) U (W / 2 ^ 32) Q1 := ⟨by omega, by omega, by omega, by omega, by omega, by rw [hY10]; exact hQ1⟩
  rw [decide_eq_false (show ¬ ((Y / 2 ^ 32 : Nat) : Int) = 0 by omega)]
  simp only [cond_false]
  have init : ∀ V : Nat, V < 2 ^ 64 → quoI .u64 (V : Int) ((Y / 2 ^ 32 : Nat) : Int) = ((V / (Y / 2 ^ 32) : Nat) : Int) ∧ subI .u64 (V : Int) (mulI .u64 ((V / (Y / 2 ^ 32) : Nat) : Int) ((Y / 2 ^ 32 : Nat) : Int)) = ((V - V / (Y / 2 ^ 32) * (Y / 2 ^ 32) : Nat) : Int) := fun V hV => by
    have := Nat.div_mul_le_self V (Y / 2 ^ 32)
    exact ⟨quoU _ _ hV, by rw [mulU, Nat.mod_eq_of_lt (by omega), subU _ _ this, Nat.mod_eq_of_lt (by omega)]⟩
  have start : ∀ V u1 Q : Nat, V < Y → u1 < 2 ^ 32 → (V * 2 ^ 32 + u1) / Y = Q → ∃ m, V / (Y / 2 ^ 32) = Q + m ∧ V / (Y / 2 ^ 32) * (Y / 2 ^ 32) + (V - V / (Y / 2 ^ 32) * (Y / 2 ^ 32)) = V ∧ V - V / (Y / 2 ^ 32) * (Y / 2 ^ 32) < 2 ^ 32 ∧ V / (Y / 2 ^ 32) < 2 ^ 64 := fun V u1 Q hV hu1 hQ => by
    have dd : Digit (Y / 2 ^ 32) (Y % 2 ^ 32) V u1 Q := ⟨by omega, by omega, by omega, by omega, hu1, by rw [hY10]; exact hQ⟩
    have hg := dd.ge
    have l1 := Nat.div_mul_le_self V (Y / 2 ^ 32)
    have l2 := Nat.div_add_mod V (Y / 2 ^ 32)
    have l3 := Nat.mod_lt V (show 0 < Y / 2 ^ 32 by omega)
    have l4 : V / (Y / 2 ^ 32) ≤ V := Nat.div_le_self _ _
    rw [Nat.mul_comm] at l2
    exact ⟨_, (Nat.add_sub_cancel' hg).symm, by omega, by omega, by omega⟩
  obtain ⟨i1, i2⟩ := init U (by omega)
  rw [i1, i2]
  obtain ⟨m1, s1, s2, s3, s4⟩ := start U (W / 2 ^ 32) Q1 hul (by omega) hQ1
  refine Ev.bind (d1.loop0 _ _ _ _ _ _ m1 _ _ s1 s2 s3 s4).ev ?_
  have hQ1lt := d1.lt
  have dm1 := Nat.div_add_mod (U * 2 ^ 32 + W / 2 ^ 32) Y
  have lm1 := Nat.mod_lt (U * 2 ^ 32 + W / 2 ^ 32) (show 0 < Y by omega)
  rw [hR1] at lm1
  rw [hQ1, hR1] at dm1
  have e21 : subI .u64 (addI .u64 (mulI .u64 (U : Int) 4294967296) ((W / 2 ^ 32 : Nat) : Int)) (mulI .u64 (Q1 : Int) (Y : Int)) = (R1 : Int) := by
    rw [mulU Q1]
    exact rem_of (p := 4294967296) (by rw [Nat.mul_comm Q1]; exact dm1.symm) (by omega)
  simp only [e21]
  obtain ⟨Q0, hQ0⟩ : ∃ q, (R1 * 2 ^ 32 + W % 2 ^ 32) / Y = q := ⟨_, rfl⟩
  obtain ⟨R0, hR0⟩ : ∃ q, (R1 * 2 ^ 32 + W % 2 ^ 32) % Y = q := ⟨_, rfl⟩
  have d2 : Digit (Y / 2 ^ 32) (Y % 2 ^ 32) R1 (W % 2 ^ 32) Q0 := ⟨by omega, by omega, by omega, by omega, by omega, by rw [hY10]; exact hQ0⟩
  obtain ⟨j1, j2⟩ := init R1 (by omega)
  rw [j1, j2]
  obtain ⟨m2, t1, t2, t3, t4⟩ := start R1 (W % 2 ^ 32) Q0 lm1 (by omega) hQ0
  refine Ev.bind (d2.loop2 _ _ _ _ _ _ m2 _ _ t1 t2 t3 t4).ev ?_
  have hQ0lt := d2.lt
  have dm2 := Nat.div_add_mod (R1 * 2 ^ 32 + W % 2 ^ 32) Y
  have lm2 := Nat.mod_lt (R1 * 2 ^ 32 + W % 2 ^ 32) (show 0 < Y by omega)
  rw [hR0] at lm2
  rw [hQ0, hR0] at dm2
  have e20 : subI .u64 (addI .u64 (mulI .u64 (R1 : Int) 4294967296) ((W % 2 ^ 32 : Nat) : Int)) (mulI .u64 (Q0 : Int) (Y : Int)) = (R0 : Int) := by
    rw [mulU Q0]
    exact rem_of (p := 4294967296) (by rw [Nat.mul_comm Q0]; exact dm2.symm) (by omega)
  refine Ev.const fun k => ?_
  simp only [e20]
  have eq1 : addI .u64 (mulI .u64 (Q1 : Int) 4294967296) (Q0 : Int) = ((Q1 * 2 ^ 32 + Q0 : Nat) : Int) := by
    have := mulU Q1 4294967296
    rw [show ((4294967296 : Nat) : Int) = 4294967296 from rfl] at this
    rw [this, addU]; congr 1; omega
  rw [eq1, shr_u64' _ _ (by omega)]
  -- all in all
  have hall : (hi * 2 ^ 64 + lo) * 2 ^ s = (Q1 * 2 ^ 32 + Q0) * y * 2 ^ s + R0 := by
    have e : (Q1 * 2 ^ 32 + Q0) * y * 2 ^ s = Y * Q1 * 2 ^ 32 + Y * Q0 := by
      rw [Nat.mul_assoc, hYd, Nat.add_mul, Nat.mul_comm Q0, Nat.mul_right_comm, Nat.mul_comm Q1]
    rw [hN, e]
    exact comb dm1 dm2
  have hRd : R0 = R0 / 2 ^ s * 2 ^ s := by
    have : R0 % 2 ^ s = 0 := by
      have h2 := congrArg (· % 2 ^ s) hall
      simp only [Nat.mul_mod_left] at h2
      rw [Nat.mul_comm ((Q1 * 2 ^ 32 + Q0) * y), Nat.mul_add_mod] at h2
      exact h2.symm
    have := Nat.div_add_mod R0 (2 ^ s)
    rw [Nat.mul_comm] at this; omega
  have hNd : hi * 2 ^ 64 + lo = (Q1 * 2 ^ 32 + Q0) * y + R0 / 2 ^ s := by
    refine Nat.eq_of_mul_eq_mul_right hps ?_
    rw [hall, Nat.add_mul ((Q1 * 2 ^ 32 + Q0) * y) (R0 / 2 ^ s) (2 ^ s), ← hRd]
  have hRlt : R0 / 2 ^ s < y := by
    refine Nat.lt_of_mul_lt_mul_right (a := 2 ^ s) ?_
    rw [← hRd, hYd]; exact lm2
  rw [hNd, Nat.mul_comm _ y]
  rw [Nat.mul_add_div (by omega), Nat.div_eq_of_lt hRlt, Nat.add_zero, Nat.mul_add_mod, Nat.mod_eq_of_lt hRlt]

end Go.Proofs.Ytjciljaojcekeaa.Sx
