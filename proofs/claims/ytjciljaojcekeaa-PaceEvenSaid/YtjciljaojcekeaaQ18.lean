
/- Over; the reference's Times; WholeProducts. -/
import Derived.Test.YtjciljaojcekeaaQ17
namespace Go.Proofs.Ytjciljaojcekeaa.Sx
open Go
set_option linter.unusedVariables false
set_option linter.unusedSimpArgs false
set_option maxRecDepth 100000

theorem Ev2.to {α : Type} {F : Nat → Nat → Option α} {v : α} (w : α) (h : Ev2 F v) (e : v = w) : Ev2 F w := e ▸ h

theorem over_step {b : Nat} (hb : b < 2 ^ 64) (z : List Int) (x5 : Int) (i r n : Nat) (y : List Int) (hi : i < 4) (hr : r < b) (hn : n < 2 ^ 64) (hy : List.getD y i 0 = (n : Int)) {v : Int × Int × List Int}
    (h : Ev2 (fun k m => whole_Over.l0.f k (b : Int) x5 z m (((r * 2 ^ 64 + n) % b : Nat) : Int) ((i : Int) - 1) (List.set y i (((r * 2 ^ 64 + n) / b : Nat) : Int))) v) :
    Ev2 (fun k m => whole_Over.l0.f k (b : Int) x5 z m (r : Int) (i : Int) y) v := by
  refine Ev2.succ (G := fun k m => Option.bind (math_bits_Div64.f k (r : Int) (n : Int) (b : Int)) (fun r1 => whole_Over.l0.f k (b : Int) x5 z m r1.2 ((i : Int) - 1) (List.set y i r1.1))) (fun k m => ?_) ?_
  · simp only [whole_Over.l0.f, whole_Over.l0.go, whole_Over.l0.step]
    rw [decide_eq_true (show (i : Int) ≥ 0 by omega), decide_eq_true (show (i : Int) < 4 by omega), Int.toNat_natCast, decide_eq_true hi, subI_one (i := (i : Int)) (by omega) (by omega), hy]
    rfl
  · exact Ev2.bind (div64 r n b hn hb hr) h

theorem digits {n0 n1 n2 n3 r3 r2 r1 r0 p3 p2 p1 p0 : Nat} (d3 : p3 + r3 = n3) (d2 : p2 + r2 = r3 * 2 ^ 64 + n2) (d1 : p1 + r1 = r2 * 2 ^ 64 + n1) (d0 : p0 + r0 = r1 * 2 ^ 64 + n0) :
    n0 + 2 ^ 64 * (n1 + 2 ^ 64 * (n2 + 2 ^ 64 * n3)) = p0 + 2 ^ 64 * (p1 + 2 ^ 64 * (p2 + 2 ^ 64 * p3)) + r0 := by omega

theorem over_ev {x b : Nat} (hx : x < 2 ^ 256) (hb : b < 2 ^ 64) (hb0 : 0 < b) : Ev (fun k => whole_Over.f k (toNum x) (b : Int)) (toNum (x / b), ((x % b : Nat) : Int)) := by
  unfold whole_Over.f whole_Over.tree
  have b1 : ((b : Int) == 0) = false := by simp; omega
  rw [b1]
  simp only [cond_false]
  obtain ⟨n0, n1, n2, n3, ex, h0, h1, h2, h3⟩ := num4 (toNum_good x)
  have hv := congrArg vN ex
  rw [vN_toNum_lt hx, vN4] at hv
  rw [ex]
  have m3 := Nat.mod_lt n3 hb0
  have m2 := Nat.mod_lt (n3 % b * 2 ^ 64 + n2) hb0
  have m1 := Nat.mod_lt ((n3 % b * 2 ^ 64 + n2) % b * 2 ^ 64 + n1) hb0
  have m0 := Nat.mod_lt (((n3 % b * 2 ^ 64 + n2) % b * 2 ^ 64 + n1) % b * 2 ^ 64 + n0) hb0
  have d3 := Nat.div_add_mod n3 b
  have d2 := Nat.div_add_mod (n3 % b * 2 ^ 64 + n2) b
  have d1 := Nat.div_add_mod ((n3 % b * 2 ^ 64 + n2) % b * 2 ^ 64 + n1) b
  have d0 := Nat.div_add_mod (((n3 % b * 2 ^ 64 + n2) % b * 2 ^ 64 + n1) % b * 2 ^ 64 + n0) b
  have q : ∀ r n : Nat, r < b → n < 2 ^ 64 → (r * 2 ^ 64 + n) / b < 2 ^ 64 := fun r n hr hn => by
    rw [Nat.div_lt_iff_lt_mul hb0]
    have := Nat.mul_le_mul_right (2 ^ 64) (show r + 1 ≤ b by omega)
    rw [Nat.add_mul, Nat.one_mul, Nat.mul_comm b] at this
    omega
  have q3 : n3 / b < 2 ^ 64 := Nat.lt_of_le_of_lt (Nat.div_le_self _ _) h3
  have q2 := q (n3 % b) n2 m3 h2
  have q1 := q ((n3 % b * 2 ^ 64 + n2) % b) n1 m2 h1
  have q0 := q (((n3 % b * 2 ^ 64 + n2) % b * 2 ^ 64 + n1) % b) n0 m1 h0
  have s0 := over_step hb [0, 0, 0, 0] 0 0 (((n3 % b * 2 ^ 64 + n2) % b * 2 ^ 64 + n1) % b) n0 [(n0 : Int), ((((n3 % b * 2 ^ 64 + n2) % b * 2 ^ 64 + n1) / b : Nat) : Int), (((n3 % b * 2 ^ 64 + n2) / b : Nat) : Int), ((n3 / b : Nat) : Int)]
    (by omega) m1 h0 rfl (v := ((((((n3 % b * 2 ^ 64 + n2) % b * 2 ^ 64 + n1) % b * 2 ^ 64 + n0) % b : Nat) : Int), -1, [(((((n3 % b * 2 ^ 64 + n2) % b * 2 ^ 64 + n1) % b * 2 ^ 64 + n0) / b : Nat) : Int), ((((n3 % b * 2 ^ 64 + n2) % b * 2 ^ 64 + n1) / b : Nat) : Int), (((n3 % b * 2 ^ 64 + n2) / b : Nat) : Int), ((n3 / b : Nat) : Int)]))
    (Ev2.succ (G := fun _ _ => some _) (fun k n => rfl) (Ev2.const fun _ _ => rfl))
  have s1 := over_step hb [0, 0, 0, 0] 0 1 ((n3 % b * 2 ^ 64 + n2) % b) n1 [(n0 : Int), (n1 : Int), (((n3 % b * 2 ^ 64 + n2) / b : Nat) : Int), ((n3 / b : Nat) : Int)] (by omega) m2 h1 rfl s0
  have s2 := over_step hb [0, 0, 0, 0] 0 2 (n3 % b) n2 [(n0 : Int), (n1 : Int), (n2 : Int), ((n3 / b : Nat) : Int)] (by omega) m3 h2 rfl s1
  have s3 := over_step hb [0, 0, 0, 0] 0 3 0 n3 [(n0 : Int), (n1 : Int), (n2 : Int), (n3 : Int)] (by omega) hb0 h3 rfl (by rw [Nat.zero_mul, Nat.zero_add]; exact s2)
  refine Ev.bind s3.ev (Ev.const fun k => ?_)
  simp only
  -- what the digits come to
  have c2 : n3 % b * 2 ^ 64 + n2 < b * 2 ^ 64 := by have := Nat.mul_le_mul_right (2 ^ 64) (show n3 % b + 1 ≤ b by omega); rw [Nat.add_mul, Nat.one_mul] at this; omega
  have hxq : x = b * ((((n3 % b * 2 ^ 64 + n2) % b * 2 ^ 64 + n1) % b * 2 ^ 64 + n0) / b + 2 ^ 64 * (((n3 % b * 2 ^ 64 + n2) % b * 2 ^ 64 + n1) / b + 2 ^ 64 * ((n3 % b * 2 ^ 64 + n2) / b + 2 ^ 64 * (n3 / b)))) + (((n3 % b * 2 ^ 64 + n2) % b * 2 ^ 64 + n1) % b * 2 ^ 64 + n0) % b := by
    rw [hv, Nat.mul_comm b, mulp]
    exact digits d3 d2 d1 d0
  have hdiv : x / b = (((n3 % b * 2 ^ 64 + n2) % b * 2 ^ 64 + n1) % b * 2 ^ 64 + n0) / b + 2 ^ 64 * (((n3 % b * 2 ^ 64 + n2) % b * 2 ^ 64 + n1) / b + 2 ^ 64 * ((n3 % b * 2 ^ 64 + n2) / b + 2 ^ 64 * (n3 / b))) := by
    rw [hxq, Nat.mul_add_div hb0, Nat.div_eq_of_lt m0, Nat.add_zero]
  have hmod : x % b = (((n3 % b * 2 ^ 64 + n2) % b * 2 ^ 64 + n1) % b * 2 ^ 64 + n0) % b := by
    rw [hxq, Nat.mul_add_mod, Nat.mod_mod]
  rw [hmod]
  refine congrArg some (Prod.ext ?_ rfl)
  refine toNum_of (good4 q0 q1 q2 q3) ?_
  rw [vN4, ← hdiv, Nat.mod_eq_of_lt (Nat.lt_of_le_of_lt (Nat.div_le_self _ _) hx)]

/-! ### The reference's products -/

theorem reftimes_loop {x b : Nat} (hx : x < 2 ^ 256) (hb : b < 2 ^ 64) (x5 : Bool) (z : List Int) : ∀ j i : Nat, j + i = 64 →
    Ev2 (fun k n => trailheadref02_Times.l0.f k (b : Int) x5 (toNum x) z n (decide (2 ^ 256 ≤ x * (b % 2 ^ i))) (i : Int) (toNum (x * (b % 2 ^ i)))) (decide (2 ^ 256 ≤ x * b), (64, toNum (x * b)))
  | 0, i, h => by
    have : i = 64 := by omega
    subst this
    rw [Nat.mod_eq_of_lt hb]
    refine Ev2.succ (G := fun k n => some (decide (2 ^ 256 ≤ x * b), (64, toNum (x * b)))) (fun k n => ?_) (Ev2.const fun _ _ => rfl)
    simp only [trailheadref02_Times.l0.f, trailheadref02_Times.l0.go, trailheadref02_Times.l0.step]
    rw [decide_eq_false (by omega)]; rfl
  | j + 1, i, h => by
    have ih := reftimes_loop hx hb x5 z j (i + 1) (by omega)
    have hi : i < 64 := by omega
    have hp := Nat.two_pow_pos i
    have hmod : b % 2 ^ (i + 1) = b % 2 ^ i + 2 ^ i * (b / 2 ^ i % 2) := Nat.mod_pow_succ
    have hcond : (remI (shrI .u64 (b : Int) (IntKind.wrap .u64 (i : Int))) 2 == (1 : Int)) = decide (b / 2 ^ i % 2 = 1) := by
      have := remU (b / 2 ^ i) 2
      rw [show ((2 : Nat) : Int) = 2 from rfl] at this
      rw [wrap_u64 (n := (i : Int)) (by omega) (by omega), shr_u64' _ _ (by omega), this, Bool.eq_iff_iff, beq_iff_eq, decide_eq_true_iff]; omega
    have hw : decide (IntKind.wrap .u64 (i : Int) < 0) = false := by rw [wrap_u64 (n := (i : Int)) (by omega) (by omega)]; exact decide_eq_false (by omega)
    have hn : ((i + 1 : Nat) : Int) = (i : Int) + 1 := by omega
    by_cases hbit : b / 2 ^ i % 2 = 1
    · rw [hbit, Nat.mul_one] at hmod
      rw [hmod, Nat.mul_add, hn] at ih
      refine Ev2.succ (G := fun k n => Option.bind (trailheadref02_Move.f k (toNum x) (i : Int)) (fun r1 => Option.bind (trailheadref02_Add.f k (toNum (x * (b % 2 ^ i))) r1) (fun r2 =>
          bif decide (2 ^ 256 ≤ x * (b % 2 ^ i)) then trailheadref02_Times.l0.f k (b : Int) x5 (toNum x) z n true ((i : Int) + 1) r2.1
          else bif r2.2 then trailheadref02_Times.l0.f k (b : Int) x5 (toNum x) z n true ((i : Int) + 1) r2.1
          else Option.bind (trailheadref02_Move.f k (toNum x) (i : Int)) (fun r3 => Option.bind (trailheadref02_Move.f k r3 (-(i : Int))) (fun r4 =>
            trailheadref02_Times.l0.f k (b : Int) x5 (toNum x) z n (!(decide (r4 = toNum x))) ((i : Int) + 1) r2.1))))) (fun k n => ?_) ?_
      · simp only [trailheadref02_Times.l0.f, trailheadref02_Times.l0.go, trailheadref02_Times.l0.step]
        rw [decide_eq_true (show (i : Int) < 64 by omega), hw, hcond, decide_eq_true hbit, subI_neg i (by omega), addI_one (i := (i : Int)) (by omega) (by omega)]; rfl
      refine Ev2.bind (moveup_num x i) ?_
      have hadd := refadd_ev (toNum_good (x * (b % 2 ^ i))) (toNum_good (x * 2 ^ i))
      rw [vN_toNum, vN_toNum] at hadd
      refine Ev2.bind hadd ?_
      have e1 : toNum (x * (b % 2 ^ i) % 2 ^ 256 + x * 2 ^ i % 2 ^ 256) = toNum (x * (b % 2 ^ i) + x * 2 ^ i) := toNum_congr (by rw [← Nat.add_mod])
      have hfit : x % 2 ^ (256 - i) = x ↔ x * 2 ^ i < 2 ^ 256 := by
        have e : 2 ^ (256 - i) * 2 ^ i = 2 ^ 256 := by rw [← Nat.pow_add]; congr 1; omega
        constructor
        · intro h
          have := Nat.mod_lt x (Nat.two_pow_pos (256 - i))
          rw [h] at this
          rw [← e]; exact Nat.mul_lt_mul_of_pos_right this hp
        · intro h
          rw [← e] at h
          exact Nat.mod_eq_of_lt (Nat.lt_of_mul_lt_mul_right h)
      simp only [e1]
      by_cases hS : 2 ^ 256 ≤ x * (b % 2 ^ i)
      · rw [decide_eq_true hS]
        simp only [cond_true]
        rw [decide_eq_true (show 2 ^ 256 ≤ x * (b % 2 ^ i) + x * 2 ^ i by omega)] at ih
        exact ih
      · rw [decide_eq_false hS]
        simp only [cond_false]
        rw [Nat.mod_eq_of_lt (show x * (b % 2 ^ i) < 2 ^ 256 by omega)]
        by_cases hT : 2 ^ 256 ≤ x * (b % 2 ^ i) + x * 2 ^ i % 2 ^ 256
        · rw [decide_eq_true hT]
          simp only [cond_true]
          have := Nat.mod_le (x * 2 ^ i) (2 ^ 256)
          rw [decide_eq_true (show 2 ^ 256 ≤ x * (b % 2 ^ i) + x * 2 ^ i by omega)] at ih
          exact ih
        · rw [decide_eq_false hT]
          simp only [cond_false]
          refine Ev2.bind (moveup_num x i) ?_
          rw [show toNum (x * 2 ^ i) = toNum (x * 2 ^ i % 2 ^ 256) from toNum_congr (by rw [Nat.mod_mod])]
          refine Ev2.bind (movedown_num (Nat.mod_lt _ (by omega)) i) ?_
          rw [up_down (by omega), toNum_eq (Nat.lt_of_le_of_lt (Nat.mod_le _ _) hx) hx]
          have e2 : (!decide (x % 2 ^ (256 - i) = x)) = decide (2 ^ 256 ≤ x * (b % 2 ^ i) + x * 2 ^ i) := by
            by_cases hf : x * 2 ^ i < 2 ^ 256
            · rw [decide_eq_true (hfit.2 hf)]
              rw [Nat.mod_eq_of_lt hf] at hT
              rw [decide_eq_false hT]; rfl
            · rw [decide_eq_false (fun h => hf (hfit.1 h)), decide_eq_true (show 2 ^ 256 ≤ x * (b % 2 ^ i) + x * 2 ^ i by omega)]; rfl
          rw [e2]; exact ih
    · have h0 : b / 2 ^ i % 2 = 0 := by omega
      rw [h0, Nat.mul_zero, Nat.add_zero] at hmod
      rw [hmod, hn] at ih
      refine Ev2.succ (fun k n => ?_) ih
      simp only [trailheadref02_Times.l0.f, trailheadref02_Times.l0.go, trailheadref02_Times.l0.step]
      rw [decide_eq_true (show (i : Int) < 64 by omega), hw, hcond, decide_eq_false hbit, addI_one (i := (i : Int)) (by omega) (by omega)]; rfl

theorem reftimes_ev {x b : Nat} (hx : x < 2 ^ 256) (hb : b < 2 ^ 64) : Ev (fun k => trailheadref02_Times.f k (toNum x) (b : Int)) (toNum (x * b), decide (2 ^ 256 ≤ x * b)) := by
  unfold trailheadref02_Times.f trailheadref02_Times.tree
  have h := (reftimes_loop hx hb false [0, 0, 0, 0] 64 0 rfl).ev
  rw [show x * (b % 2 ^ 0) = 0 by rw [Nat.pow_zero, Nat.mod_one, Nat.mul_zero]] at h
  exact Ev.bind h (Ev.const fun k => rfl)

theorem of_ev (n : Nat) (hn : n < 2 ^ 64) : Ev (fun k => whole_Of.f k (n : Int)) (toNum n) := Ev.const fun k => by
  rw [← ofNum n hn]; rfl

end Go.Proofs.Ytjciljaojcekeaa.Sx
