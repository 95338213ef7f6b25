/- Products and quotients by one word. WholeProducts. -/
import Derived.Test.YtjciljaojcekeaaQ15
namespace Go.Proofs.Ytjciljaojcekeaa.Sx
open Go
set_option linter.unusedVariables false
set_option linter.unusedSimpArgs false
set_option maxRecDepth 100000

theorem wrapU (x : Nat) : IntKind.wrap .u64 (x : Int) = ((x % 2 ^ 64 : Nat) : Int) := by
  unfold IntKind.wrap
  simp only [IntKind.signed, IntKind.bits, Bool.false_and, Bool.false_eq_true, if_false]
  rfl

theorem addU (x y : Nat) : addI .u64 (x : Int) (y : Int) = (((x + y) % 2 ^ 64 : Nat) : Int) := by
  unfold addI; rw [← Int.natCast_add, wrapU]
theorem mulU (x y : Nat) : mulI .u64 (x : Int) (y : Int) = ((x * y % 2 ^ 64 : Nat) : Int) := by
  unfold mulI; rw [← Int.natCast_mul, wrapU]
theorem subU (x y : Nat) (h : y ≤ x) : subI .u64 (x : Int) (y : Int) = (((x - y) % 2 ^ 64 : Nat) : Int) := by
  unfold subI; rw [show (x : Int) - (y : Int) = ((x - y : Nat) : Int) by omega, wrapU]
theorem subU' (x y : Nat) (hy : y < 2 ^ 64) : subI .u64 (x : Int) (y : Int) = (((x + 2 ^ 64 - y) % 2 ^ 64 : Nat) : Int) := by
  unfold subI IntKind.wrap
  simp only [IntKind.signed, IntKind.bits, Bool.false_and, Bool.false_eq_true, if_false]
  omega
theorem quoU (x y : Nat) (hx : x < 2 ^ 64) : quoI .u64 (x : Int) (y : Int) = ((x / y : Nat) : Int) := by
  unfold quoI
  rw [Int.tdiv_eq_ediv_of_nonneg (by omega), ← Int.natCast_ediv, wrapU, Nat.mod_eq_of_lt (Nat.lt_of_le_of_lt (Nat.div_le_self _ _) hx)]
theorem remU (x y : Nat) : remI (x : Int) (y : Int) = ((x % y : Nat) : Int) := by
  unfold remI
  rw [Int.tmod_eq_emod_of_nonneg (by omega), ← Int.natCast_emod]
theorem mask32 (n : Nat) (hn : n < 2 ^ 64) : andI .u64 (n : Int) 4294967295 = ((n % 2 ^ 32 : Nat) : Int) := by
  have := and_nat n 4294967295 hn (by omega)
  rw [show ((4294967295 : Nat) : Int) = 4294967295 from rfl] at this
  rw [this, show (4294967295 : Nat) = 2 ^ 32 - 1 from rfl, Nat.and_two_pow_sub_one_eq_mod]
theorem shr32 (n : Nat) : shrI .u64 (n : Int) 32 = ((n / 2 ^ 32 : Nat) : Int) := by
  have := shr_u64' n 32 (by omega)
  rwa [show ((32 : Nat) : Int) = 32 from rfl] at this

theorem mul_le32 {x y : Nat} (hx : x < 2 ^ 32) (hy : y < 2 ^ 32) : x * y ≤ 18446744065119617025 := by
  have h := Nat.mul_le_mul (show x ≤ 4294967295 by omega) (show y ≤ 4294967295 by omega)
  omega

theorem mul64 (x y : Nat) (hx : x < 2 ^ 64) (hy : y < 2 ^ 64) (k : Nat) : math_bits_Mul64.f k (x : Int) (y : Int) = some (((x * y / 2 ^ 64 : Nat) : Int), ((x * y % 2 ^ 64 : Nat) : Int)) := by
  unfold math_bits_Mul64.f math_bits_Mul64.tree
  simp only [mask32 x hx, mask32 y hy, shr32, mulU, addU]
  rw [mask32 _ (Nat.mod_lt _ (by omega))]
  simp only [addU, shr32]
  have dx := Nat.div_add_mod x (2 ^ 32)
  have dy := Nat.div_add_mod y (2 ^ 32)
  have a0 : x % 2 ^ 32 < 2 ^ 32 := Nat.mod_lt _ (by omega)
  have a1 : x / 2 ^ 32 < 2 ^ 32 := by omega
  have b0 : y % 2 ^ 32 < 2 ^ 32 := Nat.mod_lt _ (by omega)
  have b1 : y / 2 ^ 32 < 2 ^ 32 := by omega
  have hxy : x * y = (x % 2 ^ 32) * (y % 2 ^ 32) + 2 ^ 32 * ((x / 2 ^ 32) * (y % 2 ^ 32)) + 2 ^ 32 * ((x % 2 ^ 32) * (y / 2 ^ 32)) + 2 ^ 64 * ((x / 2 ^ 32) * (y / 2 ^ 32)) := by
    conv => lhs; rw [← dx, ← dy]
    generalize x % 2 ^ 32 = x0
    generalize x / 2 ^ 32 = x1
    generalize y % 2 ^ 32 = y0
    generalize y / 2 ^ 32 = y1
    rw [show (2 : Nat) ^ 64 = 2 ^ 32 * 2 ^ 32 from rfl]
    generalize (2 : Nat) ^ 32 = p
    simp only [Nat.add_mul, Nat.mul_add, Nat.mul_assoc, Nat.mul_left_comm x1 p, Nat.mul_left_comm x0 p]
    omega
  have p00 := mul_le32 a0 b0
  have p01 := mul_le32 a0 b1
  have p10 := mul_le32 a1 b0
  have p11 := mul_le32 a1 b1
  rw [hxy]
  generalize (x % 2 ^ 32) * (y % 2 ^ 32) = m00 at *
  generalize (x % 2 ^ 32) * (y / 2 ^ 32) = m01 at *
  generalize (x / 2 ^ 32) * (y % 2 ^ 32) = m10 at *
  generalize (x / 2 ^ 32) * (y / 2 ^ 32) = m11 at *
  clear hxy dx dy a0 a1 b0 b1
  congr 1
  refine Prod.ext ?_ rfl
  simp only
  congr 1
  have e1 : m00 % 2 ^ 64 = m00 := Nat.mod_eq_of_lt (by omega)
  have e2 : m01 % 2 ^ 64 = m01 := Nat.mod_eq_of_lt (by omega)
  have e3 : m10 % 2 ^ 64 = m10 := Nat.mod_eq_of_lt (by omega)
  have e4 : m11 % 2 ^ 64 = m11 := Nat.mod_eq_of_lt (by omega)
  rw [e1, e2, e3, e4]
  have e5 : (m10 + m00 / 2 ^ 32) % 2 ^ 64 = m10 + m00 / 2 ^ 32 := Nat.mod_eq_of_lt (by omega)
  rw [e5]
  have e6 : ((m10 + m00 / 2 ^ 32) % 2 ^ 32 + m01) % 2 ^ 64 = (m10 + m00 / 2 ^ 32) % 2 ^ 32 + m01 := Nat.mod_eq_of_lt (by omega)
  rw [e6]
  omega

theorem times_step {X : Type} (K G : Int → Int → List Int → Option X) (k b c i n : Nat) (x5 : Bool) (z y : List Int) (hi : i < 4) (hb : b < 2 ^ 64) (hc : c < 2 ^ 64) (hn : n < 2 ^ 64) (hy : List.getD y i 0 = (n : Int)) :
    whole_Times.l0.step K G k (b : Int) x5 z (c : Int) (i : Int) y = G (((n * b + c) / 2 ^ 64 : Nat) : Int) ((i + 1 : Nat) : Int) (List.set y i (((n * b + c) % 2 ^ 64 : Nat) : Int)) := by
  unfold whole_Times.l0.step
  rw [decide_eq_true (show (i : Int) < 4 by omega), decide_eq_true (show (0 : Int) ≤ (i : Int) by omega), Int.toNat_natCast, decide_eq_true hi, hy, mul64 n b hn hb]
  simp only [cond_true, Option.bind_some]
  rw [show (0 : Int) = ((0 : Nat) : Int) from rfl, add64_at _ _ _ (by omega)]
  simp only [Option.bind_some]
  rw [addU, addI_one (by omega) (by omega)]
  have hm := Nat.mul_lt_mul_of_lt_of_le hn (Nat.le_of_lt hb) (by omega)
  have hle : n * b ≤ (2 ^ 64 - 1) * (2 ^ 64 - 1) := Nat.mul_le_mul (by omega) (by omega)
  generalize n * b = q at *
  congr 1
  · omega
  · congr 1; omega

theorem times_ev {x b : Nat} (hx : x < 2 ^ 256) (hb : b < 2 ^ 64) : Ev (fun k => whole_Times.f k (toNum x) (b : Int)) (toNum (x * b), decide (2 ^ 256 ≤ x * b)) := by
  obtain ⟨n0, n1, n2, n3, ex, h0, h1, h2, h3⟩ := num4 (toNum_good x)
  have hv := congrArg vN ex
  rw [vN_toNum_lt hx, vN4] at hv
  rw [ex]
  refine Ev.of 5 fun m => ?_
  have g : ∀ n c : Nat, n < 2 ^ 64 → c < 2 ^ 64 → (n * b + c) / 2 ^ 64 < 2 ^ 64 := fun n c hn hc => by
    have hle : n * b ≤ (2 ^ 64 - 1) * (2 ^ 64 - 1) := Nat.mul_le_mul (by omega) (by omega)
    omega
  have key : whole_Times.l0.f (m + 5) (b : Int) false [0, 0, 0, 0] (m + 5) 0 0 [(n0 : Int), (n1 : Int), (n2 : Int), (n3 : Int)] = some ((((n3 * b + (n2 * b + (n1 * b + (n0 * b + 0) / 2 ^ 64) / 2 ^ 64) / 2 ^ 64) / 2 ^ 64 : Nat) : Int), 4,
      [(((n0 * b + 0) % 2 ^ 64 : Nat) : Int), (((n1 * b + (n0 * b + 0) / 2 ^ 64) % 2 ^ 64 : Nat) : Int), (((n2 * b + (n1 * b + (n0 * b + 0) / 2 ^ 64) / 2 ^ 64) % 2 ^ 64 : Nat) : Int), (((n3 * b + (n2 * b + (n1 * b + (n0 * b + 0) / 2 ^ 64) / 2 ^ 64) / 2 ^ 64) % 2 ^ 64 : Nat) : Int)]) := by
    have c0 := g n0 0 h0 (by omega)
    have c1 := g n1 _ h1 c0
    have c2 := g n2 _ h2 c1
    show whole_Times.l0.go _ (m + 5) (b : Int) false [0, 0, 0, 0] (m + 5) ((0 : Nat) : Int) ((0 : Nat) : Int) _ = _
    rw [whole_Times.l0.go]
    refine (times_step _ _ _ b 0 0 n0 false _ [(n0 : Int), (n1 : Int), (n2 : Int), (n3 : Int)] (by omega) hb (by omega) h0 rfl).trans ?_
    rw [whole_Times.l0.go]
    refine (times_step _ _ _ b _ 1 n1 false _ [(((n0 * b + 0) % 2 ^ 64 : Nat) : Int), (n1 : Int), (n2 : Int), (n3 : Int)] (by omega) hb c0 h1 rfl).trans ?_
    rw [whole_Times.l0.go]
    refine (times_step _ _ _ b _ 2 n2 false _ [(((n0 * b + 0) % 2 ^ 64 : Nat) : Int), (((n1 * b + (n0 * b + 0) / 2 ^ 64) % 2 ^ 64 : Nat) : Int), (n2 : Int), (n3 : Int)] (by omega) hb c1 h2 rfl).trans ?_
    rw [whole_Times.l0.go]
    refine (times_step _ _ _ b _ 3 n3 false _ [(((n0 * b + 0) % 2 ^ 64 : Nat) : Int), (((n1 * b + (n0 * b + 0) / 2 ^ 64) % 2 ^ 64 : Nat) : Int), (((n2 * b + (n1 * b + (n0 * b + 0) / 2 ^ 64) / 2 ^ 64) % 2 ^ 64 : Nat) : Int), (n3 : Int)] (by omega) hb c2 h3 rfl).trans ?_
    rfl
  simp only [Nat.add_zero] at key
  unfold whole_Times.f whole_Times.tree
  rw [key]
  simp only [Option.bind_some]
  have hle : ∀ n : Nat, n < 2 ^ 64 → n * b ≤ (2 ^ 64 - 1) * (2 ^ 64 - 1) := fun n hn => Nat.mul_le_mul (by omega) (by omega)
  have l0 := hle n0 h0
  have l1 := hle n1 h1
  have l2 := hle n2 h2
  have l3 := hle n3 h3
  have hxb : x * b = n0 * b + 2 ^ 64 * (n1 * b + 2 ^ 64 * (n2 * b + 2 ^ 64 * (n3 * b))) := by
    rw [hv, mulp]
    simp only [Nat.mul_comm b]
  rw [hxb]
  generalize n0 * b = q0 at *
  generalize n1 * b = q1 at *
  generalize n2 * b = q2 at *
  generalize n3 * b = q3 at *
  congr 1
  refine Prod.ext ?_ ?_
  · refine toNum_of (good4 (Nat.mod_lt _ (by omega)) (Nat.mod_lt _ (by omega)) (Nat.mod_lt _ (by omega)) (Nat.mod_lt _ (by omega))) ?_
    rw [vN4]; omega
  · simp only
    rw [Bool.eq_iff_iff, bne_iff_ne, decide_eq_true_iff]
    omega

end Go.Proofs.Ytjciljaojcekeaa.Sx
