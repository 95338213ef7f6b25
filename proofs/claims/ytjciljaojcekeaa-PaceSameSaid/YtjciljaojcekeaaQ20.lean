/- Targets in short: what the program and the reference come to. -/
import Derived.Test.YtjciljaojcekeaaQ19
import Derived.Test.YtjciljaojcekeaaWB
namespace Go.Proofs.Ytjciljaojcekeaa.Sx
open Go
set_option linter.unusedVariables false
set_option linter.unusedSimpArgs false
set_option maxRecDepth 100000

/-! ### Numbers of 64 bits that are not below 0 -/

theorem wrapI (x : Nat) (h : x < 2 ^ 63) : IntKind.wrap .i64 (x : Int) = (x : Int) := wrap_i64 (by omega) (by omega)
theorem addII (x y : Nat) (h : x + y < 2 ^ 63) : addI .i64 (x : Int) (y : Int) = ((x + y : Nat) : Int) := by unfold addI; rw [← Int.natCast_add, wrapI _ h]
theorem subII (x y : Nat) (h : y ≤ x) (hx : x < 2 ^ 63) : subI .i64 (x : Int) (y : Int) = ((x - y : Nat) : Int) := by
  unfold subI; rw [show (x : Int) - (y : Int) = ((x - y : Nat) : Int) by omega, wrapI _ (by omega)]
theorem mulII (x y : Nat) (h : x * y < 2 ^ 63) : mulI .i64 (x : Int) (y : Int) = ((x * y : Nat) : Int) := by unfold mulI; rw [← Int.natCast_mul, wrapI _ h]
theorem quoII (x y : Nat) (h : x < 2 ^ 63) : quoI .i64 (x : Int) (y : Int) = ((x / y : Nat) : Int) := by
  unfold quoI
  rw [Int.tdiv_eq_ediv_of_nonneg (by omega), ← Int.natCast_ediv, wrapI _ (Nat.lt_of_le_of_lt (Nat.div_le_self _ _) h)]
theorem shrII (x y : Nat) (h : y ≤ 64) : shrI .i64 (x : Int) (y : Int) = ((x / 2 ^ y : Nat) : Int) := by
  unfold shrI
  simp only [IntKind.bits, Int.toNat_natCast]
  rw [Nat.min_eq_left h]
  rw [show ((2 : Int) ^ y) = ((2 ^ y : Nat) : Int) by simp, ← Int.ofNat_eq_natCast, ← Int.ofNat_eq_natCast, Int.ofNat_fdiv]
  rfl
theorem shlII (x y : Nat) (h : y ≤ 64) (hx : x * 2 ^ y < 2 ^ 63) : shlI .i64 (x : Int) (y : Int) = ((x * 2 ^ y : Nat) : Int) := by
  unfold shlI
  simp only [Int.toNat_natCast]
  rw [show IntKind.i64.bits = 64 from rfl, Nat.min_eq_left h, show ((2 : Int) ^ y) = ((2 ^ y : Nat) : Int) by simp, ← Int.natCast_mul]
  exact wrapI _ hx
theorem andII (n m : Nat) (hn : n < 2 ^ 63) (hm : m < 2 ^ 63) : andI .i64 (n : Int) (m : Int) = ((n &&& m : Nat) : Int) := by
  unfold andI
  show IntKind.wrap .i64 (((BitVec.ofInt 64 (n : Int) &&& BitVec.ofInt 64 (m : Int)).toNat : Nat) : Int) = _
  have e1 : (BitVec.ofInt 64 (n : Int) &&& BitVec.ofInt 64 (m : Int)).toNat = n &&& m := by
    rw [BitVec.ofInt_natCast, BitVec.ofInt_natCast, BitVec.toNat_and, BitVec.toNat_ofNat, BitVec.toNat_ofNat, Nat.mod_eq_of_lt (by omega), Nat.mod_eq_of_lt (by omega)]
  rw [e1]
  exact wrapI _ (Nat.and_lt_two_pow (x := n) hm)
theorem orII (n m : Nat) (hn : n < 2 ^ 63) (hm : m < 2 ^ 63) : orI .i64 (n : Int) (m : Int) = ((n ||| m : Nat) : Int) := by
  unfold orI
  show IntKind.wrap .i64 (((BitVec.ofInt 64 (n : Int) ||| BitVec.ofInt 64 (m : Int)).toNat : Nat) : Int) = _
  have e1 : (BitVec.ofInt 64 (n : Int) ||| BitVec.ofInt 64 (m : Int)).toNat = n ||| m := by
    rw [BitVec.ofInt_natCast, BitVec.ofInt_natCast, BitVec.toNat_or, BitVec.toNat_ofNat, BitVec.toNat_ofNat, Nat.mod_eq_of_lt (by omega), Nat.mod_eq_of_lt (by omega)]
  rw [e1]
  exact wrapI _ (Nat.or_lt_two_pow hn hm)

theorem low23 (B : Nat) (h : B < 2 ^ 63) : andI .i64 (B : Int) 8388607 = ((B % 2 ^ 23 : Nat) : Int) := by
  have := andII B 8388607 h (by omega)
  rw [show ((8388607 : Nat) : Int) = 8388607 from rfl] at this
  rw [this, show (8388607 : Nat) = 2 ^ 23 - 1 from rfl, Nat.and_two_pow_sub_one_eq_mod]

theorem bit23 (B : Nat) (h : B < 2 ^ 63) : (andI .i64 (B : Int) 8388608 != (0 : Int)) = decide (B / 2 ^ 23 % 2 = 1) := by
  have := andII B 8388608 h (by omega)
  rw [show ((8388608 : Nat) : Int) = 8388608 from rfl] at this
  have e : B &&& 2 ^ 23 = if B.testBit 23 then 2 ^ 23 else 0 := by
    apply Nat.eq_of_testBit_eq
    intro i
    rw [Nat.testBit_and, Nat.testBit_two_pow]
    by_cases hi : 23 = i
    · subst hi
      cases hb : B.testBit 23
      · simp
      · decide
    · rw [decide_eq_false hi, Bool.and_false]
      split
      · rw [Nat.testBit_two_pow, decide_eq_false hi]
      · simp
  rw [this, show (8388608 : Nat) = 2 ^ 23 from rfl, e, Nat.testBit_eq_decide_div_mod_eq]
  cases hb : decide (B / 2 ^ 23 % 2 = 1) <;> rfl

theorem shr24 (B : Nat) : shrI .i64 (B : Int) 24 = ((B / 2 ^ 24 : Nat) : Int) := by
  have := shrII B 24 (by omega)
  rwa [show ((24 : Nat) : Int) = 24 from rfl] at this

theorem ne0 (w : Nat) : (((w : Int)) != (0 : Int)) = decide (0 < w) := by
  rw [Bool.eq_iff_iff, bne_iff_ne, decide_eq_true_iff]; omega
theorem gtC (w c : Nat) : decide ((w : Int) > (c : Int)) = decide (c < w) := by
  rw [Bool.eq_iff_iff, decide_eq_true_iff, decide_eq_true_iff]; omega

/-! ### Decode -/

def dN (B : Nat) : Nat := if B / 2 ^ 24 ≤ 3 then B % 2 ^ 23 / 2 ^ (8 * (3 - B / 2 ^ 24)) else B % 2 ^ 23 * 2 ^ (8 * (B / 2 ^ 24 - 3)) % 2 ^ 256
def dLow (B : Nat) : Bool := decide (0 < B % 2 ^ 23) && decide (B / 2 ^ 23 % 2 = 1)
def dHigh (B : Nat) : Bool := decide (0 < B % 2 ^ 23) && (decide (34 < B / 2 ^ 24) || decide (255 < B % 2 ^ 23) && decide (33 < B / 2 ^ 24) || decide (65535 < B % 2 ^ 23) && decide (32 < B / 2 ^ 24))

theorem dN_lt (B : Nat) : dN B < 2 ^ 256 := by
  unfold dN
  split
  · have := Nat.div_le_self (B % 2 ^ 23) (2 ^ (8 * (3 - B / 2 ^ 24)))
    have := Nat.mod_lt B (show 0 < 2 ^ 23 by omega)
    omega
  · exact Nat.mod_lt _ (by omega)

theorem dec_ev (B : Nat) (hB : B < 2 ^ 32) : Ev (fun k => compact_Decode.f k (B : Int)) (toNum (dN B), dLow B, dHigh B) := by
  unfold compact_Decode.f compact_Decode.tree
  refine Ev.bind (v := true) (Ev.const fun k => ?_) ?_
  · unfold compact_Good.f compact_Good.tree
    rw [decide_eq_true (show (B : Int) ≥ 0 by omega), decide_eq_true (show (B : Int) ≤ 4294967295 by omega)]; rfl
  simp only [Bool.not_true, cond_false]
  have e1 : ∀ a b : Nat, ((a : Int) > (b : Int)) = (b < a) := fun a b => by simp
  rw [low23 B (by omega), bit23 B (by omega), shr24, wrap_u64 (n := ((B % 2 ^ 23 : Nat) : Int)) (by omega) (by omega), ne0]
  have g34 : decide (((B / 2 ^ 24 : Nat) : Int) > 34) = decide (34 < B / 2 ^ 24) := gtC _ 34
  have g33 : decide (((B / 2 ^ 24 : Nat) : Int) > 33) = decide (33 < B / 2 ^ 24) := gtC _ 33
  have g32 : decide (((B / 2 ^ 24 : Nat) : Int) > 32) = decide (32 < B / 2 ^ 24) := gtC _ 32
  have g255 : decide (((B % 2 ^ 23 : Nat) : Int) > 255) = decide (255 < B % 2 ^ 23) := gtC _ 255
  have g65 : decide (((B % 2 ^ 23 : Nat) : Int) > 65535) = decide (65535 < B % 2 ^ 23) := gtC _ 65535
  rw [g34, g33, g32, g255, g65]
  refine Ev.bind (of_ev (B % 2 ^ 23) (by omega)) ?_
  unfold dLow dHigh dN
  have hw := Nat.mod_lt B (show 0 < 2 ^ 23 by omega)
  generalize decide (0 < B % 2 ^ 23) = c0
  generalize decide (B / 2 ^ 23 % 2 = 1) = cs
  generalize decide (34 < B / 2 ^ 24) = c34
  generalize decide (33 < B / 2 ^ 24) = c33
  generalize decide (32 < B / 2 ^ 24) = c32
  generalize decide (255 < B % 2 ^ 23) = c255
  generalize decide (65535 < B % 2 ^ 23) = c65
  by_cases hs : B / 2 ^ 24 ≤ 3
  · rw [decide_eq_true (show ((B / 2 ^ 24 : Nat) : Int) ≤ 3 by omega), if_pos hs]
    simp only [cond_true]
    have e2 : mulI .i64 8 (subI .i64 3 ((B / 2 ^ 24 : Nat) : Int)) = ((8 * (3 - B / 2 ^ 24) : Nat) : Int) := by
      have h1 := subII 3 (B / 2 ^ 24) hs (by omega)
      rw [show ((3 : Nat) : Int) = 3 from rfl] at h1
      rw [h1]
      exact mulII 8 _ (by omega)
    rw [e2]
    refine Ev.bind (down_num (by omega) _) (Ev.const fun k => ?_)
    cases c0 <;> cases cs <;> cases c34 <;> cases c33 <;> cases c32 <;> cases c255 <;> cases c65 <;> rfl
  · rw [decide_eq_false (show ¬ ((B / 2 ^ 24 : Nat) : Int) ≤ 3 by omega), if_neg hs]
    simp only [cond_false]
    have e2 : mulI .i64 8 (subI .i64 ((B / 2 ^ 24 : Nat) : Int) 3) = ((8 * (B / 2 ^ 24 - 3) : Nat) : Int) := by
      have h1 := subII (B / 2 ^ 24) 3 (by omega) (by omega)
      rw [show ((3 : Nat) : Int) = 3 from rfl] at h1
      rw [h1]
      exact mulII 8 _ (by omega)
    rw [e2]
    refine Ev.bind (up_num _ _) (Ev.const fun k => ?_)
    rw [show toNum (B % 2 ^ 23 * 2 ^ (8 * (B / 2 ^ 24 - 3))) = toNum (B % 2 ^ 23 * 2 ^ (8 * (B / 2 ^ 24 - 3)) % 2 ^ 256) from toNum_congr (by rw [Nat.mod_mod])]
    cases c0 <;> cases cs <;> cases c34 <;> cases c33 <;> cases c32 <;> cases c255 <;> cases c65 <;> rfl

theorem dec_out {b : Int} (hb : b < 0 ∨ 2 ^ 32 ≤ b) : Ev (fun k => compact_Decode.f k b) (toNum 0, false, false) := by
  unfold compact_Decode.f compact_Decode.tree
  refine Ev.bind (v := false) (Ev.const fun k => ?_) (Ev.const fun k => rfl)
  unfold compact_Good.f compact_Good.tree
  rcases hb with h | h
  · rw [decide_eq_false (show ¬ b ≥ 0 by omega)]; rfl
  · rw [decide_eq_true (show b ≥ 0 by omega), decide_eq_false (show ¬ b ≤ 4294967295 by omega)]; rfl

theorem remII (x y : Nat) : remI (x : Int) (y : Int) = ((x % y : Nat) : Int) := remU x y

theorem refdec_ev (B : Nat) (hB : B < 2 ^ 32) : Ev (fun k => trailheadref03_Decode.f k (B : Int)) (toNum (dN B), dLow B, dHigh B) := by
  unfold trailheadref03_Decode.f trailheadref03_Decode.tree
  rw [decide_eq_false (show ¬ (B : Int) < 0 by omega), decide_eq_false (show ¬ (B : Int) > 4294967295 by omega)]
  simp only [cond_false]
  have r23 : remI (B : Int) 8388608 = ((B % 2 ^ 23 : Nat) : Int) := remII B 8388608
  have q24 : quoI .i64 (B : Int) 16777216 = ((B / 2 ^ 24 : Nat) : Int) := quoII B 16777216 (by omega)
  have q23 : quoI .i64 (B : Int) 8388608 = ((B / 2 ^ 23 : Nat) : Int) := quoII B 8388608 (by omega)
  have sg : (remI ((B / 2 ^ 23 : Nat) : Int) 2 == (1 : Int)) = decide (B / 2 ^ 23 % 2 = 1) := by
    have := remII (B / 2 ^ 23) 2
    rw [show ((2 : Nat) : Int) = 2 from rfl] at this
    rw [this, Bool.eq_iff_iff, beq_iff_eq, decide_eq_true_iff]; omega
  have g34 : decide (((B / 2 ^ 24 : Nat) : Int) > 34) = decide (34 < B / 2 ^ 24) := gtC _ 34
  have g33 : decide (((B / 2 ^ 24 : Nat) : Int) > 33) = decide (33 < B / 2 ^ 24) := gtC _ 33
  have g32 : decide (((B / 2 ^ 24 : Nat) : Int) > 32) = decide (32 < B / 2 ^ 24) := gtC _ 32
  have g0 : decide (((B % 2 ^ 23 : Nat) : Int) > 0) = decide (0 < B % 2 ^ 23) := gtC _ 0
  have g255 : decide (((B % 2 ^ 23 : Nat) : Int) > 255) = decide (255 < B % 2 ^ 23) := gtC _ 255
  have g65 : decide (((B % 2 ^ 23 : Nat) : Int) > 65535) = decide (65535 < B % 2 ^ 23) := gtC _ 65535
  rw [r23, q24, q23, sg, g34, g33, g32, g0, g255, g65, wrap_u64 (n := ((B % 2 ^ 23 : Nat) : Int)) (by omega) (by omega), ofNum _ (show B % 2 ^ 23 < 2 ^ 64 by omega)]
  unfold dLow dHigh dN
  have hw := Nat.mod_lt B (show 0 < 2 ^ 23 by omega)
  have c1 : (decide (34 < B / 2 ^ 24) = true → decide (33 < B / 2 ^ 24) = true) := by simp only [decide_eq_true_eq]; omega
  have c2 : (decide (255 < B % 2 ^ 23) = true → decide (0 < B % 2 ^ 23) = true) := by simp only [decide_eq_true_eq]; omega
  have c3 : (decide (65535 < B % 2 ^ 23) = true → decide (255 < B % 2 ^ 23) = true) := by simp only [decide_eq_true_eq]; omega
  generalize decide (0 < B % 2 ^ 23) = c0 at *
  generalize decide (B / 2 ^ 23 % 2 = 1) = cs
  generalize decide (34 < B / 2 ^ 24) = c34 at *
  generalize decide (33 < B / 2 ^ 24) = c33 at *
  generalize decide (32 < B / 2 ^ 24) = c32
  generalize decide (255 < B % 2 ^ 23) = c255 at *
  generalize decide (65535 < B % 2 ^ 23) = c65 at *
  by_cases hs : B / 2 ^ 24 ≤ 3
  · rw [if_pos hs]
    have e2 : mulI .i64 8 (subI .i64 ((B / 2 ^ 24 : Nat) : Int) 3) = -((8 * (3 - B / 2 ^ 24) : Nat) : Int) := by
      unfold mulI subI
      rw [wrap_i64 (n := ((B / 2 ^ 24 : Nat) : Int) - 3) (by omega) (by omega), wrap_i64 (by omega) (by omega)]; omega
    rw [e2]
    refine Ev.bind (movedown_num (by omega) _) (Ev.const fun k => ?_)
    cases c0 <;> cases cs <;> cases c34 <;> cases c33 <;> cases c32 <;> cases c255 <;> cases c65 <;> first | rfl | simp at c1 c2 c3
  · rw [if_neg hs]
    have e2 : mulI .i64 8 (subI .i64 ((B / 2 ^ 24 : Nat) : Int) 3) = ((8 * (B / 2 ^ 24 - 3) : Nat) : Int) := by
      have h1 := subII (B / 2 ^ 24) 3 (by omega) (by omega)
      rw [show ((3 : Nat) : Int) = 3 from rfl] at h1
      rw [h1]
      exact mulII 8 _ (by omega)
    rw [e2]
    refine Ev.bind (moveup_num _ _) (Ev.const fun k => ?_)
    rw [show toNum (B % 2 ^ 23 * 2 ^ (8 * (B / 2 ^ 24 - 3))) = toNum (B % 2 ^ 23 * 2 ^ (8 * (B / 2 ^ 24 - 3)) % 2 ^ 256) from toNum_congr (by rw [Nat.mod_mod])]
    cases c0 <;> cases cs <;> cases c34 <;> cases c33 <;> cases c32 <;> cases c255 <;> cases c65 <;> first | rfl | simp at c1 c2 c3

theorem refdec_out {b : Int} (hb : b < 0 ∨ 2 ^ 32 ≤ b) : Ev (fun k => trailheadref03_Decode.f k b) (toNum 0, false, false) := by
  refine Ev.const fun k => ?_
  unfold trailheadref03_Decode.f trailheadref03_Decode.tree
  rcases hb with h | h
  · rw [decide_eq_true h]; rfl
  · rw [decide_eq_false (show ¬ b < 0 by omega), decide_eq_true (show b > 4294967295 by omega)]; rfl

/-- Decode of any number. -/
def dAll (b : Int) : Nat × Bool × Bool := if 0 ≤ b ∧ b < 2 ^ 32 then (dN b.toNat, dLow b.toNat, dHigh b.toNat) else (0, false, false)

theorem dAll_lt (b : Int) : (dAll b).1 < 2 ^ 256 := by
  unfold dAll; split
  · exact dN_lt _
  · simp

theorem dAll_nat (B : Nat) (h : B < 2 ^ 32) : dAll (B : Int) = (dN B, dLow B, dHigh B) := by
  unfold dAll; rw [if_pos (by omega)]; simp

theorem decA (b : Int) : Ev (fun k => compact_Decode.f k b) (toNum (dAll b).1, (dAll b).2.1, (dAll b).2.2) := by
  by_cases h : 0 ≤ b ∧ b < 2 ^ 32
  · obtain ⟨B, rfl⟩ : ∃ B : Nat, b = (B : Int) := ⟨b.toNat, by omega⟩
    rw [dAll_nat B (by omega)]; exact dec_ev B (by omega)
  · have := dec_out (b := b) (by omega)
    unfold dAll; rw [if_neg h]; exact this

theorem refdecA (b : Int) : Ev (fun k => trailheadref03_Decode.f k b) (toNum (dAll b).1, (dAll b).2.1, (dAll b).2.2) := by
  by_cases h : 0 ≤ b ∧ b < 2 ^ 32
  · obtain ⟨B, rfl⟩ : ∃ B : Nat, b = (B : Int) := ⟨b.toNat, by omega⟩
    rw [dAll_nat B (by omega)]; exact refdec_ev B (by omega)
  · have := refdec_out (b := b) (by omega)
    unfold dAll; rw [if_neg h]; exact this

theorem compact_alive : Ev (fun k => trailheadlaw03_alive.f k) true := by
  unfold trailheadlaw03_alive.f trailheadlaw03_alive.tree
  refine Ev.bind (dec_ev 486604799 (by omega)) ?_
  have h := moveup_num 65535 208
  refine Ev.bind h ?_
  rw [show dN 486604799 = 65535 * 2 ^ 208 by decide +kernel, show dLow 486604799 = false by decide +kernel, show dHigh 486604799 = false by decide +kernel, decide_eq_true rfl]
  exact Ev.const fun k => by kernel_rfl

end Go.Proofs.Ytjciljaojcekeaa.Sx
