
/- Quotients: the program's, bit by bit of the first number; the reference's, from the highest multiple down. WholeQuotients. -/
import Derived.Test.YtjciljaojcekeaaQ14
namespace Go.Proofs.Ytjciljaojcekeaa.Sx
open Go
set_option linter.unusedVariables false
set_option linter.unusedSimpArgs false
set_option maxRecDepth 100000

theorem zero_ev {x : Nat} (hx : x < 2 ^ 256) : Ev (fun k => whole_Zero.f k (toNum x)) (decide (x = 0)) := Ev.const fun k => by
  unfold whole_Zero.f whole_Zero.tree
  rw [zeroNum, toNum_eq hx (by omega)]

theorem subI_neg (i : Nat) (h : i < 2 ^ 62) : subI .i64 0 (i : Int) = -(i : Int) := by
  unfold subI; rw [wrap_i64 (by omega) (by omega)]; omega

theorem or_pow (n s : Nat) (h : n / 2 ^ s % 2 = 0) : n ||| 2 ^ s = n + 2 ^ s := by
  have hp := Nat.two_pow_pos s
  have d1 := Nat.div_add_mod n (2 ^ s)
  have l1 := Nat.mod_lt n hp
  have e : n = 2 ^ (s + 1) * (n / 2 ^ s / 2) + n % 2 ^ s := by
    have h2 : n / 2 ^ s = 2 * (n / 2 ^ s / 2) := by omega
    rw [Nat.pow_succ, Nat.mul_assoc, ← h2]; exact d1.symm
  generalize n / 2 ^ s / 2 = u at e
  generalize n % 2 ^ s = l at *
  have hl2 : l < 2 ^ (s + 1) := by rw [Nat.pow_succ]; omega
  have e1 : 2 ^ s ||| l = 2 ^ s + l := by have := Nat.two_pow_add_eq_or_of_lt l1 1; rw [Nat.mul_one] at this; exact this.symm
  rw [e, Nat.two_pow_add_eq_or_of_lt hl2 u, Nat.or_assoc, Nat.or_comm l, e1, ← Nat.two_pow_add_eq_or_of_lt (by rw [Nat.pow_succ]; omega) u, ← Nat.two_pow_add_eq_or_of_lt hl2 u]
  omega

theorem shl_one (s : Nat) (hs : s < 64) : shlI .u64 1 (s : Int) = ((2 ^ s : Nat) : Int) := by
  have hp : 2 ^ s < 2 ^ 64 := Nat.pow_lt_pow_right (by omega) hs
  unfold shlI
  simp only [Int.toNat_natCast]
  rw [show IntKind.u64.bits = 64 from rfl, Nat.min_eq_left (by omega), Int.one_mul, show ((2 : Int) ^ s) = ((2 ^ s : Nat) : Int) by simp]
  generalize 2 ^ s = p at *
  exact wrap_u64 (by omega) (by omega)

theorem or_nat (n m : Nat) (hn : n < 2 ^ 64) (hm : m < 2 ^ 64) : orI .u64 (n : Int) (m : Int) = ((n ||| m : Nat) : Int) := by
  unfold orI
  show IntKind.wrap .u64 (((BitVec.ofInt 64 (n : Int) ||| BitVec.ofInt 64 (m : Int)).toNat : Nat) : Int) = _
  have e1 : (BitVec.ofInt 64 (n : Int) ||| BitVec.ofInt 64 (m : Int)).toNat = n ||| m := by
    rw [BitVec.ofInt_natCast, BitVec.ofInt_natCast, BitVec.toNat_or, BitVec.toNat_ofNat, BitVec.toNat_ofNat, Nat.mod_eq_of_lt hn, Nat.mod_eq_of_lt hm]
  rw [e1]
  have := Nat.or_lt_two_pow hn hm
  exact wrap_u64 (by omega) (by omega)

theorem and_nat (n m : Nat) (hn : n < 2 ^ 64) (hm : m < 2 ^ 64) : andI .u64 (n : Int) (m : Int) = ((n &&& m : Nat) : Int) := by
  unfold andI
  show IntKind.wrap .u64 (((BitVec.ofInt 64 (n : Int) &&& BitVec.ofInt 64 (m : Int)).toNat : Nat) : Int) = _
  have e1 : (BitVec.ofInt 64 (n : Int) &&& BitVec.ofInt 64 (m : Int)).toNat = n &&& m := by
    rw [BitVec.ofInt_natCast, BitVec.ofInt_natCast, BitVec.toNat_and, BitVec.toNat_ofNat, BitVec.toNat_ofNat, Nat.mod_eq_of_lt hn, Nat.mod_eq_of_lt hm]
  rw [e1]
  have := Nat.and_lt_two_pow (x := n) hm
  exact wrap_u64 (by omega) (by omega)

theorem and_one (n : Nat) (hn : n < 2 ^ 64) : andI .u64 (n : Int) 1 = ((n % 2 : Nat) : Int) := by
  have := and_nat n 1 hn (by omega)
  rw [show ((1 : Nat) : Int) = 1 from rfl] at this
  rw [this, Nat.and_one_is_mod]

theorem or_bit' (n s : Nat) (hs : s < 64) (hn : n < 2 ^ 64) (h : n / 2 ^ s % 2 = 0) : orI .u64 (n : Int) (shlI .u64 1 (s : Int)) = ((n + 2 ^ s : Nat) : Int) ∧ n + 2 ^ s < 2 ^ 64 := by
  have hp : 2 ^ s < 2 ^ 64 := Nat.pow_lt_pow_right (by omega) hs
  have := Nat.or_lt_two_pow hn hp
  rw [shl_one s hs, or_nat n (2 ^ s) hn hp, or_pow n s h]
  rw [or_pow n s h] at this
  exact ⟨rfl, this⟩

/-- One bit more, where there was none. -/
theorem or_set {a : List Int} (ha : goodT numT a) (w s : Nat) (hw : w < 4) (hs : s < 64) (h : vN a / 2 ^ (64 * w + s) % 2 = 0) :
    List.set a w (orI .u64 (List.getD a w 0) (shlI .u64 1 (s : Int))) = toNum (vN a + 2 ^ (64 * w + s)) := by
  obtain ⟨n0, n1, n2, n3, rfl, h0, h1, h2, h3⟩ := num4 ha
  have hb := bitV4 n0 n1 n2 n3 h0 h1 h2 h3 w s hw hs
  have hpp := Nat.two_pow_pos s
  rw [← vN4, h] at hb
  have bit : ∀ n : Nat, 0 = n / 2 ^ s % 2 → n / 2 ^ s % 2 = 0 := fun n e => e.symm
  rw [vN4, Nat.pow_add]
  match w, hw with
  | 0, _ =>
    obtain ⟨e, l⟩ := or_bit' n0 s hs h0 (bit n0 hb)
    show [orI .u64 (n0 : Int) (shlI .u64 1 (s : Int)), (n1 : Int), (n2 : Int), (n3 : Int)] = _
    rw [e]
    generalize 2 ^ s = p at *
    refine toNum_of (good4 l h1 h2 h3) ?_
    rw [vN4]; omega
  | 1, _ =>
    obtain ⟨e, l⟩ := or_bit' n1 s hs h1 (bit n1 hb)
    show [(n0 : Int), orI .u64 (n1 : Int) (shlI .u64 1 (s : Int)), (n2 : Int), (n3 : Int)] = _
    rw [e]
    generalize 2 ^ s = p at *
    refine toNum_of (good4 h0 l h2 h3) ?_
    rw [vN4]; omega
  | 2, _ =>
    obtain ⟨e, l⟩ := or_bit' n2 s hs h2 (bit n2 hb)
    show [(n0 : Int), (n1 : Int), orI .u64 (n2 : Int) (shlI .u64 1 (s : Int)), (n3 : Int)] = _
    rw [e]
    generalize 2 ^ s = p at *
    refine toNum_of (good4 h0 h1 l h3) ?_
    rw [vN4]; omega
  | 3, _ =>
    obtain ⟨e, l⟩ := or_bit' n3 s hs h3 (bit n3 hb)
    show [(n0 : Int), (n1 : Int), (n2 : Int), orI .u64 (n3 : Int) (shlI .u64 1 (s : Int))] = _
    rw [e]
    generalize 2 ^ s = p at *
    refine toNum_of (good4 h0 h1 h2 l) ?_
    rw [vN4]; omega

theorem set_high {x i k : Nat} (hi : i < 256) (hx : x < 2 ^ 256) (h : x % 2 ^ (i + 1) = 0) : trailheadref02_set.f k (toNum x) (i : Int) = some (toNum (x + 2 ^ i)) := by
  unfold trailheadref02_set.f trailheadref02_set.tree
  rw [quo64 i hi, rem64, wrap_u64 (n := ((i % 64 : Nat) : Int)) (by omega) (by omega), Int.toNat_natCast, decide_eq_true (show (0 : Int) ≤ ((i / 64 : Nat) : Int) by omega), decide_eq_true (show ((i / 64 : Nat) : Int) < 4 by omega),
    decide_eq_true (show i / 64 < 4 by omega), decide_eq_false (show ¬ ((i % 64 : Nat) : Int) < 0 by omega)]
  simp only [cond_true, cond_false]
  have hi' : 64 * (i / 64) + i % 64 = i := by omega
  have hbit : x / 2 ^ i % 2 = 0 := by
    have := Nat.mod_pow_succ (b := 2) (x := x) (k := i)
    rw [h] at this
    have hp := Nat.two_pow_pos i
    rcases Nat.mod_two_eq_zero_or_one (x / 2 ^ i) with e | e
    · exact e
    · rw [e] at this; omega
  rw [or_set (toNum_good x) (i / 64) (i % 64) (by omega) (by omega) (by rw [vN_toNum_lt hx, hi']; exact hbit), vN_toNum_lt hx, hi']

/-- The reference's loop: at i the multiples by 2^i and above are done. -/
theorem refquo_loop {b x : Nat} (hb : b < 2 ^ 256) (hb0 : 0 < b) (hx : x < 2 ^ 256) (z1 z2 : List Int) : ∀ i : Nat, i ≤ 256 →
    Ev2 (fun k n => trailheadref02_Quo.l0.f k (toNum b) z1 z2 n ((i : Int) - 1) (toNum (x / (b * 2 ^ i) * 2 ^ i)) (toNum (x % (b * 2 ^ i)))) (-1, (toNum (x / b), toNum (x % b)))
  | 0, _ => by
    refine Ev2.succ (G := fun k n => some (-1, (toNum (x / b), toNum (x % b)))) (fun k n => ?_) (Ev2.const fun _ _ => rfl)
    simp only [trailheadref02_Quo.l0.f, trailheadref02_Quo.l0.go, trailheadref02_Quo.l0.step]
    rw [decide_eq_false (by omega), Nat.pow_zero, Nat.mul_one, Nat.mul_one]; rfl
  | i + 1, hi => by
    have ih := refquo_loop hb hb0 hx z1 z2 i (by omega)
    have hp : 0 < 2 ^ i := Nat.two_pow_pos i
    have hbp : 0 < b * 2 ^ i := Nat.mul_pos hb0 hp
    have hr : x % (b * 2 ^ (i + 1)) ≤ x := Nat.mod_le _ _
    have hr' := Nat.mod_le x (b * 2 ^ i)
    have hq1 : x / (b * 2 ^ (i + 1)) * 2 ^ (i + 1) ≤ x := by
      refine Nat.le_trans ?_ (Nat.div_mul_le_self x (b * 2 ^ (i + 1)))
      exact Nat.mul_le_mul_left _ (Nat.le_mul_of_pos_left _ hb0)
    -- how one more bit turns the two
    have hsplit : b * 2 ^ (i + 1) = 2 * (b * 2 ^ i) := by rw [Nat.pow_succ, Nat.mul_comm 2, Nat.mul_assoc]
    have hpp : 2 ^ (i + 1) = 2 * 2 ^ i := by rw [Nat.pow_succ, Nat.mul_comm]
    have key : (x % (b * 2 ^ (i + 1)) < b * 2 ^ i → x / (b * 2 ^ i) * 2 ^ i = x / (b * 2 ^ (i + 1)) * 2 ^ (i + 1) ∧ x % (b * 2 ^ i) = x % (b * 2 ^ (i + 1))) ∧
        (b * 2 ^ i ≤ x % (b * 2 ^ (i + 1)) → x / (b * 2 ^ i) * 2 ^ i = x / (b * 2 ^ (i + 1)) * 2 ^ (i + 1) + 2 ^ i ∧ x % (b * 2 ^ i) = x % (b * 2 ^ (i + 1)) - b * 2 ^ i) := by
      rw [hsplit, hpp]
      generalize b * 2 ^ i = c at *
      have d1 := Nat.div_add_mod x (2 * c)
      have m1 := Nat.mod_lt x (show 0 < 2 * c by omega)
      generalize hQ : x / (2 * c) = Q at *
      generalize hR : x % (2 * c) = R at *
      have e0 : x = c * (2 * Q) + R := by rw [← d1, Nat.mul_comm 2 c, Nat.mul_assoc]
      constructor
      · intro h
        have e1 : x / c = 2 * Q := by rw [e0, Nat.mul_add_div hbp, Nat.div_eq_of_lt h, Nat.add_zero]
        have e2 : x % c = R := by rw [e0, Nat.mul_add_mod, Nat.mod_eq_of_lt h]
        exact ⟨by rw [e1, Nat.mul_comm 2 Q, Nat.mul_assoc], e2⟩
      · intro h
        have e3 : x = c * (2 * Q + 1) + (R - c) := by rw [Nat.mul_add, Nat.mul_one]; omega
        have e1 : x / c = 2 * Q + 1 := by rw [e3, Nat.mul_add_div hbp, Nat.div_eq_of_lt (by omega), Nat.add_zero]
        have e2 : x % c = R - c := by rw [e3, Nat.mul_add_mod, Nat.mod_eq_of_lt (by omega)]
        exact ⟨by rw [e1, Nat.add_mul, Nat.one_mul, Nat.mul_comm 2 Q, Nat.mul_assoc], e2⟩
    have hlt0 : x / (b * 2 ^ (i + 1)) * 2 ^ (i + 1) % 2 ^ (i + 1) = 0 := Nat.mul_mod_left _ _
    refine Ev2.succ (G := fun k n => Option.bind (trailheadref02_Move.f k (toNum b) (i : Int)) (fun r1 => Option.bind (trailheadref02_Move.f k r1 (-(i : Int))) (fun r2 => bif decide (r2 = toNum b) then
        Option.bind (trailheadref02_Less.f k (toNum (x % (b * 2 ^ (i + 1)))) r1) (fun r3 => bif !r3 then
          Option.bind (trailheadref02_Sub.f k (toNum (x % (b * 2 ^ (i + 1)))) r1) (fun r4 => Option.bind (trailheadref02_set.f k (toNum (x / (b * 2 ^ (i + 1)) * 2 ^ (i + 1))) (i : Int)) (fun r5 =>
            trailheadref02_Quo.l0.f k (toNum b) z1 z2 n ((i : Int) - 1) r5 r4.1))
          else trailheadref02_Quo.l0.f k (toNum b) z1 z2 n ((i : Int) - 1) (toNum (x / (b * 2 ^ (i + 1)) * 2 ^ (i + 1))) (toNum (x % (b * 2 ^ (i + 1)))))
        else trailheadref02_Quo.l0.f k (toNum b) z1 z2 n ((i : Int) - 1) (toNum (x / (b * 2 ^ (i + 1)) * 2 ^ (i + 1))) (toNum (x % (b * 2 ^ (i + 1))))))) (fun k n => ?_) ?_
    · have e1 : ((i + 1 : Nat) : Int) - 1 = (i : Int) := by omega
      simp only [trailheadref02_Quo.l0.f, trailheadref02_Quo.l0.go, trailheadref02_Quo.l0.step, e1]
      rw [decide_eq_true (show (i : Int) ≥ 0 by omega), subI_one (by omega) (by omega), subI_neg i (by omega)]; rfl
    refine Ev2.bind (moveup_num b i) ?_
    rw [show toNum (b * 2 ^ i) = toNum (b * 2 ^ i % 2 ^ 256) from toNum_congr (by rw [Nat.mod_mod])]
    refine Ev2.bind (movedown_num (Nat.mod_lt _ (by omega)) i) ?_
    rw [up_down (by omega), toNum_eq (Nat.lt_of_le_of_lt (Nat.mod_le _ _) hb) hb]
    by_cases hfit : b * 2 ^ i < 2 ^ 256
    · have e2 : b < 2 ^ (256 - i) := by
        refine Nat.lt_of_mul_lt_mul_right (a := 2 ^ i) ?_
        rw [← Nat.pow_add, show 256 - i + i = 256 by omega]; exact hfit
      rw [decide_eq_true (Nat.mod_eq_of_lt e2), Nat.mod_eq_of_lt hfit]
      simp only [cond_true]
      refine Ev2.bind (refless_num (Nat.lt_of_le_of_lt hr hx) hfit) ?_
      by_cases hc : x % (b * 2 ^ (i + 1)) < b * 2 ^ i
      · rw [decide_eq_true hc]
        simp only [Bool.not_true, cond_false]
        obtain ⟨k1, k2⟩ := key.1 hc
        rw [← k1, ← k2]; exact ih
      · rw [decide_eq_false hc]
        simp only [Bool.not_false, cond_true]
        obtain ⟨k1, k2⟩ := key.2 (by omega)
        refine Ev2.bind (refsub_num (Nat.lt_of_le_of_lt hr hx) hfit) ?_
        rw [subNum (by omega)]
        refine Ev2.bind (v := toNum (x / (b * 2 ^ i) * 2 ^ i)) ?_ ?_
        · refine Ev.const fun k => ?_
          rw [set_high (by omega) (Nat.lt_of_le_of_lt hq1 hx) hlt0, k1]
        · rw [← k2]; exact ih
    · have e2 : ¬ b % 2 ^ (256 - i) = b := by
        intro h
        have := Nat.mod_lt b (Nat.two_pow_pos (256 - i))
        rw [h] at this
        have h2 := Nat.mul_lt_mul_of_pos_right this hp
        rw [← Nat.pow_add, show 256 - i + i = 256 by omega] at h2
        exact hfit h2
      rw [decide_eq_false e2]
      simp only [cond_false]
      obtain ⟨k1, k2⟩ := key.1 (by omega)
      rw [← k1, ← k2]; exact ih

theorem refquo_ev {x b : Nat} (hx : x < 2 ^ 256) (hb : b < 2 ^ 256) : Ev (fun k => trailheadref02_Quo.f k (toNum x) (toNum b)) (toNum (x / b), toNum (if b = 0 then 0 else x % b)) := by
  unfold trailheadref02_Quo.f trailheadref02_Quo.tree
  rw [zeroNum, toNum_eq hb (by omega)]
  by_cases h0 : b = 0
  · subst h0
    exact Ev.const fun k => by simp
  · rw [decide_eq_false h0, if_neg h0]
    simp only [cond_false]
    have h := (refquo_loop hb (by omega) hx (toNum 0) (toNum 0) 256 (by omega)).ev
    have hlt : x < b * 2 ^ 256 := Nat.lt_of_lt_of_le hx (Nat.le_mul_of_pos_left _ (by omega))
    rw [Nat.div_eq_of_lt hlt, Nat.mod_eq_of_lt hlt, Nat.zero_mul] at h
    exact Ev.bind h (Ev.const fun k => rfl)

/-! ### The program's -/

theorem top_word (x : Nat) (hx : x < 2 ^ 256) : (shrI .u64 (List.getD (toNum x) 3 0) 63 == (1 : Int)) = decide (2 ^ 255 ≤ x) := by
  rw [getN3, show (63 : Int) = ((63 : Nat) : Int) from rfl, shr_u64' _ 63 (by omega), Bool.eq_iff_iff, beq_iff_eq, decide_eq_true_iff]
  omega

theorem low_or (R bit : Nat) (hb : bit ≤ 1) : List.set (toNum (R * 2)) 0 (orI .u64 (List.getD (toNum (R * 2)) 0 0) (bit : Int)) = toNum (R * 2 + bit) := by
  have e := or_u64 1 (R % 2 ^ 63) bit (by omega) (by omega)
  have e2 : R * 2 % 2 ^ 64 = 2 ^ 1 * (R % 2 ^ 63) := by omega
  rw [getN0, e2, e]
  show [((2 ^ 1 * (R % 2 ^ 63) + bit : Nat) : Int), ((R * 2 / 2 ^ 64 % 2 ^ 64 : Nat) : Int), ((R * 2 / 2 ^ 128 % 2 ^ 64 : Nat) : Int), ((R * 2 / 2 ^ 192 % 2 ^ 64 : Nat) : Int)] = _
  refine toNum_of (good4 (by omega) (Nat.mod_lt _ (by omega)) (Nat.mod_lt _ (by omega)) (Nat.mod_lt _ (by omega))) ?_
  rw [vN4]; omega

theorem get_bit {x i : Nat} (hx : x < 2 ^ 256) (hi : i < 256) : andI .u64 (shrI .u64 (List.getD (toNum x) (i / 64) 0) ((i % 64 : Nat) : Int)) 1 = ((x / 2 ^ i % 2 : Nat) : Int) := by
  obtain ⟨n0, n1, n2, n3, ex, h0, h1, h2, h3⟩ := num4 (toNum_good x)
  have hb := bitV4 n0 n1 n2 n3 h0 h1 h2 h3 (i / 64) (i % 64) (by omega) (by omega)
  rw [← vN4, ← ex, vN_toNum_lt hx, show 64 * (i / 64) + i % 64 = i by omega] at hb
  rw [hb, ex]
  have hw : i / 64 < 4 := by omega
  have hs : i % 64 ≤ 64 := by omega
  generalize i / 64 = w at *
  have step : ∀ n : Nat, n < 2 ^ 64 → andI .u64 (shrI .u64 (n : Int) ((i % 64 : Nat) : Int)) 1 = ((n / 2 ^ (i % 64) % 2 : Nat) : Int) := fun n hn => by
    rw [shr_u64' _ _ hs, and_one _ (Nat.lt_of_le_of_lt (Nat.div_le_self _ _) hn)]
  match w, hw with
  | 0, _ => exact step n0 h0
  | 1, _ => exact step n1 h1
  | 2, _ => exact step n2 h2
  | 3, _ => exact step n3 h3

theorem quo_loop {b x : Nat} (hb : b < 2 ^ 256) (hb0 : 0 < b) (hx : x < 2 ^ 256) (z1 z2 : List Int) : ∀ i : Nat, i ≤ 256 →
    Ev2 (fun k n => whole_Quo.l0.f k (toNum x) (toNum b) z1 z2 n ((i : Int) - 1) (toNum (x / 2 ^ i / b * 2 ^ i)) (toNum (x / 2 ^ i % b))) (-1, (toNum (x / b), toNum (x % b)))
  | 0, _ => by
    refine Ev2.succ (G := fun k n => some (-1, (toNum (x / b), toNum (x % b)))) (fun k n => ?_) (Ev2.const fun _ _ => rfl)
    simp only [whole_Quo.l0.f, whole_Quo.l0.go, whole_Quo.l0.step]
    rw [decide_eq_false (by omega), Nat.pow_zero, Nat.mul_one, Nat.div_one]; rfl
  | i + 1, hi => by
    have ih := quo_loop hb hb0 hx z1 z2 i (by omega)
    have hp : 0 < 2 ^ i := Nat.two_pow_pos i
    generalize hbit : x / 2 ^ i % 2 = bit
    have hbit1 : bit ≤ 1 := by omega
    have hX : x / 2 ^ i = 2 * (x / 2 ^ (i + 1)) + bit := by rw [Nat.pow_succ, ← Nat.div_div_eq_div_mul]; omega
    have hqx : x / 2 ^ (i + 1) / b * 2 ^ (i + 1) ≤ x := Nat.le_trans (Nat.mul_le_mul_right _ (Nat.div_le_self _ _)) (Nat.div_mul_le_self _ _)
    have hRb := Nat.mod_lt (x / 2 ^ (i + 1)) hb0
    have dq := Nat.div_add_mod (x / 2 ^ (i + 1)) b
    generalize hR : x / 2 ^ (i + 1) % b = R at *
    generalize hQ : x / 2 ^ (i + 1) / b = Q at *
    have e0 : x / 2 ^ i = b * (2 * Q) + (R * 2 + bit) := by
      rw [hX, ← dq, Nat.mul_left_comm b 2 Q]; omega
    have kq : (R * 2 + bit < b → x / 2 ^ i / b = 2 * Q ∧ x / 2 ^ i % b = R * 2 + bit) ∧ (b ≤ R * 2 + bit → x / 2 ^ i / b = 2 * Q + 1 ∧ x / 2 ^ i % b = R * 2 + bit - b) := by
      constructor
      · intro h
        rw [e0]
        exact ⟨by rw [Nat.mul_add_div hb0, Nat.div_eq_of_lt h, Nat.add_zero], by rw [Nat.mul_add_mod, Nat.mod_eq_of_lt h]⟩
      · intro h
        have e3 : x / 2 ^ i = b * (2 * Q + 1) + (R * 2 + bit - b) := by rw [Nat.mul_add, Nat.mul_one, e0]; omega
        rw [e3]
        exact ⟨by rw [Nat.mul_add_div hb0, Nat.div_eq_of_lt (by omega), Nat.add_zero], by rw [Nat.mul_add_mod, Nat.mod_eq_of_lt (by omega)]⟩
    have e1 : ((i + 1 : Nat) : Int) - 1 = (i : Int) := by omega
    have hw : i / 64 < 4 := by omega
    have hset : List.set (toNum (Q * 2 ^ (i + 1))) (i / 64) (orI .u64 (List.getD (toNum (Q * 2 ^ (i + 1))) (i / 64) 0) (shlI .u64 1 ((i % 64 : Nat) : Int))) = toNum ((2 * Q + 1) * 2 ^ i) := by
      rw [or_set (toNum_good _) (i / 64) (i % 64) hw (by omega), vN_toNum_lt (Nat.lt_of_le_of_lt hqx hx), show 64 * (i / 64) + i % 64 = i by omega]
      · congr 1; rw [Nat.add_mul, Nat.one_mul, Nat.pow_succ, Nat.mul_comm 2 Q, Nat.mul_assoc, Nat.mul_comm 2]
      · rw [vN_toNum_lt (Nat.lt_of_le_of_lt hqx hx), show 64 * (i / 64) + i % 64 = i by omega, Nat.pow_succ, ← Nat.mul_assoc, Nat.mul_right_comm, Nat.mul_div_cancel _ hp, Nat.mul_mod_left]
    refine Ev2.succ (G := fun k n => Option.bind (whole_Up.f k (toNum R) 1) (fun r3 =>
        bif decide (2 ^ 255 ≤ R) then
          Option.bind (whole_Sub.f k (List.set r3 0 (orI .u64 (List.getD r3 0 0) (bit : Int))) (toNum b)) (fun r4 => whole_Quo.l0.f k (toNum x) (toNum b) z1 z2 n ((i : Int) - 1) (toNum ((2 * Q + 1) * 2 ^ i)) r4.1)
        else Option.bind (whole_Less.f k (List.set r3 0 (orI .u64 (List.getD r3 0 0) (bit : Int))) (toNum b)) (fun r5 => bif !r5 then
            Option.bind (whole_Sub.f k (List.set r3 0 (orI .u64 (List.getD r3 0 0) (bit : Int))) (toNum b)) (fun r6 => whole_Quo.l0.f k (toNum x) (toNum b) z1 z2 n ((i : Int) - 1) (toNum ((2 * Q + 1) * 2 ^ i)) r6.1)
          else whole_Quo.l0.f k (toNum x) (toNum b) z1 z2 n ((i : Int) - 1) (toNum (Q * 2 ^ (i + 1))) (List.set r3 0 (orI .u64 (List.getD r3 0 0) (bit : Int)))))) (fun k n => ?_) ?_
    · simp only [whole_Quo.l0.f, whole_Quo.l0.go, whole_Quo.l0.step, e1]
      rw [decide_eq_true (show (i : Int) ≥ 0 by omega), subI_one (by omega) (by omega), quo64 i (by omega), rem64, Int.toNat_natCast, decide_eq_true (show (0 : Int) ≤ ((i / 64 : Nat) : Int) by omega),
        decide_eq_true (show ((i / 64 : Nat) : Int) < 4 by omega), decide_eq_true hw, decide_eq_false (show ¬ ((i % 64 : Nat) : Int) < 0 by omega), top_word R (by omega), get_bit hx (by omega), hbit, hset]
      simp only [cond_true, cond_false]
    refine Ev2.bind (up_num R 1) ?_
    rw [Nat.pow_one, low_or R bit hbit1]
    by_cases hh : 2 ^ 255 ≤ R
    · rw [decide_eq_true hh]
      simp only [cond_true]
      have h := sub_ev (toNum_good (R * 2 + bit)) (toNum_good b)
      rw [vN_toNum, vN_toNum_lt hb] at h
      refine Ev2.bind h ?_
      obtain ⟨k1, k2⟩ := kq.2 (by omega)
      rw [k1, k2] at ih
      rw [show toNum ((R * 2 + bit) % 2 ^ 256 + 2 ^ 256 - b) = toNum (R * 2 + bit - b) from toNum_congr (by omega)]
      exact ih
    · rw [decide_eq_false hh]
      simp only [cond_false]
      refine Ev2.bind (less_num (by omega) hb) ?_
      by_cases hc : R * 2 + bit < b
      · rw [decide_eq_true hc]
        simp only [Bool.not_true, cond_false]
        obtain ⟨k1, k2⟩ := kq.1 hc
        rw [k1, k2] at ih
        rw [Nat.pow_succ, ← Nat.mul_assoc, Nat.mul_right_comm, Nat.mul_comm Q 2]
        exact ih
      · rw [decide_eq_false hc]
        simp only [Bool.not_false, cond_true]
        refine Ev2.bind (sub_num (by omega) hb) ?_
        obtain ⟨k1, k2⟩ := kq.2 (by omega)
        rw [k1, k2] at ih
        rw [subNum (by omega)]
        exact ih

theorem quo_ev {x b : Nat} (hx : x < 2 ^ 256) (hb : b < 2 ^ 256) : Ev (fun k => whole_Quo.f k (toNum x) (toNum b)) (toNum (x / b), toNum (if b = 0 then 0 else x % b)) := by
  unfold whole_Quo.f whole_Quo.tree
  refine Ev.bind (zero_ev hb) ?_
  by_cases h0 : b = 0
  · subst h0
    exact Ev.const fun k => by simp [zeroNum]
  · rw [decide_eq_false h0, if_neg h0]
    simp only [cond_false]
    obtain ⟨l, hl, el, kl⟩ := len_num hx
    refine Ev.bind el ?_
    have h := (quo_loop hb (by omega) hx (toNum 0) (toNum 0) l hl).ev
    rw [Nat.div_eq_of_lt kl.1, Nat.zero_div, Nat.zero_mul, Nat.zero_mod] at h
    rw [subI_one (by omega) (by omega)]
    exact Ev.bind h (Ev.const fun k => rfl)

end Go.Proofs.Ytjciljaojcekeaa.Sx
