
/- The reference's sums, bit by bit; WholeSums. -/
import Derived.Test.YtjciljaojcekeaaQ8
namespace Go.Proofs.Ytjciljaojcekeaa.Sx
open Go
set_option linter.unusedVariables false
set_option linter.unusedSimpArgs false
set_option maxRecDepth 100000

theorem or_bit (n s : Nat) (hs : s < 64) (h : n < 2 ^ s) : orI .u64 (n : Int) (shlI .u64 1 (s : Int)) = ((n + 2 ^ s : Nat) : Int) := by
  have hp : 2 ^ s < 2 ^ 64 := Nat.pow_lt_pow_right (by omega) hs
  have e0 : shlI .u64 1 (s : Int) = ((2 ^ s : Nat) : Int) := by
    unfold shlI
    simp only [Int.toNat_natCast]
    rw [show IntKind.u64.bits = 64 from rfl, Nat.min_eq_left (by omega), Int.one_mul, show ((2 : Int) ^ s) = ((2 ^ s : Nat) : Int) by simp]
    exact wrap_u64 (by omega) (by omega)
  rw [e0]
  unfold orI
  show IntKind.wrap .u64 (((BitVec.ofInt 64 (n : Int) ||| BitVec.ofInt 64 ((2 ^ s : Nat) : Int)).toNat : Nat) : Int) = _
  have hle : n + 2 ^ s < 2 ^ 64 := by
    have : 2 ^ s + 2 ^ s ≤ 2 ^ 64 := by
      have : 2 ^ (s + 1) ≤ 2 ^ 64 := Nat.pow_le_pow_right (by omega) (by omega)
      rw [Nat.pow_succ] at this; omega
    omega
  have e1 : (BitVec.ofInt 64 (n : Int) ||| BitVec.ofInt 64 ((2 ^ s : Nat) : Int)).toNat = n + 2 ^ s := by
    rw [BitVec.ofInt_natCast, BitVec.ofInt_natCast, BitVec.toNat_or, BitVec.toNat_ofNat, BitVec.toNat_ofNat, Nat.mod_eq_of_lt (by omega), Nat.mod_eq_of_lt hp]
    have := Nat.two_pow_add_eq_or_of_lt h 1
    rw [Nat.mul_one] at this
    rw [Nat.or_comm, ← this, Nat.add_comm]
  rw [e1]
  exact wrap_u64 (by omega) (by omega)

theorem quo64 (i : Nat) (hi : i < 256) : quoI .i64 (i : Int) 64 = ((i / 64 : Nat) : Int) := by
  unfold quoI
  rw [show ((i : Int).tdiv 64) = ((i / 64 : Nat) : Int) by rw [Int.tdiv_eq_ediv_of_nonneg (by omega)]; omega]
  exact wrap_i64 (by omega) (by omega)

theorem rem64 (i : Nat) : remI (i : Int) 64 = ((i % 64 : Nat) : Int) := by
  unfold remI
  rw [Int.tmod_eq_emod_of_nonneg (by omega)]; omega

/-- One bit more, above all that are set. -/
theorem set_at {a : List Int} (ha : goodT numT a) (k i : Nat) (hi : i < 256) (h : vN a < 2 ^ i) : trailheadref02_set.f k a (i : Int) = some (toNum (vN a + 2 ^ i)) := by
  obtain ⟨n0, n1, n2, n3, rfl, h0, h1, h2, h3⟩ := num4 ha
  unfold trailheadref02_set.f trailheadref02_set.tree
  have hs : i % 64 < 64 := by omega
  rw [quo64 i hi, rem64, wrap_u64 (n := ((i % 64 : Nat) : Int)) (by omega) (by omega), Int.toNat_natCast, decide_eq_true (show (0 : Int) ≤ ((i / 64 : Nat) : Int) by omega), decide_eq_true (show ((i / 64 : Nat) : Int) < 4 by omega),
    decide_eq_true (show i / 64 < 4 by omega), decide_eq_false (show ¬ ((i % 64 : Nat) : Int) < 0 by omega)]
  simp only [cond_true, cond_false]
  congr 1
  rw [vN4] at h ⊢
  have hi' : i = 64 * (i / 64) + i % 64 := by omega
  have hp : 2 ^ (i % 64) ≤ 2 ^ 63 := Nat.pow_le_pow_right (by omega) (by omega)
  have hpp := Nat.two_pow_pos (i % 64)
  have hw : i / 64 < 4 := by omega
  generalize i / 64 = w at *
  generalize i % 64 = s at *
  subst hi'
  match w, hw with
  | 0, _ =>
    have e : 2 ^ (64 * 0 + s) = 2 ^ s := by congr 1; omega
    rw [e] at h ⊢
    have hn : n0 < 2 ^ s := by omega
    show [orI .u64 (n0 : Int) (shlI .u64 1 (s : Int)), (n1 : Int), (n2 : Int), (n3 : Int)] = _
    rw [or_bit n0 s hs hn]
    generalize 2 ^ s = p at *
    refine toNum_of (good4 (by omega) h1 h2 h3) ?_
    rw [vN4]; omega
  | 1, _ =>
    have e : 2 ^ (64 * 1 + s) = 2 ^ 64 * 2 ^ s := by rw [← Nat.pow_add]
    rw [e] at h ⊢
    have hn : n1 < 2 ^ s := by generalize 2 ^ s = p at *; omega
    show [(n0 : Int), orI .u64 (n1 : Int) (shlI .u64 1 (s : Int)), (n2 : Int), (n3 : Int)] = _
    rw [or_bit n1 s hs hn]
    generalize 2 ^ s = p at *
    refine toNum_of (good4 h0 (by omega) h2 h3) ?_
    rw [vN4]; omega
  | 2, _ =>
    have e : 2 ^ (64 * 2 + s) = 2 ^ 128 * 2 ^ s := by rw [← Nat.pow_add]
    rw [e] at h ⊢
    have hn : n2 < 2 ^ s := by generalize 2 ^ s = p at *; omega
    show [(n0 : Int), (n1 : Int), orI .u64 (n2 : Int) (shlI .u64 1 (s : Int)), (n3 : Int)] = _
    rw [or_bit n2 s hs hn]
    generalize 2 ^ s = p at *
    refine toNum_of (good4 h0 h1 (by omega) h3) ?_
    rw [vN4]; omega
  | 3, _ =>
    have e : 2 ^ (64 * 3 + s) = 2 ^ 192 * 2 ^ s := by rw [← Nat.pow_add]
    rw [e] at h ⊢
    have hn : n3 < 2 ^ s := by generalize 2 ^ s = p at *; omega
    show [(n0 : Int), (n1 : Int), (n2 : Int), orI .u64 (n3 : Int) (shlI .u64 1 (s : Int))] = _
    rw [or_bit n3 s hs hn]
    generalize 2 ^ s = p at *
    refine toNum_of (good4 h0 h1 h2 (by omega)) ?_
    rw [vN4]; omega

theorem set_num {o i : Nat} (k : Nat) (hi : i < 256) (h : o < 2 ^ i) : trailheadref02_set.f k (toNum o) (i : Int) = some (toNum (o + 2 ^ i)) := by
  have hlt : 2 ^ i < 2 ^ 256 := Nat.pow_lt_pow_right (by omega) hi
  have e := vN_toNum_lt (x := o) (by omega)
  have := set_at (toNum_good o) k i hi (by rw [e]; exact h)
  rw [e] at this; exact this

/-- A bit, as a number that is 0 or 1. -/
theorem bit_cases (a : List Int) (i : Nat) : ∃ x : Nat, x ≤ 1 ∧ bitV a i = (x : Int) ∧ vN a % 2 ^ (i + 1) = vN a % 2 ^ i + 2 ^ i * x :=
  ⟨vN a / 2 ^ i % 2, by have := Nat.mod_lt (vN a / 2 ^ i) (show 2 > 0 by omega); omega, rfl, Nat.mod_pow_succ⟩

theorem refadd_loop {a b : List Int} (ha : goodT numT a) (hb : goodT numT b) (x5 : Bool) (z : List Int) : ∀ j i o c : Nat, j + i = 256 → o < 2 ^ i → c ≤ 1 → vN a % 2 ^ i + vN b % 2 ^ i = o + 2 ^ i * c →
    ∃ o' c' : Nat, Ev2 (fun k n => trailheadref02_Add.l0.f k x5 a b z n (c : Int) (i : Int) (toNum o)) ((c' : Int), (256, toNum o')) ∧ o' < 2 ^ 256 ∧ c' ≤ 1 ∧ vN a + vN b = o' + 2 ^ 256 * c'
  | 0, i, o, c, h, ho, hc, he => by
    have : i = 256 := by omega
    subst this
    refine ⟨o, c, Ev2.succ (G := fun k n => some ((c : Int), (256, toNum o))) (fun k n => rfl) (Ev2.const fun _ _ => rfl), ho, hc, ?_⟩
    rw [Nat.mod_eq_of_lt (vN_lt ha), Nat.mod_eq_of_lt (vN_lt hb)] at he; exact he
  | j + 1, i, o, c, h, ho, hc, he => by
    obtain ⟨x, hx, ex, ax⟩ := bit_cases a i
    obtain ⟨y, hy, ey, ay⟩ := bit_cases b i
    have ep : 2 ^ (i + 1) = 2 * 2 ^ i := by rw [Nat.pow_succ]; omega
    have n1 : addI .i64 (addI .i64 (x : Int) (y : Int)) (c : Int) = ((x + y + c : Nat) : Int) := by
      unfold addI
      rw [wrap_i64 (n := (x : Int) + (y : Int)) (by omega) (by omega), wrap_i64 (by omega) (by omega)]; omega
    have n2 : remI ((x + y + c : Nat) : Int) 2 = (((x + y + c) % 2 : Nat) : Int) := by
      unfold remI; rw [Int.tmod_eq_emod_of_nonneg (by omega)]; omega
    have n3 : quoI .i64 ((x + y + c : Nat) : Int) 2 = (((x + y + c) / 2 : Nat) : Int) := by
      unfold quoI
      rw [show (((x + y + c : Nat) : Int).tdiv 2) = (((x + y + c) / 2 : Nat) : Int) by rw [Int.tdiv_eq_ediv_of_nonneg (by omega)]; omega]
      exact wrap_i64 (by omega) (by omega)
    have hrec : ∀ o2 : Nat, o2 = o + 2 ^ i * ((x + y + c) % 2) → o2 < 2 ^ (i + 1) ∧ vN a % 2 ^ (i + 1) + vN b % 2 ^ (i + 1) = o2 + 2 ^ (i + 1) * ((x + y + c) / 2) := by
      intro o2 e2
      rw [ax, ay, ep, e2]
      generalize vN a % 2 ^ i = u at *
      generalize vN b % 2 ^ i = v at *
      generalize 2 ^ i = p at *
      match x, y, c, hx, hy, hc with
      | 0, 0, 0, _, _, _ => simp at *; omega
      | 0, 0, 1, _, _, _ => simp at *; omega
      | 0, 1, 0, _, _, _ => simp at *; omega
      | 0, 1, 1, _, _, _ => simp at *; omega
      | 1, 0, 0, _, _, _ => simp at *; omega
      | 1, 0, 1, _, _, _ => simp at *; omega
      | 1, 1, 0, _, _, _ => simp at *; omega
      | 1, 1, 1, _, _, _ => simp at *; omega
    have hi : i < 256 := by omega
    obtain ⟨hr1, hr2⟩ := hrec _ rfl
    obtain ⟨o', c', hev, h1, h2, h3⟩ := refadd_loop ha hb x5 z j (i + 1) (o + 2 ^ i * ((x + y + c) % 2)) ((x + y + c) / 2) (by omega) hr1 (by omega) hr2
    refine ⟨o', c', Ev2.succ (G := fun k n => trailheadref02_Add.l0.f k x5 a b z n (((x + y + c) / 2 : Nat) : Int) ((i + 1 : Nat) : Int) (toNum (o + 2 ^ i * ((x + y + c) % 2)))) (fun k n => ?_) hev, h1, h2, h3⟩
    simp only [trailheadref02_Add.l0.f, trailheadref02_Add.l0.go, trailheadref02_Add.l0.step]
    rw [decide_eq_true (show (i : Int) < 256 by omega), bit_at ha k i hi, bit_at hb k i hi, ex, ey]
    simp only [cond_true, Option.bind_some]
    rw [n1, n2, n3, addI_one (by omega) (by omega), show ((i : Int) + 1) = ((i + 1 : Nat) : Int) by omega]
    by_cases hz : (x + y + c) % 2 = 1
    · rw [hz, set_num k hi ho]
      simp only [Option.bind_some, Nat.mul_one]
      rfl
    · have hz0 : (x + y + c) % 2 = 0 := by omega
      rw [hz0]
      simp only [Nat.mul_zero, Nat.add_zero]
      rfl

theorem refadd_ev {a b : List Int} (ha : goodT numT a) (hb : goodT numT b) : Ev (fun k => trailheadref02_Add.f k a b) (toNum (vN a + vN b), decide (2 ^ 256 ≤ vN a + vN b)) := by
  obtain ⟨o, c, hev, h1, h2, h3⟩ := refadd_loop ha hb false [0, 0, 0, 0] 256 0 0 0 rfl (by simp) (by omega) (by simp [Nat.mod_one])
  unfold trailheadref02_Add.f trailheadref02_Add.tree
  refine Ev.bind hev.ev (Ev.const fun k => ?_)
  refine congrArg some (Prod.ext ?_ ?_)
  · exact toNum_congr (by rw [h3]; omega)
  · show ((c : Int) == 1) = _
    match c, h2 with
    | 0, _ => rw [decide_eq_false (by omega)]; rfl
    | 1, _ => rw [decide_eq_true (by omega)]; rfl

theorem refnot_loop {a : List Int} (ha : goodT numT a) (z : List Int) : ∀ j i o : Nat, j + i = 256 → o + vN a % 2 ^ i + 1 = 2 ^ i →
    ∃ o' : Nat, Ev2 (fun k n => trailheadref02_Not.l0.f k a z n (i : Int) (toNum o)) (256, toNum o') ∧ o' + vN a + 1 = 2 ^ 256
  | 0, i, o, h, he => by
    have : i = 256 := by omega
    subst this
    refine ⟨o, Ev2.succ (G := fun k n => some (256, toNum o)) (fun k n => rfl) (Ev2.const fun _ _ => rfl), ?_⟩
    rw [Nat.mod_eq_of_lt (vN_lt ha)] at he; exact he
  | j + 1, i, o, h, he => by
    obtain ⟨x, hx, ex, ax⟩ := bit_cases a i
    have ep : 2 ^ (i + 1) = 2 * 2 ^ i := by rw [Nat.pow_succ]; omega
    have hi : i < 256 := by omega
    have ho : o < 2 ^ i := by omega
    obtain ⟨o', hev, h1⟩ := refnot_loop ha z j (i + 1) (o + 2 ^ i * (1 - x)) (by omega) (by
      rw [ax, ep]
      generalize vN a % 2 ^ i = u at *
      generalize 2 ^ i = p at *
      match x, hx with
      | 0, _ => simp; omega
      | 1, _ => simp; omega)
    refine ⟨o', Ev2.succ (G := fun k n => trailheadref02_Not.l0.f k a z n ((i + 1 : Nat) : Int) (toNum (o + 2 ^ i * (1 - x)))) (fun k n => ?_) hev, h1⟩
    simp only [trailheadref02_Not.l0.f, trailheadref02_Not.l0.go, trailheadref02_Not.l0.step]
    rw [decide_eq_true (show (i : Int) < 256 by omega), bit_at ha k i hi, ex]
    simp only [cond_true, Option.bind_some]
    rw [addI_one (by omega) (by omega), show ((i : Int) + 1) = ((i + 1 : Nat) : Int) by omega]
    match x, hx with
    | 0, _ =>
      rw [set_num k hi ho]
      simp only [Option.bind_some, Nat.sub_zero, Nat.mul_one]
      rfl
    | 1, _ => simp only [Nat.sub_self, Nat.mul_zero, Nat.add_zero]; rfl

theorem refnot_ev {a : List Int} (ha : goodT numT a) : Ev (fun k => trailheadref02_Not.f k a) (toNum (2 ^ 256 - 1 - vN a)) := by
  obtain ⟨o, hev, h1⟩ := refnot_loop ha [0, 0, 0, 0] 256 0 0 rfl (by simp [Nat.mod_one])
  unfold trailheadref02_Not.f trailheadref02_Not.tree
  refine Ev.bind hev.ev (Ev.const fun k => ?_)
  congr 1
  exact toNum_congr (by omega)

theorem refsub_ev {a b : List Int} (ha : goodT numT a) (hb : goodT numT b) : Ev (fun k => trailheadref02_Sub.f k a b) (toNum (vN a + 2 ^ 256 - vN b), decide (vN a < vN b)) := by
  unfold trailheadref02_Sub.f trailheadref02_Sub.tree
  refine Ev.bind (refnot_ev hb) ?_
  refine Ev.bind (refadd_ev ha (toNum_good _)) ?_
  refine Ev.bind (refadd_ev (b := [1, 0, 0, 0]) (toNum_good _) (by rw [← toNum_one]; exact toNum_good 1)) ?_
  refine Ev.bind (refless_ev ha hb) (Ev.const fun k => ?_)
  refine congrArg some (Prod.ext ?_ rfl)
  have la := vN_lt ha
  have lb := vN_lt hb
  refine toNum_congr ?_
  simp only
  rw [← toNum_one, vN_toNum, vN_toNum, vN_toNum]
  omega

theorem sum3_ev {a b c : List Int} (ha : goodT numT a) (hb : goodT numT b) (hc : goodT numT c) : Ev (fun k => whole_Sum.f k [a, b, c]) (toNum (vN a + vN b + vN c), decide (2 ^ 256 ≤ vN a + vN b + vN c)) := by
  have la := vN_lt ha
  have lb := vN_lt hb
  have lc := vN_lt hc
  have z : goodT numT [0, 0, 0, 0] := by rw [← toNum_zero]; exact toNum_good 0
  have e0 : vN [0, 0, 0, 0] = 0 := rfl
  have run : ∀ m, whole_Sum.f (m + 5) [a, b, c] = Option.bind (whole_Add.f (m + 5) [0, 0, 0, 0] a) (fun r1 => Option.bind (whole_Add.f (m + 5) r1.1 b) (fun r2 => Option.bind (whole_Add.f (m + 5) r2.1 c) (fun r3 =>
      some (r3.1, bif (bif r1.2 then true else r2.2) then true else r3.2)))) := by
    intro m
    have key : ∀ m, whole_Sum.l0.f (m + 5) false 3 [a, b, c] [0, 0, 0, 0] (m + 5) false 0 [0, 0, 0, 0] = Option.bind (whole_Add.f (m + 5) [0, 0, 0, 0] a) (fun r1 => Option.bind (whole_Add.f (m + 5) r1.1 b) (fun r2 =>
        bif r1.2 then Option.bind (whole_Add.f (m + 5) r2.1 c) (fun r3 => some (true, (3, r3.1))) else Option.bind (whole_Add.f (m + 5) r2.1 c) (fun r3 => bif r2.2 then some (true, (3, r3.1)) else some (r3.2, (3, r3.1))))) := fun m => by kernel_rfl
    unfold whole_Sum.f whole_Sum.tree
    show Option.bind (whole_Sum.l0.f (m + 5) false 3 [a, b, c] [0, 0, 0, 0] (m + 5) false 0 [0, 0, 0, 0]) _ = _
    rw [key]
    simp only [Option.bind_assoc]
    congr 1; funext r1; congr 1; funext r2
    cases r1.2 <;> cases r2.2 <;> simp only [cond_true, cond_false, Option.bind_assoc, Option.bind_some]
  have h1 := add_ev z ha
  have h2 := add_ev (toNum_good (vN [0, 0, 0, 0] + vN a)) hb
  have h3 := add_ev (toNum_good (vN (toNum (vN [0, 0, 0, 0] + vN a)) + vN b)) hc
  obtain ⟨k0, h⟩ := Ev.bind h1 (Ev.bind h2 (Ev.bind h3 (Ev.const (F := fun _ => some _) fun k => rfl)) (G := fun k r2 => Option.bind (whole_Add.f k r2.1 c) (fun r3 => some (r3.1, bif (bif decide (2 ^ 256 ≤ vN [0, 0, 0, 0] + vN a) then true else r2.2) then true else r3.2))))
    (G := fun k r1 => Option.bind (whole_Add.f k r1.1 b) (fun r2 => Option.bind (whole_Add.f k r2.1 c) (fun r3 => some (r3.1, bif (bif r1.2 then true else r2.2) then true else r3.2))))
  refine ⟨k0 + 5, fun k hk => ?_⟩
  obtain ⟨m, rfl⟩ : ∃ m, k = m + 5 := ⟨k - 5, by omega⟩
  refine (run m).trans ((h (m + 5) (by omega)).trans ?_)
  refine congrArg some (Prod.ext ?_ ?_)
  · refine toNum_congr ?_
    simp only [vN_toNum, e0]; omega
  · simp only [vN_toNum, e0]
    rw [decide_eq_false (show ¬ 2 ^ 256 ≤ 0 + vN a by omega)]
    simp only [cond_false]
    by_cases h4 : 2 ^ 256 ≤ (0 + vN a) % 2 ^ 256 + vN b
    · rw [decide_eq_true h4, decide_eq_true (show 2 ^ 256 ≤ vN a + vN b + vN c by omega)]; rfl
    · rw [decide_eq_false h4]
      simp only [cond_false]
      exact decide_eq_decide.2 (by omega)

end Go.Proofs.Ytjciljaojcekeaa.Sx
