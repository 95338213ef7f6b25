/- Whole numbers and short targets: what was proved for seat r1, turned to this seat. -/
import Derived.Test.YtnnajeoeeefjaaaDoorP1
import Derived.Test.YtnnajeoeeefjaaaDoorWC
namespace Go.Proofs.YtnnajeoeeefjaaaDoor.Sy.O
open Go Go.Proofs Go.Proofs.YtnnajeoeeefjaaaDoor.Sy
set_option linter.unusedVariables false
set_option linter.unusedSimpArgs false
set_option maxRecDepth 100000

def Ev {α : Type} (F : Nat → Option α) (v : α) : Prop := ∃ k0, ∀ k, k0 ≤ k → F k = some v
def Ev2 {α : Type} (F : Nat → Nat → Option α) (v : α) : Prop := ∃ k0, ∀ k n, k0 ≤ k → k0 ≤ n → F k n = some v

theorem Ev.of {α : Type} {F : Nat → Option α} {v : α} (k0 : Nat) (h : ∀ m, F (m + k0) = some v) : Ev F v := ⟨k0, fun k hk => by
  obtain ⟨m, rfl⟩ : ∃ m, k = m + k0 := ⟨k - k0, by omega⟩
  exact h m⟩

theorem Ev.const {α : Type} {F : Nat → Option α} {v : α} (h : ∀ k, F k = some v) : Ev F v := ⟨0, fun k _ => h k⟩

theorem Ev.bind {α β : Type} {F : Nat → Option α} {v : α} {G : Nat → α → Option β} {w : β} (h : Ev F v) (g : Ev (fun k => G k v) w) : Ev (fun k => Option.bind (F k) (G k)) w := by
  obtain ⟨k0, h⟩ := h; obtain ⟨k1, g⟩ := g
  exact ⟨max k0 k1, fun k hk => by
    show Option.bind (F k) (G k) = some w
    rw [h k (by omega)]; exact g k (by omega)⟩

theorem Ev2.ev {α : Type} {F : Nat → Nat → Option α} {v : α} (h : Ev2 F v) : Ev (fun k => F k k) v := by
  obtain ⟨k0, h⟩ := h; exact ⟨k0, fun k hk => h k k hk hk⟩

/-- One round more: what a round comes to, if what follows comes to 'w'. -/
theorem Ev2.succ {α : Type} {F : Nat → Nat → Option α} {G : Nat → Nat → Option α} {v : α} (e : ∀ k n, F k (n + 1) = G k n) (h : Ev2 G v) : Ev2 F v := by
  obtain ⟨k0, h⟩ := h
  exact ⟨k0 + 1, fun k n hk hn => by
    obtain ⟨m, rfl⟩ : ∃ m, n = m + 1 := ⟨n - 1, by omega⟩
    rw [e]; exact h k m (by omega) (by omega)⟩

theorem Ev2.const {α : Type} {F : Nat → Nat → Option α} {v : α} (h : ∀ k n, F k n = some v) : Ev2 F v := ⟨0, fun k n _ _ => h k n⟩

theorem Ev2.bind {α β : Type} {F : Nat → Option α} {v : α} {G : Nat → Nat → α → Option β} {w : β} (h : Ev F v) (g : Ev2 (fun k n => G k n v) w) : Ev2 (fun k n => Option.bind (F k) (G k n)) w := by
  obtain ⟨k0, h⟩ := h; obtain ⟨k1, g⟩ := g
  exact ⟨max k0 k1, fun k n hk hn => by
    show Option.bind (F k) (G k n) = some w
    rw [h k (by omega)]; exact g k n (by omega) (by omega)⟩

theorem Ev2.of {α : Type} {F : Nat → Option α} {v : α} (h : Ev F v) : Ev2 (fun k _ => F k) v := by
  obtain ⟨k0, h⟩ := h; exact ⟨k0, fun k n hk _ => h k hk⟩

def vN : List Int → Nat
  | [] => 0
  | x :: r => x.toNat + 2 ^ 64 * vN r

abbrev numT : Ty := .arr .u64 4

theorem wf_u64 {y : Int} : (Lit.int .u64 y).wf = true ↔ 0 ≤ y ∧ y < 2 ^ 64 := by
  simp only [Lit.wf, Bool.and_eq_true, decide_eq_true_eq]
  show (0 : Int) ≤ y ∧ y ≤ 18446744073709551615 ↔ _
  omega

/-- A good number is four words. -/
theorem num4 {a : List Int} (h : goodT numT a) : ∃ n0 n1 n2 n3 : Nat, a = [(n0 : Int), (n1 : Int), (n2 : Int), (n3 : Int)] ∧ n0 < 2 ^ 64 ∧ n1 < 2 ^ 64 ∧ n2 < 2 ^ 64 ∧ n3 < 2 ^ 64 := by
  obtain ⟨hl, hg⟩ := h
  match a, hl with
  | [a0, a1, a2, a3], _ =>
    have g0 := wf_u64.1 (hg a0 (by simp))
    have g1 := wf_u64.1 (hg a1 (by simp))
    have g2 := wf_u64.1 (hg a2 (by simp))
    have g3 := wf_u64.1 (hg a3 (by simp))
    exact ⟨a0.toNat, a1.toNat, a2.toNat, a3.toNat, by simp [Int.toNat_of_nonneg g0.1, Int.toNat_of_nonneg g1.1, Int.toNat_of_nonneg g2.1, Int.toNat_of_nonneg g3.1], by omega, by omega, by omega, by omega⟩

theorem good4 {n0 n1 n2 n3 : Nat} (h0 : n0 < 2 ^ 64) (h1 : n1 < 2 ^ 64) (h2 : n2 < 2 ^ 64) (h3 : n3 < 2 ^ 64) : goodT numT [(n0 : Int), (n1 : Int), (n2 : Int), (n3 : Int)] := by
  refine ⟨rfl, fun y hy => ?_⟩
  simp only [List.mem_cons, List.not_mem_nil, or_false] at hy
  rcases hy with rfl | rfl | rfl | rfl <;> exact wf_u64.2 (by omega)

theorem vN4 (n0 n1 n2 n3 : Nat) : vN [(n0 : Int), (n1 : Int), (n2 : Int), (n3 : Int)] = n0 + 2 ^ 64 * (n1 + 2 ^ 64 * (n2 + 2 ^ 64 * n3)) := by
  simp [vN]

theorem vN_lt {a : List Int} (h : goodT numT a) : vN a < 2 ^ 256 := by
  obtain ⟨n0, n1, n2, n3, rfl, h0, h1, h2, h3⟩ := num4 h
  rw [vN4]; omega

theorem vN_inj {a b : List Int} (ha : goodT numT a) (hb : goodT numT b) (h : vN a = vN b) : a = b := by
  obtain ⟨n0, n1, n2, n3, rfl, h0, h1, h2, h3⟩ := num4 ha
  obtain ⟨m0, m1, m2, m3, rfl, g0, g1, g2, g3⟩ := num4 hb
  rw [vN4, vN4] at h
  have e0 : n0 = m0 := by omega
  have e1 : n1 = m1 := by omega
  have e2 : n2 = m2 := by omega
  have e3 : n3 = m3 := by omega
  rw [e0, e1, e2, e3]

theorem cmp_at (k m : Nat) (n0 n1 n2 n3 m0 m1 m2 m3 : Nat) : whole_Compare.l0.f k [(n0 : Int), (n1 : Int), (n2 : Int), (n3 : Int)] [(m0 : Int), (m1 : Int), (m2 : Int), (m3 : Int)] (m + 5) 3 =
    some (if n3 < m3 then .inr (-1) else if m3 < n3 then .inr 1 else if n2 < m2 then .inr (-1) else if m2 < n2 then .inr 1 else if n1 < m1 then .inr (-1) else if m1 < n1 then .inr 1 else if n0 < m0 then .inr (-1) else if m0 < n0 then .inr 1 else .inl (-1)) := by
  have s3 : subI .i64 3 1 = 2 := by decide
  have s2 : subI .i64 2 1 = 1 := by decide
  have s1 : subI .i64 1 1 = 0 := by decide
  have s0 : subI .i64 0 1 = -1 := by decide
  simp [whole_Compare.l0.f, whole_Compare.l0.go, whole_Compare.l0.step, s3, s2, s1, s0, Bool.cond_decide]
  by_cases h : n3 < m3
  · simp [h]
  by_cases h' : m3 < n3
  · simp [h, h']
  by_cases h2 : n2 < m2
  · simp [h, h', h2]
  by_cases h2' : m2 < n2
  · simp [h, h', h2, h2']
  by_cases h1 : n1 < m1
  · simp [h, h', h2, h2', h1]
  by_cases h1' : m1 < n1
  · simp [h, h', h2, h2', h1, h1']
  by_cases h0 : n0 < m0
  · simp [h, h', h2, h2', h1, h1', h0]
  by_cases h0' : m0 < n0
  · simp [h, h', h2, h2', h1, h1', h0, h0']
  simp [h, h', h2, h2', h1, h1', h0, h0']

def cmpV (a b : List Int) : Int := if vN a < vN b then -1 else if vN b < vN a then 1 else 0

theorem cmp_ev {a b : List Int} (ha : goodT numT a) (hb : goodT numT b) : Ev (fun k => whole_Compare.f k a b) (cmpV a b) := by
  obtain ⟨n0, n1, n2, n3, rfl, h0, h1, h2, h3⟩ := num4 ha
  obtain ⟨m0, m1, m2, m3, rfl, g0, g1, g2, g3⟩ := num4 hb
  refine Ev.of 5 fun m => ?_
  unfold whole_Compare.f whole_Compare.tree
  rw [cmp_at, cmpV, vN4, vN4]
  by_cases e3 : n3 < m3
  · rw [if_pos e3, if_pos (by omega)]; rfl
  rw [if_neg e3]
  by_cases e3' : m3 < n3
  · rw [if_pos e3', if_neg (by omega), if_pos (by omega)]; rfl
  rw [if_neg e3']
  by_cases e2 : n2 < m2
  · rw [if_pos e2, if_pos (by omega)]; rfl
  rw [if_neg e2]
  by_cases e2' : m2 < n2
  · rw [if_pos e2', if_neg (by omega), if_pos (by omega)]; rfl
  rw [if_neg e2']
  by_cases e1 : n1 < m1
  · rw [if_pos e1, if_pos (by omega)]; rfl
  rw [if_neg e1]
  by_cases e1' : m1 < n1
  · rw [if_pos e1', if_neg (by omega), if_pos (by omega)]; rfl
  rw [if_neg e1']
  by_cases e0 : n0 < m0
  · rw [if_pos e0, if_pos (by omega)]; rfl
  rw [if_neg e0]
  by_cases e0' : m0 < n0
  · rw [if_pos e0', if_neg (by omega), if_pos (by omega)]; rfl
  rw [if_neg e0', if_neg (by omega), if_neg (by omega)]; rfl

theorem less_ev {a b : List Int} (ha : goodT numT a) (hb : goodT numT b) : Ev (fun k => whole_Less.f k a b) (decide (vN a < vN b)) := by
  refine Ev.bind (cmp_ev ha hb) (Ev.const fun k => ?_)
  unfold cmpV
  by_cases h : vN a < vN b
  · simp [h]
  · by_cases h' : vN b < vN a <;> simp [h, h']

theorem wrap_u64 {n : Int} (h : 0 ≤ n) (h' : n < 2 ^ 64) : IntKind.wrap .u64 n = n := by
  unfold IntKind.wrap
  simp only [IntKind.signed, IntKind.bits, Bool.false_and, Bool.false_eq_true, if_false]
  omega

theorem wrap_i64 {n : Int} (h : -2 ^ 63 ≤ n) (h' : n < 2 ^ 63) : IntKind.wrap .i64 n = n := by
  unfold IntKind.wrap
  by_cases hs : n % 18446744073709551616 ≥ 9223372036854775808
  · have : (IntKind.i64.signed && decide (n % (2 ^ IntKind.i64.bits : Int) ≥ (2 ^ (IntKind.i64.bits - 1) : Int))) = true := by
      simp only [IntKind.signed, IntKind.bits, Bool.true_and]; exact decide_eq_true hs
    simp only [this, if_true]
    simp only [IntKind.bits]; omega
  · have : (IntKind.i64.signed && decide (n % (2 ^ IntKind.i64.bits : Int) ≥ (2 ^ (IntKind.i64.bits - 1) : Int))) = false := by
      simp only [IntKind.signed, IntKind.bits, Bool.true_and]; exact decide_eq_false hs
    simp only [this, Bool.false_eq_true, if_false]
    simp only [IntKind.bits]; omega

def bitV (a : List Int) (i : Nat) : Int := ((vN a / 2 ^ i % 2 : Nat) : Int)

theorem word_bit (n r s : Nat) (h : n < 2 ^ 64) (hs : s < 64) : (n + 2 ^ 64 * r) / 2 ^ s % 2 = n / 2 ^ s % 2 := by
  have e : 2 ^ 64 * r = 2 ^ s * (2 * (2 ^ (63 - s) * r)) := by
    rw [← Nat.mul_assoc 2, ← Nat.mul_assoc, ← Nat.pow_succ', ← Nat.pow_add]
    congr 2; omega
  rw [e, Nat.add_mul_div_left _ _ (Nat.two_pow_pos s), Nat.add_mul_mod_self_left]

theorem skip_word (n r q : Nat) (h : n < 2 ^ 64) : (n + 2 ^ 64 * r) / 2 ^ (64 + q) = r / 2 ^ q := by
  rw [Nat.pow_add, ← Nat.div_div_eq_div_mul]
  congr 1
  omega

theorem bitV4 (n0 n1 n2 n3 : Nat) (h0 : n0 < 2 ^ 64) (h1 : n1 < 2 ^ 64) (h2 : n2 < 2 ^ 64) (h3 : n3 < 2 ^ 64) (w s : Nat) (hw : w < 4) (hs : s < 64) :
    (n0 + 2 ^ 64 * (n1 + 2 ^ 64 * (n2 + 2 ^ 64 * n3))) / 2 ^ (64 * w + s) % 2 = ([n0, n1, n2, n3].getD w 0) / 2 ^ s % 2 := by
  match w, hw with
  | 0, _ => simpa using word_bit n0 _ s h0 hs
  | 1, _ => rw [show 64 * 1 + s = 64 + s by omega, skip_word _ _ _ h0]; simpa using word_bit n1 _ s h1 hs
  | 2, _ => rw [show 64 * 2 + s = 64 + (64 + s) by omega, skip_word _ _ _ h0, skip_word _ _ _ h1]; simpa using word_bit n2 _ s h2 hs
  | 3, _ => rw [show 64 * 3 + s = 64 + (64 + (64 + s)) by omega, skip_word _ _ _ h0, skip_word _ _ _ h1, skip_word _ _ _ h2]; simp

theorem shr_u64 (n s : Nat) (hs : s < 64) : shrI .u64 (n : Int) (s : Int) = ((n / 2 ^ s : Nat) : Int) := by
  unfold shrI
  simp only [IntKind.bits, Int.toNat_natCast]
  rw [Nat.min_eq_left (by omega)]
  rw [show ((2 : Int) ^ s) = ((2 ^ s : Nat) : Int) by simp, ← Int.ofNat_eq_natCast, ← Int.ofNat_eq_natCast, Int.ofNat_fdiv]
  rfl

theorem bit_at {a : List Int} (ha : goodT numT a) (k i : Nat) (hi : i < 256) : trailheadref02_Bit.f k a (i : Int) = some (bitV a i) := by
  obtain ⟨n0, n1, n2, n3, rfl, h0, h1, h2, h3⟩ := num4 ha
  have hq : quoI .i64 (i : Int) 64 = ((i / 64 : Nat) : Int) := by
    unfold quoI
    rw [show ((i : Int).tdiv 64) = ((i / 64 : Nat) : Int) by rw [Int.tdiv_eq_ediv_of_nonneg (by omega)]; omega]
    exact wrap_i64 (by omega) (by omega)
  have hr : remI (i : Int) 64 = ((i % 64 : Nat) : Int) := by
    unfold remI
    rw [Int.tmod_eq_emod_of_nonneg (by omega)]; omega
  unfold trailheadref02_Bit.f trailheadref02_Bit.tree
  rw [hq, hr, wrap_u64 (n := ((i % 64 : Nat) : Int)) (by omega) (by omega), Int.toNat_natCast]
  have d1 : decide ((i : Int) < 0) = false := decide_eq_false (by omega)
  have d2 : decide ((i : Int) > 255) = false := decide_eq_false (by omega)
  have d3 : decide ((0 : Int) ≤ ((i / 64 : Nat) : Int)) = true := decide_eq_true (by omega)
  have d4 : decide (((i / 64 : Nat) : Int) < 4) = true := decide_eq_true (by omega)
  have d5 : decide (i / 64 < 4) = true := decide_eq_true (by omega)
  have d6 : decide (((i % 64 : Nat) : Int) < 0) = false := decide_eq_false (by omega)
  rw [d1, d2, d3, d4, d5, d6]
  simp only [cond_false, cond_true]
  congr 1
  have hw : i / 64 < 4 := by omega
  have hs : i % 64 < 64 := by omega
  have e : List.getD [(n0 : Int), (n1 : Int), (n2 : Int), (n3 : Int)] (i / 64) 0 = (([n0, n1, n2, n3].getD (i / 64) 0 : Nat) : Int) := by
    generalize i / 64 = w at hw
    match w, hw with
    | 0, _ => rfl
    | 1, _ => rfl
    | 2, _ => rfl
    | 3, _ => rfl
  rw [e, shr_u64 _ _ hs]
  have e2 : ∀ y : Nat, remI (y : Int) 2 = ((y % 2 : Nat) : Int) := fun y => by
    unfold remI
    rw [Int.tmod_eq_emod_of_nonneg (by omega)]; omega
  have e3 : ∀ y : Nat, IntKind.wrap .i64 ((y % 2 : Nat) : Int) = ((y % 2 : Nat) : Int) := fun y => wrap_i64 (by omega) (by omega)
  rw [e2, e3]
  unfold bitV
  rw [vN4, ← bitV4 n0 n1 n2 n3 h0 h1 h2 h3 _ _ hw hs, show 64 * (i / 64) + i % 64 = i by omega]

def lessR (a b : List Int) : Nat → Int ⊕ Bool
  | 0 => .inl (-1)
  | i + 1 => if bitV a i = bitV b i then lessR a b i else .inr (decide (bitV a i < bitV b i))

theorem subI_one {i : Int} (h : -2 ^ 62 < i) (h' : i < 2 ^ 62) : subI .i64 i 1 = i - 1 := wrap_i64 (by omega) (by omega)
theorem addI_one {i : Int} (h : -2 ^ 62 < i) (h' : i < 2 ^ 62) : addI .i64 i 1 = i + 1 := wrap_i64 (by omega) (by omega)

theorem refless_loop {a b : List Int} (ha : goodT numT a) (hb : goodT numT b) : ∀ i : Nat, i ≤ 256 → Ev2 (fun k n => trailheadref02_Less.l0.f k a b n ((i : Int) - 1)) (lessR a b i)
  | 0, _ => Ev2.succ (G := fun k n => some (.inl (-1))) (fun k n => rfl) (Ev2.const fun _ _ => rfl)
  | i + 1, hi => by
    have ih := refless_loop ha hb i (by omega)
    refine Ev2.succ (G := fun k n => if bitV a i = bitV b i then trailheadref02_Less.l0.f k a b n ((i : Int) - 1) else some (.inr (decide (bitV a i < bitV b i)))) (fun k n => ?_) ?_
    · have e : (((i + 1 : Nat) : Int) - 1) = (i : Int) := by omega
      rw [e]
      simp only [trailheadref02_Less.l0.f, trailheadref02_Less.l0.go, trailheadref02_Less.l0.step]
      rw [bit_at ha k i (by omega), bit_at hb k i (by omega), decide_eq_true (by omega), subI_one (by omega) (by omega)]
      simp only [cond_true, Option.bind_some]
      by_cases h : bitV a i = bitV b i
      · simp [h]
      · rw [if_neg h, bne_iff_ne.2 h]; rfl
    · unfold lessR
      by_cases h : bitV a i = bitV b i
      · simp only [h, if_true]; exact ih
      · simp only [h, if_false]; exact Ev2.const fun _ _ => rfl

theorem lessR_eq (a b : List Int) : ∀ i : Nat, sel (lessR a b i) (fun _ => false) (fun q => q) = decide (vN a % 2 ^ i < vN b % 2 ^ i)
  | 0 => by simp [lessR, sel, Nat.mod_one]
  | i + 1 => by
    have ih := lessR_eq a b i
    have ea := Nat.mod_pow_succ (b := 2) (k := i) (x := vN a)
    have eb := Nat.mod_pow_succ (b := 2) (k := i) (x := vN b)
    have la := Nat.mod_lt (vN a) (Nat.two_pow_pos i)
    have lb := Nat.mod_lt (vN b) (Nat.two_pow_pos i)
    unfold lessR
    by_cases h : bitV a i = bitV b i
    · rw [if_pos h, ih, ea, eb]
      unfold bitV at h
      have h := Int.ofNat.inj h
      rw [h]
      congr 1
      simp
    · rw [if_neg h]
      simp only [sel]
      unfold bitV at h ⊢
      rw [ea, eb]
      have h1 : vN a / 2 ^ i % 2 < 2 := Nat.mod_lt _ (by omega)
      have h2 : vN b / 2 ^ i % 2 < 2 := Nat.mod_lt _ (by omega)
      generalize vN a / 2 ^ i % 2 = x at *
      generalize vN b / 2 ^ i % 2 = y at *
      generalize vN a % 2 ^ i = u at *
      generalize vN b % 2 ^ i = v at *
      generalize 2 ^ i = w at *
      match x, y, h1, h2 with
      | 0, 0, _, _ => exact absurd rfl h
      | 1, 1, _, _ => exact absurd rfl h
      | 0, 1, _, _ => simp; omega
      | 1, 0, _, _ => simp; omega

theorem refless_ev {a b : List Int} (ha : goodT numT a) (hb : goodT numT b) : Ev (fun k => trailheadref02_Less.f k a b) (decide (vN a < vN b)) := by
  have h := (refless_loop ha hb 256 (Nat.le_refl _)).ev
  unfold trailheadref02_Less.f trailheadref02_Less.tree
  refine Ev.bind h (Ev.const fun k => ?_)
  have e := lessR_eq a b 256
  rw [Nat.mod_eq_of_lt (vN_lt ha), Nat.mod_eq_of_lt (vN_lt hb)] at e
  rw [← e]
  cases lessR a b 256 <;> rfl

def toNum (x : Nat) : List Int := [((x % 2 ^ 64 : Nat) : Int), ((x / 2 ^ 64 % 2 ^ 64 : Nat) : Int), ((x / 2 ^ 128 % 2 ^ 64 : Nat) : Int), ((x / 2 ^ 192 % 2 ^ 64 : Nat) : Int)]

theorem toNum_good (x : Nat) : goodT numT (toNum x) := good4 (Nat.mod_lt _ (by omega)) (Nat.mod_lt _ (by omega)) (Nat.mod_lt _ (by omega)) (Nat.mod_lt _ (by omega))

theorem vN_toNum (x : Nat) : vN (toNum x) = x % 2 ^ 256 := by
  unfold toNum; rw [vN4]; omega

theorem vN_toNum_lt {x : Nat} (h : x < 2 ^ 256) : vN (toNum x) = x := by rw [vN_toNum, Nat.mod_eq_of_lt h]

theorem toNum_vN {a : List Int} (ha : goodT numT a) : toNum (vN a) = a := vN_inj (toNum_good _) ha (by rw [vN_toNum, Nat.mod_eq_of_lt (vN_lt ha)])

theorem toNum_of {a : List Int} (ha : goodT numT a) {x : Nat} (h : vN a = x % 2 ^ 256) : a = toNum x := vN_inj ha (toNum_good _) (by rw [vN_toNum, h])

theorem toNum_congr {x y : Nat} (h : x % 2 ^ 256 = y % 2 ^ 256) : toNum x = toNum y := vN_inj (toNum_good _) (toNum_good _) (by rw [vN_toNum, vN_toNum, h])

theorem toNum_zero : toNum 0 = [0, 0, 0, 0] := rfl

theorem quo64 (i : Nat) (hi : i < 256) : quoI .i64 (i : Int) 64 = ((i / 64 : Nat) : Int) := by
  unfold quoI
  rw [show ((i : Int).tdiv 64) = ((i / 64 : Nat) : Int) by rw [Int.tdiv_eq_ediv_of_nonneg (by omega)]; omega]
  exact wrap_i64 (by omega) (by omega)

theorem rem64 (i : Nat) : remI (i : Int) 64 = ((i % 64 : Nat) : Int) := by
  unfold remI
  rw [Int.tmod_eq_emod_of_nonneg (by omega)]; omega

theorem shl_u64 (n s : Nat) (hs : s ≤ 64) : shlI .u64 (n : Int) (s : Int) = ((n * 2 ^ s % 2 ^ 64 : Nat) : Int) := by
  unfold shlI
  simp only [Int.toNat_natCast]
  rw [show IntKind.u64.bits = 64 from rfl, Nat.min_eq_left hs, show ((2 : Int) ^ s) = ((2 ^ s : Nat) : Int) by simp, ← Int.natCast_mul]
  unfold IntKind.wrap
  simp only [IntKind.signed, IntKind.bits, Bool.false_and, Bool.false_eq_true, if_false]
  rfl

theorem shr_u64' (n s : Nat) (hs : s ≤ 64) : shrI .u64 (n : Int) (s : Int) = ((n / 2 ^ s : Nat) : Int) := by
  unfold shrI
  simp only [IntKind.bits, Int.toNat_natCast]
  rw [Nat.min_eq_left hs]
  rw [show ((2 : Int) ^ s) = ((2 ^ s : Nat) : Int) by simp, ← Int.ofNat_eq_natCast, ← Int.ofNat_eq_natCast, Int.ofNat_fdiv]
  rfl

theorem or_u64 (s u y : Nat) (hy : y < 2 ^ s) (h : 2 ^ s * u + y < 2 ^ 64) : orI .u64 ((2 ^ s * u : Nat) : Int) (y : Int) = ((2 ^ s * u + y : Nat) : Int) := by
  unfold orI
  show IntKind.wrap .u64 (((BitVec.ofInt 64 ((2 ^ s * u : Nat) : Int) ||| BitVec.ofInt 64 (y : Int)).toNat : Nat) : Int) = _
  have e1 : (BitVec.ofInt 64 ((2 ^ s * u : Nat) : Int) ||| BitVec.ofInt 64 (y : Int)).toNat = 2 ^ s * u + y := by
    rw [BitVec.ofInt_natCast, BitVec.ofInt_natCast, BitVec.toNat_or, BitVec.toNat_ofNat, BitVec.toNat_ofNat, Nat.mod_eq_of_lt (by omega), Nat.mod_eq_of_lt (by omega)]
    exact (Nat.two_pow_add_eq_or_of_lt hy u).symm
  rw [e1]
  exact wrap_u64 (by omega) (by omega)

/-- What a word holds when it is moved up: 'lo' of the word itself, 'hi' of the one below. -/
def loW (s n : Nat) : Nat := 2 ^ s * (n % 2 ^ (64 - s))
def hiW (s n : Nat) : Nat := n / 2 ^ (64 - s)

theorem pq (s : Nat) (hs : s < 64) : 2 ^ s * 2 ^ (64 - s) = 2 ^ 64 := by rw [← Nat.pow_add]; congr 1; omega

theorem split_up (s n : Nat) (hs : s < 64) : 2 ^ s * n = loW s n + 2 ^ 64 * hiW s n := by
  unfold loW hiW
  rw [← pq s hs, Nat.mul_assoc, ← Nat.mul_add, Nat.add_comm, Nat.div_add_mod]

theorem hiW_lt (s n : Nat) (hs : s < 64) (h : n < 2 ^ 64) : hiW s n < 2 ^ s := by
  unfold hiW
  rw [Nat.div_lt_iff_lt_mul (Nat.two_pow_pos _), pq s hs]; exact h

theorem loW_le (s n : Nat) (hs : s < 64) : loW s n + 2 ^ s ≤ 2 ^ 64 := by
  unfold loW
  have := Nat.mul_le_mul_left (2 ^ s) (Nat.mod_lt n (Nat.two_pow_pos (64 - s)))
  rw [pq s hs, Nat.succ_eq_add_one, Nat.mul_add, Nat.mul_one] at this
  exact this

theorem sub64s (s : Nat) (hs : s ≤ 64) : subI .i64 64 (s : Int) = ((64 - s : Nat) : Int) := by
  unfold subI; rw [wrap_i64 (by omega) (by omega)]; omega

theorem shl_lo (s n : Nat) (hs : s < 64) : shlI .u64 (n : Int) (s : Int) = ((loW s n : Nat) : Int) := by
  rw [shl_u64 _ _ (by omega)]
  congr 1
  unfold loW
  rw [← pq s hs, Nat.mul_comm n, Nat.mul_mod_mul_left]

theorem word_up (s n m : Nat) (hs : s < 64) (hm : m < 2 ^ 64) : orI .u64 (shlI .u64 (n : Int) (s : Int)) (shrI .u64 (m : Int) (subI .i64 64 (s : Int))) = ((loW s n + hiW s m : Nat) : Int) := by
  rw [shl_lo s n hs, sub64s s (by omega), shr_u64' _ _ (by omega)]
  have h1 := hiW_lt s m hs hm
  have h2 := loW_le s n hs
  exact or_u64 s (n % 2 ^ (64 - s)) (m / 2 ^ (64 - s)) h1 (by unfold loW hiW at *; omega)

section
variable (k m : Nat) (s : Int) (h : decide (s < 0) = false) (h' : decide (subI .i64 64 s < 0) = false) (a0 a1 a2 a3 : Int) (y : List Int)
include h h'

theorem up_run0 : whole_Up.l0.f k 0 s [a0, a1, a2, a3] y (m + 6) 0 [0, 0, 0, 0] = some (4, [shlI .u64 a0 s, orI .u64 (shlI .u64 a1 s) (shrI .u64 a0 (subI .i64 64 s)), orI .u64 (shlI .u64 a2 s) (shrI .u64 a1 (subI .i64 64 s)), orI .u64 (shlI .u64 a3 s) (shrI .u64 a2 (subI .i64 64 s))]) := by
  simp only [whole_Up.l0.f, whole_Up.l0.go, whole_Up.l0.step, h, h']
  kernel_rfl

theorem up_run1 : whole_Up.l0.f k 1 s [a0, a1, a2, a3] y (m + 6) 1 [0, 0, 0, 0] = some (4, [0, shlI .u64 a0 s, orI .u64 (shlI .u64 a1 s) (shrI .u64 a0 (subI .i64 64 s)), orI .u64 (shlI .u64 a2 s) (shrI .u64 a1 (subI .i64 64 s))]) := by
  simp only [whole_Up.l0.f, whole_Up.l0.go, whole_Up.l0.step, h, h']
  kernel_rfl

theorem up_run2 : whole_Up.l0.f k 2 s [a0, a1, a2, a3] y (m + 6) 2 [0, 0, 0, 0] = some (4, [0, 0, shlI .u64 a0 s, orI .u64 (shlI .u64 a1 s) (shrI .u64 a0 (subI .i64 64 s))]) := by
  simp only [whole_Up.l0.f, whole_Up.l0.go, whole_Up.l0.step, h, h']
  kernel_rfl

theorem up_run3 : whole_Up.l0.f k 3 s [a0, a1, a2, a3] y (m + 6) 3 [0, 0, 0, 0] = some (4, [0, 0, 0, shlI .u64 a0 s]) := by
  simp only [whole_Up.l0.f, whole_Up.l0.go, whole_Up.l0.step, h, h']
  kernel_rfl

theorem down_run0 : whole_Down.l0.f k 0 s 4 [a0, a1, a2, a3] y (m + 6) 0 [0, 0, 0, 0] = some (4, [orI .u64 (shrI .u64 a0 s) (shlI .u64 a1 (subI .i64 64 s)), orI .u64 (shrI .u64 a1 s) (shlI .u64 a2 (subI .i64 64 s)), orI .u64 (shrI .u64 a2 s) (shlI .u64 a3 (subI .i64 64 s)), shrI .u64 a3 s]) := by
  simp only [whole_Down.l0.f, whole_Down.l0.go, whole_Down.l0.step, h, h']
  kernel_rfl

theorem down_run1 : whole_Down.l0.f k 1 s 3 [a0, a1, a2, a3] y (m + 6) 0 [0, 0, 0, 0] = some (3, [orI .u64 (shrI .u64 a1 s) (shlI .u64 a2 (subI .i64 64 s)), orI .u64 (shrI .u64 a2 s) (shlI .u64 a3 (subI .i64 64 s)), shrI .u64 a3 s, 0]) := by
  simp only [whole_Down.l0.f, whole_Down.l0.go, whole_Down.l0.step, h, h']
  kernel_rfl

theorem down_run2 : whole_Down.l0.f k 2 s 2 [a0, a1, a2, a3] y (m + 6) 0 [0, 0, 0, 0] = some (2, [orI .u64 (shrI .u64 a2 s) (shlI .u64 a3 (subI .i64 64 s)), shrI .u64 a3 s, 0, 0]) := by
  simp only [whole_Down.l0.f, whole_Down.l0.go, whole_Down.l0.step, h, h']
  kernel_rfl

theorem down_run3 : whole_Down.l0.f k 3 s 1 [a0, a1, a2, a3] y (m + 6) 0 [0, 0, 0, 0] = some (1, [shrI .u64 a3 s, 0, 0, 0]) := by
  simp only [whole_Down.l0.f, whole_Down.l0.go, whole_Down.l0.step, h, h']
  kernel_rfl
end

theorem mulp (p n0 n1 n2 n3 : Nat) : (n0 + 2 ^ 64 * (n1 + 2 ^ 64 * (n2 + 2 ^ 64 * n3))) * p = p * n0 + 2 ^ 64 * (p * n1 + 2 ^ 64 * (p * n2 + 2 ^ 64 * (p * n3))) := by
  rw [Nat.mul_comm, Nat.mul_add, Nat.mul_left_comm p, Nat.mul_add p, Nat.mul_left_comm p (2 ^ 64) (n2 + 2 ^ 64 * n3), Nat.mul_add p, Nat.mul_left_comm p (2 ^ 64) n3]

theorem mx0 (n : Nat) : mxI (n : Int) 0 = (n : Int) := by
  unfold mxI; rw [if_neg (by omega)]

theorem s_ok (s : Nat) (hs : s < 64) : decide ((s : Int) < 0) = false ∧ decide (subI .i64 64 (s : Int) < 0) = false := by
  rw [sub64s s (by omega)]
  exact ⟨decide_eq_false (by omega), decide_eq_false (by omega)⟩

theorem pow_words (w s : Nat) : 2 ^ (64 * w + s) = 2 ^ (64 * w) * 2 ^ s := Nat.pow_add _ _ _

theorem up_ev {a : List Int} (ha : goodT numT a) (n : Nat) : Ev (fun k => whole_Up.f k a (n : Int)) (toNum (vN a * 2 ^ n)) := by
  by_cases hn : n < 256
  · obtain ⟨n0, n1, n2, n3, rfl, h0, h1, h2, h3⟩ := num4 ha
    refine Ev.of 6 fun m => ?_
    have hs : n % 64 < 64 := by omega
    obtain ⟨d1, d2⟩ := s_ok (n % 64) hs
    unfold whole_Up.f whole_Up.tree
    rw [mx0, quo64 n hn, rem64, decide_eq_false (show ¬ (n : Int) ≥ 256 by omega)]
    simp only [cond_false]
    rw [vN4]
    have hw : n / 64 < 4 := by omega
    have en : n = 64 * (n / 64) + n % 64 := by omega
    have l0 := loW_le (n % 64) n0 hs
    have l1 := loW_le (n % 64) n1 hs
    have l2 := loW_le (n % 64) n2 hs
    have l3 := loW_le (n % 64) n3 hs
    have g0 := hiW_lt (n % 64) n0 hs h0
    have g1 := hiW_lt (n % 64) n1 hs h1
    have g2 := hiW_lt (n % 64) n2 hs h2
    have t0 := split_up (n % 64) n0 hs
    have t1 := split_up (n % 64) n1 hs
    have t2 := split_up (n % 64) n2 hs
    have t3 := split_up (n % 64) n3 hs
    have hpp := Nat.two_pow_pos (n % 64)
    rw [show (n0 + 2 ^ 64 * (n1 + 2 ^ 64 * (n2 + 2 ^ 64 * n3))) * 2 ^ n = 2 ^ (64 * (n / 64)) * ((n0 + 2 ^ 64 * (n1 + 2 ^ 64 * (n2 + 2 ^ 64 * n3))) * 2 ^ (n % 64)) by
      conv => lhs; rw [en, pow_words]
      rw [Nat.mul_left_comm]]
    rw [mulp]
    generalize n / 64 = w at *
    generalize n % 64 = s at *
    match w, hw with
    | 0, _ =>
      rw [show ((0 : Nat) : Int) = 0 from rfl, up_run0 _ _ _ d1 d2, shl_lo s n0 hs, word_up s n1 n0 hs h0, word_up s n2 n1 hs h1, word_up s n3 n2 hs h2]
      refine congrArg some (toNum_of (good4 (by omega) (by omega) (by omega) (by omega)) ?_)
      rw [vN4]; omega
    | 1, _ =>
      rw [show ((1 : Nat) : Int) = 1 from rfl, up_run1 _ _ _ d1 d2, shl_lo s n0 hs, word_up s n1 n0 hs h0, word_up s n2 n1 hs h1, show (0 : Int) = ((0 : Nat) : Int) from rfl]
      refine congrArg some (toNum_of (good4 (by omega) (by omega) (by omega) (by omega)) ?_)
      rw [vN4]; omega
    | 2, _ =>
      rw [show ((2 : Nat) : Int) = 2 from rfl, up_run2 _ _ _ d1 d2, shl_lo s n0 hs, word_up s n1 n0 hs h0, show (0 : Int) = ((0 : Nat) : Int) from rfl]
      refine congrArg some (toNum_of (good4 (by omega) (by omega) (by omega) (by omega)) ?_)
      rw [vN4]; omega
    | 3, _ =>
      rw [show ((3 : Nat) : Int) = 3 from rfl, up_run3 _ _ _ d1 d2, shl_lo s n0 hs, show (0 : Int) = ((0 : Nat) : Int) from rfl]
      refine congrArg some (toNum_of (good4 (by omega) (by omega) (by omega) (by omega)) ?_)
      rw [vN4]; omega
  · refine Ev.const fun k => ?_
    unfold whole_Up.f whole_Up.tree
    rw [decide_eq_true (show (n : Int) ≥ 256 by omega)]
    simp only [cond_true]
    rw [← toNum_zero]
    refine congrArg some (toNum_congr ?_)
    rw [show n = 256 + (n - 256) by omega, Nat.pow_add, Nat.mul_left_comm, Nat.mul_mod_right]

theorem orI_comm (x y : Int) : orI .u64 x y = orI .u64 y x := by
  unfold orI; rw [BitVec.or_comm]

theorem pq' (s : Nat) (hs : s < 64) : 2 ^ (64 - s) * 2 ^ s = 2 ^ 64 := by rw [← Nat.pow_add]; congr 1; omega

/-- A word moved down, with what comes from the one above. -/
def dnW (s n m : Nat) : Nat := n / 2 ^ s + 2 ^ (64 - s) * (m % 2 ^ s)

theorem dnW_lt (s n m : Nat) (hs : s < 64) (h : n < 2 ^ 64) : dnW s n m < 2 ^ 64 := by
  unfold dnW
  have h1 : n / 2 ^ s < 2 ^ (64 - s) := (Nat.div_lt_iff_lt_mul (Nat.two_pow_pos _)).2 (by rw [pq' s hs]; exact h)
  have := Nat.mul_le_mul_left (2 ^ (64 - s)) (Nat.mod_lt m (Nat.two_pow_pos s))
  rw [pq' s hs, Nat.succ_eq_add_one, Nat.mul_add, Nat.mul_one] at this
  omega

theorem word_down (s n m : Nat) (hs : s < 64) (h : n < 2 ^ 64) : orI .u64 (shrI .u64 (n : Int) (s : Int)) (shlI .u64 (m : Int) (subI .i64 64 (s : Int))) = ((dnW s n m : Nat) : Int) := by
  have hlt := dnW_lt s n m hs h
  have h1 : n / 2 ^ s < 2 ^ (64 - s) := (Nat.div_lt_iff_lt_mul (Nat.two_pow_pos _)).2 (by rw [pq' s hs]; exact h)
  have e : m * 2 ^ (64 - s) % 2 ^ 64 = 2 ^ (64 - s) * (m % 2 ^ s) := by rw [← pq' s hs, Nat.mul_comm m, Nat.mul_mod_mul_left]
  rw [sub64s s (by omega), shl_u64 _ _ (by omega), shr_u64' _ _ (by omega), e, orI_comm, or_u64 (64 - s) (m % 2 ^ s) (n / 2 ^ s) h1 (by unfold dnW at hlt; omega)]
  unfold dnW
  rw [Nat.add_comm]

theorem top_down (s n : Nat) : n / 2 ^ s = dnW s n 0 := by
  unfold dnW; simp

theorem downV (s n0 n1 n2 n3 : Nat) (hs : s < 64) : (n0 + 2 ^ 64 * (n1 + 2 ^ 64 * (n2 + 2 ^ 64 * n3))) / 2 ^ s = dnW s n0 n1 + 2 ^ 64 * (dnW s n1 n2 + 2 ^ 64 * (dnW s n2 n3 + 2 ^ 64 * dnW s n3 0)) := by
  unfold dnW
  have hp := Nat.two_pow_pos s
  have e0 := Nat.div_add_mod n0 (2 ^ s)
  have e1 := Nat.div_add_mod n1 (2 ^ s)
  have e2 := Nat.div_add_mod n2 (2 ^ s)
  have e3 := Nat.div_add_mod n3 (2 ^ s)
  have l0 := Nat.mod_lt n0 hp
  have hq := pq' s hs
  simp only [Nat.zero_mod, Nat.mul_zero, Nat.add_zero]
  generalize n0 / 2 ^ s = a0 at *
  generalize n1 / 2 ^ s = a1 at *
  generalize n2 / 2 ^ s = a2 at *
  generalize n3 / 2 ^ s = a3 at *
  generalize n0 % 2 ^ s = b0 at *
  generalize n1 % 2 ^ s = b1 at *
  generalize n2 % 2 ^ s = b2 at *
  generalize n3 % 2 ^ s = b3 at *
  generalize 2 ^ (64 - s) = q at *
  generalize 2 ^ s = p at *
  have k : ∀ b : Nat, p * (q * b) = 2 ^ 64 * b := fun b => by rw [← hq, Nat.mul_comm q p, Nat.mul_assoc]
  have e : n0 + 2 ^ 64 * (n1 + 2 ^ 64 * (n2 + 2 ^ 64 * n3)) = b0 + p * (a0 + q * b1 + 2 ^ 64 * (a1 + q * b2 + 2 ^ 64 * (a2 + q * b3 + 2 ^ 64 * a3))) := by
    simp only [Nat.mul_add, Nat.mul_left_comm p (2 ^ 64), k]
    omega
  rw [e, Nat.add_mul_div_left _ _ hp, Nat.div_eq_of_lt l0, Nat.zero_add]

theorem down_ev {a : List Int} (ha : goodT numT a) (n : Nat) : Ev (fun k => whole_Down.f k a (n : Int)) (toNum (vN a / 2 ^ n)) := by
  by_cases hn : n < 256
  · obtain ⟨n0, n1, n2, n3, rfl, h0, h1, h2, h3⟩ := num4 ha
    refine Ev.of 6 fun m => ?_
    have hs : n % 64 < 64 := by omega
    obtain ⟨d1, d2⟩ := s_ok (n % 64) hs
    unfold whole_Down.f whole_Down.tree
    rw [mx0, quo64 n hn, rem64, decide_eq_false (show ¬ (n : Int) ≥ 256 by omega)]
    simp only [cond_false]
    rw [vN4]
    have hw : n / 64 < 4 := by omega
    have en : n = 64 * (n / 64) + n % 64 := by omega
    have z0 := dnW_lt (n % 64) 0 0 hs (by omega)
    have c0 := dnW_lt (n % 64) n0 n1 hs h0
    have c1 := dnW_lt (n % 64) n1 n2 hs h1
    have c2 := dnW_lt (n % 64) n2 n3 hs h2
    have c3 := dnW_lt (n % 64) n3 0 hs h3
    have zz : dnW (n % 64) 0 0 = 0 := by unfold dnW; simp
    rw [show (n0 + 2 ^ 64 * (n1 + 2 ^ 64 * (n2 + 2 ^ 64 * n3))) / 2 ^ n = (n0 + 2 ^ 64 * (n1 + 2 ^ 64 * (n2 + 2 ^ 64 * n3))) / 2 ^ (64 * (n / 64)) / 2 ^ (n % 64) by
      conv => lhs; rw [en, pow_words]
      rw [Nat.div_div_eq_div_mul]]
    generalize n / 64 = w at *
    generalize n % 64 = s at *
    match w, hw with
    | 0, _ =>
      rw [show ((0 : Nat) : Int) = 0 from rfl, show subI .i64 4 0 = 4 from by decide, down_run0 _ _ _ d1 d2, word_down s n0 n1 hs h0, word_down s n1 n2 hs h1, word_down s n2 n3 hs h2, shr_u64' _ _ (by omega), top_down s n3]
      refine congrArg some (toNum_of (good4 c0 c1 c2 c3) ?_)
      rw [show 2 ^ (64 * 0) = 1 from rfl, Nat.div_one, downV s n0 n1 n2 n3 hs, vN4]; omega
    | 1, _ =>
      rw [show ((1 : Nat) : Int) = 1 from rfl, show subI .i64 4 1 = 3 from by decide, down_run1 _ _ _ d1 d2, word_down s n1 n2 hs h1, word_down s n2 n3 hs h2, shr_u64' _ _ (by omega), top_down s n3, show (0 : Int) = ((0 : Nat) : Int) from rfl]
      refine congrArg some (toNum_of (good4 c1 c2 c3 (by omega)) ?_)
      rw [show (n0 + 2 ^ 64 * (n1 + 2 ^ 64 * (n2 + 2 ^ 64 * n3))) / 2 ^ (64 * 1) = n1 + 2 ^ 64 * (n2 + 2 ^ 64 * (n3 + 2 ^ 64 * 0)) by omega, downV s n1 n2 n3 0 hs, vN4, zz]; omega
    | 2, _ =>
      rw [show ((2 : Nat) : Int) = 2 from rfl, show subI .i64 4 2 = 2 from by decide, down_run2 _ _ _ d1 d2, word_down s n2 n3 hs h2, shr_u64' _ _ (by omega), top_down s n3, show (0 : Int) = ((0 : Nat) : Int) from rfl]
      refine congrArg some (toNum_of (good4 c2 c3 (by omega) (by omega)) ?_)
      rw [show (n0 + 2 ^ 64 * (n1 + 2 ^ 64 * (n2 + 2 ^ 64 * n3))) / 2 ^ (64 * 2) = n2 + 2 ^ 64 * (n3 + 2 ^ 64 * (0 + 2 ^ 64 * 0)) by omega, downV s n2 n3 0 0 hs, vN4, zz]; omega
    | 3, _ =>
      rw [show ((3 : Nat) : Int) = 3 from rfl, show subI .i64 4 3 = 1 from by decide, down_run3 _ _ _ d1 d2, shr_u64' _ _ (by omega), top_down s n3, show (0 : Int) = ((0 : Nat) : Int) from rfl]
      refine congrArg some (toNum_of (good4 c3 (by omega) (by omega) (by omega)) ?_)
      rw [show (n0 + 2 ^ 64 * (n1 + 2 ^ 64 * (n2 + 2 ^ 64 * n3))) / 2 ^ (64 * 3) = n3 + 2 ^ 64 * (0 + 2 ^ 64 * (0 + 2 ^ 64 * 0)) by omega, downV s n3 0 0 0 hs, vN4, zz]; omega
  · refine Ev.const fun k => ?_
    unfold whole_Down.f whole_Down.tree
    rw [decide_eq_true (show (n : Int) ≥ 256 by omega)]
    simp only [cond_true]
    rw [← toNum_zero]
    have : 2 ^ 256 ≤ 2 ^ n := Nat.pow_le_pow_right (by omega) (by omega)
    have l := vN_lt ha
    rw [Nat.div_eq_of_lt (by omega)]

theorem words_up (s n0 n1 n2 n3 : Nat) (hs : s < 64) (h0 : n0 < 2 ^ 64) (h1 : n1 < 2 ^ 64) (h2 : n2 < 2 ^ 64) (h3 : n3 < 2 ^ 64) :
    [((loW s n0 : Nat) : Int), ((loW s n1 + hiW s n0 : Nat) : Int), ((loW s n2 + hiW s n1 : Nat) : Int), ((loW s n3 + hiW s n2 : Nat) : Int)] = toNum (vN [(n0 : Int), (n1 : Int), (n2 : Int), (n3 : Int)] * 2 ^ s) := by
  have l0 := loW_le s n0 hs
  have l1 := loW_le s n1 hs
  have l2 := loW_le s n2 hs
  have l3 := loW_le s n3 hs
  have g0 := hiW_lt s n0 hs h0
  have g1 := hiW_lt s n1 hs h1
  have g2 := hiW_lt s n2 hs h2
  have t0 := split_up s n0 hs
  have t1 := split_up s n1 hs
  have t2 := split_up s n2 hs
  have t3 := split_up s n3 hs
  have hpp := Nat.two_pow_pos s
  rw [vN4, mulp]
  refine toNum_of (good4 (by omega) (by omega) (by omega) (by omega)) ?_
  rw [vN4]; omega

theorem words_down (s n0 n1 n2 n3 : Nat) (hs : s < 64) (h0 : n0 < 2 ^ 64) (h1 : n1 < 2 ^ 64) (h2 : n2 < 2 ^ 64) (h3 : n3 < 2 ^ 64) :
    [((dnW s n0 n1 : Nat) : Int), ((dnW s n1 n2 : Nat) : Int), ((dnW s n2 n3 : Nat) : Int), ((dnW s n3 0 : Nat) : Int)] = toNum (vN [(n0 : Int), (n1 : Int), (n2 : Int), (n3 : Int)] / 2 ^ s) := by
  have c0 := dnW_lt s n0 n1 hs h0
  have c1 := dnW_lt s n1 n2 hs h1
  have c2 := dnW_lt s n2 n3 hs h2
  have c3 := dnW_lt s n3 0 hs h3
  refine toNum_of (good4 c0 c1 c2 c3) ?_
  rw [vN4, vN4, downV s n0 n1 n2 n3 hs]; omega

theorem add_u64 (x y : Nat) (h : x + y < 2 ^ 64) : addI .u64 (x : Int) (y : Int) = ((x + y : Nat) : Int) := by
  unfold addI; rw [wrap_u64 (by omega) (by omega)]; omega

theorem getN0 (x : Nat) : List.getD (toNum x) 0 0 = ((x % 2 ^ 64 : Nat) : Int) := rfl
theorem getN1 (x : Nat) : List.getD (toNum x) 1 0 = ((x / 2 ^ 64 % 2 ^ 64 : Nat) : Int) := rfl
theorem getN2 (x : Nat) : List.getD (toNum x) 2 0 = ((x / 2 ^ 128 % 2 ^ 64 : Nat) : Int) := rfl
theorem getN3 (x : Nat) : List.getD (toNum x) 3 0 = ((x / 2 ^ 192 % 2 ^ 64 : Nat) : Int) := rfl

theorem word_upN (x : Nat) : [0, List.getD (toNum x) 0 0, List.getD (toNum x) 1 0, List.getD (toNum x) 2 0] = toNum (x * 2 ^ 64) := by
  rw [getN0, getN1, getN2, show (0 : Int) = ((0 : Nat) : Int) from rfl]
  refine toNum_of (good4 (by omega) (Nat.mod_lt _ (by omega)) (Nat.mod_lt _ (by omega)) (Nat.mod_lt _ (by omega))) ?_
  rw [vN4]; omega

theorem word_downN (x : Nat) (hx : x < 2 ^ 256) : [List.getD (toNum x) 1 0, List.getD (toNum x) 2 0, List.getD (toNum x) 3 0, 0] = toNum (x / 2 ^ 64) := by
  rw [getN1, getN2, getN3, show (0 : Int) = ((0 : Nat) : Int) from rfl]
  refine toNum_of (good4 (Nat.mod_lt _ (by omega)) (Nat.mod_lt _ (by omega)) (Nat.mod_lt _ (by omega)) (by omega)) ?_
  rw [vN4]; omega

theorem move_l0 (y y' : List Int) (s : Nat) (hs : s < 64) : ∀ w x : Nat, w < 4 → Ev2 (fun k n => trailheadref02_Move.l0.f k y y' n ((64 * w + s : Nat) : Int) (toNum x)) ((s : Int), toNum (x * 2 ^ (64 * w)))
  | 0, x, _ => by
    refine Ev2.succ (G := fun k n => some ((s : Int), toNum (x * 2 ^ (64 * 0)))) (fun k n => ?_) (Ev2.const fun _ _ => rfl)
    simp only [trailheadref02_Move.l0.f, trailheadref02_Move.l0.go, trailheadref02_Move.l0.step]
    rw [decide_eq_false (by omega), show 64 * 0 + s = s by omega, show x * 2 ^ (64 * 0) = x by simp]; rfl
  | w + 1, x, hw => by
    have ih := move_l0 y y' s hs w (x * 2 ^ 64) (by omega)
    rw [show x * 2 ^ 64 * 2 ^ (64 * w) = x * 2 ^ (64 * (w + 1)) by rw [Nat.mul_assoc, ← Nat.pow_add]; congr 2; omega] at ih
    refine Ev2.succ (G := fun k n => trailheadref02_Move.l0.f k y y' n ((64 * w + s : Nat) : Int) (toNum (x * 2 ^ 64))) (fun k n => ?_) ih
    simp only [trailheadref02_Move.l0.f, trailheadref02_Move.l0.go, trailheadref02_Move.l0.step]
    have e : subI .i64 ((64 * (w + 1) + s : Nat) : Int) 64 = ((64 * w + s : Nat) : Int) := by
      unfold subI; rw [wrap_i64 (by omega) (by omega)]; omega
    rw [decide_eq_true (by omega), e, word_upN]; rfl

theorem move_l0_skip (y y' a : List Int) (x : Int) (hx : x < 64) : Ev2 (fun k n => trailheadref02_Move.l0.f k y y' n x a) (x, a) := by
  refine Ev2.succ (G := fun k n => some (x, a)) (fun k n => ?_) (Ev2.const fun _ _ => rfl)
  simp only [trailheadref02_Move.l0.f, trailheadref02_Move.l0.go, trailheadref02_Move.l0.step]
  rw [decide_eq_false (by omega)]; rfl

theorem move_l2_skip (y y' a : List Int) (x : Int) (hx : -64 < x) : Ev2 (fun k n => trailheadref02_Move.l2.f k y y' n x a) (x, a) := by
  refine Ev2.succ (G := fun k n => some (x, a)) (fun k n => ?_) (Ev2.const fun _ _ => rfl)
  simp only [trailheadref02_Move.l2.f, trailheadref02_Move.l2.go, trailheadref02_Move.l2.step]
  rw [decide_eq_false (by omega)]; rfl

theorem move_l2 (y y' : List Int) (s : Nat) (hs : s < 64) : ∀ w x : Nat, w < 4 → x < 2 ^ 256 → Ev2 (fun k n => trailheadref02_Move.l2.f k y y' n (-((64 * w + s : Nat) : Int)) (toNum x)) (-(s : Int), toNum (x / 2 ^ (64 * w)))
  | 0, x, _, _ => by
    refine Ev2.succ (G := fun k n => some (-(s : Int), toNum (x / 2 ^ (64 * 0)))) (fun k n => ?_) (Ev2.const fun _ _ => rfl)
    simp only [trailheadref02_Move.l2.f, trailheadref02_Move.l2.go, trailheadref02_Move.l2.step]
    rw [decide_eq_false (by omega), show 64 * 0 + s = s by omega, show x / 2 ^ (64 * 0) = x by simp]; rfl
  | w + 1, x, hw, hx => by
    have ih := move_l2 y y' s hs w (x / 2 ^ 64) (by omega) (by omega)
    rw [show x / 2 ^ 64 / 2 ^ (64 * w) = x / 2 ^ (64 * (w + 1)) by rw [Nat.div_div_eq_div_mul, ← Nat.pow_add]; congr 2; omega] at ih
    refine Ev2.succ (G := fun k n => trailheadref02_Move.l2.f k y y' n (-((64 * w + s : Nat) : Int)) (toNum (x / 2 ^ 64))) (fun k n => ?_) ih
    simp only [trailheadref02_Move.l2.f, trailheadref02_Move.l2.go, trailheadref02_Move.l2.step]
    have e : addI .i64 (-((64 * (w + 1) + s : Nat) : Int)) 64 = -((64 * w + s : Nat) : Int) := by
      unfold addI; rw [wrap_i64 (by omega) (by omega)]; omega
    rw [decide_eq_true (by omega), e, word_downN x hx]; rfl

section
variable {X : Type} (K G : Int → List Int → Option X) (k m : Nat) (s : Int) (a0 a1 a2 a3 z0 z1 z2 z3 : Int) (y : List Int)

section
variable (h : decide (s > 0) = true) (h' : decide (IntKind.wrap .u64 s < 0) = false) (h2 : decide (IntKind.wrap .u64 (subI .i64 64 s) < 0) = false)
include h h'
theorem mvP0 : trailheadref02_Move.l4.step K G k s [a0, a1, a2, a3] y 0 [z0, z1, z2, z3] = G 1 [shlI .u64 a0 (IntKind.wrap .u64 s), z1, z2, z3] := by
  simp only [trailheadref02_Move.l4.step, h, h', cond_true, cond_false]; kernel_rfl
include h2
theorem mvP1 : trailheadref02_Move.l4.step K G k s [a0, a1, a2, a3] y 1 [z0, z1, z2, z3] = G 2 [z0, addI .u64 (shlI .u64 a1 (IntKind.wrap .u64 s)) (shrI .u64 a0 (IntKind.wrap .u64 (subI .i64 64 s))), z2, z3] := by
  simp only [trailheadref02_Move.l4.step, h, h', h2, cond_true, cond_false]; kernel_rfl
theorem mvP2 : trailheadref02_Move.l4.step K G k s [a0, a1, a2, a3] y 2 [z0, z1, z2, z3] = G 3 [z0, z1, addI .u64 (shlI .u64 a2 (IntKind.wrap .u64 s)) (shrI .u64 a1 (IntKind.wrap .u64 (subI .i64 64 s))), z3] := by
  simp only [trailheadref02_Move.l4.step, h, h', h2, cond_true, cond_false]; kernel_rfl
theorem mvP3 : trailheadref02_Move.l4.step K G k s [a0, a1, a2, a3] y 3 [z0, z1, z2, z3] = G 4 [z0, z1, z2, addI .u64 (shlI .u64 a3 (IntKind.wrap .u64 s)) (shrI .u64 a2 (IntKind.wrap .u64 (subI .i64 64 s)))] := by
  simp only [trailheadref02_Move.l4.step, h, h', h2, cond_true, cond_false]; kernel_rfl
end
theorem mv4 (x : List Int) : trailheadref02_Move.l4.step K G k s x y 4 [z0, z1, z2, z3] = K 4 [z0, z1, z2, z3] := by kernel_rfl

section
variable (h : decide (s > 0) = false) (h' : decide (IntKind.wrap .u64 (subI .i64 0 s) < 0) = false) (h2 : decide (IntKind.wrap .u64 (addI .i64 64 s) < 0) = false)
include h h'
theorem mvN3 : trailheadref02_Move.l4.step K G k s [a0, a1, a2, a3] y 3 [z0, z1, z2, z3] = G 4 [z0, z1, z2, shrI .u64 a3 (IntKind.wrap .u64 (subI .i64 0 s))] := by
  simp only [trailheadref02_Move.l4.step, h, h', cond_true, cond_false]; kernel_rfl
include h2
theorem mvN0 : trailheadref02_Move.l4.step K G k s [a0, a1, a2, a3] y 0 [z0, z1, z2, z3] = G 1 [addI .u64 (shrI .u64 a0 (IntKind.wrap .u64 (subI .i64 0 s))) (shlI .u64 a1 (IntKind.wrap .u64 (addI .i64 64 s))), z1, z2, z3] := by
  simp only [trailheadref02_Move.l4.step, h, h', h2, cond_true, cond_false]; kernel_rfl
theorem mvN1 : trailheadref02_Move.l4.step K G k s [a0, a1, a2, a3] y 1 [z0, z1, z2, z3] = G 2 [z0, addI .u64 (shrI .u64 a1 (IntKind.wrap .u64 (subI .i64 0 s))) (shlI .u64 a2 (IntKind.wrap .u64 (addI .i64 64 s))), z2, z3] := by
  simp only [trailheadref02_Move.l4.step, h, h', h2, cond_true, cond_false]; kernel_rfl
theorem mvN2 : trailheadref02_Move.l4.step K G k s [a0, a1, a2, a3] y 2 [z0, z1, z2, z3] = G 3 [z0, z1, addI .u64 (shrI .u64 a2 (IntKind.wrap .u64 (subI .i64 0 s))) (shlI .u64 a3 (IntKind.wrap .u64 (addI .i64 64 s))), z3] := by
  simp only [trailheadref02_Move.l4.step, h, h', h2, cond_true, cond_false]; kernel_rfl
end
end

section
variable (k m : Nat) (s : Int) (a0 a1 a2 a3 : Int) (y : List Int)

theorem move_runP (h : decide (s > 0) = true) (h' : decide (IntKind.wrap .u64 s < 0) = false) (h2 : decide (IntKind.wrap .u64 (subI .i64 64 s) < 0) = false) :
    trailheadref02_Move.l4.f k s [a0, a1, a2, a3] y (m + 6) 0 [0, 0, 0, 0] = some (4, [shlI .u64 a0 (IntKind.wrap .u64 s), addI .u64 (shlI .u64 a1 (IntKind.wrap .u64 s)) (shrI .u64 a0 (IntKind.wrap .u64 (subI .i64 64 s))),
      addI .u64 (shlI .u64 a2 (IntKind.wrap .u64 s)) (shrI .u64 a1 (IntKind.wrap .u64 (subI .i64 64 s))), addI .u64 (shlI .u64 a3 (IntKind.wrap .u64 s)) (shrI .u64 a2 (IntKind.wrap .u64 (subI .i64 64 s)))]) := by
  rw [trailheadref02_Move.l4.f, trailheadref02_Move.l4.go, mvP0 _ _ _ _ _ _ _ _ _ _ _ _ _ h h', trailheadref02_Move.l4.go, mvP1 _ _ _ _ _ _ _ _ _ _ _ _ _ h h' h2, trailheadref02_Move.l4.go, mvP2 _ _ _ _ _ _ _ _ _ _ _ _ _ h h' h2,
    trailheadref02_Move.l4.go, mvP3 _ _ _ _ _ _ _ _ _ _ _ _ _ h h' h2, trailheadref02_Move.l4.go, mv4]

theorem move_runN (h : decide (s > 0) = false) (h' : decide (IntKind.wrap .u64 (subI .i64 0 s) < 0) = false) (h2 : decide (IntKind.wrap .u64 (addI .i64 64 s) < 0) = false) :
    trailheadref02_Move.l4.f k s [a0, a1, a2, a3] y (m + 6) 0 [0, 0, 0, 0] = some (4, [addI .u64 (shrI .u64 a0 (IntKind.wrap .u64 (subI .i64 0 s))) (shlI .u64 a1 (IntKind.wrap .u64 (addI .i64 64 s))),
      addI .u64 (shrI .u64 a1 (IntKind.wrap .u64 (subI .i64 0 s))) (shlI .u64 a2 (IntKind.wrap .u64 (addI .i64 64 s))), addI .u64 (shrI .u64 a2 (IntKind.wrap .u64 (subI .i64 0 s))) (shlI .u64 a3 (IntKind.wrap .u64 (addI .i64 64 s))),
      shrI .u64 a3 (IntKind.wrap .u64 (subI .i64 0 s))]) := by
  rw [trailheadref02_Move.l4.f, trailheadref02_Move.l4.go, mvN0 _ _ _ _ _ _ _ _ _ _ _ _ _ h h' h2, trailheadref02_Move.l4.go, mvN1 _ _ _ _ _ _ _ _ _ _ _ _ _ h h' h2, trailheadref02_Move.l4.go, mvN2 _ _ _ _ _ _ _ _ _ _ _ _ _ h h' h2,
    trailheadref02_Move.l4.go, mvN3 _ _ _ _ _ _ _ _ _ _ _ _ _ h h', trailheadref02_Move.l4.go, mv4]
end

theorem move_up_ev {a : List Int} (ha : goodT numT a) (n : Nat) : Ev (fun k => trailheadref02_Move.f k a (n : Int)) (toNum (vN a * 2 ^ n)) := by
  unfold trailheadref02_Move.f trailheadref02_Move.tree
  rw [decide_eq_false (show ¬ (n : Int) ≤ -256 by omega)]
  simp only [cond_false]
  by_cases hn : n < 256
  · rw [decide_eq_false (show ¬ (n : Int) ≥ 256 by omega)]
    simp only [cond_false]
    have hs : n % 64 < 64 := by omega
    have en : n = 64 * (n / 64) + n % 64 := by omega
    have e1 : vN a * 2 ^ n = vN a * 2 ^ (64 * (n / 64)) * 2 ^ (n % 64) := by
      conv => lhs; rw [en, pow_words]
      rw [Nat.mul_assoc]
    have m0 := (move_l0 [0, 0, 0, 0] [0, 0, 0, 0] (n % 64) hs (n / 64) (vN a) (by omega)).ev
    rw [← en, toNum_vN ha] at m0
    refine Ev.bind m0 ?_
    refine Ev.bind (move_l2_skip _ _ _ _ (by omega)).ev ?_
    rw [e1]
    obtain ⟨n0, n1, n2, n3, ex, h0, h1, h2, h3⟩ := num4 (toNum_good (vN a * 2 ^ (64 * (n / 64))))
    generalize hz : vN a * 2 ^ (64 * (n / 64)) = z at *
    by_cases hz0 : n % 64 = 0
    · rw [hz0]; refine Ev.const fun k => ?_
      simp
    · have b : (((n % 64 : Nat) : Int) == 0) = false := by simp; omega
      simp only [b, cond_false]
      refine Ev.bind (v := (4, toNum (z * 2 ^ (n % 64)))) (Ev.of 6 fun m => ?_) (Ev.const fun k => rfl)
      generalize n % 64 = s at *
      have w1 : IntKind.wrap .u64 (s : Int) = (s : Int) := wrap_u64 (by omega) (by omega)
      have w2 : IntKind.wrap .u64 (subI .i64 64 (s : Int)) = ((64 - s : Nat) : Int) := by rw [sub64s s (by omega)]; exact wrap_u64 (by omega) (by omega)
      rw [ex, move_runP _ _ _ _ _ _ _ _ (decide_eq_true (by omega)) (by rw [w1]; exact decide_eq_false (by omega)) (by rw [w2]; exact decide_eq_false (by omega)), w1, w2]
      have g0 := hiW_lt s n0 hs h0
      have g1 := hiW_lt s n1 hs h1
      have g2 := hiW_lt s n2 hs h2
      have l1 := loW_le s n1 hs
      have l2 := loW_le s n2 hs
      have l3 := loW_le s n3 hs
      rw [shl_lo s n0 hs, shl_lo s n1 hs, shl_lo s n2 hs, shl_lo s n3 hs, shr_u64' _ _ (by omega), shr_u64' _ _ (by omega), shr_u64' _ _ (by omega)]
      have f0 : n0 / 2 ^ (64 - s) = hiW s n0 := rfl
      have f1 : n1 / 2 ^ (64 - s) = hiW s n1 := rfl
      have f2 : n2 / 2 ^ (64 - s) = hiW s n2 := rfl
      rw [f0, f1, f2, add_u64 _ _ (by omega), add_u64 _ _ (by omega), add_u64 _ _ (by omega), words_up s n0 n1 n2 n3 hs h0 h1 h2 h3, ← ex]
      have hv := vN_toNum z
      refine congrArg some (Prod.ext rfl (toNum_congr ?_))
      rw [hv, Nat.mod_mul_mod]
  · rw [decide_eq_true (show (n : Int) ≥ 256 by omega)]
    simp only [cond_true]
    refine Ev.const fun k => ?_
    rw [← toNum_zero]
    refine congrArg some (toNum_congr ?_)
    rw [show n = 256 + (n - 256) by omega, Nat.pow_add, Nat.mul_left_comm, Nat.mul_mod_right]

theorem move_down_ev {a : List Int} (ha : goodT numT a) (n : Nat) : Ev (fun k => trailheadref02_Move.f k a (-(n : Int))) (toNum (vN a / 2 ^ n)) := by
  have la := vN_lt ha
  unfold trailheadref02_Move.f trailheadref02_Move.tree
  by_cases hn : n < 256
  · rw [decide_eq_false (show ¬ -(n : Int) ≤ -256 by omega), decide_eq_false (show ¬ -(n : Int) ≥ 256 by omega)]
    simp only [cond_false]
    have hs : n % 64 < 64 := by omega
    have en : n = 64 * (n / 64) + n % 64 := by omega
    have e1 : vN a / 2 ^ n = vN a / 2 ^ (64 * (n / 64)) / 2 ^ (n % 64) := by
      conv => lhs; rw [en, pow_words]
      rw [Nat.div_div_eq_div_mul]
    refine Ev.bind (move_l0_skip _ _ _ _ (by omega)).ev ?_
    have m0 := (move_l2 [0, 0, 0, 0] [0, 0, 0, 0] (n % 64) hs (n / 64) (vN a) (by omega) la).ev
    rw [← en, toNum_vN ha] at m0
    refine Ev.bind m0 ?_
    rw [e1]
    have hzl : vN a / 2 ^ (64 * (n / 64)) < 2 ^ 256 := Nat.lt_of_le_of_lt (Nat.div_le_self _ _) la
    obtain ⟨n0, n1, n2, n3, ex, h0, h1, h2, h3⟩ := num4 (toNum_good (vN a / 2 ^ (64 * (n / 64))))
    generalize hz : vN a / 2 ^ (64 * (n / 64)) = z at *
    by_cases hz0 : n % 64 = 0
    · rw [hz0]; refine Ev.const fun k => ?_
      simp
    · have b : (-((n % 64 : Nat) : Int) == 0) = false := by simp; omega
      simp only [b, cond_false]
      refine Ev.bind (v := (4, toNum (z / 2 ^ (n % 64)))) (Ev.of 6 fun m => ?_) (Ev.const fun k => rfl)
      generalize n % 64 = s at *
      have w1 : IntKind.wrap .u64 (subI .i64 0 (-(s : Int))) = (s : Int) := by
        unfold subI; rw [wrap_i64 (by omega) (by omega), wrap_u64 (by omega) (by omega)]; omega
      have w2 : IntKind.wrap .u64 (addI .i64 64 (-(s : Int))) = ((64 - s : Nat) : Int) := by
        unfold addI; rw [wrap_i64 (by omega) (by omega), wrap_u64 (by omega) (by omega)]; omega
      rw [ex, move_runN _ _ _ _ _ _ _ _ (decide_eq_false (by omega)) (by rw [w1]; exact decide_eq_false (by omega)) (by rw [w2]; exact decide_eq_false (by omega)), w1, w2]
      have wd : ∀ x y : Nat, x < 2 ^ 64 → addI .u64 (shrI .u64 (x : Int) (s : Int)) (shlI .u64 (y : Int) ((64 - s : Nat) : Int)) = ((dnW s x y : Nat) : Int) := fun x y hx => by
        have hlt := dnW_lt s x y hs hx
        rw [shr_u64' _ _ (by omega), shl_u64 _ _ (by omega)]
        have e : y * 2 ^ (64 - s) % 2 ^ 64 = 2 ^ (64 - s) * (y % 2 ^ s) := by rw [← pq' s hs, Nat.mul_comm y, Nat.mul_mod_mul_left]
        rw [e, add_u64 _ _ (by unfold dnW at hlt; exact hlt)]
        rfl
      rw [wd n0 n1 h0, wd n1 n2 h1, wd n2 n3 h2, shr_u64' _ _ (by omega), top_down s n3, words_down s n0 n1 n2 n3 hs h0 h1 h2 h3, ← ex]
      rw [vN_toNum_lt hzl]
  · rw [decide_eq_true (show -(n : Int) ≤ -256 by omega)]
    simp only [cond_true]
    refine Ev.const fun k => ?_
    rw [← toNum_zero]
    have : 2 ^ 256 ≤ 2 ^ n := Nat.pow_le_pow_right (by omega) (by omega)
    rw [Nat.div_eq_of_lt (by omega)]

theorem up_num (x n : Nat) : Ev (fun k => whole_Up.f k (toNum x) (n : Int)) (toNum (x * 2 ^ n)) := by
  have h := up_ev (toNum_good x) n
  rwa [show toNum (vN (toNum x) * 2 ^ n) = toNum (x * 2 ^ n) from toNum_congr (by rw [vN_toNum, Nat.mod_mul_mod])] at h

theorem down_num {x : Nat} (hx : x < 2 ^ 256) (n : Nat) : Ev (fun k => whole_Down.f k (toNum x) (n : Int)) (toNum (x / 2 ^ n)) := by
  have h := down_ev (toNum_good x) n
  rwa [vN_toNum_lt hx] at h

theorem moveup_num (x n : Nat) : Ev (fun k => trailheadref02_Move.f k (toNum x) (n : Int)) (toNum (x * 2 ^ n)) := by
  have h := move_up_ev (toNum_good x) n
  rwa [show toNum (vN (toNum x) * 2 ^ n) = toNum (x * 2 ^ n) from toNum_congr (by rw [vN_toNum, Nat.mod_mul_mod])] at h

theorem movedown_num {x : Nat} (hx : x < 2 ^ 256) (n : Nat) : Ev (fun k => trailheadref02_Move.f k (toNum x) (-(n : Int))) (toNum (x / 2 ^ n)) := by
  have h := move_down_ev (toNum_good x) n
  rwa [vN_toNum_lt hx] at h

theorem less_num {x y : Nat} (hx : x < 2 ^ 256) (hy : y < 2 ^ 256) : Ev (fun k => whole_Less.f k (toNum x) (toNum y)) (decide (x < y)) := by
  have h := less_ev (toNum_good x) (toNum_good y)
  rwa [vN_toNum_lt hx, vN_toNum_lt hy] at h

theorem refless_num {x y : Nat} (hx : x < 2 ^ 256) (hy : y < 2 ^ 256) : Ev (fun k => trailheadref02_Less.f k (toNum x) (toNum y)) (decide (x < y)) := by
  have h := refless_ev (toNum_good x) (toNum_good y)
  rwa [vN_toNum_lt hx, vN_toNum_lt hy] at h

theorem ofNum (x : Nat) (hx : x < 2 ^ 64) : ([(x : Int), 0, 0, 0] : List Int) = toNum x := by
  refine toNum_of (good4 hx (n1 := 0) (n2 := 0) (n3 := 0) (by omega) (by omega) (by omega)) ?_
  rw [vN4]; omega

theorem remU (x y : Nat) : remI (x : Int) (y : Int) = ((x % y : Nat) : Int) := by
  unfold remI
  rw [Int.tmod_eq_emod_of_nonneg (by omega), ← Int.natCast_emod]



theorem of_ev (n : Nat) (hn : n < 2 ^ 64) : Ev (fun k => whole_Of.f k (n : Int)) (toNum n) := Ev.const fun k => by
  rw [← ofNum n hn]; rfl

abbrev hashT : Ty := .arr .u8 32

theorem wf_u8 {y : Int} : (Lit.int .u8 y).wf = true ↔ 0 ≤ y ∧ y < 256 := by
  simp only [Lit.wf, Bool.and_eq_true, decide_eq_true_eq]
  show (0 : Int) ≤ y ∧ y ≤ 255 ↔ _
  omega

/-- The number of bytes, the lowest first. -/
def leV : List Int → Nat
  | [] => 0
  | b :: r => b.toNat + 256 * leV r

theorem leV_lt : ∀ (l : List Int), (∀ y ∈ l, 0 ≤ y ∧ y < 256) → leV l < 256 ^ l.length
  | [], _ => by simp [leV]
  | b :: r, h => by
    have h1 := h b (by simp)
    have h2 := leV_lt r (fun y hy => h y (by simp [hy]))
    simp only [leV, List.length_cons, Nat.pow_succ]
    omega

/-- The lowest n bytes of a number. -/
def bytesOf : Nat → Nat → List Int
  | 0, _ => []
  | n + 1, x => ((x % 256 : Nat) : Int) :: bytesOf n (x / 256)

theorem bytesOf_leV : ∀ (l : List Int), (∀ y ∈ l, 0 ≤ y ∧ y < 256) → bytesOf l.length (leV l) = l
  | [], _ => rfl
  | b :: r, h => by
    have h1 := h b (by simp)
    have e1 : (b.toNat + 256 * leV r) % 256 = b.toNat := by omega
    have e2 : (b.toNat + 256 * leV r) / 256 = leV r := by omega
    simp only [leV, List.length_cons, bytesOf, e1, e2, bytesOf_leV r (fun y hy => h y (by simp [hy]))]
    rw [Int.toNat_of_nonneg h1.1]

theorem bytesOf_getD : ∀ (n x i : Nat), i < n → List.getD (bytesOf n x) i 0 = ((x / 256 ^ i % 256 : Nat) : Int)
  | 0, _, _, h => by omega
  | n + 1, x, 0, _ => by simp [bytesOf]
  | n + 1, x, i + 1, h => by
    simp only [bytesOf, List.getD_cons_succ, bytesOf_getD n (x / 256) i (by omega)]
    rw [Nat.div_div_eq_div_mul, Nat.pow_succ, Nat.mul_comm]

theorem good_hash {h : List Int} (hh : goodT hashT h) : h.length = 32 ∧ ∀ y ∈ h, 0 ≤ y ∧ y < 256 := ⟨hh.1, fun y hy => wf_u8.1 (hh.2 y hy)⟩

theorem hash_of {h : List Int} (hh : goodT hashT h) : ∃ x : Nat, x < 2 ^ 256 ∧ h = bytesOf 32 x := by
  obtain ⟨hl, hg⟩ := good_hash hh
  have := leV_lt h hg
  rw [hl] at this
  refine ⟨leV h, by simpa using this, ?_⟩
  have := bytesOf_leV h hg
  rw [hl] at this
  exact this.symm

theorem quo8 (i : Nat) (hi : i < 256) : quoI .i64 (i : Int) 8 = ((i / 8 : Nat) : Int) := by
  unfold quoI
  rw [show ((i : Int).tdiv 8) = ((i / 8 : Nat) : Int) by rw [Int.tdiv_eq_ediv_of_nonneg (by omega)]; omega]
  exact wrap_i64 (by omega) (by omega)

theorem rem8 (i : Nat) : mulI .i64 8 (remI (i : Int) 8) = ((8 * (i % 8) : Nat) : Int) := by
  unfold mulI remI
  rw [Int.tmod_eq_emod_of_nonneg (by omega), wrap_i64 (by omega) (by omega)]; omega

/-- A part is put where nothing is as yet. -/
theorem or_part {x : Nat} (w s m : Nat) (hw : w < 4) (hs : s < 64) (hx : x < 2 ^ (64 * w + s)) (hm : 2 ^ s * m < 2 ^ 64) :
    List.set (toNum x) w (orI .u64 (List.getD (toNum x) w 0) (shlI .u64 (m : Int) (s : Int))) = toNum (x + m * 2 ^ (64 * w + s)) := by
  have hx256 : x < 2 ^ 256 := Nat.lt_of_lt_of_le hx (Nat.pow_le_pow_right (by omega) (by omega))
  obtain ⟨n0, n1, n2, n3, ex, h0, h1, h2, h3⟩ := num4 (toNum_good x)
  have hv := congrArg vN ex
  rw [vN_toNum_lt hx256, vN4] at hv
  have hsh : shlI .u64 (m : Int) (s : Int) = ((2 ^ s * m : Nat) : Int) := by rw [shl_u64 _ _ (by omega), Nat.mul_comm, Nat.mod_eq_of_lt hm]
  have hp := Nat.two_pow_pos s
  have hp64 : 2 ^ s < 2 ^ 64 := Nat.pow_lt_pow_right (by omega) hs
  rw [hsh, ex, Nat.pow_add]
  rw [Nat.pow_add] at hx
  have sum : ∀ n : Nat, n < 2 ^ s → 2 ^ s * m + n < 2 ^ 64 := fun n hn => by
    have e : 2 ^ s * 2 ^ (64 - s) = 2 ^ 64 := pq s hs
    have : m < 2 ^ (64 - s) := Nat.lt_of_mul_lt_mul_left (a := 2 ^ s) (by rw [e]; exact hm)
    have := Nat.mul_le_mul_left (2 ^ s) (show m + 1 ≤ 2 ^ (64 - s) by omega)
    rw [e, Nat.mul_add, Nat.mul_one] at this
    omega
  have orr : ∀ n : Nat, n < 2 ^ s → orI .u64 (n : Int) ((2 ^ s * m : Nat) : Int) = ((2 ^ s * m + n : Nat) : Int) := fun n hn => by
    rw [orI_comm, or_u64 s m n hn (sum n hn)]
  match w, hw with
  | 0, _ =>
    have hn : n0 < 2 ^ s := by omega
    have hz := sum n0 hn
    show [orI .u64 (n0 : Int) ((2 ^ s * m : Nat) : Int), (n1 : Int), (n2 : Int), (n3 : Int)] = _
    rw [orr n0 hn, Nat.mul_zero, Nat.pow_zero, Nat.one_mul, Nat.mul_comm m]
    refine toNum_of (good4 hz h1 h2 h3) ?_
    rw [vN4, hv]
    generalize 2 ^ s * m = z at *
    omega
  | 1, _ =>
    have hn : n1 < 2 ^ s := by omega
    have hz := sum n1 hn
    show [(n0 : Int), orI .u64 (n1 : Int) ((2 ^ s * m : Nat) : Int), (n2 : Int), (n3 : Int)] = _
    rw [orr n1 hn, Nat.mul_left_comm m, Nat.mul_comm m]
    refine toNum_of (good4 h0 hz h2 h3) ?_
    rw [vN4, hv]
    generalize 2 ^ s * m = z at *
    omega
  | 2, _ =>
    have hn : n2 < 2 ^ s := by omega
    have hz := sum n2 hn
    show [(n0 : Int), (n1 : Int), orI .u64 (n2 : Int) ((2 ^ s * m : Nat) : Int), (n3 : Int)] = _
    rw [orr n2 hn, Nat.mul_left_comm m, Nat.mul_comm m]
    refine toNum_of (good4 h0 h1 hz h3) ?_
    rw [vN4, hv]
    generalize 2 ^ s * m = z at *
    omega
  | 3, _ =>
    have hn : n3 < 2 ^ s := by omega
    have hz := sum n3 hn
    show [(n0 : Int), (n1 : Int), (n2 : Int), orI .u64 (n3 : Int) ((2 ^ s * m : Nat) : Int)] = _
    rw [orr n3 hn, Nat.mul_left_comm m, Nat.mul_comm m]
    refine toNum_of (good4 h0 h1 h2 hz) ?_
    rw [vN4, hv]
    generalize 2 ^ s * m = z at *
    omega

theorem pow256 (i : Nat) : 256 ^ i = 2 ^ (8 * i) := by rw [show (256 : Nat) = 2 ^ 8 from rfl, ← Nat.pow_mul]

theorem from_loop {x : Nat} (hx : x < 2 ^ 256) (z : List Int) : ∀ j i : Nat, j + i = 32 →
    Ev2 (fun k n => whole_FromHash.l0.f k (bytesOf 32 x) z n (i : Int) (toNum (x % 256 ^ i))) (32, toNum x)
  | 0, i, h => by
    have : i = 32 := by omega
    subst this
    refine Ev2.succ (G := fun k n => some (32, toNum x)) (fun k n => ?_) (Ev2.const fun _ _ => rfl)
    simp only [whole_FromHash.l0.f, whole_FromHash.l0.go, whole_FromHash.l0.step]
    rw [decide_eq_false (by omega), Nat.mod_eq_of_lt (by omega)]; rfl
  | j + 1, i, h => by
    have ih := from_loop hx z j (i + 1) (by omega)
    have hi : i < 32 := by omega
    refine Ev2.succ (fun k n => ?_) ih
    have e64 : 8 * i = 64 * (i / 8) + 8 * (i % 8) := by omega
    have hlt : x % 256 ^ i < 2 ^ (64 * (i / 8) + 8 * (i % 8)) := by rw [← e64, ← pow256]; exact Nat.mod_lt _ (by rw [pow256]; exact Nat.two_pow_pos _)
    have hb : 2 ^ (8 * (i % 8)) * (x / 256 ^ i % 256) < 2 ^ 64 := by
      have h1 : x / 256 ^ i % 256 < 256 := Nat.mod_lt _ (by omega)
      have h2 : 2 ^ (8 * (i % 8)) ≤ 2 ^ 56 := Nat.pow_le_pow_right (by omega) (by omega)
      have := Nat.mul_lt_mul_of_le_of_lt h2 h1 (by omega)
      omega
    have hset := or_part (i / 8) (8 * (i % 8)) (x / 256 ^ i % 256) (by omega) (by omega) hlt hb
    rw [← e64, ← pow256, Nat.mul_comm (x / 256 ^ i % 256), ← Nat.mod_mul, ← Nat.pow_succ] at hset
    simp only [whole_FromHash.l0.f, whole_FromHash.l0.go, whole_FromHash.l0.step]
    rw [decide_eq_true (show (i : Int) < 32 by omega), decide_eq_true (show (0 : Int) ≤ (i : Int) by omega), quo8 i (by omega), rem8, decide_eq_true (show (0 : Int) ≤ ((i / 8 : Nat) : Int) by omega), decide_eq_true (show ((i / 8 : Nat) : Int) < 4 by omega),
      Int.toNat_natCast, Int.toNat_natCast, decide_eq_true (show i / 8 < 4 by omega), decide_eq_false (show ¬ ((8 * (i % 8) : Nat) : Int) < 0 by omega), bytesOf_getD 32 x i hi, wrap_u64 (n := ((x / 256 ^ i % 256 : Nat) : Int)) (by omega) (by omega), hset, addI_one (i := (i : Int)) (by omega) (by omega)]
    rfl

theorem from_ev {x : Nat} (hx : x < 2 ^ 256) : Ev (fun k => whole_FromHash.f k (bytesOf 32 x)) (toNum x) := by
  unfold whole_FromHash.f whole_FromHash.tree
  have h := (from_loop hx [0, 0, 0, 0] 32 0 rfl).ev
  rw [Nat.pow_zero, Nat.mod_one] at h
  exact Ev.bind h (Ev.const fun k => rfl)

theorem wrapI (x : Nat) (h : x < 2 ^ 63) : IntKind.wrap .i64 (x : Int) = (x : Int) := wrap_i64 (by omega) (by omega)
theorem subII (x y : Nat) (h : y ≤ x) (hx : x < 2 ^ 63) : subI .i64 (x : Int) (y : Int) = ((x - y : Nat) : Int) := by
  unfold subI; rw [show (x : Int) - (y : Int) = ((x - y : Nat) : Int) by omega, wrapI _ (by omega)]
theorem mulII (x y : Nat) (h : x * y < 2 ^ 63) : mulI .i64 (x : Int) (y : Int) = ((x * y : Nat) : Int) := by unfold mulI; rw [← Int.natCast_mul, wrapI _ h]
theorem quoII (x y : Nat) (h : x < 2 ^ 63) : quoI .i64 (x : Int) (y : Int) = ((x / y : Nat) : Int) := by
  unfold quoI
  rw [Int.tdiv_eq_ediv_of_nonneg (by omega), ← Int.natCast_ediv, wrapI _ (Nat.lt_of_le_of_lt (Nat.div_le_self _ _) h)]
theorem shrII (x y : Nat) (h : y ≤ 64) : shrI .i64 (x : Int) (y : Int) = ((x / 2 ^ y : Nat) : Int) := by
  unfold shrI
  simp only [IntKind.bits, Int.toNat_natCast]
  rw [Nat.min_eq_left h]
  rw [show ((2 : Int) ^ y) = ((2 ^ y : Nat) : Int) by simp, ← Int.ofNat_eq_natCast, ← Int.ofNat_eq_natCast, Int.ofNat_fdiv]
  rfl
theorem andII (n m : Nat) (hn : n < 2 ^ 63) (hm : m < 2 ^ 63) : andI .i64 (n : Int) (m : Int) = ((n &&& m : Nat) : Int) := by
  unfold andI
  show IntKind.wrap .i64 (((BitVec.ofInt 64 (n : Int) &&& BitVec.ofInt 64 (m : Int)).toNat : Nat) : Int) = _
  have e1 : (BitVec.ofInt 64 (n : Int) &&& BitVec.ofInt 64 (m : Int)).toNat = n &&& m := by
    rw [BitVec.ofInt_natCast, BitVec.ofInt_natCast, BitVec.toNat_and, BitVec.toNat_ofNat, BitVec.toNat_ofNat, Nat.mod_eq_of_lt (by omega), Nat.mod_eq_of_lt (by omega)]
  rw [e1]
  exact wrapI _ (Nat.and_lt_two_pow (x := n) hm)
theorem low23 (B : Nat) (h : B < 2 ^ 63) : andI .i64 (B : Int) 8388607 = ((B % 2 ^ 23 : Nat) : Int) := by
  have := andII B 8388607 h (by omega)
  rw [show ((8388607 : Nat) : Int) = 8388607 from rfl] at this
  rw [this, show (8388607 : Nat) = 2 ^ 23 - 1 from rfl, Nat.and_two_pow_sub_one_eq_mod]

theorem bit23 (B : Nat) (h : B < 2 ^ 63) : (andI .i64 (B : Int) 8388608 != (0 : Int)) = decide (B / 2 ^ 23 % 2 = 1) := by
  have := andII B 8388608 h (by omega)
  rw [show ((8388608 : Nat) : Int) = 8388608 from rfl] at this
  have e : B &&& 2 ^ 23 = if B.testBit 23 then 2 ^ 23 else 0 := by
    apply Nat.eq_of_testBit_eq
    intro i
    rw [Nat.testBit_and, Nat.testBit_two_pow]
    by_cases hi : 23 = i
    · subst hi
      cases hb : B.testBit 23
      · simp
      · decide
    · rw [decide_eq_false hi, Bool.and_false]
      split
      · rw [Nat.testBit_two_pow, decide_eq_false hi]
      · simp
  rw [this, show (8388608 : Nat) = 2 ^ 23 from rfl, e, Nat.testBit_eq_decide_div_mod_eq]
  cases hb : decide (B / 2 ^ 23 % 2 = 1) <;> rfl

theorem shr24 (B : Nat) : shrI .i64 (B : Int) 24 = ((B / 2 ^ 24 : Nat) : Int) := by
  have := shrII B 24 (by omega)
  rwa [show ((24 : Nat) : Int) = 24 from rfl] at this

theorem ne0 (w : Nat) : (((w : Int)) != (0 : Int)) = decide (0 < w) := by
  rw [Bool.eq_iff_iff, bne_iff_ne, decide_eq_true_iff]; omega
theorem gtC (w c : Nat) : decide ((w : Int) > (c : Int)) = decide (c < w) := by
  rw [Bool.eq_iff_iff, decide_eq_true_iff, decide_eq_true_iff]; omega

def dN (B : Nat) : Nat := if B / 2 ^ 24 ≤ 3 then B % 2 ^ 23 / 2 ^ (8 * (3 - B / 2 ^ 24)) else B % 2 ^ 23 * 2 ^ (8 * (B / 2 ^ 24 - 3)) % 2 ^ 256
def dLow (B : Nat) : Bool := decide (0 < B % 2 ^ 23) && decide (B / 2 ^ 23 % 2 = 1)
def dHigh (B : Nat) : Bool := decide (0 < B % 2 ^ 23) && (decide (34 < B / 2 ^ 24) || decide (255 < B % 2 ^ 23) && decide (33 < B / 2 ^ 24) || decide (65535 < B % 2 ^ 23) && decide (32 < B / 2 ^ 24))

theorem dN_lt (B : Nat) : dN B < 2 ^ 256 := by
  unfold dN
  split
  · have := Nat.div_le_self (B % 2 ^ 23) (2 ^ (8 * (3 - B / 2 ^ 24)))
    have := Nat.mod_lt B (show 0 < 2 ^ 23 by omega)
    omega
  · exact Nat.mod_lt _ (by omega)

theorem dec_ev (B : Nat) (hB : B < 2 ^ 32) : Ev (fun k => compact_Decode.f k (B : Int)) (toNum (dN B), dLow B, dHigh B) := by
  unfold compact_Decode.f compact_Decode.tree
  refine Ev.bind (v := true) (Ev.const fun k => ?_) ?_
  · unfold compact_Good.f compact_Good.tree
    rw [decide_eq_true (show (B : Int) ≥ 0 by omega), decide_eq_true (show (B : Int) ≤ 4294967295 by omega)]; rfl
  simp only [Bool.not_true, cond_false]
  have e1 : ∀ a b : Nat, ((a : Int) > (b : Int)) = (b < a) := fun a b => by simp
  rw [low23 B (by omega), bit23 B (by omega), shr24, wrap_u64 (n := ((B % 2 ^ 23 : Nat) : Int)) (by omega) (by omega), ne0]
  have g34 : decide (((B / 2 ^ 24 : Nat) : Int) > 34) = decide (34 < B / 2 ^ 24) := gtC _ 34
  have g33 : decide (((B / 2 ^ 24 : Nat) : Int) > 33) = decide (33 < B / 2 ^ 24) := gtC _ 33
  have g32 : decide (((B / 2 ^ 24 : Nat) : Int) > 32) = decide (32 < B / 2 ^ 24) := gtC _ 32
  have g255 : decide (((B % 2 ^ 23 : Nat) : Int) > 255) = decide (255 < B % 2 ^ 23) := gtC _ 255
  have g65 : decide (((B % 2 ^ 23 : Nat) : Int) > 65535) = decide (65535 < B % 2 ^ 23) := gtC _ 65535
  rw [g34, g33, g32, g255, g65]
  refine Ev.bind (of_ev (B % 2 ^ 23) (by omega)) ?_
  unfold dLow dHigh dN
  have hw := Nat.mod_lt B (show 0 < 2 ^ 23 by omega)
  generalize decide (0 < B % 2 ^ 23) = c0
  generalize decide (B / 2 ^ 23 % 2 = 1) = cs
  generalize decide (34 < B / 2 ^ 24) = c34
  generalize decide (33 < B / 2 ^ 24) = c33
  generalize decide (32 < B / 2 ^ 24) = c32
  generalize decide (255 < B % 2 ^ 23) = c255
  generalize decide (65535 < B % 2 ^ 23) = c65
  by_cases hs : B / 2 ^ 24 ≤ 3
  · rw [decide_eq_true (show ((B / 2 ^ 24 : Nat) : Int) ≤ 3 by omega), if_pos hs]
    simp only [cond_true]
    have e2 : mulI .i64 8 (subI .i64 3 ((B / 2 ^ 24 : Nat) : Int)) = ((8 * (3 - B / 2 ^ 24) : Nat) : Int) := by
      have h1 := subII 3 (B / 2 ^ 24) hs (by omega)
      rw [show ((3 : Nat) : Int) = 3 from rfl] at h1
      rw [h1]
      exact mulII 8 _ (by omega)
    rw [e2]
    refine Ev.bind (down_num (by omega) _) (Ev.const fun k => ?_)
    cases c0 <;> cases cs <;> cases c34 <;> cases c33 <;> cases c32 <;> cases c255 <;> cases c65 <;> rfl
  · rw [decide_eq_false (show ¬ ((B / 2 ^ 24 : Nat) : Int) ≤ 3 by omega), if_neg hs]
    simp only [cond_false]
    have e2 : mulI .i64 8 (subI .i64 ((B / 2 ^ 24 : Nat) : Int) 3) = ((8 * (B / 2 ^ 24 - 3) : Nat) : Int) := by
      have h1 := subII (B / 2 ^ 24) 3 (by omega) (by omega)
      rw [show ((3 : Nat) : Int) = 3 from rfl] at h1
      rw [h1]
      exact mulII 8 _ (by omega)
    rw [e2]
    refine Ev.bind (up_num _ _) (Ev.const fun k => ?_)
    rw [show toNum (B % 2 ^ 23 * 2 ^ (8 * (B / 2 ^ 24 - 3))) = toNum (B % 2 ^ 23 * 2 ^ (8 * (B / 2 ^ 24 - 3)) % 2 ^ 256) from toNum_congr (by rw [Nat.mod_mod])]
    cases c0 <;> cases cs <;> cases c34 <;> cases c33 <;> cases c32 <;> cases c255 <;> cases c65 <;> rfl

theorem dec_out {b : Int} (hb : b < 0 ∨ 2 ^ 32 ≤ b) : Ev (fun k => compact_Decode.f k b) (toNum 0, false, false) := by
  unfold compact_Decode.f compact_Decode.tree
  refine Ev.bind (v := false) (Ev.const fun k => ?_) (Ev.const fun k => rfl)
  unfold compact_Good.f compact_Good.tree
  rcases hb with h | h
  · rw [decide_eq_false (show ¬ b ≥ 0 by omega)]; rfl
  · rw [decide_eq_true (show b ≥ 0 by omega), decide_eq_false (show ¬ b ≤ 4294967295 by omega)]; rfl

theorem remII (x y : Nat) : remI (x : Int) (y : Int) = ((x % y : Nat) : Int) := remU x y

theorem refdec_ev (B : Nat) (hB : B < 2 ^ 32) : Ev (fun k => trailheadref03_Decode.f k (B : Int)) (toNum (dN B), dLow B, dHigh B) := by
  unfold trailheadref03_Decode.f trailheadref03_Decode.tree
  rw [decide_eq_false (show ¬ (B : Int) < 0 by omega), decide_eq_false (show ¬ (B : Int) > 4294967295 by omega)]
  simp only [cond_false]
  have r23 : remI (B : Int) 8388608 = ((B % 2 ^ 23 : Nat) : Int) := remII B 8388608
  have q24 : quoI .i64 (B : Int) 16777216 = ((B / 2 ^ 24 : Nat) : Int) := quoII B 16777216 (by omega)
  have q23 : quoI .i64 (B : Int) 8388608 = ((B / 2 ^ 23 : Nat) : Int) := quoII B 8388608 (by omega)
  have sg : (remI ((B / 2 ^ 23 : Nat) : Int) 2 == (1 : Int)) = decide (B / 2 ^ 23 % 2 = 1) := by
    have := remII (B / 2 ^ 23) 2
    rw [show ((2 : Nat) : Int) = 2 from rfl] at this
    rw [this, Bool.eq_iff_iff, beq_iff_eq, decide_eq_true_iff]; omega
  have g34 : decide (((B / 2 ^ 24 : Nat) : Int) > 34) = decide (34 < B / 2 ^ 24) := gtC _ 34
  have g33 : decide (((B / 2 ^ 24 : Nat) : Int) > 33) = decide (33 < B / 2 ^ 24) := gtC _ 33
  have g32 : decide (((B / 2 ^ 24 : Nat) : Int) > 32) = decide (32 < B / 2 ^ 24) := gtC _ 32
  have g0 : decide (((B % 2 ^ 23 : Nat) : Int) > 0) = decide (0 < B % 2 ^ 23) := gtC _ 0
  have g255 : decide (((B % 2 ^ 23 : Nat) : Int) > 255) = decide (255 < B % 2 ^ 23) := gtC _ 255
  have g65 : decide (((B % 2 ^ 23 : Nat) : Int) > 65535) = decide (65535 < B % 2 ^ 23) := gtC _ 65535
  rw [r23, q24, q23, sg, g34, g33, g32, g0, g255, g65, wrap_u64 (n := ((B % 2 ^ 23 : Nat) : Int)) (by omega) (by omega), ofNum _ (show B % 2 ^ 23 < 2 ^ 64 by omega)]
  unfold dLow dHigh dN
  have hw := Nat.mod_lt B (show 0 < 2 ^ 23 by omega)
  have c1 : (decide (34 < B / 2 ^ 24) = true → decide (33 < B / 2 ^ 24) = true) := by simp only [decide_eq_true_eq]; omega
  have c2 : (decide (255 < B % 2 ^ 23) = true → decide (0 < B % 2 ^ 23) = true) := by simp only [decide_eq_true_eq]; omega
  have c3 : (decide (65535 < B % 2 ^ 23) = true → decide (255 < B % 2 ^ 23) = true) := by simp only [decide_eq_true_eq]; omega
  generalize decide (0 < B % 2 ^ 23) = c0 at *
  generalize decide (B / 2 ^ 23 % 2 = 1) = cs
  generalize decide (34 < B / 2 ^ 24) = c34 at *
  generalize decide (33 < B / 2 ^ 24) = c33 at *
  generalize decide (32 < B / 2 ^ 24) = c32
  generalize decide (255 < B % 2 ^ 23) = c255 at *
  generalize decide (65535 < B % 2 ^ 23) = c65 at *
  by_cases hs : B / 2 ^ 24 ≤ 3
  · rw [if_pos hs]
    have e2 : mulI .i64 8 (subI .i64 ((B / 2 ^ 24 : Nat) : Int) 3) = -((8 * (3 - B / 2 ^ 24) : Nat) : Int) := by
      unfold mulI subI
      rw [wrap_i64 (n := ((B / 2 ^ 24 : Nat) : Int) - 3) (by omega) (by omega), wrap_i64 (by omega) (by omega)]; omega
    rw [e2]
    refine Ev.bind (movedown_num (by omega) _) (Ev.const fun k => ?_)
    cases c0 <;> cases cs <;> cases c34 <;> cases c33 <;> cases c32 <;> cases c255 <;> cases c65 <;> first | rfl | simp at c1 c2 c3
  · rw [if_neg hs]
    have e2 : mulI .i64 8 (subI .i64 ((B / 2 ^ 24 : Nat) : Int) 3) = ((8 * (B / 2 ^ 24 - 3) : Nat) : Int) := by
      have h1 := subII (B / 2 ^ 24) 3 (by omega) (by omega)
      rw [show ((3 : Nat) : Int) = 3 from rfl] at h1
      rw [h1]
      exact mulII 8 _ (by omega)
    rw [e2]
    refine Ev.bind (moveup_num _ _) (Ev.const fun k => ?_)
    rw [show toNum (B % 2 ^ 23 * 2 ^ (8 * (B / 2 ^ 24 - 3))) = toNum (B % 2 ^ 23 * 2 ^ (8 * (B / 2 ^ 24 - 3)) % 2 ^ 256) from toNum_congr (by rw [Nat.mod_mod])]
    cases c0 <;> cases cs <;> cases c34 <;> cases c33 <;> cases c32 <;> cases c255 <;> cases c65 <;> first | rfl | simp at c1 c2 c3

theorem refdec_out {b : Int} (hb : b < 0 ∨ 2 ^ 32 ≤ b) : Ev (fun k => trailheadref03_Decode.f k b) (toNum 0, false, false) := by
  refine Ev.const fun k => ?_
  unfold trailheadref03_Decode.f trailheadref03_Decode.tree
  rcases hb with h | h
  · rw [decide_eq_true h]; rfl
  · rw [decide_eq_false (show ¬ b < 0 by omega), decide_eq_true (show b > 4294967295 by omega)]; rfl

/-- Decode of any number. -/
def dAll (b : Int) : Nat × Bool × Bool := if 0 ≤ b ∧ b < 2 ^ 32 then (dN b.toNat, dLow b.toNat, dHigh b.toNat) else (0, false, false)

theorem dAll_lt (b : Int) : (dAll b).1 < 2 ^ 256 := by
  unfold dAll; split
  · exact dN_lt _
  · simp

theorem dAll_nat (B : Nat) (h : B < 2 ^ 32) : dAll (B : Int) = (dN B, dLow B, dHigh B) := by
  unfold dAll; rw [if_pos (by omega)]; simp

theorem decA (b : Int) : Ev (fun k => compact_Decode.f k b) (toNum (dAll b).1, (dAll b).2.1, (dAll b).2.2) := by
  by_cases h : 0 ≤ b ∧ b < 2 ^ 32
  · obtain ⟨B, rfl⟩ : ∃ B : Nat, b = (B : Int) := ⟨b.toNat, by omega⟩
    rw [dAll_nat B (by omega)]; exact dec_ev B (by omega)
  · have := dec_out (b := b) (by omega)
    unfold dAll; rw [if_neg h]; exact this

theorem refdecA (b : Int) : Ev (fun k => trailheadref03_Decode.f k b) (toNum (dAll b).1, (dAll b).2.1, (dAll b).2.2) := by
  by_cases h : 0 ≤ b ∧ b < 2 ^ 32
  · obtain ⟨B, rfl⟩ : ∃ B : Nat, b = (B : Int) := ⟨b.toNat, by omega⟩
    rw [dAll_nat B (by omega)]; exact refdec_ev B (by omega)
  · have := refdec_out (b := b) (by omega)
    unfold dAll; rw [if_neg h]; exact this

def bl (x : Nat) : Nat := if x = 0 then 0 else Nat.log2 x + 1

def ex (x : Nat) : Nat := 8 * (bl x / 8 - 2)

theorem number_loop {x : Nat} (hx : x < 2 ^ 256) (z : List Int) : ∀ i : Nat, i ≤ 32 →
    Ev2 (fun k n => trailheadref03_Number.l0.f k (bytesOf 32 x) z n ((i : Int) - 1) (toNum (x / 256 ^ i))) (-1, toNum x)
  | 0, _ => by
    refine Ev2.succ (G := fun k n => some (-1, toNum x)) (fun k n => ?_) (Ev2.const fun _ _ => rfl)
    simp only [trailheadref03_Number.l0.f, trailheadref03_Number.l0.go, trailheadref03_Number.l0.step]
    rw [decide_eq_false (by omega), Nat.pow_zero, Nat.div_one]; rfl
  | i + 1, hi => by
    have ih := number_loop hx z i (by omega)
    have e1 : ((i + 1 : Nat) : Int) - 1 = (i : Int) := by omega
    refine Ev2.succ (G := fun k n => Option.bind (trailheadref02_Move.f k (toNum (x / 256 ^ (i + 1))) 8) (fun r1 =>
      trailheadref03_Number.l0.f k (bytesOf 32 x) z n ((i : Int) - 1) (List.set r1 0 (addI .u64 (List.getD r1 0 0) ((x / 256 ^ i % 256 : Nat) : Int))))) (fun k n => ?_) ?_
    · simp only [trailheadref03_Number.l0.f, trailheadref03_Number.l0.go, trailheadref03_Number.l0.step, e1]
      rw [decide_eq_true (show (i : Int) ≥ 0 by omega), decide_eq_true (show (i : Int) < 32 by omega), Int.toNat_natCast, decide_eq_true (show i < 32 by omega), subI_one (i := (i : Int)) (by omega) (by omega), bytesOf_getD 32 x i (by omega),
        wrap_u64 (n := ((x / 256 ^ i % 256 : Nat) : Int)) (by omega) (by omega)]
      rfl
    refine Ev2.bind (moveup_num _ 8) ?_
    have ex : x / 256 ^ (i + 1) * 2 ^ 8 + x / 256 ^ i % 256 = x / 256 ^ i := by
      rw [Nat.pow_succ, ← Nat.div_div_eq_div_mul]; omega
    have hle := Nat.div_le_self x (256 ^ i)
    have e2 : ∀ y b : Nat, b < 256 → List.set (toNum (y * 2 ^ 8)) 0 (addI .u64 (List.getD (toNum (y * 2 ^ 8)) 0 0) (b : Int)) = toNum (y * 2 ^ 8 + b) := fun y b hb' => by
      rw [getN0, add_u64 _ _ (by omega)]
      show [((y * 2 ^ 8 % 2 ^ 64 + b : Nat) : Int), ((y * 2 ^ 8 / 2 ^ 64 % 2 ^ 64 : Nat) : Int), ((y * 2 ^ 8 / 2 ^ 128 % 2 ^ 64 : Nat) : Int), ((y * 2 ^ 8 / 2 ^ 192 % 2 ^ 64 : Nat) : Int)] = _
      refine toNum_of (good4 (by omega) (Nat.mod_lt _ (by omega)) (Nat.mod_lt _ (by omega)) (Nat.mod_lt _ (by omega))) ?_
      rw [vN4]; omega
    rw [e2 _ _ (Nat.mod_lt _ (by omega)), ex]
    exact ih

theorem number_ev {x : Nat} (hx : x < 2 ^ 256) : Ev (fun k => trailheadref03_Number.f k (bytesOf 32 x)) (toNum x) := by
  unfold trailheadref03_Number.f trailheadref03_Number.tree
  have h := (number_loop hx [0, 0, 0, 0] 32 (by omega)).ev
  rw [Nat.div_eq_of_lt (by omega)] at h
  exact Ev.bind h (Ev.const fun k => rfl)

theorem meets_ev {x a : Nat} (hx : x < 2 ^ 256) (ha : a < 2 ^ 256) : Ev (fun k => compact_Meets.f k (bytesOf 32 x) (toNum a)) (!decide (a < x)) := by
  unfold compact_Meets.f compact_Meets.tree
  exact Ev.bind (from_ev hx) (Ev.bind (less_num ha hx) (Ev.const fun k => rfl))

end Go.Proofs.YtnnajeoeeefjaaaDoor.Sy.O
