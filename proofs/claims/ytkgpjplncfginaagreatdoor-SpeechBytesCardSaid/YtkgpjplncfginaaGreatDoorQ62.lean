/- The document's digest of a block; the bytes of a state. -/
import Derived.Test.YtkgpjplncfginaaGreatDoorQ61
namespace Go.Proofs.YtkgpjplncfginaaGreatDoor.Sy
open Go
set_option linter.unusedVariables false
set_option linter.unusedSimpArgs false

theorem set_set (l : List Int) (i : Nat) (a b : Int) : (l.set i a).set i b = l.set i b := by simp

theorem rof4_step {X : Type} (K : Int → List Int → Option X) (k : Nat) (p : List Int) (at_ i : Nat) (y0 y1 : List Int) (hi : i < 16) (ha : at_ + 64 ≤ p.length) (hp : p.length ≤ 1000000000) (n j : Nat) (w : List Int) (hj : j < 4) :
    trailheadref01_Of.l4.go K k p (at_ : Int) (i : Int) y0 y1 (n + 1) (j : Int) w = trailheadref01_Of.l4.go K k p (at_ : Int) (i : Int) y0 y1 n ((j + 1 : Nat) : Int) (w.set i (addI .u32 (mulI .u32 (w.getD i 0) 256) (IntKind.wrap .u32 (p.getD (at_ + (4 * i + j)) 0)))) := by
  show trailheadref01_Of.l4.step K (trailheadref01_Of.l4.go K k p (at_ : Int) (i : Int) y0 y1 n) k p (at_ : Int) (i : Int) y0 y1 (j : Int) w = _
  unfold trailheadref01_Of.l4.step
  have m4 : mulI .i64 4 (i : Int) = ((4 * i : Nat) : Int) := by rw [mul_id (by omega) (by omega)]; omega
  have a1 : addI .i64 (at_ : Int) ((4 * i : Nat) : Int) = ((at_ + 4 * i : Nat) : Int) := by rw [add_id (by omega) (by omega)]; omega
  have a2 : addI .i64 ((at_ + 4 * i : Nat) : Int) (j : Int) = ((at_ + (4 * i + j) : Nat) : Int) := by rw [add_id (by omega) (by omega)]; omega
  have e1 : addI .i64 (j : Int) 1 = ((j + 1 : Nat) : Int) := add_id (by omega) (by omega)
  simp only [m4, a1, a2, e1, Int.toNat_natCast]
  repeat rw [dt (by omega), cond_true]
  rfl

theorem u32_step {a b : Int} (ha : 0 ≤ a) (ha' : a < 16777216) (hb : 0 ≤ b ∧ b < 256) : addI .u32 (mulI .u32 a 256) (IntKind.wrap .u32 b) = a * 256 + b := by
  rw [wrap_w32 (n := b) ⟨by omega, by omega⟩]
  have : mulI .u32 a 256 = a * 256 := wrap_w32 ⟨by omega, by omega⟩
  rw [this]
  exact wrap_w32 ⟨by omega, by omega⟩

theorem getD_drop_take (p : List Int) (a j : Nat) (hj : j < 64) (d : Int) : ((p.drop a).take 64).getD j d = p.getD (a + j) d := by
  rw [List.getD_eq_getElem?_getD, List.getElem?_take_of_lt hj, List.getElem?_drop, List.getD_eq_getElem?_getD]

theorem rof4_eq (k : Nat) (p : List Int) (at_ i : Nat) (y0 y1 : List Int) (hb : byteL p) (hi : i < 16) (ha : at_ + 64 ≤ p.length) (hp : p.length ≤ 1000000000) (n : Nat) (hn : 10 < n) (w : List Int) (hw : w.length = 64) (h0 : w.getD i 0 = 0) :
    trailheadref01_Of.l4.f k p (at_ : Int) (i : Int) y0 y1 n 0 w = some (4, w.set i (be ((p.drop at_).take 64) i)) := by
  obtain ⟨n, rfl⟩ : ∃ q, n = q + 5 := ⟨n - 5, by omega⟩
  have b0 := getD_byte hb (at_ + (4 * i + 0))
  have b1 := getD_byte hb (at_ + (4 * i + 1))
  have b2 := getD_byte hb (at_ + (4 * i + 2))
  have b3 := getD_byte hb (at_ + (4 * i + 3))
  have S := fun n j w hj => rof4_step (fun x8 y800002 => some (x8, y800002)) k p at_ i y0 y1 hi ha hp n j w hj
  unfold trailheadref01_Of.l4.f
  have S0 := S (n + 4) 0 w (by omega)
  rw [show ((0 : Nat) : Int) = 0 from rfl] at S0
  rw [S0, S (n + 3) 1 _ (by omega), S (n + 2) 2 _ (by omega), S (n + 1) 3 _ (by omega)]
  have gs (a : Int) : (w.set i a).getD i 0 = a := by rw [getD_set, if_pos ⟨rfl, by omega⟩]
  simp only [set_set, gs, h0]
  rw [u32_step (by omega) (by omega) b0, u32_step (by omega) (by omega) b1, u32_step (by omega) (by omega) b2, u32_step (by omega) (by omega) b3]
  unfold trailheadref01_Of.l4.go trailheadref01_Of.l4.step
  rw [df (by omega), cond_false]
  unfold be
  rw [getD_drop_take _ _ _ (by omega), getD_drop_take _ _ _ (by omega), getD_drop_take _ _ _ (by omega), getD_drop_take _ _ _ (by omega)]
  have e0 : at_ + 4 * i = at_ + (4 * i + 0) := by omega
  rw [e0, Int.zero_mul, Int.zero_add]
  rfl

theorem rof2_eq (k : Nat) (p : List Int) (at_ : Nat) (y0 y1 : List Int) (hk : 10 < k) (hb : byteL p) (ha : at_ + 64 ≤ p.length) (hp : p.length ≤ 1000000000) : ∀ (d n i : Nat) (w : List Int), i + d = 16 → d < n → w.length = 64 → (∀ j, i ≤ j → w.getD j 0 = 0) →
    trailheadref01_Of.l2.f k p (at_ : Int) y0 y1 n (i : Int) w = some (16, ld ((p.drop at_).take 64) d i w) := by
  intro d
  induction d with
  | zero =>
    intro n i w hi hn hw h0
    obtain ⟨n, rfl⟩ : ∃ q, n = q + 1 := ⟨n - 1, by omega⟩
    unfold trailheadref01_Of.l2.f trailheadref01_Of.l2.go trailheadref01_Of.l2.step
    have : i = 16 := by omega
    subst this
    rw [df (by omega)]
    rfl
  | succ d ih =>
    intro n i w hi hn hw h0
    obtain ⟨n, rfl⟩ : ∃ q, n = q + 1 := ⟨n - 1, by omega⟩
    have ih' := ih n (i + 1) (w.set i (be ((p.drop at_).take 64) i)) (by omega) (by omega) (by simpa using hw) (fun j hj => by rw [getD_set, if_neg (by omega)]; exact h0 j (by omega))
    unfold trailheadref01_Of.l2.f at ih' ⊢
    unfold trailheadref01_Of.l2.go trailheadref01_Of.l2.step
    have e1 : addI .i64 (i : Int) 1 = ((i + 1 : Nat) : Int) := add_id (by omega) (by omega)
    rw [dt (by omega), cond_true, rof4_eq k p at_ i y0 y1 hb (by omega) ha hp k hk w hw (h0 i (Nat.le_refl _)), Option.bind_some, e1]
    exact ih'

theorem quo8 {x : Int} (h : w32 x) : quoI .u32 x 8 = x / 8 := by
  unfold w32 at h
  unfold quoI
  rw [Int.tdiv_eq_ediv_of_nonneg h.1]
  exact wrap_w32 ⟨by omega, by omega⟩
theorem quo1024 {x : Int} (h : w32 x) : quoI .u32 x 1024 = x / 1024 := by
  unfold w32 at h
  unfold quoI
  rw [Int.tdiv_eq_ediv_of_nonneg h.1]
  exact wrap_w32 ⟨by omega, by omega⟩

theorem rof6_eq (k : Nat) (p : List Int) (at_ : Int) (y0 y1 : List Int) : ∀ (d n i : Nat) (w : List Int), i + d = 64 → 16 ≤ i → d < n → okW w →
    trailheadref01_Of.l6.f k p at_ y0 y1 n (i : Int) w = some (64, ext d i w) := by
  intro d
  induction d with
  | zero =>
    intro n i w hi h16 hn hw
    obtain ⟨n, rfl⟩ : ∃ q, n = q + 1 := ⟨n - 1, by omega⟩
    unfold trailheadref01_Of.l6.f trailheadref01_Of.l6.go trailheadref01_Of.l6.step
    have : i = 64 := by omega
    subst this
    rw [df (by omega)]
    rfl
  | succ d ih =>
    intro n i w hi h16 hn hw
    obtain ⟨n, rfl⟩ : ∃ q, n = q + 1 := ⟨n - 1, by omega⟩
    have ih' := ih n (i + 1) (w.set i (newW w i)) (by omega) (by omega) (by omega) (okW_set hw i (w32_add _ _))
    unfold trailheadref01_Of.l6.f at ih' ⊢
    unfold trailheadref01_Of.l6.go trailheadref01_Of.l6.step
    have s15 : subI .i64 (i : Int) 15 = ((i - 15 : Nat) : Int) := by rw [sub_id (by omega) (by omega)]; omega
    have s2 : subI .i64 (i : Int) 2 = ((i - 2 : Nat) : Int) := by rw [sub_id (by omega) (by omega)]; omega
    have s16 : subI .i64 (i : Int) 16 = ((i - 16 : Nat) : Int) := by rw [sub_id (by omega) (by omega)]; omega
    have s7 : subI .i64 (i : Int) 7 = ((i - 7 : Nat) : Int) := by rw [sub_id (by omega) (by omega)]; omega
    have e1 : addI .i64 (i : Int) 1 = ((i + 1 : Nat) : Int) := add_id (by omega) (by omega)
    have r7 := right_eq k (w.getD (i - 15) 0) 7 (hw _) (by omega)
    have r18 := right_eq k (w.getD (i - 15) 0) 18 (hw _) (by omega)
    have r17 := right_eq k (w.getD (i - 2) 0) 17 (hw _) (by omega)
    have r19 := right_eq k (w.getD (i - 2) 0) 19 (hw _) (by omega)
    rw [show ((7 : Nat) : Int) = 7 from rfl] at r7
    rw [show ((18 : Nat) : Int) = 18 from rfl] at r18
    rw [show ((17 : Nat) : Int) = 17 from rfl] at r17
    rw [show ((19 : Nat) : Int) = 19 from rfl] at r19
    simp only [s15, s2, s16, s7, e1, Int.toNat_natCast, r7, r18, r17, r19, Option.bind_some, quo8 (hw _), quo1024 (hw _)]
    repeat rw [dt (by omega), cond_true]
    exact ih'

theorem rk_eq (k i : Nat) (hi : i < 64) : trailheadref01_k.f k (i : Int) = some (K64.getD i 0) := by
  unfold trailheadref01_k.f trailheadref01_k.tree
  rw [dt (by omega), dt (by omega), cond_true, cond_true, Int.toNat_natCast]
  rfl

theorem rof8_eq (k : Nat) (p : List Int) (at_ : Int) (y0 y1 w : List Int) : ∀ (d n i : Nat) (s : List Int), i + d = 64 → d < n → okW s →
    trailheadref01_Of.l8.f k p at_ y0 y1 w n (i : Int) s = some (64, rnds w d i s) := by
  intro d
  induction d with
  | zero =>
    intro n i s hi hn hs
    obtain ⟨n, rfl⟩ : ∃ q, n = q + 1 := ⟨n - 1, by omega⟩
    unfold trailheadref01_Of.l8.f trailheadref01_Of.l8.go trailheadref01_Of.l8.step
    have : i = 64 := by omega
    subst this
    rw [df (by omega)]
    rfl
  | succ d ih =>
    intro n i s hi hn hs
    obtain ⟨n, rfl⟩ : ∃ q, n = q + 1 := ⟨n - 1, by omega⟩
    have ih' := ih n (i + 1) (rnd s (K64.getD i 0) (w.getD i 0)) (by omega) (by omega) (okW_rnd hs _ _)
    unfold trailheadref01_Of.l8.f at ih' ⊢
    unfold trailheadref01_Of.l8.go trailheadref01_Of.l8.step
    have e1 : addI .i64 (i : Int) 1 = ((i + 1 : Nat) : Int) := add_id (by omega) (by omega)
    have r6 := right_eq k (s.getD 4 0) 6 (hs _) (by omega)
    have r11 := right_eq k (s.getD 4 0) 11 (hs _) (by omega)
    have r25 := right_eq k (s.getD 4 0) 25 (hs _) (by omega)
    have r2 := right_eq k (s.getD 0 0) 2 (hs _) (by omega)
    have r13 := right_eq k (s.getD 0 0) 13 (hs _) (by omega)
    have r22 := right_eq k (s.getD 0 0) 22 (hs _) (by omega)
    rw [show ((6 : Nat) : Int) = 6 from rfl] at r6
    rw [show ((11 : Nat) : Int) = 11 from rfl] at r11
    rw [show ((25 : Nat) : Int) = 25 from rfl] at r25
    rw [show ((2 : Nat) : Int) = 2 from rfl] at r2
    rw [show ((13 : Nat) : Int) = 13 from rfl] at r13
    rw [show ((22 : Nat) : Int) = 22 from rfl] at r22
    simp only [e1, Int.toNat_natCast, r6, r11, r25, r2, r13, r22, rk_eq k i (by omega), Option.bind_some]
    repeat rw [dt (by omega), cond_true]
    exact ih'

theorem rof10_eq (k : Nat) (p : List Int) (at_ : Int) (y0 s : List Int) : ∀ (d n i : Nat) (h : List Int), i + d = 8 → d < n →
    trailheadref01_Of.l10.f k p at_ y0 s n (i : Int) h = some (8, add8 s d i h) := by
  intro d
  induction d with
  | zero =>
    intro n i h hi hn
    obtain ⟨n, rfl⟩ : ∃ q, n = q + 1 := ⟨n - 1, by omega⟩
    unfold trailheadref01_Of.l10.f trailheadref01_Of.l10.go trailheadref01_Of.l10.step
    have : i = 8 := by omega
    subst this
    rw [df (by omega)]
    rfl
  | succ d ih =>
    intro n i h hi hn
    obtain ⟨n, rfl⟩ : ∃ q, n = q + 1 := ⟨n - 1, by omega⟩
    have ih' := ih n (i + 1) (h.set i (addI .u32 (h.getD i 0) (s.getD i 0))) (by omega) (by omega)
    unfold trailheadref01_Of.l10.f at ih' ⊢
    unfold trailheadref01_Of.l10.go trailheadref01_Of.l10.step
    have e1 : addI .i64 (i : Int) 1 = ((i + 1 : Nat) : Int) := add_id (by omega) (by omega)
    simp only [e1, Int.toNat_natCast]
    repeat rw [dt (by omega), cond_true]
    exact ih'

/-- A state, behind so many blocks. -/
def proc : Nat → List Int → List Int → List Int
  | 0, h, _ => h
  | n + 1, h, p => proc n (comp h (p.take 64)) (p.drop 64)

theorem okW_proc : ∀ (n : Nat) (h p : List Int), okW h → okW (proc n h p)
  | 0, _, _, h => h
  | n + 1, h, p, hh => okW_proc n _ _ (okW_comp hh)
theorem len_proc : ∀ (n : Nat) (h p : List Int), (proc n h p).length = h.length
  | 0, _, _ => rfl
  | n + 1, h, p => by rw [proc, len_proc n, len_comp]

theorem rof0_eq (k : Nat) (p : List Int) (y0 : List Int) (hk : 100 < k) (hb : byteL p) (hp : p.length ≤ 1000000000) : ∀ (d n at_ : Nat) (h : List Int), at_ + 64 * d = p.length → d < n → okW h →
    trailheadref01_Of.l0.f k p y0 n (at_ : Int) h = some ((p.length : Int), proc d h (p.drop at_)) := by
  intro d
  induction d with
  | zero =>
    intro n at_ h ha hn hh
    obtain ⟨n, rfl⟩ : ∃ q, n = q + 1 := ⟨n - 1, by omega⟩
    unfold trailheadref01_Of.l0.f trailheadref01_Of.l0.go trailheadref01_Of.l0.step
    have : at_ = p.length := by omega
    subst this
    rw [df (by omega)]
    rfl
  | succ d ih =>
    intro n at_ h ha hn hh
    obtain ⟨n, rfl⟩ : ∃ q, n = q + 1 := ⟨n - 1, by omega⟩
    have ih' := ih n (at_ + 64) (comp h ((p.drop at_).take 64)) (by omega) (by omega) (okW_comp hh)
    have hbb := byteL_take 64 (byteL_drop at_ hb)
    have q0 := rof2_eq k p at_ y0 h (by omega) hb (by omega) hp 16 k 0 z64 (by omega) (by omega) rfl (fun j _ => by
      rw [List.getD_eq_getElem?_getD]
      cases hz : z64[j]? with
      | none => rfl
      | some y =>
        have := List.mem_of_getElem? hz
        have : y = 0 := by simpa using this
        subst this; rfl)
    have q1 := rof6_eq k p at_ y0 h 48 k 16 (ld ((p.drop at_).take 64) 16 0 z64) (by omega) (by omega) (by omega) (okW_ld hbb _ _ _ okW_z64)
    have q2 := rof8_eq k p at_ y0 h (ext 48 16 (ld ((p.drop at_).take 64) 16 0 z64)) 64 k 0 h (by omega) (by omega) hh
    have q3 := rof10_eq k p at_ y0 (rnds (ext 48 16 (ld ((p.drop at_).take 64) 16 0 z64)) 64 0 h) 8 k 0 h (by omega) (by omega)
    rw [show ((0 : Nat) : Int) = 0 from rfl] at q0 q2 q3
    rw [show ((16 : Nat) : Int) = 16 from rfl] at q1
    unfold trailheadref01_Of.l0.f at ih' ⊢
    unfold trailheadref01_Of.l0.go trailheadref01_Of.l0.step
    have e1 : addI .i64 (at_ : Int) 64 = ((at_ + 64 : Nat) : Int) := add_id (by omega) (by omega)
    rw [dt (by omega), cond_true, q0, Option.bind_some, q1, Option.bind_some, q2, Option.bind_some, q3, Option.bind_some, e1]
    rw [proc, List.drop_drop]
    exact ih'

/-! ### The bytes of a state -/

def byteAt (h : List Int) (i : Nat) : Int := h.getD (i / 4) 0 / 256 ^ (3 - i % 4) % 256
def outB (h : List Int) : Nat → Nat → List Int → List Int
  | 0, _, o => o
  | d + 1, i, o => outB h d (i + 1) (o.set i (byteAt h i))

abbrev z32 : List Int := [0, 0, 0, 0, 0, 0, 0, 0, 0, 0, 0, 0, 0, 0, 0, 0, 0, 0, 0, 0, 0, 0, 0, 0, 0, 0, 0, 0, 0, 0, 0, 0]
/-- A state's bytes. -/
def outS (h : List Int) : List Int := outB h 32 0 z32

theorem len_outB (h : List Int) : ∀ (d i : Nat) (o : List Int), (outB h d i o).length = o.length
  | 0, _, _ => rfl
  | d + 1, i, o => by rw [outB, len_outB h d]; simp
theorem byteL_set {l : List Int} (h : byteL l) (i : Nat) {a : Int} (ha : 0 ≤ a ∧ a < 256) : byteL (l.set i a) := by
  intro y hy
  rcases List.mem_or_eq_of_mem_set hy with h1 | h1
  · exact h y h1
  · subst h1; exact ha
theorem byteL_outB (h : List Int) : ∀ (d i : Nat) (o : List Int), byteL o → byteL (outB h d i o)
  | 0, _, _, ho => ho
  | d + 1, i, o, ho => byteL_outB h d (i + 1) _ (byteL_set ho i (by unfold byteAt; omega))
theorem byteL_z32 : byteL z32 := by intro y hy; have : y = 0 := by simpa using hy
                                    omega
theorem outS_length (h : List Int) : (outS h).length = 32 := len_outB h 32 0 z32
theorem outS_byteL (h : List Int) : byteL (outS h) := byteL_outB h 32 0 z32 byteL_z32

theorem shr_u32 (x : Int) (e : Nat) (he : e ≤ 3) : shrI .u32 x ((8 * e : Nat) : Int) = x / 256 ^ e := by
  rw [shr32 x (8 * e) (by omega), Int.pow_mul]; rfl

theorem rof12_eq (k : Nat) (y0 h : List Int) (hh : okW h) : ∀ (d n i : Nat) (o : List Int), i + d = 32 → d < n →
    trailheadref01_Of.l12.f k y0 h n (i : Int) o = some (32, outB h d i o) := by
  intro d
  induction d with
  | zero =>
    intro n i o hi hn
    obtain ⟨n, rfl⟩ : ∃ q, n = q + 1 := ⟨n - 1, by omega⟩
    unfold trailheadref01_Of.l12.f trailheadref01_Of.l12.go trailheadref01_Of.l12.step
    have : i = 32 := by omega
    subst this
    rw [df (by omega)]
    rfl
  | succ d ih =>
    intro n i o hi hn
    obtain ⟨n, rfl⟩ : ∃ q, n = q + 1 := ⟨n - 1, by omega⟩
    have ih' := ih n (i + 1) (o.set i (byteAt h i)) (by omega) (by omega)
    unfold trailheadref01_Of.l12.f at ih' ⊢
    unfold trailheadref01_Of.l12.go trailheadref01_Of.l12.step
    have q4 : quoI .i64 (i : Int) 4 = ((i / 4 : Nat) : Int) := by
      unfold quoI; rw [Int.tdiv_eq_ediv_of_nonneg (by omega), i64_id (by omega) (by omega)]; omega
    have r4 : remI (i : Int) 4 = ((i % 4 : Nat) : Int) := by
      unfold remI; rw [Int.tmod_eq_emod_of_nonneg (by omega)]; omega
    have m8 : mulI .i64 8 ((i % 4 : Nat) : Int) = ((8 * (i % 4) : Nat) : Int) := by rw [mul_id (by omega) (by omega)]; omega
    have s24 : IntKind.wrap .u64 (subI .i64 24 ((8 * (i % 4) : Nat) : Int)) = ((8 * (3 - i % 4) : Nat) : Int) := by rw [sub_id (by omega) (by omega), w_u64]; omega
    have e1 : addI .i64 (i : Int) 1 = ((i + 1 : Nat) : Int) := add_id (by omega) (by omega)
    simp only [q4, r4, m8, s24, e1, Int.toNat_natCast]
    have hx := hh (i / 4)
    unfold w32 at hx
    have hd : 0 ≤ h.getD (i / 4) 0 / 256 ^ (3 - i % 4) := Int.ediv_nonneg hx.1 (Int.le_of_lt (Int.pow_pos (by omega)))
    have hv : IntKind.wrap .u8 (remI (shrI .u32 (h.getD (i / 4) 0) ((8 * (3 - i % 4) : Nat) : Int)) 256) = byteAt h i := by
      rw [shr_u32 _ _ (by omega), IntKind.wrap_u8]
      unfold remI byteAt
      rw [Int.tmod_eq_emod_of_nonneg hd]; omega
    rw [hv]
    rw [dt (by omega), cond_true, dt (by omega), cond_true, dt (by omega), cond_true, dt (by omega), cond_true, df (by omega), cond_false]
    repeat rw [dt (by omega), cond_true]
    exact ih'

end Go.Proofs.YtkgpjplncfginaaGreatDoor.Sy
