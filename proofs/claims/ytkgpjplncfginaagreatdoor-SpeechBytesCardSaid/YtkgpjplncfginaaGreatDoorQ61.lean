/- The digest's block: what 'take' does to a state. -/
import Derived.Test.YtkgpjplncfginaaGreatDoorQ60
namespace Go.Proofs.YtkgpjplncfginaaGreatDoor.Sy
open Go
set_option linter.unusedVariables false
set_option linter.unusedSimpArgs false

def K64 : List Int := [1116352408, 1899447441, 3049323471, 3921009573, 961987163, 1508970993, 2453635748, 2870763221, 3624381080, 310598401, 607225278, 1426881987, 1925078388, 2162078206, 2614888103, 3248222580, 3835390401, 4022224774, 264347078, 604807628, 770255983, 1249150122, 1555081692, 1996064986, 2554220882, 2821834349, 2952996808, 3210313671, 3336571891, 3584528711, 113926993, 338241895, 666307205, 773529912, 1294757372, 1396182291, 1695183700, 1986661051, 2177026350, 2456956037, 2730485921, 2820302411, 3259730800, 3345764771, 3516065817, 3600352804, 4094571909, 275423344, 430227734, 506948616, 659060556, 883997877, 958139571, 1322822218, 1537002063, 1747873779, 1955562222, 2024104815, 2227730452, 2361852424, 2428436474, 2756734187, 3204031479, 3329325298]
def H8 : List Int := [1779033703, 3144134277, 1013904242, 2773480762, 1359893119, 2600822924, 528734635, 1541459225]
abbrev z64 : List Int := [0, 0, 0, 0, 0, 0, 0, 0, 0, 0, 0, 0, 0, 0, 0, 0, 0, 0, 0, 0, 0, 0, 0, 0, 0, 0, 0, 0, 0, 0, 0, 0, 0, 0, 0, 0, 0, 0, 0, 0, 0, 0, 0, 0, 0, 0, 0, 0, 0, 0, 0, 0, 0, 0, 0, 0, 0, 0, 0, 0, 0, 0, 0, 0]

def be (b : List Int) (i : Nat) : Int := ((b.getD (4 * i) 0 * 256 + b.getD (4 * i + 1) 0) * 256 + b.getD (4 * i + 2) 0) * 256 + b.getD (4 * i + 3) 0
def ld (b : List Int) : Nat → Nat → List Int → List Int
  | 0, _, w => w
  | d + 1, i, w => ld b d (i + 1) (w.set i (be b i))
def newW (w : List Int) (i : Nat) : Int :=
  addI .u32 (addI .u32 (addI .u32 (w.getD (i - 16) 0) (xorI .u32 (xorI .u32 (rot (w.getD (i - 15) 0) 7) (rot (w.getD (i - 15) 0) 18)) (w.getD (i - 15) 0 / 8))) (w.getD (i - 7) 0)) (xorI .u32 (xorI .u32 (rot (w.getD (i - 2) 0) 17) (rot (w.getD (i - 2) 0) 19)) (w.getD (i - 2) 0 / 1024))
def ext : Nat → Nat → List Int → List Int
  | 0, _, w => w
  | d + 1, i, w => ext d (i + 1) (w.set i (newW w i))
def rndT (s : List Int) (c w : Int) : Int :=
  addI .u32 (addI .u32 (addI .u32 (addI .u32 (s.getD 7 0) (xorI .u32 (xorI .u32 (rot (s.getD 4 0) 6) (rot (s.getD 4 0) 11)) (rot (s.getD 4 0) 25))) (chI (s.getD 4 0) (s.getD 5 0) (s.getD 6 0))) c) w
def rndU (s : List Int) : Int :=
  addI .u32 (xorI .u32 (xorI .u32 (rot (s.getD 0 0) 2) (rot (s.getD 0 0) 13)) (rot (s.getD 0 0) 22)) (majI (s.getD 0 0) (s.getD 1 0) (s.getD 2 0))
def rnd (s : List Int) (c w : Int) : List Int :=
  [addI .u32 (rndT s c w) (rndU s), s.getD 0 0, s.getD 1 0, s.getD 2 0, addI .u32 (s.getD 3 0) (rndT s c w), s.getD 4 0, s.getD 5 0, s.getD 6 0]
def rnds (w : List Int) : Nat → Nat → List Int → List Int
  | 0, _, s => s
  | d + 1, i, s => rnds w d (i + 1) (rnd s (K64.getD i 0) (w.getD i 0))
def add8 (s : List Int) : Nat → Nat → List Int → List Int
  | 0, _, h => h
  | d + 1, i, h => add8 s d (i + 1) (h.set i (addI .u32 (h.getD i 0) (s.getD i 0)))
/-- A state, behind a block. -/
def comp (h b : List Int) : List Int := add8 (rnds (ext 48 16 (ld b 16 0 z64)) 64 0 h) 8 0 h

def okW (w : List Int) : Prop := ∀ j, w32 (w.getD j 0)

theorem getD_set (l : List Int) (i j : Nat) (a : Int) : (l.set i a).getD j 0 = if i = j ∧ i < l.length then a else l.getD j 0 := by
  rw [List.getD_eq_getElem?_getD, List.getElem?_set, List.getD_eq_getElem?_getD]
  by_cases h : i = j
  · subst h
    by_cases h2 : i < l.length
    · simp [h2]
    · simp [h2]
  · simp [h]

theorem okW_set {w : List Int} (h : okW w) (i : Nat) {a : Int} (ha : w32 a) : okW (w.set i a) := by
  intro j
  rw [getD_set]
  split
  · exact ha
  · exact h j

theorem getD_byte {b : List Int} (h : byteL b) (i : Nat) : 0 ≤ b.getD i 0 ∧ b.getD i 0 < 256 := by
  by_cases hi : i < b.length
  · rw [List.getD_eq_getElem?_getD, List.getElem?_eq_getElem hi]
    exact h _ (List.getElem_mem hi)
  · rw [List.getD_eq_getElem?_getD, List.getElem?_eq_none (by omega)]
    exact ⟨by decide, by decide⟩

theorem be_w32 {b : List Int} (h : byteL b) (i : Nat) : w32 (be b i) := by
  have h0 := getD_byte h (4 * i)
  have h1 := getD_byte h (4 * i + 1)
  have h2 := getD_byte h (4 * i + 2)
  have h3 := getD_byte h (4 * i + 3)
  unfold be w32
  omega

theorem shlLit (x : Int) (s : Nat) (hs : s ≤ 32) (h : 0 ≤ x) (h' : x * 2 ^ s < 4294967296) : shlI .u32 x (s : Int) = x * 2 ^ s := by
  unfold shlI
  have e : min ((s : Int)).toNat (IntKind.bits .u32) = s := by
    have : IntKind.bits .u32 = 32 := rfl
    rw [this]; omega
  rw [e]
  have : 0 ≤ x * 2 ^ s := Int.mul_nonneg h (Int.le_of_lt (Int.pow_pos (by omega)))
  exact wrap_w32 ⟨this, h'⟩

theorem be_or {b0 b1 b2 b3 : Int} (h0 : 0 ≤ b0 ∧ b0 < 256) (h1 : 0 ≤ b1 ∧ b1 < 256) (h2 : 0 ≤ b2 ∧ b2 < 256) (h3 : 0 ≤ b3 ∧ b3 < 256) :
    orI .u32 (orI .u32 (orI .u32 (shlI .u32 (IntKind.wrap .u32 b0) 24) (shlI .u32 (IntKind.wrap .u32 b1) 16)) (shlI .u32 (IntKind.wrap .u32 b2) 8)) (IntKind.wrap .u32 b3) = ((b0 * 256 + b1) * 256 + b2) * 256 + b3 := by
  rw [wrap_w32 (n := b0) ⟨by omega, by omega⟩, wrap_w32 (n := b1) ⟨by omega, by omega⟩, wrap_w32 (n := b2) ⟨by omega, by omega⟩, wrap_w32 (n := b3) ⟨by omega, by omega⟩]
  have e0 := shlLit b0 24 (by omega) h0.1 (by omega)
  have e1 := shlLit b1 16 (by omega) h1.1 (by omega)
  have e2 := shlLit b2 8 (by omega) h2.1 (by omega)
  rw [show ((24 : Nat) : Int) = 24 from rfl] at e0
  rw [show ((16 : Nat) : Int) = 16 from rfl] at e1
  rw [show ((8 : Nat) : Int) = 8 from rfl] at e2
  rw [e0, e1, e2]
  rw [or_split b0 (b1 * 2 ^ 16) 24 (by omega) h0.1 (by omega) (by omega) (by omega)]
  have s1 : b0 * 2 ^ 24 + b1 * 2 ^ 16 = (b0 * 256 + b1) * 2 ^ 16 := by omega
  rw [s1, or_split (b0 * 256 + b1) (b2 * 2 ^ 8) 16 (by omega) (by omega) (by omega) (by omega) (by omega)]
  have s2 : (b0 * 256 + b1) * 2 ^ 16 + b2 * 2 ^ 8 = ((b0 * 256 + b1) * 256 + b2) * 2 ^ 8 := by omega
  rw [s2, or_split ((b0 * 256 + b1) * 256 + b2) b3 8 (by omega) (by omega) (by omega) (by omega) (by omega)]
  omega

theorem div_shr8 {x : Int} : shrI .u32 x 3 = x / 8 := shr32 x 3 (by omega)
theorem div_shr1024 {x : Int} : shrI .u32 x 10 = x / 1024 := shr32 x 10 (by omega)

theorem okW_rnd {s : List Int} (h : okW s) (c w : Int) : okW (rnd s c w) := by
  intro j
  unfold rnd
  match j with
  | 0 => exact w32_add _ _
  | 1 => exact h 0
  | 2 => exact h 1
  | 3 => exact h 2
  | 4 => exact w32_add _ _
  | 5 => exact h 4
  | 6 => exact h 5
  | 7 => exact h 6
  | _ + 8 => exact w32_0

theorem okW_rnds (w : List Int) : ∀ (d i : Nat) (s : List Int), okW s → okW (rnds w d i s)
  | 0, _, _, h => h
  | d + 1, i, s, h => okW_rnds w d (i + 1) _ (okW_rnd h _ _)
theorem okW_ext : ∀ (d i : Nat) (w : List Int), okW w → okW (ext d i w)
  | 0, _, _, h => h
  | d + 1, i, w, h => okW_ext d (i + 1) _ (okW_set h i (w32_add _ _))
theorem okW_ld {b : List Int} (hb : byteL b) : ∀ (d i : Nat) (w : List Int), okW w → okW (ld b d i w)
  | 0, _, _, h => h
  | d + 1, i, w, h => okW_ld hb d (i + 1) _ (okW_set h i (be_w32 hb i))
theorem okW_add8 (s : List Int) : ∀ (d i : Nat) (h : List Int), okW h → okW (add8 s d i h)
  | 0, _, _, h => h
  | d + 1, i, w, h => okW_add8 s d (i + 1) _ (okW_set h i (w32_add _ _))
theorem len_add8 (s : List Int) : ∀ (d i : Nat) (h : List Int), (add8 s d i h).length = h.length
  | 0, _, _ => rfl
  | d + 1, i, w => by rw [add8, len_add8 s d]; simp
theorem len_ext : ∀ (d i : Nat) (w : List Int), (ext d i w).length = w.length
  | 0, _, _ => rfl
  | d + 1, i, w => by rw [ext, len_ext d]; simp
theorem len_ld (b : List Int) : ∀ (d i : Nat) (w : List Int), (ld b d i w).length = w.length
  | 0, _, _ => rfl
  | d + 1, i, w => by rw [ld, len_ld b d]; simp
theorem okW_z64 : okW z64 := by
  intro j
  rw [List.getD_eq_getElem?_getD]
  cases h : z64[j]? with
  | none => exact w32_0
  | some y =>
    have := List.mem_of_getElem? h
    have : y = 0 := by simpa using this
    subst this
    exact w32_0
theorem okW_comp {h b : List Int} (hh : okW h) : okW (comp h b) := okW_add8 _ 8 0 h hh
theorem len_comp (h b : List Int) : (comp h b).length = h.length := len_add8 _ 8 0 h
theorem okW_H8 : okW H8 := by
  intro j
  match j with
  | 0 | 1 | 2 | 3 | 4 | 5 | 6 | 7 => exact ⟨by decide, by decide⟩
  | _ + 8 => exact w32_0

/-! ### digest_Hasher_take_v1 -/

theorem take1_l0 (k : Nat) (h : List Int) (z : Int) (b y2 : List Int) (hb : byteL b) (hl : b.length = 64) : ∀ (d n i : Nat) (w : List Int), i + d = 16 → d < n →
    digest_Hasher_take_v1.l0.f k h z b y2 n (i : Int) w = some (16, ld b d i w) := by
  intro d
  induction d with
  | zero =>
    intro n i w hi hn
    obtain ⟨n, rfl⟩ : ∃ q, n = q + 1 := ⟨n - 1, by omega⟩
    unfold digest_Hasher_take_v1.l0.f digest_Hasher_take_v1.l0.go digest_Hasher_take_v1.l0.step
    have : i = 16 := by omega
    subst this
    rw [df (by omega)]
    rfl
  | succ d ih =>
    intro n i w hi hn
    obtain ⟨n, rfl⟩ : ∃ q, n = q + 1 := ⟨n - 1, by omega⟩
    have ih' := ih n (i + 1) (w.set i (be b i)) (by omega) (by omega)
    unfold digest_Hasher_take_v1.l0.f at ih' ⊢
    unfold digest_Hasher_take_v1.l0.go digest_Hasher_take_v1.l0.step
    have m4 : mulI .i64 4 (i : Int) = ((4 * i : Nat) : Int) := by rw [mul_id (by omega) (by omega)]; omega
    have a1 : addI .i64 ((4 * i : Nat) : Int) 1 = ((4 * i + 1 : Nat) : Int) := add_id (by omega) (by omega)
    have a2 : addI .i64 ((4 * i : Nat) : Int) 2 = ((4 * i + 2 : Nat) : Int) := add_id (by omega) (by omega)
    have a3 : addI .i64 ((4 * i : Nat) : Int) 3 = ((4 * i + 3 : Nat) : Int) := add_id (by omega) (by omega)
    have e1 : addI .i64 (i : Int) 1 = ((i + 1 : Nat) : Int) := add_id (by omega) (by omega)
    simp only [m4, a1, a2, a3, e1, Int.toNat_natCast]
    rw [be_or (getD_byte hb _) (getD_byte hb _) (getD_byte hb _) (getD_byte hb _)]
    repeat rw [dt (by omega), cond_true]
    exact ih'

theorem take1_l2 (k : Nat) (h : List Int) (z : Int) (b y2 : List Int) (hk : 10 < k) : ∀ (d n i : Nat) (w : List Int), i + d = 64 → 16 ≤ i → d < n → okW w →
    digest_Hasher_take_v1.l2.f k h z b y2 n (i : Int) w = some (64, ext d i w) := by
  intro d
  induction d with
  | zero =>
    intro n i w hi h16 hn hw
    obtain ⟨n, rfl⟩ : ∃ q, n = q + 1 := ⟨n - 1, by omega⟩
    unfold digest_Hasher_take_v1.l2.f digest_Hasher_take_v1.l2.go digest_Hasher_take_v1.l2.step
    have : i = 64 := by omega
    subst this
    rw [df (by omega)]
    rfl
  | succ d ih =>
    intro n i w hi h16 hn hw
    obtain ⟨n, rfl⟩ : ∃ q, n = q + 1 := ⟨n - 1, by omega⟩
    have ih' := ih n (i + 1) (w.set i (newW w i)) (by omega) (by omega) (by omega) (okW_set hw i (w32_add _ _))
    unfold digest_Hasher_take_v1.l2.f at ih' ⊢
    unfold digest_Hasher_take_v1.l2.go digest_Hasher_take_v1.l2.step
    have s15 : subI .i64 (i : Int) 15 = ((i - 15 : Nat) : Int) := by rw [sub_id (by omega) (by omega)]; omega
    have s2 : subI .i64 (i : Int) 2 = ((i - 2 : Nat) : Int) := by rw [sub_id (by omega) (by omega)]; omega
    have s16 : subI .i64 (i : Int) 16 = ((i - 16 : Nat) : Int) := by rw [sub_id (by omega) (by omega)]; omega
    have s7 : subI .i64 (i : Int) 7 = ((i - 7 : Nat) : Int) := by rw [sub_id (by omega) (by omega)]; omega
    have e1 : addI .i64 (i : Int) 1 = ((i + 1 : Nat) : Int) := add_id (by omega) (by omega)
    have t1 := turn2 k (w.getD (i - 15) 0) 7 18 (by omega) (hw _) (by omega) (by omega)
    have t2 := turn2 k (w.getD (i - 2) 0) 17 19 (by omega) (hw _) (by omega) (by omega)
    rw [show ((7 : Nat) : Int) = 7 from rfl, show ((18 : Nat) : Int) = 18 from rfl] at t1
    rw [show ((17 : Nat) : Int) = 17 from rfl, show ((19 : Nat) : Int) = 19 from rfl] at t2
    simp only [s15, s2, s16, s7, e1, Int.toNat_natCast, t1, t2, Option.bind_some, div_shr8, div_shr1024]
    repeat rw [dt (by omega), cond_true]
    exact ih'

theorem take1_l4 (k : Nat) (h : List Int) (z : Int) (b : List Int) (w : List Int) (hk : 10 < k) : ∀ (d n i : Nat) (s : List Int), i + d = 64 → d < n → okW s →
    digest_Hasher_take_v1.l4.f k h z b K64 w n (i : Int) s = some (64, rnds w d i s) := by
  intro d
  induction d with
  | zero =>
    intro n i s hi hn hs
    obtain ⟨n, rfl⟩ : ∃ q, n = q + 1 := ⟨n - 1, by omega⟩
    unfold digest_Hasher_take_v1.l4.f digest_Hasher_take_v1.l4.go digest_Hasher_take_v1.l4.step
    have : i = 64 := by omega
    subst this
    rw [df (by omega)]
    rfl
  | succ d ih =>
    intro n i s hi hn hs
    obtain ⟨n, rfl⟩ : ∃ q, n = q + 1 := ⟨n - 1, by omega⟩
    have ih' := ih n (i + 1) (rnd s (K64.getD i 0) (w.getD i 0)) (by omega) (by omega) (okW_rnd hs _ _)
    unfold digest_Hasher_take_v1.l4.f at ih' ⊢
    unfold digest_Hasher_take_v1.l4.go digest_Hasher_take_v1.l4.step
    have e1 : addI .i64 (i : Int) 1 = ((i + 1 : Nat) : Int) := add_id (by omega) (by omega)
    have t1 := turn3 k (s.getD 4 0) 6 11 25 (by omega) (hs 4) (by omega) (by omega) (by omega)
    have t2 := turn3 k (s.getD 0 0) 2 13 22 (by omega) (hs 0) (by omega) (by omega) (by omega)
    rw [show ((6 : Nat) : Int) = 6 from rfl, show ((11 : Nat) : Int) = 11 from rfl, show ((25 : Nat) : Int) = 25 from rfl] at t1
    rw [show ((2 : Nat) : Int) = 2 from rfl, show ((13 : Nat) : Int) = 13 from rfl, show ((22 : Nat) : Int) = 22 from rfl] at t2
    simp only [e1, Int.toNat_natCast, t1, t2, Option.bind_some, ch_eq _ _ _ (hs 4), maj_eq]
    repeat rw [dt (by omega), cond_true]
    exact ih'

theorem take1_l6 (k : Nat) (z : Int) (b y2 : List Int) (s : List Int) : ∀ (d n i : Nat) (h : List Int), i + d = 8 → d < n →
    digest_Hasher_take_v1.l6.f k z b y2 s n (i : Int) h = some (8, add8 s d i h) := by
  intro d
  induction d with
  | zero =>
    intro n i h hi hn
    obtain ⟨n, rfl⟩ : ∃ q, n = q + 1 := ⟨n - 1, by omega⟩
    unfold digest_Hasher_take_v1.l6.f digest_Hasher_take_v1.l6.go digest_Hasher_take_v1.l6.step
    have : i = 8 := by omega
    subst this
    rw [df (by omega)]
    rfl
  | succ d ih =>
    intro n i h hi hn
    obtain ⟨n, rfl⟩ : ∃ q, n = q + 1 := ⟨n - 1, by omega⟩
    have ih' := ih n (i + 1) (h.set i (addI .u32 (h.getD i 0) (s.getD i 0))) (by omega) (by omega)
    unfold digest_Hasher_take_v1.l6.f at ih' ⊢
    unfold digest_Hasher_take_v1.l6.go digest_Hasher_take_v1.l6.step
    have e1 : addI .i64 (i : Int) 1 = ((i + 1 : Nat) : Int) := add_id (by omega) (by omega)
    simp only [e1, Int.toNat_natCast]
    repeat rw [dt (by omega), cond_true]
    exact ih'

theorem take1_eq (k : Nat) (h : List Int) (z : Int) (b : List Int) (hk : 100 < k) (hh : okW h) (hb : byteL b) (hl : b.length = 64) : digest_Hasher_take_v1.f k h z b K64 = some (comp h b, z) := by
  unfold digest_Hasher_take_v1.f digest_Hasher_take_v1.tree
  have q0 := take1_l0 k h z b K64 hb hl 16 k 0 z64 (by omega) (by omega)
  have q1 := take1_l2 k h z b K64 (by omega) 48 k 16 (ld b 16 0 z64) (by omega) (by omega) (by omega) (okW_ld hb _ _ _ okW_z64)
  have q2 := take1_l4 k h z b (ext 48 16 (ld b 16 0 z64)) (by omega) 64 k 0 h (by omega) (by omega) hh
  have q3 := take1_l6 k z b K64 (rnds (ext 48 16 (ld b 16 0 z64)) 64 0 h) 8 k 0 h (by omega) (by omega)
  rw [show ((0 : Nat) : Int) = 0 from rfl] at q0 q2 q3
  rw [show ((16 : Nat) : Int) = 16 from rfl] at q1
  rw [q0, Option.bind_some, q1, Option.bind_some, q2, Option.bind_some, q3]
  rfl

/-! ### digest_Hasher_take -/

theorem take0_l0 (k : Nat) (h : List Int) (z : Int) (b y2 : List Int) (y3 : List Int) (hb : byteL b) (hl : b.length = 64) : ∀ (d n i : Nat) (w : List Int), i + d = 16 → d < n →
    digest_Hasher_take.l0.f k h z b y2 y3 n (i : Int) w = some (16, ld b d i w) := by
  intro d
  induction d with
  | zero =>
    intro n i w hi hn
    obtain ⟨n, rfl⟩ : ∃ q, n = q + 1 := ⟨n - 1, by omega⟩
    unfold digest_Hasher_take.l0.f digest_Hasher_take.l0.go digest_Hasher_take.l0.step
    have : i = 16 := by omega
    subst this
    rw [df (by omega)]
    rfl
  | succ d ih =>
    intro n i w hi hn
    obtain ⟨n, rfl⟩ : ∃ q, n = q + 1 := ⟨n - 1, by omega⟩
    have ih' := ih n (i + 1) (w.set i (be b i)) (by omega) (by omega)
    unfold digest_Hasher_take.l0.f at ih' ⊢
    unfold digest_Hasher_take.l0.go digest_Hasher_take.l0.step
    have m4 : mulI .i64 4 (i : Int) = ((4 * i : Nat) : Int) := by rw [mul_id (by omega) (by omega)]; omega
    have a1 : addI .i64 ((4 * i : Nat) : Int) 1 = ((4 * i + 1 : Nat) : Int) := add_id (by omega) (by omega)
    have a2 : addI .i64 ((4 * i : Nat) : Int) 2 = ((4 * i + 2 : Nat) : Int) := add_id (by omega) (by omega)
    have a3 : addI .i64 ((4 * i : Nat) : Int) 3 = ((4 * i + 3 : Nat) : Int) := add_id (by omega) (by omega)
    have e1 : addI .i64 (i : Int) 1 = ((i + 1 : Nat) : Int) := add_id (by omega) (by omega)
    simp only [m4, a1, a2, a3, e1, Int.toNat_natCast]
    rw [be_or (getD_byte hb _) (getD_byte hb _) (getD_byte hb _) (getD_byte hb _)]
    repeat rw [dt (by omega), cond_true]
    exact ih'

theorem take0_l2 (k : Nat) (h : List Int) (z : Int) (b y2 : List Int) (y3 : List Int) (hk : 10 < k) : ∀ (d n i : Nat) (w : List Int), i + d = 64 → 16 ≤ i → d < n → okW w →
    digest_Hasher_take.l2.f k h z b y2 y3 n (i : Int) w = some (64, ext d i w) := by
  intro d
  induction d with
  | zero =>
    intro n i w hi h16 hn hw
    obtain ⟨n, rfl⟩ : ∃ q, n = q + 1 := ⟨n - 1, by omega⟩
    unfold digest_Hasher_take.l2.f digest_Hasher_take.l2.go digest_Hasher_take.l2.step
    have : i = 64 := by omega
    subst this
    rw [df (by omega)]
    rfl
  | succ d ih =>
    intro n i w hi h16 hn hw
    obtain ⟨n, rfl⟩ : ∃ q, n = q + 1 := ⟨n - 1, by omega⟩
    have ih' := ih n (i + 1) (w.set i (newW w i)) (by omega) (by omega) (by omega) (okW_set hw i (w32_add _ _))
    unfold digest_Hasher_take.l2.f at ih' ⊢
    unfold digest_Hasher_take.l2.go digest_Hasher_take.l2.step
    have s15 : subI .i64 (i : Int) 15 = ((i - 15 : Nat) : Int) := by rw [sub_id (by omega) (by omega)]; omega
    have s2 : subI .i64 (i : Int) 2 = ((i - 2 : Nat) : Int) := by rw [sub_id (by omega) (by omega)]; omega
    have s16 : subI .i64 (i : Int) 16 = ((i - 16 : Nat) : Int) := by rw [sub_id (by omega) (by omega)]; omega
    have s7 : subI .i64 (i : Int) 7 = ((i - 7 : Nat) : Int) := by rw [sub_id (by omega) (by omega)]; omega
    have e1 : addI .i64 (i : Int) 1 = ((i + 1 : Nat) : Int) := add_id (by omega) (by omega)
    have t1 := turn2 k (w.getD (i - 15) 0) 7 18 (by omega) (hw _) (by omega) (by omega)
    have t2 := turn2 k (w.getD (i - 2) 0) 17 19 (by omega) (hw _) (by omega) (by omega)
    rw [show ((7 : Nat) : Int) = 7 from rfl, show ((18 : Nat) : Int) = 18 from rfl] at t1
    rw [show ((17 : Nat) : Int) = 17 from rfl, show ((19 : Nat) : Int) = 19 from rfl] at t2
    simp only [s15, s2, s16, s7, e1, Int.toNat_natCast, t1, t2, Option.bind_some, div_shr8, div_shr1024]
    repeat rw [dt (by omega), cond_true]
    exact ih'

theorem take0_l4 (k : Nat) (h : List Int) (z : Int) (b : List Int) (y3 : List Int) (w : List Int) (hk : 10 < k) : ∀ (d n i : Nat) (s : List Int), i + d = 64 → d < n → okW s →
    digest_Hasher_take.l4.f k h z b K64 y3 w n (i : Int) s = some (64, rnds w d i s) := by
  intro d
  induction d with
  | zero =>
    intro n i s hi hn hs
    obtain ⟨n, rfl⟩ : ∃ q, n = q + 1 := ⟨n - 1, by omega⟩
    unfold digest_Hasher_take.l4.f digest_Hasher_take.l4.go digest_Hasher_take.l4.step
    have : i = 64 := by omega
    subst this
    rw [df (by omega)]
    rfl
  | succ d ih =>
    intro n i s hi hn hs
    obtain ⟨n, rfl⟩ : ∃ q, n = q + 1 := ⟨n - 1, by omega⟩
    have ih' := ih n (i + 1) (rnd s (K64.getD i 0) (w.getD i 0)) (by omega) (by omega) (okW_rnd hs _ _)
    unfold digest_Hasher_take.l4.f at ih' ⊢
    unfold digest_Hasher_take.l4.go digest_Hasher_take.l4.step
    have e1 : addI .i64 (i : Int) 1 = ((i + 1 : Nat) : Int) := add_id (by omega) (by omega)
    have t1 := turn3 k (s.getD 4 0) 6 11 25 (by omega) (hs 4) (by omega) (by omega) (by omega)
    have t2 := turn3 k (s.getD 0 0) 2 13 22 (by omega) (hs 0) (by omega) (by omega) (by omega)
    rw [show ((6 : Nat) : Int) = 6 from rfl, show ((11 : Nat) : Int) = 11 from rfl, show ((25 : Nat) : Int) = 25 from rfl] at t1
    rw [show ((2 : Nat) : Int) = 2 from rfl, show ((13 : Nat) : Int) = 13 from rfl, show ((22 : Nat) : Int) = 22 from rfl] at t2
    simp only [e1, Int.toNat_natCast, t1, t2, Option.bind_some, ch_eq _ _ _ (hs 4), maj_eq]
    repeat rw [dt (by omega), cond_true]
    exact ih'

theorem take0_l6 (k : Nat) (z : Int) (b y2 : List Int) (y3 : List Int) (s : List Int) : ∀ (d n i : Nat) (h : List Int), i + d = 8 → d < n →
    digest_Hasher_take.l6.f k z b y2 y3 s n (i : Int) h = some (8, add8 s d i h) := by
  intro d
  induction d with
  | zero =>
    intro n i h hi hn
    obtain ⟨n, rfl⟩ : ∃ q, n = q + 1 := ⟨n - 1, by omega⟩
    unfold digest_Hasher_take.l6.f digest_Hasher_take.l6.go digest_Hasher_take.l6.step
    have : i = 8 := by omega
    subst this
    rw [df (by omega)]
    rfl
  | succ d ih =>
    intro n i h hi hn
    obtain ⟨n, rfl⟩ : ∃ q, n = q + 1 := ⟨n - 1, by omega⟩
    have ih' := ih n (i + 1) (h.set i (addI .u32 (h.getD i 0) (s.getD i 0))) (by omega) (by omega)
    unfold digest_Hasher_take.l6.f at ih' ⊢
    unfold digest_Hasher_take.l6.go digest_Hasher_take.l6.step
    have e1 : addI .i64 (i : Int) 1 = ((i + 1 : Nat) : Int) := add_id (by omega) (by omega)
    simp only [e1, Int.toNat_natCast]
    repeat rw [dt (by omega), cond_true]
    exact ih'

theorem take0_eq (k : Nat) (h : List Int) (z : Int) (b : List Int) (y3 : List Int) (hk : 100 < k) (hh : okW h) (hb : byteL b) (hl : b.length = 64) : digest_Hasher_take.f k h z b K64 y3 = some (comp h b, z) := by
  unfold digest_Hasher_take.f digest_Hasher_take.tree
  have q0 := take0_l0 k h z b K64 y3 hb hl 16 k 0 z64 (by omega) (by omega)
  have q1 := take0_l2 k h z b K64 y3 (by omega) 48 k 16 (ld b 16 0 z64) (by omega) (by omega) (by omega) (okW_ld hb _ _ _ okW_z64)
  have q2 := take0_l4 k h z b y3 (ext 48 16 (ld b 16 0 z64)) (by omega) 64 k 0 h (by omega) (by omega) hh
  have q3 := take0_l6 k z b K64 y3 (rnds (ext 48 16 (ld b 16 0 z64)) 64 0 h) 8 k 0 h (by omega) (by omega)
  rw [show ((0 : Nat) : Int) = 0 from rfl] at q0 q2 q3
  rw [show ((16 : Nat) : Int) = 16 from rfl] at q1
  rw [q0, Option.bind_some, q1, Option.bind_some, q2, Option.bind_some, q3]
  rfl

end Go.Proofs.YtkgpjplncfginaaGreatDoor.Sy
