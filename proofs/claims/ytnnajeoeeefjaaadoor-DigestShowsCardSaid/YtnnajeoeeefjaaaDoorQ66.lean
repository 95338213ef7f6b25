/- A name's digits. -/
import Derived.Test.YtnnajeoeeefjaaaDoorQ64
import Derived.Test.YtnnajeoeeefjaaaDoorWS
import Derived.Laws.RangeAny
namespace Go.Proofs.YtnnajeoeeefjaaaDoor.Sy
open Go
set_option linter.unusedVariables false
set_option linter.unusedSimpArgs false

/-- What a digit is worth. -/
def hexv (c : Int) : Option Int := if 48 ≤ c ∧ c ≤ 57 then some (c - 48) else if 97 ≤ c ∧ c ≤ 102 then some (c - 87) else none
abbrev digs : List Int := [48, 49, 50, 51, 52, 53, 54, 55, 56, 57, 97, 98, 99, 100, 101, 102]
def hexd (v : Int) : Int := if v < 10 then v + 48 else v + 87
def hx (b : Int) : List Int := [hexd (b / 16), hexd (b % 16)]
/-- A name's digits, its last byte first. -/
def showB : List Int → List Int
  | [] => []
  | b :: r => showB r ++ hx b

theorem hexd_eq {v : Int} (h : 0 ≤ v) (h' : v < 16) : digs.getD v.toNat 0 = hexd v := by
  obtain ⟨n, rfl⟩ : ∃ n : Nat, v = n := ⟨v.toNat, by omega⟩
  have hn : n < 16 := by omega
  have := (by decide : ∀ n : Fin 16, digs.getD n.1 0 = hexd (n.1 : Int)) ⟨n, hn⟩
  simpa using this

theorem hexv_hexd {v : Int} (h : 0 ≤ v) (h' : v < 16) : hexv (hexd v) = some v := by
  unfold hexv hexd
  by_cases h1 : v < 10
  · rw [if_pos h1, if_pos (by omega)]; congr 1; omega
  · rw [if_neg h1, if_neg (by omega), if_pos (by omega)]; congr 1; omega

theorem hexd_hexv {c v : Int} (h : hexv c = some v) : hexd v = c ∧ 0 ≤ v ∧ v < 16 := by
  unfold hexv at h
  split at h
  · cases h
    unfold hexd
    rw [if_pos (by omega)]; omega
  · split at h
    · cases h
      unfold hexd
      rw [if_neg (by omega)]; omega
    · cases h

theorem hexd_range {v : Int} (h : 0 ≤ v) (h' : v < 16) : 0 ≤ hexd v ∧ hexd v < 128 := by
  unfold hexd; split <;> omega

theorem showB_length : ∀ h : List Int, (showB h).length = 2 * h.length
  | [] => rfl
  | b :: r => by rw [showB, List.length_append, showB_length r, List.length_cons]; simp [hx]; omega

theorem showB_byteL : ∀ h : List Int, byteL h → byteL (showB h)
  | [], _ => byteL_nil
  | b :: r, hb => by
    rw [byteL_cons] at hb
    have h1 := hexd_range (v := b / 16) (by omega) (by omega)
    have h2 := hexd_range (v := b % 16) (by omega) (by omega)
    exact byteL_append (showB_byteL r hb.2) (byteL_cons.2 ⟨⟨h1.1, by omega⟩, byteL_cons.2 ⟨⟨h2.1, by omega⟩, byteL_nil⟩⟩)

theorem showB_hex : ∀ h : List Int, byteL h → ∀ c ∈ showB h, ∃ v, hexv c = some v
  | [], _, c, hc => by cases hc
  | b :: r, hb, c, hc => by
    rw [byteL_cons] at hb
    rcases List.mem_append.1 hc with hc | hc
    · exact showB_hex r hb.2 c hc
    · simp only [hx, List.mem_cons, List.not_mem_nil, or_false] at hc
      rcases hc with rfl | rfl
      · exact ⟨_, hexv_hexd (by omega) (by omega)⟩
      · exact ⟨_, hexv_hexd (by omega) (by omega)⟩

theorem hx_inj {a b : Int} (ha : 0 ≤ a ∧ a < 256) (hb : 0 ≤ b ∧ b < 256) (h : hx a = hx b) : a = b := by
  simp only [hx, List.cons.injEq, and_true] at h
  have h1 := congrArg hexv h.1
  have h2 := congrArg hexv h.2
  rw [hexv_hexd (by omega) (by omega), hexv_hexd (by omega) (by omega)] at h1 h2
  have h1 := Option.some.inj h1
  have h2 := Option.some.inj h2
  omega

theorem showB_inj : ∀ (a b : List Int), byteL a → byteL b → a.length = b.length → showB a = showB b → a = b
  | [], [], _, _, _, _ => rfl
  | [], _ :: _, _, _, h, _ => by simp at h
  | _ :: _, [], _, _, h, _ => by simp at h
  | x :: a, y :: b, ha, hb, hl, h => by
    rw [byteL_cons] at ha hb
    simp only [List.length_cons, Nat.add_right_cancel_iff] at hl
    have hl2 : (showB a).length = (showB b).length := by rw [showB_length, showB_length, hl]
    obtain ⟨h1, h2⟩ := List.append_inj h hl2
    rw [showB_inj a b ha.2 hb.2 hl h1, hx_inj ha.1 hb.1 h2]

/-! ### The document's digits -/

theorem dig_slice {v : Int} (h : 0 ≤ v) (h' : v < 16) : List.drop v.toNat (List.take (v + 1).toNat digs) = [hexd v] := by
  obtain ⟨n, rfl⟩ : ∃ n : Nat, v = n := ⟨v.toNat, by omega⟩
  have hn : n < 16 := by omega
  have := (by decide : ∀ n : Fin 16, List.drop n.1 (List.take (n.1 + 1) digs) = [hexd (n.1 : Int)]) ⟨n, hn⟩
  simpa using this

theorem showB_take (h : List Int) (i : Nat) (hi : i < h.length) : showB (h.drop i) = showB (h.drop (i + 1)) ++ hx h[i] := by
  rw [List.drop_eq_getElem_cons hi]; rfl

/-- The digits of the first bytes, behind them those of the ones ahead. -/
def showP (h : List Int) : Nat → List Int
  | 0 => []
  | n + 1 => hx (h.getD n 0) ++ showP h n

theorem showP_append (h : List Int) : ∀ n, n ≤ h.length → showB h = showB (h.drop n) ++ showP h n
  | 0, _ => by simp [showP]
  | n + 1, hn => by
    rw [showP_append h n (by omega), showB_take h n (by omega), showP, List.getD, List.getElem?_eq_getElem (by omega : n < h.length), List.append_assoc]
    rfl

theorem showP_all (h : List Int) : showP h h.length = showB h := by
  rw [showP_append h h.length (Nat.le_refl _), List.drop_length]; rfl
theorem showP_length (h : List Int) : ∀ n, (showP h n).length = 2 * n
  | 0 => rfl
  | n + 1 => by rw [showP, List.length_append, showP_length h n]; simp [hx]; omega

theorem rshow_l0 (k : Nat) (h : List Int) (hb : byteL h) (hl : h.length = 32) : ∀ (d n i : Nat), i + d = 32 → d < n →
    trailheadref01_Show.l0.f k h n (showP h i) (i : Int) = some (showB h, 32) := by
  intro d
  induction d with
  | zero =>
    intro n i hi hn
    obtain ⟨n, rfl⟩ : ∃ q, n = q + 1 := ⟨n - 1, by omega⟩
    unfold trailheadref01_Show.l0.f trailheadref01_Show.l0.go trailheadref01_Show.l0.step
    have : i = 32 := by omega
    subst this
    have hsp : showP h 32 = showB h := by
      have := showP_all h
      rw [hl] at this; exact this
    rw [df (by omega), hsp]
    rfl
  | succ d ih =>
    intro n i hi hn
    obtain ⟨n, rfl⟩ : ∃ q, n = q + 1 := ⟨n - 1, by omega⟩
    have ih' := ih n (i + 1) (by omega) (by omega)
    unfold trailheadref01_Show.l0.f at ih' ⊢
    unfold trailheadref01_Show.l0.go trailheadref01_Show.l0.step
    have hc := getD_byte hb i
    have hi1 : addI .i64 (i : Int) 1 = ((i + 1 : Nat) : Int) := add_id (by omega) (by omega)
    have w64 : IntKind.wrap .i64 (h.getD i 0) = h.getD i 0 := i64_id (by omega) (by omega)
    have hq : quoI .i64 (h.getD i 0) 16 = h.getD i 0 / 16 := by
      unfold quoI; rw [Int.tdiv_eq_ediv_of_nonneg hc.1, i64_id (by omega) (by omega)]
    have hr : remI (h.getD i 0) 16 = h.getD i 0 % 16 := by
      unfold remI; rw [Int.tmod_eq_emod_of_nonneg hc.1]
    have aq : addI .i64 (h.getD i 0 / 16) 1 = h.getD i 0 / 16 + 1 := add_id (by omega) (by omega)
    have ar : addI .i64 (h.getD i 0 % 16) 1 = h.getD i 0 % 16 + 1 := add_id (by omega) (by omega)
    simp only [Int.toNat_natCast, w64, hq, hr, aq, ar, hi1]
    rw [dig_slice (v := h.getD i 0 / 16) (by omega) (by omega), dig_slice (v := h.getD i 0 % 16) (by omega) (by omega)]
    have hsp := showP_length h i
    rw [dt (by omega), cond_true, dt (by omega), cond_true, dt (by omega), cond_true, dt (by omega), cond_true, cond_true, cond_true, cond_true]
    repeat rw [dt (by omega), cond_true]
    rw [fits_ok (by simp), cond_true, fits_ok (by rw [hsp]; simp; omega), cond_true]
    exact ih'

theorem rshow_eq (k : Nat) (h : List Int) (hb : byteL h) (hl : h.length = 32) (hk : 40 < k) : trailheadref01_Show.f k h = some (showB h) := by
  unfold trailheadref01_Show.f trailheadref01_Show.tree
  have := rshow_l0 k h hb hl 32 k 0 (by omega) (by omega)
  rw [show ((0 : Nat) : Int) = 0 from rfl, show showP h 0 = [] from rfl] at this
  rw [this]
  rfl

/-! ### The program's digits -/

theorem shr_u8 {x : Int} (h : 0 ≤ x ∧ x < 256) : shrI .u8 x 4 = x / 16 := by
  unfold shrI
  have e : min ((4 : Int)).toNat (IntKind.bits .u8) = 4 := rfl
  rw [e, Int.fdiv_eq_ediv_of_nonneg _ (by omega)]
  rfl
theorem and_u8 {x : Int} (h : 0 ≤ x ∧ x < 256) : andI .u8 x 15 = x % 16 := by
  obtain ⟨m, rfl⟩ : ∃ m : Nat, x = m := ⟨x.toNat, by omega⟩
  unfold andI
  have hb : IntKind.bits .u8 = 8 := rfl
  rw [hb, BitVec.toNat_and, BitVec.toNat_ofInt, BitVec.toNat_ofInt]
  have e1 : ((m : Int) % ((2 ^ 8 : Nat) : Int)).toNat = m := by omega
  have e2 : ((15 : Int) % ((2 ^ 8 : Nat) : Int)).toNat = 2 ^ 4 - 1 := by decide
  rw [e1, e2, Nat.and_two_pow_sub_one_eq_mod, IntKind.wrap_u8]
  omega

/-- Digits that are put from the end on. -/
def sput (h : List Int) : Nat → Nat → List Int → List Int
  | 0, _, o => o
  | d + 1, i, o => sput h d (i + 1) ((o.set (62 - 2 * i) (hexd (h.getD i 0 / 16))).set (63 - 2 * i) (hexd (h.getD i 0 % 16)))

theorem show_l0 (k : Nat) (h : List Int) (hb : byteL h) (hl : h.length = 32) : ∀ (d n i : Nat) (o : List Int), i + d = 32 → d < n → o.length = 64 → o.drop (64 - 2 * i) = showP h i →
    digest_Show.l0.f k h n (i : Int) o = some (32, showB h) := by
  intro d
  induction d with
  | zero =>
    intro n i o hi hn ho hd
    obtain ⟨n, rfl⟩ : ∃ q, n = q + 1 := ⟨n - 1, by omega⟩
    unfold digest_Show.l0.f digest_Show.l0.go digest_Show.l0.step
    have : i = 32 := by omega
    subst this
    have hsp : showP h 32 = showB h := by
      have := showP_all h
      rw [hl] at this; exact this
    rw [show 64 - 2 * 32 = 0 from rfl, List.drop_zero, hsp] at hd
    rw [df (by omega), hd]
    rfl
  | succ d ih =>
    intro n i o hi hn ho hd
    obtain ⟨n, rfl⟩ : ∃ q, n = q + 1 := ⟨n - 1, by omega⟩
    have hc := getD_byte hb i
    have ih' := ih n (i + 1) ((o.set (62 - 2 * i) (hexd (h.getD i 0 / 16))).set (63 - 2 * i) (hexd (h.getD i 0 % 16))) (by omega) (by omega) (by simpa using ho) (by
      have e1 : 64 - 2 * (i + 1) = 62 - 2 * i := by omega
      have e2 : 63 - 2 * i = 62 - 2 * i + 1 := by omega
      have e3 : 64 - 2 * i = 62 - 2 * i + 1 + 1 := by omega
      rw [e1, e2]
      have hlt : 62 - 2 * i < ((o.set (62 - 2 * i) (hexd (h.getD i 0 / 16))).set (62 - 2 * i + 1) (hexd (h.getD i 0 % 16))).length := by simp; omega
      have hlt2 : 62 - 2 * i + 1 < ((o.set (62 - 2 * i) (hexd (h.getD i 0 / 16))).set (62 - 2 * i + 1) (hexd (h.getD i 0 % 16))).length := by simp; omega
      rw [List.drop_eq_getElem_cons hlt, List.drop_eq_getElem_cons hlt2, List.getElem_set_self, List.getElem_set_ne (by omega), List.getElem_set_self]
      rw [List.drop_set_of_lt (by omega), List.drop_set_of_lt (by omega), ← e3, hd]
      rfl)
    unfold digest_Show.l0.f at ih' ⊢
    unfold digest_Show.l0.go digest_Show.l0.step
    have hi1 : addI .i64 (i : Int) 1 = ((i + 1 : Nat) : Int) := add_id (by omega) (by omega)
    have s31 : subI .i64 31 (i : Int) = ((31 - i : Nat) : Int) := by rw [sub_id (by omega) (by omega)]; omega
    have m2 : mulI .i64 2 ((31 - i : Nat) : Int) = ((62 - 2 * i : Nat) : Int) := by rw [mul_id (by omega) (by omega)]; omega
    have a1 : addI .i64 ((62 - 2 * i : Nat) : Int) 1 = ((63 - 2 * i : Nat) : Int) := by rw [add_id (by omega) (by omega)]; omega
    simp only [Int.toNat_natCast, hi1, s31, m2, a1, shr_u8 hc, and_u8 hc]
    rw [hexd_eq (v := h.getD i 0 / 16) (by omega) (by omega), hexd_eq (v := h.getD i 0 % 16) (by omega) (by omega)]
    repeat rw [dt (by omega), cond_true]
    exact ih'

theorem show_eq (k : Nat) (h : List Int) (hb : byteL h) (hl : h.length = 32) (hk : 40 < k) : digest_Show.f k h = some (showB h) := by
  unfold digest_Show.f digest_Show.tree
  have := show_l0 k h hb hl 32 k 0 z64 (by omega) (by omega) rfl rfl
  rw [show ((0 : Nat) : Int) = 0 from rfl] at this
  rw [this, Option.bind_some]
  simp only
  rw [List.take_of_length_le (by rw [showB_length]; omega), toStr_id _ (showB_byteL h hb)]

/-! ### Parsing -/

theorem or_u8 {a b : Int} (ha : 0 ≤ a ∧ a < 16) (hb : 0 ≤ b ∧ b < 16) : orI .u8 (shlI .u8 a 4) b = 16 * a + b := by
  obtain ⟨n, rfl⟩ : ∃ n : Nat, a = n := ⟨a.toNat, by omega⟩
  obtain ⟨m, rfl⟩ : ∃ m : Nat, b = m := ⟨b.toNat, by omega⟩
  have hn : n < 16 := by omega
  have hm : m < 16 := by omega
  exact (by decide : ∀ n m : Fin 16, orI .u8 (shlI .u8 (n.1 : Int) 4) (m.1 : Int) = 16 * (n.1 : Int) + (m.1 : Int)) ⟨n, hn⟩ ⟨m, hm⟩

theorem bst_get {s : List Int} {i : Nat} (hb : byteL s) (h : i < s.length) : ∃ hs : i < (bst s).size, (((bst s)[i]'hs).toNat : Int) = s[i] := by
  have hs : i < (bst s).size := by rw [size_bst]; exact h
  refine ⟨hs, ?_⟩
  have hx := hb _ (List.getElem_mem h)
  have e : (bst s)[i]'hs = UInt8.ofNat (s[i]).toNat := by
    show (bst s).data[i] = _
    simp [bst]
  rw [e, UInt8.toNat_ofNat']
  omega

theorem decode_bst {s : List Int} {i : Nat} (hb : byteL s) (h : i < s.length) : (s[i] < 128 → Utf8.decode (bst s) i = ((s[i]).toNat, 1)) ∧ (128 ≤ s[i] → 128 ≤ (Utf8.decode (bst s) i).1) := by
  obtain ⟨hs, e⟩ := bst_get hb h
  refine ⟨fun hl => ?_, fun hl => ?_⟩
  · rw [decode_ascii (bst s) i hs (by omega)]
    congr 1
    omega
  · exact (decode_high (bst s) i hs (by omega)).1

section
variable {X : Type} (K : List Int → Nat → Option X) (Q : Int → List Int → Option X) (G : List Int → Nat → Option X) (k : Nat) (y0 : List Int) (s o : List Int) (i : Nat)

theorem parse_bad (hb : byteL s) (hl : s.length = 64) (hi : i < 64) (hv : hexv (s[i]'(by omega)) = none) : digest_Parse.l0.step K Q G k y0 (bst s) o i = Q 4 z32 := by
  obtain ⟨d1, d2⟩ := decode_bst hb (by omega : i < s.length)
  have hr : ¬ (48 ≤ ((Utf8.decode (bst s) i).1 : Int) ∧ ((Utf8.decode (bst s) i).1 : Int) ≤ 57) ∧ ¬ (97 ≤ ((Utf8.decode (bst s) i).1 : Int) ∧ ((Utf8.decode (bst s) i).1 : Int) ≤ 102) := by
    have hx := hb _ (List.getElem_mem (by omega : i < s.length))
    by_cases h : s[i]'(by omega) < 128
    · rw [d1 h]
      unfold hexv at hv
      split at hv
      · cases hv
      · split at hv
        · cases hv
        · simp only; omega
    · have := d2 (by omega); omega
  unfold digest_Parse.l0.step
  have hsz : decide (i < ByteArray.size (bst s)) = true := dt (by rw [size_bst]; omega)
  rw [hsz, cond_true]
  generalize Utf8.decode (bst s) i = c at hr ⊢
  by_cases h1 : ((c.1 : Int) ≥ 48)
  · rw [dt h1, cond_true, df (by omega), cond_false]
    by_cases h2 : ((c.1 : Int) ≥ 97)
    · rw [dt h2, cond_true, df (by omega), cond_false]
    · rw [df h2, cond_false]
  · rw [df h1, cond_false]
    by_cases h2 : ((c.1 : Int) ≥ 97)
    · omega
    · rw [df h2, cond_false]

theorem parse_good (hb : byteL s) (hl : s.length = 64) (hi : i < 64) {v : Int} (hv : hexv (s[i]'(by omega)) = some v) (ho : 0 ≤ o.getD (31 - i / 2) 0 ∧ o.getD (31 - i / 2) 0 < 16) :
    digest_Parse.l0.step K Q G k y0 (bst s) o i = G (o.set (31 - i / 2) (16 * o.getD (31 - i / 2) 0 + v)) (i + 1) := by
  obtain ⟨d1, d2⟩ := decode_bst hb (by omega : i < s.length)
  have hx := hb _ (List.getElem_mem (by omega : i < s.length))
  obtain ⟨_, v0, v16⟩ := hexd_hexv hv
  have hlt : s[i]'(by omega) < 128 := by
    unfold hexv at hv
    split at hv
    · omega
    · split at hv
      · omega
      · cases hv
  have hd := d1 hlt
  have hc : ((Utf8.decode (bst s) i).1 : Int) = s[i]'(by omega) := by rw [hd]; simp only; omega
  have hw : (Utf8.decode (bst s) i).2 = 1 := by rw [hd]
  generalize hcc : Utf8.decode (bst s) i = c at hc hw
  unfold digest_Parse.l0.step
  have hsz : decide (i < ByteArray.size (bst s)) = true := dt (by rw [size_bst]; omega)
  have hq : quoI .i64 (i : Int) 2 = ((i / 2 : Nat) : Int) := by
    unfold quoI; rw [Int.tdiv_eq_ediv_of_nonneg (by omega), i64_id (by omega) (by omega)]; omega
  have s31 : subI .i64 31 ((i / 2 : Nat) : Int) = ((31 - i / 2 : Nat) : Int) := by rw [sub_id (by omega) (by omega)]; omega
  rw [hsz, cond_true, hcc]
  simp only [hq, s31, Int.toNat_natCast, hc, hw]
  generalize s[i]'(by omega) = x at hv hlt hx
  unfold hexv at hv
  have i32 (a : Int) (h : 0 ≤ a) (h' : a < 1000) : IntKind.wrap .i32 a = a := by rw [IntKind.wrap_i32]; omega
  have u8 (a : Int) (h : 0 ≤ a) (h' : a < 256) : IntKind.wrap .u8 a = a := by rw [IntKind.wrap_u8]; omega
  split at hv
  · rename_i h1
    cases hv
    have e1 : IntKind.wrap .u8 (IntKind.wrap .i64 (subI .i32 x 48)) = x - 48 := by
      unfold subI; rw [i32 _ (by omega) (by omega), i64_id (by omega) (by omega), u8 _ (by omega) (by omega)]
    rw [e1, or_u8 ho ⟨v0, v16⟩]
    repeat rw [dt (by omega), cond_true]
    rfl
  · split at hv
    · rename_i h1 h2
      cases hv
      have e1 : IntKind.wrap .u8 (addI .i64 (IntKind.wrap .i64 (subI .i32 x 97)) 10) = x - 87 := by
        unfold subI; rw [i32 _ (by omega) (by omega), i64_id (by omega) (by omega), add_id (by omega) (by omega), u8 _ (by omega) (by omega)]; omega
      rw [e1, or_u8 ho ⟨v0, v16⟩]
      rw [dt (by omega), cond_true, df (by omega), cond_false]
      repeat rw [dt (by omega), cond_true]
      rfl
    · cases hv
end

theorem getElem?_take' {α : Type} (l : List α) (n i : Nat) (h : i < n) : (l.take n)[i]? = l[i]? := List.getElem?_take_of_lt h

theorem parse_l0 (k : Nat) (s : List Int) (hb : byteL s) (hl : s.length = 64) : ∀ (d n t : Nat) (o : List Int), t + d = 32 → 2 * d < n → o.length = 32 → byteL o → (∀ j, j < 32 - t → o.getD j 0 = 0) → showB (o.drop (32 - t)) = s.take (2 * t) →
    (∃ x, digest_Parse.l0.f k z32 (bst s) n o (2 * t) = some (.inl (x, 64)) ∧ x.length = 32 ∧ byteL x ∧ showB x = s) ∨ (digest_Parse.l0.f k z32 (bst s) n o (2 * t) = some (.inr (4, z32)) ∧ ∃ c ∈ s, hexv c = none) := by
  intro d
  induction d with
  | zero =>
    intro n t o ht hn ho hob hz hs
    obtain ⟨n, rfl⟩ : ∃ q, n = q + 1 := ⟨n - 1, by omega⟩
    have : t = 32 := by omega
    subst this
    left
    refine ⟨o, ?_, ho, hob, ?_⟩
    · unfold digest_Parse.l0.f digest_Parse.l0.go digest_Parse.l0.step
      rw [df (by rw [size_bst]; omega)]
      rfl
    · rw [show 32 - 32 = 0 from rfl, List.drop_zero, List.take_of_length_le (by omega)] at hs
      exact hs
  | succ d ih =>
    intro n t o ht hn ho hob hz hs
    obtain ⟨n, rfl⟩ : ∃ q, n = q + 2 := ⟨n - 2, by omega⟩
    have hi1 : 2 * t < s.length := by omega
    have hi2 : 2 * t + 1 < s.length := by omega
    have j1 : 31 - 2 * t / 2 = 31 - t := by omega
    have j2 : 31 - (2 * t + 1) / 2 = 31 - t := by omega
    have z0 : o.getD (31 - t) 0 = 0 := hz _ (by omega)
    cases hv1 : hexv s[2 * t] with
    | none =>
      right
      refine ⟨?_, _, List.getElem_mem hi1, hv1⟩
      unfold digest_Parse.l0.f digest_Parse.l0.go
      rw [parse_bad _ _ _ k z32 s o (2 * t) hb hl (by omega) hv1]
    | some v1 =>
      obtain ⟨x1, v10, v116⟩ := hexd_hexv hv1
      have g1 {X : Type} (K : List Int → Nat → Option X) (Q : Int → List Int → Option X) (G : List Int → Nat → Option X) := parse_good K Q G k z32 s o (2 * t) hb hl (by omega) hv1 (by rw [j1, z0]; omega)
      rw [j1, z0] at g1
      have e1 : 16 * 0 + v1 = v1 := by omega
      rw [e1] at g1
      have go1 : (o.set (31 - t) v1).getD (31 - t) 0 = v1 := by rw [getD_set, if_pos ⟨rfl, by omega⟩]
      cases hv2 : hexv s[2 * t + 1] with
      | none =>
        right
        refine ⟨?_, _, List.getElem_mem hi2, hv2⟩
        unfold digest_Parse.l0.f digest_Parse.l0.go
        rw [g1]
        unfold digest_Parse.l0.go
        rw [parse_bad _ _ _ k z32 s _ (2 * t + 1) hb hl (by omega) hv2]
      | some v2 =>
        obtain ⟨x2, v20, v216⟩ := hexd_hexv hv2
        have g2 {X : Type} (K : List Int → Nat → Option X) (Q : Int → List Int → Option X) (G : List Int → Nat → Option X) := parse_good K Q G k z32 s (o.set (31 - t) v1) (2 * t + 1) hb hl (by omega) hv2 (by rw [j2, go1]; omega)
        rw [j2, go1, set_set] at g2
        have hstep : digest_Parse.l0.f k z32 (bst s) (n + 2) o (2 * t) = digest_Parse.l0.f k z32 (bst s) n (o.set (31 - t) (16 * v1 + v2)) (2 * (t + 1)) := by
          unfold digest_Parse.l0.f
          show digest_Parse.l0.step _ _ (digest_Parse.l0.go _ _ k z32 (bst s) (n + 1)) k z32 (bst s) o (2 * t) = _
          rw [g1]
          show digest_Parse.l0.step _ _ (digest_Parse.l0.go _ _ k z32 (bst s) n) k z32 (bst s) _ (2 * t + 1) = _
          rw [g2]
          rfl
        rw [hstep]
        refine ih n (t + 1) (o.set (31 - t) (16 * v1 + v2)) (by omega) (by omega) (by simpa using ho) (byteL_set hob _ (by omega)) (fun j hj => ?_) ?_
        · rw [getD_set, if_neg (by omega)]; exact hz j (by omega)
        · have e31 : 32 - (t + 1) = 31 - t := by omega
          have e32 : 32 - t = 31 - t + 1 := by omega
          rw [e31]
          have hlt : 31 - t < (o.set (31 - t) (16 * v1 + v2)).length := by simp; omega
          rw [List.drop_eq_getElem_cons hlt, List.getElem_set_self, List.drop_set_of_lt (by omega), ← e32, showB, hs]
          have hxe : hx (16 * v1 + v2) = [s[2 * t], s[2 * t + 1]] := by
            unfold hx
            rw [show (16 * v1 + v2) / 16 = v1 by omega, show (16 * v1 + v2) % 16 = v2 by omega, x1, x2]
          rw [hxe]
          have : 2 * (t + 1) = 2 * t + 1 + 1 := by omega
          rw [this, List.take_succ_eq_append_getElem hi2, List.take_succ_eq_append_getElem hi1, List.append_assoc]
          rfl

theorem parse_eq (k : Nat) (s : List Int) (hb : byteL s) (hk : 100 < k) : (∃ x, digest_Parse.f k s = some (x, 0) ∧ x.length = 32 ∧ byteL x ∧ showB x = s) ∨ (digest_Parse.f k s = some (z32, 4) ∧ (s.length = 64 → ∃ c ∈ s, hexv c = none)) := by
  unfold digest_Parse.f digest_Parse.tree
  by_cases hl : s.length = 64
  · rw [bne_f (by omega), cond_false]
    rcases parse_l0 k s hb hl 32 k 0 z32 (by omega) (by omega) rfl byteL_z32 (fun j hj => by
      rw [List.getD_eq_getElem?_getD]
      cases hz : z32[j]? with
      | none => rfl
      | some y =>
        have := List.mem_of_getElem? hz
        have : y = 0 := by simpa using this
        subst this; rfl) rfl with ⟨x, h1, h2⟩ | ⟨h1, h2⟩
    · left
      rw [show 2 * 0 = 0 from rfl] at h1
      rw [h1]
      exact ⟨x, rfl, h2⟩
    · right
      rw [show 2 * 0 = 0 from rfl] at h1
      rw [h1]
      exact ⟨rfl, fun _ => h2⟩
  · right
    rw [bne_t (by omega), cond_true]
    exact ⟨rfl, fun h => absurd h hl⟩

end Go.Proofs.YtnnajeoeeefjaaaDoor.Sy
