/- Headers: what they are in bytes, and what is read. -/
import Derived.Test.YtnnajeoeeefjaaaDoorQ70
import Derived.Test.YtnnajeoeeefjaaaDoorQ64
namespace Go.Proofs.YtnnajeoeeefjaaaDoor.Sy
open Go
set_option linter.unusedVariables false
set_option linter.unusedSimpArgs false

abbrev Hdr := T_3d5633

def hP (h : Hdr) : Prop := (-2147483648 ≤ h.1 ∧ h.1 < 2147483648) ∧ (0 ≤ h.2.2.2.1 ∧ h.2.2.2.1 < 4294967296) ∧ (0 ≤ h.2.2.2.2.1 ∧ h.2.2.2.2.1 < 4294967296) ∧ (0 ≤ h.2.2.2.2.2 ∧ h.2.2.2.2.2 < 4294967296)
instance (h : Hdr) : Decidable (hP h) := by unfold hP; infer_instance
def hgood (h : Hdr) : Bool := decide (hP h)

theorem bandD {p q : Prop} [Decidable p] [Decidable q] : (bif decide p then some (decide q) else some false) = some (decide (p ∧ q)) := by
  by_cases hp : p <;> by_cases hq : q <;> simp [hp, hq]

theorem cgood_eq (k : Nat) (a : Int) : compact_Good.f k a = some (decide (a ≥ 0 ∧ a ≤ 4294967295)) := bandD

theorem hgood_eq (k : Nat) (h : Hdr) : header_Good.f k h = some (hgood h) := by
  unfold header_Good.f header_Good.tree
  simp only [cgood_eq, Option.bind_some, bandD]
  exact congrArg some (decide_eq_decide.2 (by unfold hP; omega))

theorem rgood_eq (k : Nat) (h : Hdr) : trailheadref06_Good.f k h = some (hgood h) := by
  unfold trailheadref06_Good.f trailheadref06_Good.tree
  simp only [bandD]
  exact congrArg some (decide_eq_decide.2 (by unfold hP; omega))

/-- Both names are names. -/
def hN (h : Hdr) : Prop := name h.2.1 ∧ name h.2.2.1

def hb (h : Hdr) : List Int := num 4 h.1 ++ (h.2.1 ++ (h.2.2.1 ++ (num 4 h.2.2.2.1 ++ (num 4 h.2.2.2.2.1 ++ num 4 h.2.2.2.2.2))))

theorem hb_length {h : Hdr} (hn : hN h) : (hb h).length = 80 := by
  unfold hb; simp [hn.1.1, hn.2.1]
theorem hb_byteL {h : Hdr} (hn : hN h) : byteL (hb h) := by
  unfold hb
  exact byteL_append (num_byteL _ _) (byteL_append hn.1.2 (byteL_append hn.2.2 (byteL_append (num_byteL _ _) (byteL_append (num_byteL _ _) (num_byteL _ _)))))

abbrev zeroN : List Int := [0, 0, 0, 0, 0, 0, 0, 0, 0, 0, 0, 0, 0, 0, 0, 0, 0, 0, 0, 0, 0, 0, 0, 0, 0, 0, 0, 0, 0, 0, 0, 0]
abbrev zeroH : Hdr := (0, zeroN, zeroN, 0, 0, 0)
theorem name_zero : name zeroN := ⟨rfl, by intro y hy; have : y = 0 := by simpa using hy
                                           omega⟩
theorem hN_zero : hN zeroH := ⟨name_zero, name_zero⟩
theorem good_zero : hgood zeroH = true := by decide

theorem pens (k : Nat) (v : Int) (p r : List Int) (t b n : Int) (hp : List.length p = 32) (hr : List.length r = 32) (hk : 100 < k) :
    (Option.bind (scroll_Pen_Put.f k (4 : Int) [v]) (fun r5 => (Option.bind (scroll_Pen_Names.f k ([p, r] : (List (List Int))) r5) (fun r6 => (Option.bind (scroll_Pen_Put_v1.f k (4 : Int) ([t, b, n] : (List Int)) r6) (fun r7 => some r7)))))) = some (hb (v, p, r, t, b, n)) := by
  rw [put0_eq k 4 [v] (by omega) (by simp; omega) (by simp), Option.bind_some, nums1, cl_4]
  rw [names_eq k [p, r] _ (by intro h hh; simp at hh; rcases hh with rfl | rfl <;> assumption) (by simp; omega) (by simp) (by simp), Option.bind_some]
  rw [put_eq k 4 [t, b, n] _ (by omega) (by simp; omega) (by simp) (by simp [hp, hr]), Option.bind_some, cl_4]
  unfold hb
  simp [nums]

theorem hwrite_eq (k : Nat) (h : Hdr) (hn : hN h) (hk : 100 < k) : header_Write.f k h = some (bif hgood h then hb h else hb zeroH) := by
  unfold header_Write.f header_Write.tree
  rw [hgood_eq, Option.bind_some]
  cases hgood h
  · exact pens k 0 zeroN zeroN 0 0 0 rfl rfl hk
  · exact pens k h.1 h.2.1 h.2.2.1 h.2.2.2.1 h.2.2.2.2.1 h.2.2.2.2.2 hn.1.1 hn.2.1 hk

theorem hbytes_eq (k : Nat) (h : Hdr) (hn : hN h) (hk : 100 < k) : header_Bytes.f k h = some (bif hgood h then (hb h, 0) else ([], 1)) := by
  unfold header_Bytes.f header_Bytes.tree
  rw [hgood_eq, Option.bind_some]
  cases hg : hgood h
  · rfl
  · rw [Bool.not_true, cond_false, hwrite_eq k h hn hk, hg, Option.bind_some, cond_true, cond_true, text_eq k _ (hb_byteL hn), Option.bind_some]

/-- A header's name. -/
def hid (h : Hdr) : List Int := bif hgood h then sha (sha (hb h)) else zeroN

theorem hid_eq (k : Nat) (h : Hdr) (hn : hN h) (hk : 20000 < k) : header_Id.f k h H8 K64 = some (hid h) := by
  unfold header_Id.f header_Id.tree hid
  rw [hbytes_eq k h hn (by omega), Option.bind_some]
  cases hgood h
  · rfl
  · rw [cond_true, cond_true]
    have b0 : ((0 : Int) != (0 : Int)) = false := rfl
    simp only [b0, cond_false]
    rw [double1_eq k _ (hb_byteL hn) hk (by rw [hb_length hn]; omega)]
    rfl

theorem rbytes_eq (k : Nat) (h : Hdr) (hn : hN h) (hk : 100 < k) : trailheadref06_Bytes.f k h = some (hb h) := by
  unfold trailheadref06_Bytes.f trailheadref06_Bytes.tree
  have h1 := hn.1.1
  have h2 := hn.2.1
  rw [number_eq k 4 _ (by omega), Option.bind_some, rname_eq k _ hn.1 (by omega), Option.bind_some, fits_ok (by simp [cl_4, h1]), cond_true,
    rname_eq k _ hn.2 (by omega), Option.bind_some, fits_ok (by simp [cl_4, h1, h2]), cond_true,
    number_eq k 4 _ (by omega), Option.bind_some, fits_ok (by simp [cl_4, h1, h2]), cond_true,
    number_eq k 4 _ (by omega), Option.bind_some, fits_ok (by simp [cl_4, h1, h2]), cond_true,
    number_eq k 4 _ (by omega), Option.bind_some, fits_ok (by simp [cl_4, h1, h2]), cond_true, cl_4]
  unfold hb
  simp

theorem rid_eq (k : Nat) (h : Hdr) (hn : hN h) (hk : 20000 < k) : trailheadref06_Id.f k h = some (hid h) := by
  unfold trailheadref06_Id.f trailheadref06_Id.tree hid
  rw [rgood_eq, Option.bind_some]
  cases hgood h
  · rfl
  · rw [Bool.not_true, cond_false, cond_true, rbytes_eq k h hn (by omega), Option.bind_some, rdouble_eq k _ (hb_byteL hn) (by rw [hb_length hn]; omega) (by rw [hb_length hn]; omega), Option.bind_some]

theorem hid_length (h : Hdr) : (hid h).length = 32 := by
  unfold hid
  cases hgood h
  · rfl
  · rw [cond_true]; exact sha_length _
theorem hid_name (h : Hdr) : name (hid h) := ⟨hid_length h, by
  unfold hid
  cases hgood h
  · rw [cond_false]; exact name_zero.2
  · rw [cond_true]; exact sha_byteL _⟩

theorem alive06 (k : Nat) (hk : 20000 < k) : trailheadlaw06_alive.f k H8 K64 = some true := by
  unfold trailheadlaw06_alive.f trailheadlaw06_alive.tree
  have hn1 : hN (1, zeroN, zeroN, 0, 0, 0) := ⟨name_zero, name_zero⟩
  have g1 : hgood (1, zeroN, zeroN, 0, 0, 0) = true := by decide
  rw [hbytes_eq k (1, zeroN, zeroN, 0, 0, 0) hn1 (by omega), g1, Option.bind_some, hid_eq k zeroH hN_zero hk, Option.bind_some, rid_eq k zeroH hN_zero hk, Option.bind_some]
  have e1 : hb (1, zeroN, zeroN, 0, 0, 0) = 1 :: (hb (1, zeroN, zeroN, 0, 0, 0)).tail := by decide +kernel
  have e2 := hb_length hn1
  have e3 : (hb (1, zeroN, zeroN, 0, 0, 0)).getD 0 0 = 1 := by rw [e1]; rfl
  generalize hb (1, zeroN, zeroN, 0, 0, 0) = B at e2 e3
  simp only [cond_true, e2, e3]
  rw [dt (by omega)]
  simp

/-! ### What is read -/

/-- The eye, n bytes further. -/
def adv (n : Nat) (m : List Int × Bool) : List Int × Bool := if m.2 = false ∧ n ≤ m.1.length then (m.1.drop n, false) else ([], true)

theorem adv_ok {n : Nat} {t : List Int} (h : n ≤ t.length) : adv n (t, false) = (t.drop n, false) := if_pos ⟨rfl, h⟩
theorem adv_bad {n : Nat} {m : List Int × Bool} (h : m.2 = true ∨ m.1.length < n) : adv n m = ([], true) := if_neg (by
  rintro ⟨h1, h2⟩
  rcases h with h | h
  · rw [h1] at h; cases h
  · omega)
theorem adv_adv (a b : Nat) (m : List Int × Bool) : adv a (adv b m) = adv (b + a) m := by
  by_cases hb : m.2 = false ∧ b ≤ m.1.length
  · have e : adv b m = (m.1.drop b, false) := if_pos hb
    rw [e]
    by_cases ha : b + a ≤ m.1.length
    · rw [adv_ok (by rw [List.length_drop]; omega), List.drop_drop]
      unfold adv; rw [if_pos ⟨hb.1, ha⟩]
    · rw [adv_bad (.inr (by rw [List.length_drop]; omega)), adv_bad (.inr (by omega))]
  · have e : adv b m = ([], true) := if_neg hb
    rw [e, adv_bad (.inl rfl), adv_bad]
    cases h2 : m.2
    · exact .inr (by have : ¬ b ≤ m.1.length := fun h => hb ⟨h2, h⟩; omega)
    · exact .inl rfl
theorem adv_byteL {n : Nat} {m : List Int × Bool} (h : byteL m.1) : byteL (adv n m).1 := by
  unfold adv
  split
  · exact byteL_drop n h
  · exact byteL_nil

theorem eget_adv (k : Nat) (m : List Int × Bool) (hk : 7 < k) (hb : byteL m.1) : scroll_Eye_Get.f k 4 m = some (bif (adv 4 m).2 then 0 else val (m.1.take 4), adv 4 m) := by
  by_cases h : m.2 = false ∧ 4 ≤ m.1.length
  · obtain ⟨t, b⟩ := m
    obtain ⟨rfl, h⟩ := h
    rw [adv_ok h, eget_take k 4 t hk hb (by rw [cl7_4]; exact h), cl7_4]; rfl
  · have h' : m.2 = true ∨ m.1.length < 4 := by
      cases h2 : m.2
      · exact .inr (by have : ¬ 4 ≤ m.1.length := fun h' => h ⟨h2, h'⟩; omega)
      · exact .inl rfl
    rw [adv_bad h', eget_bad k 4 m (by omega) (by rw [cl7_4]; exact h')]; rfl

theorem ename_adv (k : Nat) (m : List Int × Bool) : scroll_Eye_Name.f k m = some (bif (adv 32 m).2 then zeroN else m.1.take 32, adv 32 m) := by
  by_cases h : m.2 = false ∧ 32 ≤ m.1.length
  · obtain ⟨t, b⟩ := m
    obtain ⟨rfl, h⟩ := h
    rw [adv_ok h, ename_take k t h]; rfl
  · have h' : m.2 = true ∨ m.1.length < 32 := by
      cases h2 : m.2
      · exact .inr (by have : ¬ 32 ≤ m.1.length := fun h' => h ⟨h2, h'⟩; omega)
      · exact .inl rfl
    rw [adv_bad h', ename_bad k m h']; rfl

/-- The header in 80 bytes. -/
def rd (t : List Int) : Hdr := (IntKind.wrap .i64 (IntKind.wrap .i32 (val (t.take 4))), (t.drop 4).take 32, (t.drop 36).take 32, val ((t.drop 68).take 4), val ((t.drop 72).take 4), val ((t.drop 76).take 4))

theorem hread_ok (k : Nat) (t : List Int) (hk : 7 < k) (hb : byteL t) (h : 80 ≤ t.length) : header_Read.f k (t, false) = some (rd t, (t.drop 80, false)) := by
  unfold header_Read.f header_Read.tree
  have d1 : byteL (t.drop 4) := byteL_drop 4 hb
  rw [eget_adv k _ hk hb, adv_ok (by omega), Option.bind_some]
  simp only [cond_false]
  rw [ename_adv, adv_ok (by rw [List.length_drop]; omega), Option.bind_some]
  simp only [cond_false, List.drop_drop]
  rw [ename_adv, adv_ok (by rw [List.length_drop]; omega), Option.bind_some]
  simp only [cond_false, List.drop_drop]
  rw [eget_adv k _ hk (byteL_drop _ hb), adv_ok (by rw [List.length_drop]; omega), Option.bind_some]
  simp only [cond_false, List.drop_drop]
  rw [eget_adv k _ hk (byteL_drop _ hb), adv_ok (by rw [List.length_drop]; omega), Option.bind_some]
  simp only [cond_false, List.drop_drop]
  rw [eget_adv k _ hk (byteL_drop _ hb), adv_ok (by rw [List.length_drop]; omega), Option.bind_some]
  simp only [cond_false, List.drop_drop]
  rfl

theorem hread_bad (k : Nat) (t : List Int) (hk : 7 < k) (hb : byteL t) (h : t.length < 80) : header_Read.f k (t, false) = some (zeroH, ([], true)) := by
  unfold header_Read.f header_Read.tree
  rw [eget_adv k _ hk hb, Option.bind_some]
  simp only []
  rw [ename_adv, Option.bind_some]
  simp only [adv_adv]
  rw [ename_adv, Option.bind_some]
  simp only [adv_adv]
  rw [eget_adv k _ hk (adv_byteL hb), Option.bind_some]
  simp only [adv_adv]
  rw [eget_adv k _ hk (adv_byteL hb), Option.bind_some]
  simp only [adv_adv]
  rw [eget_adv k _ hk (adv_byteL hb), Option.bind_some]
  simp only [adv_adv]
  have e : adv (4 + 32 + 32 + 4 + 4 + 4) (t, false) = ([], true) := adv_bad (.inr h)
  rw [e]
  rfl

theorem hof_eq (k : Nat) (t : List Int) (hk : 7 < k) (hb : byteL t) : header_Of.f k t = some (if t.length = 80 then (rd t, 0) else (zeroH, 4)) := by
  unfold header_Of.f header_Of.tree
  have e1 : scroll_On.f k t = some (t, false) := rfl
  rw [e1, Option.bind_some]
  by_cases h : t.length < 80
  · rw [hread_bad k t hk hb h, if_neg (by omega)]; rfl
  · rw [hread_ok k t hk hb (by omega), Option.bind_some, done_eq, Option.bind_some]
    by_cases h2 : t.length = 80
    · rw [if_pos h2, dt (List.drop_of_length_le (by omega))]; rfl
    · rw [if_neg h2, df (fun e => by have := congrArg List.length e; rw [List.length_drop] at this; simp at this; omega)]; rfl

theorem i32_wrap (n : Int) : IntKind.wrap .i32 n = (n + 2147483648) % 4294967296 - 2147483648 := by
  simp [IntKind.wrap, IntKind.bits, IntKind.signed]
  split <;> omega

theorem val4_lt {t : List Int} (hb : byteL t) : 0 ≤ val (t.take 4) ∧ val (t.take 4) < 4294967296 := by
  have h := val_lt (t.take 4) (byteL_take 4 hb)
  have h2 : (256 : Int) ^ (t.take 4).length ≤ 256 ^ 4 := pow256_le (by rw [List.length_take]; omega)
  exact ⟨val_nonneg _ (byteL_take 4 hb), by omega⟩

theorem rd_num (t : List Int) : num 4 (rd t).1 = num 4 (val (t.take 4)) := by
  show num 4 (IntKind.wrap .i64 (IntKind.wrap .i32 (val (t.take 4)))) = _
  rw [i32_wrap, i64_id (by omega) (by omega), ← num_mod 4 4 _ (by omega), ← num_mod 4 4 (val _) (by omega)]
  congr 1
  omega

theorem rd_hN (t : List Int) (hb : byteL t) (h : 80 ≤ t.length) : hN (rd t) :=
  ⟨⟨by show ((t.drop 4).take 32).length = 32
       rw [List.length_take, List.length_drop]; omega, byteL_take _ (byteL_drop _ hb)⟩,
   ⟨by show ((t.drop 36).take 32).length = 32
       rw [List.length_take, List.length_drop]; omega, byteL_take _ (byteL_drop _ hb)⟩⟩

theorem rd_good (t : List Int) (hb : byteL t) : hgood (rd t) = true := by
  have h1 := val4_lt (byteL_drop 68 hb)
  have h2 := val4_lt (byteL_drop 72 hb)
  have h3 := val4_lt (byteL_drop 76 hb)
  refine dt ⟨?_, h1, h2, h3⟩
  show -2147483648 ≤ IntKind.wrap .i64 (IntKind.wrap .i32 (val (t.take 4))) ∧ IntKind.wrap .i64 (IntKind.wrap .i32 (val (t.take 4))) < 2147483648
  rw [i32_wrap, i64_id (by omega) (by omega)]
  omega

theorem num_take (t : List Int) (n : Nat) (hb : byteL t) (h : n ≤ t.length) : num n (val (t.take n)) = t.take n := by
  have := num_val (t.take n) (byteL_take n hb)
  rw [List.length_take_of_le h] at this
  exact this

theorem hb_rd (t : List Int) (hb' : byteL t) (h : t.length = 80) : hb (rd t) = t := by
  unfold hb
  rw [rd_num]
  show num 4 (val (t.take 4)) ++ ((t.drop 4).take 32 ++ ((t.drop 36).take 32 ++ (num 4 (val ((t.drop 68).take 4)) ++ (num 4 (val ((t.drop 72).take 4)) ++ num 4 (val ((t.drop 76).take 4)))))) = t
  rw [num_take t 4 hb' (by omega), num_take _ 4 (byteL_drop _ hb') (by rw [List.length_drop]; omega), num_take _ 4 (byteL_drop _ hb') (by rw [List.length_drop]; omega), num_take _ 4 (byteL_drop _ hb') (by rw [List.length_drop]; omega)]
  have e (a b : Nat) : (t.drop a).take b ++ t.drop (a + b) = t.drop a := by rw [← List.drop_drop]; exact List.take_append_drop b (t.drop a)
  have e5 : (t.drop 76).take 4 = t.drop 76 := List.take_of_length_le (by rw [List.length_drop]; omega)
  rw [e5, e 72 4, e 68 4, e 36 32, e 4 32]
  exact List.take_append_drop 4 t

theorem take_app {a b : List Int} {n : Nat} (h : a.length = n) : (a ++ b).take n = a := by
  rw [List.take_append_of_le_length (by omega), List.take_of_length_le (by omega)]
theorem drop_app {a b : List Int} {n : Nat} (h : a.length = n) : (a ++ b).drop n = b := by
  rw [List.drop_append_of_le_length (by omega), List.drop_of_length_le (by omega), List.nil_append]

theorem rd_hb (h : Hdr) (s : List Int) (hn : hN h) (hg : hgood h = true) : rd (hb h ++ s) = h := by
  obtain ⟨v, p, r, t, b, n⟩ := h
  obtain ⟨⟨p1, p2⟩, ⟨r1, r2⟩⟩ := hn
  obtain ⟨⟨g1, g2⟩, ⟨g3, g4⟩, ⟨g5, g6⟩, ⟨g7, g8⟩⟩ := of_decide_eq_true hg
  simp only at p1 p2 r1 r2 g1 g2 g3 g4 g5 g6 g7 g8
  have hv (x : Int) (h0 : 0 ≤ x) (h1 : x < 4294967296) : val (num 4 x) = x := by rw [val_num]; exact Int.emod_eq_of_lt h0 h1
  unfold rd hb
  simp only [List.append_assoc]
  have t0 (y : List Int) (x : Int) : (num 4 x ++ y).take 4 = num 4 x := take_app (by simp)
  have d4 (y : List Int) (x : Int) : (num 4 x ++ y).drop 4 = y := drop_app (by simp)
  have e36 (y : List Int) : y.drop 36 = (y.drop 4).drop 32 := by rw [List.drop_drop]
  have e68 (y : List Int) : y.drop 68 = ((y.drop 4).drop 32).drop 32 := by rw [List.drop_drop, List.drop_drop]
  have e72 (y : List Int) : y.drop 72 = (((y.drop 4).drop 32).drop 32).drop 4 := by rw [List.drop_drop, List.drop_drop, List.drop_drop]
  have e76 (y : List Int) : y.drop 76 = ((((y.drop 4).drop 32).drop 32).drop 4).drop 4 := by rw [List.drop_drop, List.drop_drop, List.drop_drop, List.drop_drop]
  simp only [e36, e68, e72, e76, t0, d4, take_app p1, drop_app p1, take_app r1, drop_app r1, hv t g3 g4, hv b g5 g6, hv n g7 g8, val_num]
  have e : IntKind.wrap .i64 (IntKind.wrap .i32 (v % 256 ^ 4)) = v := by
    rw [i32_wrap, i64_id (by omega) (by omega)]; omega
  rw [e]

theorem rd_hb0 (h : Hdr) (hn : hN h) (hg : hgood h = true) : rd (hb h) = h := by
  have := rd_hb h [] hn hg
  rwa [List.append_nil] at this

theorem hb_inj {a b : Hdr} (ha : hN a) (hb' : hN b) (ga : hgood a = true) (gb : hgood b = true) (e : hb a = hb b) : a = b := by
  rw [← rd_hb0 a ha ga, e, rd_hb0 b hb' gb]

abbrev hdrT : Ty := .pair (.int .i64) (.pair (.arr .u8 32) (.pair (.arr .u8 32) (.pair (.int .i64) (.pair (.int .i64) (.int .i64)))))

theorem eqDen_hdr (a b : Hdr) : eqDen (.pair (.int .i64) (.pair (.arr .u8 32) (.pair (.arr .u8 32) (.pair (.int .i64) (.pair (.int .i64) (.int .i64)))))) a b = decide (a = b) := by
  have e : eqDen (.pair (.int .i64) (.pair (.arr .u8 32) (.pair (.arr .u8 32) (.pair (.int .i64) (.pair (.int .i64) (.int .i64)))))) a b = (decide (a.1 = b.1) && (decide (a.2.1 = b.2.1) && (decide (a.2.2.1 = b.2.2.1) && (decide (a.2.2.2.1 = b.2.2.2.1) && (decide (a.2.2.2.2.1 = b.2.2.2.2.1) && decide (a.2.2.2.2.2 = b.2.2.2.2.2)))))) := by
    simp only [eqDen]
  rw [e, Bool.eq_iff_iff]
  simp only [Bool.and_eq_true, decide_eq_true_eq, Prod.ext_iff]

theorem hN_of {h : Hdr} (hg : goodT (.pair (.int .i64) (.pair (.arr .u8 32) (.pair (.arr .u8 32) (.pair (.int .i64) (.pair (.int .i64) (.int .i64)))))) h) : hN h := ⟨name_of hg.2.1, name_of hg.2.2.1⟩

end Go.Proofs.YtnnajeoeeefjaaaDoor.Sy
