/- Messages: bytes, the document's payload, what plays a part. -/
import Derived.Test.YtkgpjplncfginaaGreatDoorQ122Z
namespace Go.Proofs.YtkgpjplncfginaaGreatDoor.Sy
open Go
set_option linter.unusedVariables false
set_option linter.unusedSimpArgs false

theorem word_good {v : Int} (h : 1 ≤ v) (h' : v ≤ 8) : wB (wordOf v) = true := by
  rcases k8 h h' with rfl | rfl | rfl | rfl | rfl | rfl | rfl | rfl <;> decide

theorem gB_of {m : Msg} (hg : mgood m = true) (hn : mN m) : gB (wordOf m.1, mpay m) = true := by
  have := good_kind hg
  unfold gB
  rw [word_good this.1 this.2, Bool.true_and]
  exact dt (by have := pay_le hg hn; show (mpay m).length ≤ 16384; omega)

/-- A message's bytes. -/
def mB (m : Msg) : List Int × Int := bif mgood m then (envB (wordOf m.1, mpay m), 0) else ([], 1)

theorem mbytes_eq (k : Nat) (m : Msg) (hn : mN m) (hk : 20000 < k) : speech_Bytes.f k m gv0 H8 K64 = some (mB m) := by
  unfold speech_Bytes.f speech_Bytes.tree mB
  rw [mgood_eq k m (by omega), Option.bind_some]
  cases hg : mgood m
  · rfl
  · rw [Bool.not_true, cond_false, cond_true, sword_eq, Option.bind_some, pay_eq k m hg hn (by omega), Option.bind_some, bytes7_eq k _ (gB_of hg hn) (pay_byteL hg hn) hk, Option.bind_some]

theorem mN_zero (v : Int) : mN ((v, 0, 0, 0, 0, [], zeroN, []) : Msg) := ⟨(fun h hh => by cases hh), name_zero, (fun h hh => by cases hh)⟩

theorem alive08 (k : Nat) (hk : 200000 < k) : trailheadlaw08_alive.f k gv0 H8 K64 = some true := by
  unfold trailheadlaw08_alive.f trailheadlaw08_alive.tree
  have e : mB ((2, 0, 0, 0, 0, [], zeroN, []) : Msg) = (envB ([118, 101, 114, 97, 99, 107], []), 0) := rfl
  rw [mbytes_eq k (2, 0, 0, 0, 0, [], zeroN, []) (mN_zero 2) (by omega), e, Option.bind_some, rbytes7_eq k [118, 101, 114, 97, 99, 107] [] (by simp) byteL_nil (by simp) hk]
  simp only [Option.bind_some]
  rw [skind_eq k _ (by omega), Option.bind_some]
  rfl

theorem great_eq (k : Nat) (m : Msg) : trailheadlaw08_great.f k m = some (decide (200 < m.2.2.2.2.2.1.length ∨ 100 < m.2.2.2.2.2.2.2.length)) := by
  unfold trailheadlaw08_great.f trailheadlaw08_great.tree
  by_cases h : 200 < m.2.2.2.2.2.1.length
  · rw [dt (show ((m.2.2.2.2.2.1.length : Nat) : Int) > 200 by omega), dt (show 200 < m.2.2.2.2.2.1.length ∨ 100 < m.2.2.2.2.2.2.2.length from Or.inl h)]; rfl
  · rw [df (show ¬ ((m.2.2.2.2.2.1.length : Nat) : Int) > 200 by omega), cond_false]
    congr 1
    exact decide_eq_decide.2 (by omega)

/-! ### The document's payload -/

theorem rb6 (k : Nat) (h : Hdr) : trailheadref06_Bytes.f k (h.1, h.2.1, h.2.2.1, h.2.2.2.1, h.2.2.2.2) = trailheadref06_Bytes.f k h := rfl

theorem rpay_l1 (k : Nat) (y : Msg) (l : List (List Int)) (hk : 100 < k) (hn : ∀ h ∈ l, name h) (hl : l.length ≤ 1000) : ∀ (d n i : Nat) (m : List Int), i + d = l.length → d < n → m.length + 32 * d ≤ 1000000 →
    trailheadref08_Payload.l1.f k (l.length : Int) y l n m (i : Int) = some (m ++ (l.drop i).flatten, (l.length : Int)) := by
  intro d
  induction d with
  | zero =>
    intro n i m hi hn hf
    obtain ⟨n, rfl⟩ : ∃ q, n = q + 1 := ⟨n - 1, by omega⟩
    unfold trailheadref08_Payload.l1.f trailheadref08_Payload.l1.go trailheadref08_Payload.l1.step
    have : i = l.length := by omega
    subst this
    rw [df (Int.lt_irrefl _), List.drop_length]
    simp
  | succ d ih =>
    intro n i m hi hn' hf
    obtain ⟨n, rfl⟩ : ∃ q, n = q + 1 := ⟨n - 1, by omega⟩
    have hlt : i < l.length := by omega
    have hm := hn _ (List.getElem_mem hlt)
    have h32 := hm.1
    have := ih n (i + 1) (m ++ l[i]) (by omega) (by omega) (by simp [h32]; omega)
    unfold trailheadref08_Payload.l1.f at this ⊢
    unfold trailheadref08_Payload.l1.go trailheadref08_Payload.l1.step
    have e : (i : Int) + 1 = ((i + 1 : Nat) : Int) := by omega
    have e2 : l.getD i (List.replicate 32 0 : List Int) = l[i] := by rw [List.getD_eq_getElem?_getD, List.getElem?_eq_getElem hlt]; rfl
    rw [dt (by omega), dt (by omega), dt (by omega), Int.toNat_natCast, add_id (by omega) (by omega), e2, rname_eq k _ hm (by omega)]
    simp only [cond_true, Option.bind_some]
    rw [fits_ok (by omega), cond_true, e, this, List.drop_eq_getElem_cons hlt, List.flatten_cons, List.append_assoc]

theorem rpay_l3 (k : Nat) (l : List Hdr) (hk : 100 < k) (hn : ∀ h ∈ l, hN h) (hl : l.length ≤ 1000) : ∀ (d n i : Nat) (m : List Int), i + d = l.length → d < n → m.length + 81 * d ≤ 1000000 →
    trailheadref08_Payload.l3.f k (l.length : Int) l n m (i : Int) = some (m ++ ((l.drop i).map hB).flatten, (l.length : Int)) := by
  intro d
  induction d with
  | zero =>
    intro n i m hi hn hf
    obtain ⟨n, rfl⟩ : ∃ q, n = q + 1 := ⟨n - 1, by omega⟩
    unfold trailheadref08_Payload.l3.f trailheadref08_Payload.l3.go trailheadref08_Payload.l3.step
    have : i = l.length := by omega
    subst this
    rw [df (Int.lt_irrefl _), List.drop_length]
    simp
  | succ d ih =>
    intro n i m hi hn' hf
    obtain ⟨n, rfl⟩ : ∃ q, n = q + 1 := ⟨n - 1, by omega⟩
    have hlt : i < l.length := by omega
    have hm := hn _ (List.getElem_mem hlt)
    have h80 := hb_length hm
    have := ih n (i + 1) (m ++ hB l[i]) (by omega) (by omega) (by simp [h80]; omega)
    unfold trailheadref08_Payload.l3.f at this ⊢
    unfold trailheadref08_Payload.l3.go trailheadref08_Payload.l3.step
    have e : (i : Int) + 1 = ((i + 1 : Nat) : Int) := by omega
    have e2 : l.getD i dfl_31f8ee = l[i] := by rw [List.getD_eq_getElem?_getD, List.getElem?_eq_getElem hlt]; rfl
    rw [dt (by omega), dt (by omega), dt (by omega), Int.toNat_natCast, add_id (by omega) (by omega), e2, rb6, rbytes_eq k _ hm hk]
    simp only [cond_true, Option.bind_some]
    rw [fits_ok (by omega), fits_ok (by rw [List.length_append]; omega), cond_true, cond_true, e, List.append_assoc, this, flat_drop hB l i hlt, List.append_assoc]

theorem rpay_l5 (k : Nat) (l : List (List Int)) (hk : 100 < k) (hn : ∀ h ∈ l, name h) (hl : l.length ≤ 1000) : ∀ (d n i : Nat) (m : List Int), i + d = l.length → d < n → m.length + 36 * d ≤ 1000000 →
    trailheadref08_Payload.l5.f k (l.length : Int) l n m (i : Int) = some (m ++ ((l.drop i).map nB).flatten, (l.length : Int)) := by
  intro d
  induction d with
  | zero =>
    intro n i m hi hn hf
    obtain ⟨n, rfl⟩ : ∃ q, n = q + 1 := ⟨n - 1, by omega⟩
    unfold trailheadref08_Payload.l5.f trailheadref08_Payload.l5.go trailheadref08_Payload.l5.step
    have : i = l.length := by omega
    subst this
    rw [df (Int.lt_irrefl _), List.drop_length]
    simp
  | succ d ih =>
    intro n i m hi hn' hf
    obtain ⟨n, rfl⟩ : ∃ q, n = q + 1 := ⟨n - 1, by omega⟩
    have hlt : i < l.length := by omega
    have hm := hn _ (List.getElem_mem hlt)
    have h32 := hm.1
    have := ih n (i + 1) (m ++ nB l[i]) (by omega) (by omega) (by simp [h32]; omega)
    unfold trailheadref08_Payload.l5.f at this ⊢
    unfold trailheadref08_Payload.l5.go trailheadref08_Payload.l5.step
    have e : (i : Int) + 1 = ((i + 1 : Nat) : Int) := by omega
    have e2 : l.getD i (List.replicate 32 0 : List Int) = l[i] := by rw [List.getD_eq_getElem?_getD, List.getElem?_eq_getElem hlt]; rfl
    rw [dt (by omega), dt (by omega), dt (by omega), Int.toNat_natCast, add_id (by omega) (by omega), e2, rname_eq k _ hm (by omega)]
    simp only [cond_true, Option.bind_some]
    rw [fits_ok (by omega), fits_ok (by rw [List.length_append]; simp; omega), cond_true, cond_true, e, List.append_assoc, this, flat_drop nB l i hlt, List.append_assoc]

theorem rpay_eq (k : Nat) (m : Msg) (hg : mgood m = true) (hn : mN m) (hk : 200 < k) : trailheadref08_Payload.f k m = some (mpay m) := by
  unfold trailheadref08_Payload.f trailheadref08_Payload.tree mpay
  by_cases h1 : m.1 = 1
  · rw [if_pos h1, beqt h1, cond_true, number_eq k 4 _ (by omega), Option.bind_some, number_eq k 4 _ (by omega), Option.bind_some, cl_4, fits_ok (by simp), cond_true,
      number_eq k 7 _ (by omega), Option.bind_some, cl_7, fits_ok (by simp), cond_true, number_eq k 7 _ (by omega), Option.bind_some, cl_7, fits_ok (by simp), cond_true]
    simp only [List.append_assoc]
  rw [if_neg h1, beqf h1, cond_false]
  by_cases h3 : m.1 = 3
  · have h32 := good_names hg (.inl h3)
    have hf := flatten_length 32 (fun x hx => (hn.1 x hx).1)
    have := rpay_l1 k m m.2.2.2.2.2.1 (by omega) hn.1 (by omega) m.2.2.2.2.2.1.length k 0 (num 4 m.2.1 ++ [(m.2.2.2.2.2.1.length : Int)]) (by omega) (by omega) (by simp; omega)
    rw [show ((0 : Nat) : Int) = 0 from rfl, List.drop_zero] at this
    rw [if_pos h3, beqt h3, cond_true, number_eq k 4 _ (by omega), Option.bind_some, rcount_eq k _ (by omega), Option.bind_some, cl_4, cnt_small (by omega) (by omega), fits_ok (by simp), cond_true, this, Option.bind_some, rname_eq k _ hn.2.1 (by omega), Option.bind_some]
    simp only
    rw [fits_ok (by simp [hf, hn.2.1.1]; omega), cond_true]
    simp
  rw [if_neg h3, beqf h3, cond_false]
  by_cases h4 : m.1 = 4
  · have h64 := good_headers hg h4
    have := rpay_l3 k m.2.2.2.2.2.2.2 (by omega) hn.2.2 (by omega) m.2.2.2.2.2.2.2.length k 0 [(m.2.2.2.2.2.2.2.length : Int)] (by omega) (by omega) (by simp; omega)
    rw [show ((0 : Nat) : Int) = 0 from rfl, List.drop_zero] at this
    rw [if_pos h4, beqt h4, cond_true, rcount_eq k _ (by omega), Option.bind_some, cnt_small (by omega) (by omega), this]
    rfl
  rw [if_neg h4, beqf h4, cond_false]
  by_cases h5 : m.1 = 5
  · have h32 := good_names hg (.inr h5)
    have := rpay_l5 k m.2.2.2.2.2.1 (by omega) hn.1 (by omega) m.2.2.2.2.2.1.length k 0 [(m.2.2.2.2.2.1.length : Int)] (by omega) (by omega) (by simp; omega)
    rw [show ((0 : Nat) : Int) = 0 from rfl, List.drop_zero] at this
    rw [if_pos h5, beqt h5, cond_true, rcount_eq k _ (by omega), Option.bind_some, cnt_small (by omega) (by omega), this]
    rfl
  rw [if_neg h5, beqf h5, cond_false]
  by_cases h6 : m.1 = 6
  · rw [if_pos (.inl h6), beqt h6, cond_true, cond_true, number_eq k 7 _ (by omega), cl_7]
    rfl
  rw [beqf h6, cond_false]
  by_cases h7 : m.1 = 7
  · rw [if_pos (.inr h7), beqt h7, cond_true, number_eq k 7 _ (by omega), cl_7]
    rfl
  rw [beqf h7, cond_false, if_neg (by omega)]

/-! ### What plays a part -/

instance : DecidableEq Hdr := inferInstanceAs (DecidableEq (Int × List Int × List Int × Int × Int × Int))
instance dq1 : DecidableEq (List Int × List Hdr) := fun a b => instDecidableEqProd a b
instance dq2 : DecidableEq (List (List Int) × List Int × List Hdr) := fun a b => instDecidableEqProd a b
instance dq3 : DecidableEq (Int × List (List Int) × List Int × List Hdr) := fun a b => instDecidableEqProd a b
instance dq4 : DecidableEq (Int × Int × List (List Int) × List Int × List Hdr) := fun a b => instDecidableEqProd a b
instance dq5 : DecidableEq (Int × Int × Int × List (List Int) × List Int × List Hdr) := fun a b => instDecidableEqProd a b
instance dq6 : DecidableEq (Int × Int × Int × Int × List (List Int) × List Int × List Hdr) := fun a b => instDecidableEqProd a b
instance dq7 : DecidableEq Msg := fun a b => instDecidableEqProd a b

def bare (m : Msg) : Msg :=
  if m.1 = 1 then (m.1, m.2.1, m.2.2.1, m.2.2.2.1, m.2.2.2.2.1, [], zeroN, [])
  else if m.1 = 3 then (m.1, m.2.1, 0, 0, 0, m.2.2.2.2.2.1, m.2.2.2.2.2.2.1, [])
  else if m.1 = 4 then (m.1, 0, 0, 0, 0, [], zeroN, m.2.2.2.2.2.2.2)
  else if m.1 = 5 then (m.1, 0, 0, 0, 0, m.2.2.2.2.2.1, zeroN, [])
  else if m.1 = 6 ∨ m.1 = 7 then (m.1, 0, 0, 0, m.2.2.2.2.1, [], zeroN, [])
  else (m.1, 0, 0, 0, 0, [], zeroN, [])

theorem bare_eq (k : Nat) (m : Msg) : speech_bare_v2.f k m = some (bare m) := by
  unfold speech_bare_v2.f speech_bare_v2.tree bare
  by_cases h1 : m.1 = 1
  · rw [if_pos h1, beqt h1, cond_true]
  rw [if_neg h1, beqf h1, cond_false]
  by_cases h3 : m.1 = 3
  · rw [if_pos h3, beqt h3, cond_true]
  rw [if_neg h3, beqf h3, cond_false]
  by_cases h4 : m.1 = 4
  · rw [if_pos h4, beqt h4, cond_true]
  rw [if_neg h4, beqf h4, cond_false]
  by_cases h5 : m.1 = 5
  · rw [if_pos h5, beqt h5, cond_true]
  rw [if_neg h5, beqf h5, cond_false]
  by_cases h6 : m.1 = 6
  · rw [if_pos (.inl h6), beqt h6, cond_true, cond_true]
  rw [beqf h6, cond_false]
  by_cases h7 : m.1 = 7
  · rw [if_pos (.inr h7), beqt h7, cond_true]
  rw [beqf h7, cond_false, if_neg (by omega)]

theorem drop_eq_iff {X : Type} {a b : List X} {i : Nat} (h : i < a.length) (h' : i < b.length) : a.drop i = b.drop i ↔ a[i] = b[i] ∧ a.drop (i + 1) = b.drop (i + 1) := by
  rw [List.drop_eq_getElem_cons h, List.drop_eq_getElem_cons h', List.cons.injEq]

theorem eqh_l0 (k : Nat) (a b : List (List Int)) (hab : a.length = b.length) : ∀ (d n i : Nat), i + d = a.length → d < n → a.length ≤ 1000000 →
    slices_Equal_api_Hash_api_Hash_v1.l0.f k (a.length : Int) a b n (i : Int) = some (if a.drop i = b.drop i then .inl (a.length : Int) else .inr false) := by
  intro d
  induction d with
  | zero =>
    intro n i hi hn hl
    obtain ⟨n, rfl⟩ : ∃ q, n = q + 1 := ⟨n - 1, by omega⟩
    unfold slices_Equal_api_Hash_api_Hash_v1.l0.f slices_Equal_api_Hash_api_Hash_v1.l0.go slices_Equal_api_Hash_api_Hash_v1.l0.step
    have : i = a.length := by omega
    subst this
    rw [df (Int.lt_irrefl _), List.drop_length, hab, List.drop_length, if_pos rfl]
    rfl
  | succ d ih =>
    intro n i hi hn hl
    obtain ⟨n, rfl⟩ : ∃ q, n = q + 1 := ⟨n - 1, by omega⟩
    have hlt : i < a.length := by omega
    have hlt' : i < b.length := by omega
    have := ih n (i + 1) (by omega) (by omega) hl
    have e : (i : Int) + 1 = ((i + 1 : Nat) : Int) := by omega
    have e2 : a.getD i (List.replicate 32 0 : List Int) = a[i] := by rw [List.getD_eq_getElem?_getD, List.getElem?_eq_getElem hlt]; rfl
    have e3 : b.getD i (List.replicate 32 0 : List Int) = b[i] := by rw [List.getD_eq_getElem?_getD, List.getElem?_eq_getElem hlt']; rfl
    have st : slices_Equal_api_Hash_api_Hash_v1.l0.f k (a.length : Int) a b (n + 1) (i : Int) = (bif !(decide (a[i] = b[i])) then some (.inr false) else slices_Equal_api_Hash_api_Hash_v1.l0.f k (a.length : Int) a b n ((i + 1 : Nat) : Int)) := by
      unfold slices_Equal_api_Hash_api_Hash_v1.l0.f
      rw [slices_Equal_api_Hash_api_Hash_v1.l0.go]
      unfold slices_Equal_api_Hash_api_Hash_v1.l0.step
      rw [← e2, ← e3, ← e, add_id (by omega) (by omega)]
      simp only [show ((i : Int) < (a.length : Int)) by omega, show ((0 : Int) ≤ (i : Int)) by omega, show ((i : Int) < (b.length : Int)) by omega, Int.toNat_natCast, hlt, hlt', decide_true, cond_true]
    rw [st, this]
    by_cases h : a[i] = b[i]
    · rw [dt h]
      simp only [Bool.not_true, cond_false, drop_eq_iff hlt hlt', h, true_and]
    · rw [df h, if_neg (fun e => h ((drop_eq_iff hlt hlt').1 e).1)]; rfl

theorem eqh_eq (k : Nat) (a b : List (List Int)) (hk : a.length < k) (hl : a.length ≤ 1000000) : slices_Equal_api_Hash_api_Hash_v1.f k a b = some (decide (a = b)) := by
  unfold slices_Equal_api_Hash_api_Hash_v1.f slices_Equal_api_Hash_api_Hash_v1.tree
  by_cases h : a.length = b.length
  · have := eqh_l0 k a b h a.length k 0 (by omega) hk hl
    rw [show ((0 : Nat) : Int) = 0 from rfl, List.drop_zero, List.drop_zero] at this
    rw [this, Option.bind_some, show (((a.length : Int) != (b.length : Int)) = false) by simp [h], cond_false]
    by_cases e : a = b
    · rw [if_pos e, dt e]; rfl
    · rw [if_neg e, df e]; rfl
  · rw [show (((a.length : Int) != (b.length : Int)) = true) by simp; omega, cond_true, df (fun e => h (by rw [e]))]

theorem eqH_l0 (k : Nat) (a b : List Hdr) (hab : a.length = b.length) : ∀ (d n i : Nat), i + d = a.length → d < n → a.length ≤ 1000000 →
    slices_Equal_api_Header_api_Header_v1.l0.f k (a.length : Int) a b n (i : Int) = some (if a.drop i = b.drop i then .inl (a.length : Int) else .inr false) := by
  intro d
  induction d with
  | zero =>
    intro n i hi hn hl
    obtain ⟨n, rfl⟩ : ∃ q, n = q + 1 := ⟨n - 1, by omega⟩
    unfold slices_Equal_api_Header_api_Header_v1.l0.f slices_Equal_api_Header_api_Header_v1.l0.go slices_Equal_api_Header_api_Header_v1.l0.step
    have : i = a.length := by omega
    subst this
    rw [df (Int.lt_irrefl _), List.drop_length, hab, List.drop_length, if_pos rfl]
    rfl
  | succ d ih =>
    intro n i hi hn hl
    obtain ⟨n, rfl⟩ : ∃ q, n = q + 1 := ⟨n - 1, by omega⟩
    have hlt : i < a.length := by omega
    have hlt' : i < b.length := by omega
    have := ih n (i + 1) (by omega) (by omega) hl
    have e : (i : Int) + 1 = ((i + 1 : Nat) : Int) := by omega
    have e2 : a.getD i dfl_31f8ee = a[i] := by rw [List.getD_eq_getElem?_getD, List.getElem?_eq_getElem hlt]; rfl
    have e3 : b.getD i dfl_31f8ee = b[i] := by rw [List.getD_eq_getElem?_getD, List.getElem?_eq_getElem hlt']; rfl
    have st : slices_Equal_api_Header_api_Header_v1.l0.f k (a.length : Int) a b (n + 1) (i : Int) = (bif !(eqDen (.pair (.int .i64) (.pair (.arr .u8 32) (.pair (.arr .u8 32) (.pair (.int .i64) (.pair (.int .i64) (.int .i64)))))) a[i] b[i]) then some (.inr false) else slices_Equal_api_Header_api_Header_v1.l0.f k (a.length : Int) a b n ((i + 1 : Nat) : Int)) := by
      unfold slices_Equal_api_Header_api_Header_v1.l0.f
      rw [slices_Equal_api_Header_api_Header_v1.l0.go]
      unfold slices_Equal_api_Header_api_Header_v1.l0.step
      rw [← e2, ← e3, ← e, add_id (by omega) (by omega)]
      simp only [show ((i : Int) < (a.length : Int)) by omega, show ((0 : Int) ≤ (i : Int)) by omega, show ((i : Int) < (b.length : Int)) by omega, Int.toNat_natCast, hlt, hlt', decide_true, cond_true]
    rw [st, this, eqDen_hdr]
    by_cases h : a[i] = b[i]
    · rw [dt h]
      simp only [Bool.not_true, cond_false, drop_eq_iff hlt hlt', h, true_and]
    · rw [df h, if_neg (fun e => h ((drop_eq_iff hlt hlt').1 e).1)]; rfl

theorem eqH_eq (k : Nat) (a b : List Hdr) (hk : a.length < k) (hl : a.length ≤ 1000000) : slices_Equal_api_Header_api_Header_v1.f k a b = some (decide (a = b)) := by
  unfold slices_Equal_api_Header_api_Header_v1.f slices_Equal_api_Header_api_Header_v1.tree
  by_cases h : a.length = b.length
  · have := eqH_l0 k a b h a.length k 0 (by omega) hk hl
    rw [show ((0 : Nat) : Int) = 0 from rfl, List.drop_zero, List.drop_zero] at this
    rw [this, Option.bind_some, show (((a.length : Int) != (b.length : Int)) = false) by simp [h], cond_false]
    by_cases e : a = b
    · rw [if_pos e, dt e]; rfl
    · rw [if_neg e, df e]; rfl
  · rw [show (((a.length : Int) != (b.length : Int)) = true) by simp; omega, cond_true, df (fun e => h (by rw [e]))]

theorem bare_len (m : Msg) : (bare m).2.2.2.2.2.1.length ≤ m.2.2.2.2.2.1.length ∧ (bare m).2.2.2.2.2.2.2.length ≤ m.2.2.2.2.2.2.2.length := by
  unfold bare
  repeat' split
  all_goals exact ⟨by simp, by simp⟩

theorem beqI (a b : Int) : (a == b) = decide (a = b) := rfl

theorem same_eq (k : Nat) (a b : Msg) (hk : 1000 < k) (h1 : a.2.2.2.2.2.1.length ≤ 200) (h2 : a.2.2.2.2.2.2.2.length ≤ 100) : speech_Same_v1.f k a b = some (decide (bare a = bare b)) := by
  unfold speech_Same_v1.f speech_Same_v1.tree
  have hl := bare_len a
  rw [bare_eq, Option.bind_some, bare_eq, Option.bind_some]
  generalize bare a = x at hl
  generalize bare b = y
  rw [eqh_eq k _ _ (by omega) (by omega), eqH_eq k _ _ (by omega) (by omega), Option.bind_some, Option.bind_some]
  obtain ⟨x1, x2, x3, x4, x5, x6, x7, x8⟩ := x
  obtain ⟨y1, y2, y3, y4, y5, y6, y7, y8⟩ := y
  have e : ((x1, x2, x3, x4, x5, x6, x7, x8) : Msg) = (y1, y2, y3, y4, y5, y6, y7, y8) ↔ x1 = y1 ∧ x2 = y2 ∧ x3 = y3 ∧ x4 = y4 ∧ x5 = y5 ∧ x7 = y7 ∧ x6 = y6 ∧ x8 = y8 := by
    simp only [Prod.mk.injEq]
    constructor
    · rintro ⟨a, b, c, d, e, f, g, h⟩; exact ⟨a, b, c, d, e, g, f, h⟩
    · rintro ⟨a, b, c, d, e, g, f, h⟩; exact ⟨a, b, c, d, e, f, g, h⟩
  simp only [decide_eq_decide.2 e, beqI]
  by_cases g1 : x1 = y1
  case neg => rw [df g1]; exact congrArg some (df (fun h => g1 h.1)).symm
  by_cases g2 : x2 = y2
  case neg => rw [dt g1, df g2]; exact congrArg some (df (fun h => g2 h.2.1)).symm
  by_cases g3 : x3 = y3
  case neg => rw [dt g1, dt g2, df g3]; exact congrArg some (df (fun h => g3 h.2.2.1)).symm
  by_cases g4 : x4 = y4
  case neg => rw [dt g1, dt g2, dt g3, df g4]; exact congrArg some (df (fun h => g4 h.2.2.2.1)).symm
  by_cases g5 : x5 = y5
  case neg => rw [dt g1, dt g2, dt g3, dt g4, df g5]; exact congrArg some (df (fun h => g5 h.2.2.2.2.1)).symm
  by_cases g7 : x7 = y7
  case neg => rw [dt g1, dt g2, dt g3, dt g4, dt g5, df g7]; exact congrArg some (df (fun h => g7 h.2.2.2.2.2.1)).symm
  by_cases g6 : x6 = y6
  case neg => rw [dt g1, dt g2, dt g3, dt g4, dt g5, dt g7, df g6]; exact congrArg some (df (fun h => g6 h.2.2.2.2.2.2.1)).symm
  rw [dt g1, dt g2, dt g3, dt g4, dt g5, dt g7, dt g6]
  simp only [cond_true]
  exact congrArg some (decide_eq_decide.2 ⟨fun h => ⟨g1, g2, g3, g4, g5, g7, g6, h⟩, fun h => h.2.2.2.2.2.2.2⟩)

end Go.Proofs.YtkgpjplncfginaaGreatDoor.Sy
