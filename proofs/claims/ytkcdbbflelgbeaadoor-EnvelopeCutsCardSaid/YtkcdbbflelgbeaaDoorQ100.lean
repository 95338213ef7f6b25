/- Envelopes: words, bytes. -/
import Derived.Test.YtkcdbbflelgbeaaDoorQ70E
import Derived.Test.YtkcdbbflelgbeaaDoorQ64E
import Derived.Test.YtkcdbbflelgbeaaDoorWB
namespace Go.Proofs.YtkcdbbflelgbeaaDoor.Sy
open Go
set_option linter.unusedVariables false
set_option linter.unusedSimpArgs false

abbrev Env7 := List Int × List Int
abbrev letters : List Int := [97, 98, 99, 100, 101, 102, 103, 104, 105, 106, 107, 108, 109, 110, 111, 112, 113, 114, 115, 116, 117, 118, 119, 120, 121, 122, 48, 49, 50, 51, 52, 53, 54, 55, 56, 57]

def wc (c : Int) : Bool := decide ((97 ≤ c ∧ c ≤ 122) ∨ (48 ≤ c ∧ c ≤ 57))
def wB (s : List Int) : Bool := decide (1 ≤ s.length ∧ s.length ≤ 12 ∧ ∀ c ∈ s, wc c = true)

theorem inSet_letters (c : Int) : inSet letters c = wc c := by
  unfold inSet wc
  rw [Bool.eq_iff_iff]
  simp only [List.any_cons, List.any_nil, Bool.or_eq_true, decide_eq_true_eq, Bool.or_false]
  omega

theorem mem_takeW (p : Int → Bool) : ∀ (l : List Int) (x : Int), x ∈ l.takeWhile p → p x = true
  | [], x, h => by cases h
  | a :: r, x, h => by
    rw [List.takeWhile_cons] at h
    cases ha : p a
    · rw [ha] at h; cases h
    · rw [ha] at h
      rcases List.mem_cons.1 h with rfl | h
      · exact ha
      · exact mem_takeW p r x h
theorem dropW_nil (p : Int → Bool) : ∀ (l : List Int), l.dropWhile p = [] ↔ ∀ x ∈ l, p x = true
  | [] => ⟨fun _ x h => (by cases h), fun _ => rfl⟩
  | a :: r => by
    rw [List.dropWhile_cons, List.forall_mem_cons]
    cases ha : p a
    · simp
    · simp only [if_true, true_and]; exact dropW_nil p r

theorem trimRL_split (s cs : List Int) : ∃ t, s = trimRL s cs ++ t ∧ ∀ x ∈ t, inSet cs x = true := by
  refine ⟨(s.reverse.takeWhile (inSet cs)).reverse, ?_, fun x hx => ?_⟩
  · unfold trimRL
    rw [← List.reverse_append, List.takeWhile_append_dropWhile, List.reverse_reverse]
  · have : x ∈ s.reverse.takeWhile (inSet cs) := by simpa using hx
    exact mem_takeW _ _ _ this

theorem trimL_nil (s cs : List Int) : trimL s cs = [] ↔ ∀ x ∈ s, inSet cs x = true := by
  unfold trimL
  rw [dropW_nil]
  obtain ⟨t, e, ht⟩ := trimRL_split s cs
  constructor
  · intro h x hx
    rw [e] at hx
    rcases List.mem_append.1 hx with hx | hx
    · exact h x hx
    · exact ht x hx
  · intro h x hx
    exact h x (by rw [e]; exact List.mem_append_left _ hx)

theorem word_eq (k : Nat) (s : List Int) : envelope_word.f k s = some (wB s) := by
  unfold envelope_word.f envelope_word.tree
  by_cases h0 : s = []
  · subst h0; rfl
  have hl0 : 1 ≤ s.length := by
    rcases s with _ | ⟨a, r⟩
    · exact absurd rfl h0
    · simp
  rw [df h0, Bool.not_false, cond_true]
  by_cases h1 : s.length ≤ 12
  · have e : strings_Trim.f k s letters = some (trimL s letters) := by
      show shTrim s letters = _
      unfold shTrim
      have : (asciiL letters && Nat.ble s.length 140737488355328) = true := by
        rw [Bool.and_eq_true]
        exact ⟨by decide, Nat.ble_eq_true_of_le (by omega)⟩
      rw [this]; rfl
    rw [dt (by omega), cond_true, e, Option.bind_some]
    refine congrArg some ?_
    unfold wB
    refine decide_eq_decide.2 ?_
    rw [trimL_nil]
    simp only [inSet_letters]
    exact ⟨fun h => ⟨hl0, h1, h⟩, fun h => h.2.2⟩
  · rw [df (by omega), cond_false]
    unfold wB
    rw [df (fun h : 1 ≤ s.length ∧ s.length ≤ 12 ∧ ∀ c ∈ s, wc c = true => h1 h.2.1)]

theorem rword_l0 (k : Nat) (s : List Int) (hl : s.length ≤ 12) : ∀ (d n i : Nat), i + d = s.length → d < n →
    trailheadref07_Word.l0.f k s n (i : Int) = some (if ∀ c ∈ s.drop i, wc c = true then .inl (s.length : Int) else .inr false) := by
  intro d
  induction d with
  | zero =>
    intro n i hi hn
    obtain ⟨n, rfl⟩ : ∃ q, n = q + 1 := ⟨n - 1, by omega⟩
    have : i = s.length := by omega
    subst this
    unfold trailheadref07_Word.l0.f trailheadref07_Word.l0.go trailheadref07_Word.l0.step
    rw [df (Int.lt_irrefl _), List.drop_length, if_pos (fun c h => by cases h)]
    rfl
  | succ d ih =>
    intro n i hi hn
    obtain ⟨n, rfl⟩ : ∃ q, n = q + 1 := ⟨n - 1, by omega⟩
    have hlt : i < s.length := by omega
    have e1 : addI .i64 (i : Int) 1 = ((i + 1 : Nat) : Int) := add_id (by omega) (by omega)
    have e2 : s.getD i 0 = s[i] := by rw [List.getD_eq_getElem?_getD, List.getElem?_eq_getElem hlt]; rfl
    have ih' := ih n (i + 1) (by omega) (by omega)
    have hd : (∀ c ∈ s.drop i, wc c = true) ↔ (wc s[i] = true ∧ ∀ c ∈ s.drop (i + 1), wc c = true) := by
      rw [List.drop_eq_getElem_cons hlt]
      exact List.forall_mem_cons
    unfold trailheadref07_Word.l0.f at ih' ⊢
    unfold trailheadref07_Word.l0.go trailheadref07_Word.l0.step
    simp only [e1, e2, Int.toNat_natCast]
    have c1 : decide ((i : Int) < (s.length : Int)) = true := dt (by omega)
    have c2 : decide ((0 : Int) ≤ (i : Int)) = true := dt (by omega)
    simp only [c1, c2, cond_true]
    simp only [hd]
    generalize s[i] = c
    by_cases hw : wc c = true
    · have hw' : (97 ≤ c ∧ c ≤ 122) ∨ (48 ≤ c ∧ c ≤ 57) := of_decide_eq_true hw
      simp only [hw, true_and]
      rcases hw' with h | h
      · rw [dt (show c ≥ 97 by omega), dt (show c ≤ 122 by omega), cond_true, cond_true]
        exact ih'
      · rw [df (show ¬ c ≥ 97 by omega), dt (show c ≥ 48 by omega), dt (show c ≤ 57 by omega), cond_false, cond_true]
        exact ih'
    · have hw' : ¬ ((97 ≤ c ∧ c ≤ 122) ∨ (48 ≤ c ∧ c ≤ 57)) := fun h => hw (dt h)
      rw [if_neg (fun h => hw h.1)]
      by_cases h1 : c ≥ 97
      · rw [dt h1, df (show ¬ c ≤ 122 by omega), dt (show c ≥ 48 by omega), df (show ¬ c ≤ 57 by omega)]; rfl
      · by_cases h2 : c ≥ 48
        · rw [df h1, dt h2, df (show ¬ c ≤ 57 by omega)]; rfl
        · rw [df h1, df h2]; rfl

theorem rword_eq (k : Nat) (s : List Int) (hk : 100 < k) : trailheadref07_Word.f k s = some (wB s) := by
  unfold trailheadref07_Word.f trailheadref07_Word.tree wB
  by_cases h1 : s.length < 1
  · rw [dt (by omega), df (fun h : 1 ≤ s.length ∧ s.length ≤ 12 ∧ ∀ c ∈ s, wc c = true => by omega)]; rfl
  rw [df (by omega), cond_false]
  by_cases h2 : s.length > 12
  · rw [dt (by omega), df (fun h : 1 ≤ s.length ∧ s.length ≤ 12 ∧ ∀ c ∈ s, wc c = true => by omega)]; rfl
  rw [df (by omega), cond_false]
  have := rword_l0 k s (by omega) s.length k 0 (by omega) (by omega)
  rw [show ((0 : Nat) : Int) = 0 from rfl, List.drop_zero] at this
  rw [this, Option.bind_some]
  by_cases h : ∀ c ∈ s, wc c = true
  · rw [if_pos h, dt ⟨by omega, by omega, h⟩]; rfl
  · rw [if_neg h, df (fun x : 1 ≤ s.length ∧ s.length ≤ 12 ∧ ∀ c ∈ s, wc c = true => h x.2.2)]; rfl

def gB (v : Env7) : Bool := wB v.1 && decide (v.2.length ≤ 16384)

theorem good7_eq (k : Nat) (v : Env7) : envelope_Good.f k v = some (gB v) := by
  unfold envelope_Good.f envelope_Good.tree gB
  rw [word_eq, Option.bind_some]
  cases wB v.1
  · rfl
  · rw [cond_true, Bool.true_and]
    exact congrArg some (decide_eq_decide.2 (by omega))

theorem rgood7_eq (k : Nat) (v : Env7) (hk : 100 < k) : trailheadlaw07_good.f k v = some (gB v) := by
  unfold trailheadlaw07_good.f trailheadlaw07_good.tree gB
  rw [rword_eq k _ hk, Option.bind_some]
  cases wB v.1
  · rfl
  · rw [cond_true, Bool.true_and]
    exact congrArg some (decide_eq_decide.2 (by omega))

theorem wB_of {s : List Int} (h : wB s = true) : 1 ≤ s.length ∧ s.length ≤ 12 ∧ ∀ c ∈ s, wc c = true := of_decide_eq_true h
theorem wc_of {c : Int} (h : wc c = true) : (97 ≤ c ∧ c ≤ 122) ∨ (48 ≤ c ∧ c ≤ 57) := of_decide_eq_true h
theorem wB_byteL {s : List Int} (h : wB s = true) : byteL s := fun y hy => by
  have := wc_of ((wB_of h).2.2 y hy); omega

abbrev tail4 : List Int := [84, 65, 73, 76]
def w12 (w : List Int) : List Int := w ++ List.replicate (12 - w.length) 0
def sum4 (p : List Int) : List Int := (sha (sha p)).take 4
def envB (v : Env7) : List Int := tail4 ++ (w12 v.1 ++ (num 4 (v.2.length : Int) ++ (sum4 v.2 ++ v.2)))

theorem w12_length {w : List Int} (h : w.length ≤ 12) : (w12 w).length = 12 := by unfold w12; rw [List.length_append, List.length_replicate]; omega
theorem sum4_length (p : List Int) : (sum4 p).length = 4 := by unfold sum4; rw [List.length_take, sha_length]; rfl
theorem sum4_byteL (p : List Int) : byteL (sum4 p) := byteL_take 4 (sha_byteL _)
theorem byteL_zeros (n : Nat) : byteL (List.replicate n (0 : Int)) := fun y hy => by
  rw [List.eq_of_mem_replicate hy]; omega
theorem byteL_app7 {a b : List Int} (ha : byteL a) (hb : byteL b) : byteL (a ++ b) := by
  intro y hy
  rcases List.mem_append.1 hy with h | h
  · exact ha y h
  · exact hb y h
theorem byteL_tail4 : byteL tail4 := by intro y hy; simp at hy; omega
theorem envB_length {v : Env7} (h : v.1.length ≤ 12) : (envB v).length = 24 + v.2.length := by
  unfold envB
  simp only [List.length_append, w12_length h, sum4_length, num_length, List.length_cons, List.length_nil]
  omega
theorem envB_byteL {v : Env7} (h : byteL v.1) (h2 : byteL v.2) : byteL (envB v) :=
  byteL_app7 byteL_tail4 (byteL_app7 (byteL_app7 h (byteL_zeros _)) (byteL_app7 (num_byteL _ _) (byteL_app7 (sum4_byteL _) h2)))

theorem sum_eq (k : Nat) (p : List Int) (hb : byteL p) (hl : p.length ≤ 1000000) (hk : 20000 < k) : envelope_sum.f k p H8 K64 = some (sum4 p) := by
  unfold envelope_sum.f envelope_sum.tree
  rw [double1_eq k p hb hk hl, Option.bind_some, toStr_id _ (byteL_take 4 (sha_byteL _))]
  rfl

theorem repL_zero : ∀ n, repL [0] n = List.replicate n 0
  | 0 => rfl
  | n + 1 => by unfold repL; rw [repL_zero n]; rfl

theorem raw7_eq (k : Nat) (s m : List Int) (h : m.length + s.length ≤ 140737488355328) : scroll_Pen_Raw.f k s m = some (m ++ s) := by
  unfold scroll_Pen_Raw.f scroll_Pen_Raw.tree
  rw [fits_ok (by omega), cond_true]

theorem bytes7_eq (k : Nat) (v : Env7) (hg : gB v = true) (hb : byteL v.2) (hk : 20000 < k) : envelope_Bytes.f k v H8 K64 = some (envB v, 0) := by
  have hg' := hg
  unfold gB at hg'
  rw [Bool.and_eq_true] at hg'
  obtain ⟨h1, h2⟩ := hg'
  have hw := wB_of h1
  have hp : v.2.length ≤ 16384 := of_decide_eq_true h2
  unfold envelope_Bytes.f envelope_Bytes.tree
  have es : subI .i64 12 (v.1.length : Int) = ((12 - v.1.length : Nat) : Int) := (sub_id (by omega) (by omega)).trans (by omega)
  have er : strings_Repeat.f k [0] ((12 - v.1.length : Nat) : Int) = some (List.replicate (12 - v.1.length) 0) := by
    show shRepeat [0] ((12 - v.1.length : Nat) : Int) = _
    unfold shRepeat
    rw [dt (by omega), dt (by omega), dt (by simp; omega), Int.toNat_natCast, repL_zero]; rfl
  have ep : scroll_Pen_Put.f k (4 : Int) ([1279869268] : List Int) = some tail4 := by
    rw [put0_eq k 4 [1279869268] (by omega) (by simp; omega) (by simp), nums1, cl_4]
    exact congrArg some (by decide)
  rw [good7_eq, hg, Option.bind_some, Bool.not_true, cond_false, ep, Option.bind_some, es, er, Option.bind_some, fits_ok (by simp; omega), cond_true]
  have e1 : v.1 ++ List.replicate (12 - v.1.length) 0 = w12 v.1 := rfl
  rw [e1, raw7_eq k _ _ (by rw [w12_length hw.2.1]; simp), Option.bind_some]
  rw [put_eq k 4 [(v.2.length : Int)] _ (by omega) (by simp; omega) (by simp) (by rw [List.length_append, w12_length hw.2.1]; simp), Option.bind_some, nums1, cl_4]
  rw [sum_eq k _ hb (by omega) hk, Option.bind_some]
  rw [raw7_eq k _ _ (by simp only [List.length_append, w12_length hw.2.1, sum4_length, num_length, List.length_cons, List.length_nil]; omega), Option.bind_some]
  rw [raw7_eq k _ _ (by simp only [List.length_append, w12_length hw.2.1, sum4_length, num_length, List.length_cons, List.length_nil]; omega), Option.bind_some]
  have e2 : tail4 ++ w12 v.1 ++ num 4 (v.2.length : Int) ++ sum4 v.2 ++ v.2 = envB v := by unfold envB; simp only [List.append_assoc]
  rw [e2, text_eq k _ (envB_byteL (wB_byteL h1) hb), Option.bind_some]

theorem bytes7_bad (k : Nat) (v : Env7) (hg : gB v = false) : envelope_Bytes.f k v H8 K64 = some ([], 1) := by
  unfold envelope_Bytes.f envelope_Bytes.tree
  rw [good7_eq, hg]
  rfl

theorem rbytes_l0 (k : Nat) (p : List Int) : ∀ (d n : Nat) (w : List Int), w.length + d = 12 → d < n →
    trailheadref07_Bytes.l0.f k p n w = some (w ++ List.replicate d 0) := by
  intro d
  induction d with
  | zero =>
    intro n w hw hn
    obtain ⟨n, rfl⟩ : ∃ q, n = q + 1 := ⟨n - 1, by omega⟩
    unfold trailheadref07_Bytes.l0.f trailheadref07_Bytes.l0.go trailheadref07_Bytes.l0.step
    rw [df (by omega)]
    simp
  | succ d ih =>
    intro n w hw hn
    obtain ⟨n, rfl⟩ : ∃ q, n = q + 1 := ⟨n - 1, by omega⟩
    have ih' := ih n (w ++ [0]) (by rw [List.length_append, List.length_singleton]; omega) (by omega)
    unfold trailheadref07_Bytes.l0.f at ih' ⊢
    unfold trailheadref07_Bytes.l0.go trailheadref07_Bytes.l0.step
    rw [dt (by omega), cond_true, fits_ok (by omega), cond_true, ih', List.append_assoc]
    rfl

theorem rbytes7_eq (k : Nat) (w p : List Int) (hw : w.length ≤ 12) (hb : byteL p) (hl : p.length ≤ 100000) (hk : 200000 < k) : trailheadref07_Bytes.f k w p = some (envB (w, p)) := by
  unfold trailheadref07_Bytes.f trailheadref07_Bytes.tree
  have e0 : w ++ List.replicate (12 - w.length) 0 = w12 w := rfl
  rw [rbytes_l0 k p (12 - w.length) k w (by omega) (by omega), Option.bind_some, e0, rdouble_eq k p hb (by omega) (by omega), Option.bind_some, rname_eq k _ ⟨sha_length _, sha_byteL _⟩ (by omega), Option.bind_some]
  have hs : ((sha (sha p)).length : Int) = 32 := by rw [sha_length]; rfl
  rw [fits_ok (by rw [w12_length hw]; omega), cond_true, number_eq k 4 _ (by omega), Option.bind_some, cl_4]
  have e1 : (sha (sha p)).take 4 = sum4 p := rfl
  rw [hs, e1, fits_ok (by simp only [List.length_append, w12_length hw, num_length, List.length_cons, List.length_nil]; omega), cond_true, dt (by omega), cond_true,
    fits_ok (by simp only [List.length_append, w12_length hw, sum4_length, num_length, List.length_cons, List.length_nil]; omega), cond_true,
    fits_ok (by simp only [List.length_append, w12_length hw, sum4_length, num_length, List.length_cons, List.length_nil]; omega), cond_true]
  unfold envB
  simp only [List.append_assoc]

end Go.Proofs.YtkcdbbflelgbeaaDoor.Sy
