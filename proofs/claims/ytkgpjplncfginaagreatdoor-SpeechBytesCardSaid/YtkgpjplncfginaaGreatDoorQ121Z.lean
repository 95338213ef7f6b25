/- Messages: words, what can be, what is written. -/
import Derived.Test.YtkgpjplncfginaaGreatDoorQ120Z
import Derived.Test.YtkgpjplncfginaaGreatDoorG
namespace Go.Proofs.YtkgpjplncfginaaGreatDoor.Sy
open Go
set_option linter.unusedVariables false
set_option linter.unusedSimpArgs false

abbrev Msg := T_85bbee

/-! ### Words -/

abbrev words8 : List (List Int) := [[118, 101, 114, 115, 105, 111, 110], [118, 101, 114, 97, 99, 107], [103, 101, 116, 104, 101, 97, 100, 101, 114, 115], [104, 101, 97, 100, 101, 114, 115], [105, 110, 118], [112, 105, 110, 103], [112, 111, 110, 103], [115, 101, 110, 100, 104, 101, 97, 100, 101, 114, 115]]

def wordOf (k : Int) : List Int := if 1 ≤ k ∧ k ≤ 8 then words8.getD (k - 1).toNat [] else []

/-- The first place, counted from i. -/
def firstAt (w : List Int) : List (List Int) → Nat → Option Nat
  | [], _ => none
  | a :: r, i => if w = a then some i else firstAt w r (i + 1)

def kindOf (w : List Int) : Int := match firstAt w words8 1 with | some j => (j : Int) | none => 0

theorem strs_words : strsL (.pair .str (.pair .str (.pair .str (.pair .str (.pair .str (.pair .str (.pair .str (.pair .str .str)))))))) gv0 = [] :: words8 := rfl

theorem k8 {k : Int} (h : 1 ≤ k) (h' : k ≤ 8) : k = 1 ∨ k = 2 ∨ k = 3 ∨ k = 4 ∨ k = 5 ∨ k = 6 ∨ k = 7 ∨ k = 8 := by omega

theorem sword_eq (k : Nat) (v : Int) : speech_Word.f k v gv0 = some (wordOf v) := by
  unfold speech_Word.f speech_Word.tree wordOf
  by_cases h1 : v < 1
  · rw [dt h1, if_neg (by omega)]; rfl
  rw [df h1, cond_false]
  by_cases h2 : v ≥ 9
  · rw [dt h2, if_neg (by omega)]; rfl
  rw [df h2, if_pos (by omega)]
  rcases k8 (by omega : 1 ≤ v) (by omega) with rfl | rfl | rfl | rfl | rfl | rfl | rfl | rfl <;> rfl

theorem rword8_eq (k : Nat) (v : Int) : trailheadref08_Word.f k v = some (wordOf v) := by
  unfold trailheadref08_Word.f trailheadref08_Word.tree wordOf
  by_cases h1 : v < 1
  · rw [dt h1, if_neg (by omega)]; rfl
  rw [df h1, cond_false]
  by_cases h2 : v > 8
  · rw [dt h2, if_neg (by omega)]; rfl
  rw [df h2, if_pos (by omega)]
  rcases k8 (by omega : 1 ≤ v) (by omega) with rfl | rfl | rfl | rfl | rfl | rfl | rfl | rfl <;> rfl

theorem index_l0 (k : Nat) (w : List Int) (l : List (List Int)) : ∀ (d n i : Nat), i + d = l.length → d < n → l.length ≤ 1000000 →
    slices_Index_string_string.l0.f k w (l.length : Int) l n (i : Int) = some (match firstAt w (l.drop i) i with | some j => .inr (j : Int) | none => .inl (l.length : Int)) := by
  intro d
  induction d with
  | zero =>
    intro n i hi hn hl
    obtain ⟨n, rfl⟩ : ∃ q, n = q + 1 := ⟨n - 1, by omega⟩
    unfold slices_Index_string_string.l0.f slices_Index_string_string.l0.go slices_Index_string_string.l0.step
    have : i = l.length := by omega
    subst this
    rw [df (Int.lt_irrefl _), List.drop_length]
    rfl
  | succ d ih =>
    intro n i hi hn hl
    obtain ⟨n, rfl⟩ : ∃ q, n = q + 1 := ⟨n - 1, by omega⟩
    have hlt : i < l.length := by omega
    have := ih n (i + 1) (by omega) (by omega) hl
    unfold slices_Index_string_string.l0.f at this ⊢
    unfold slices_Index_string_string.l0.go slices_Index_string_string.l0.step
    have e : (i : Int) + 1 = ((i + 1 : Nat) : Int) := by omega
    have e2 : l.getD i ([] : List Int) = l[i] := by rw [List.getD_eq_getElem?_getD, List.getElem?_eq_getElem hlt]; rfl
    rw [dt (by omega), dt (by omega), dt (by omega), Int.toNat_natCast, add_id (by omega) (by omega), e2, e, this, List.drop_eq_getElem_cons hlt, firstAt]
    simp only [cond_true]
    by_cases hw : w = l[i]
    · rw [dt hw, if_pos hw]; rfl
    · rw [df hw, if_neg hw]; rfl

theorem firstAt_shift (w : List Int) : ∀ (l : List (List Int)) (i : Nat), firstAt w l (i + 1) = (firstAt w l i).map (· + 1)
  | [], _ => rfl
  | a :: r, i => by
    unfold firstAt
    by_cases h : w = a
    · rw [if_pos h, if_pos h]; rfl
    · rw [if_neg h, if_neg h]; exact firstAt_shift w r (i + 1)

theorem firstAt_lt (w : List Int) : ∀ (l : List (List Int)) (i j : Nat), firstAt w l i = some j → i ≤ j ∧ j < i + l.length
  | [], _, _, h => by cases h
  | a :: r, i, j, h => by
    unfold firstAt at h
    by_cases hw : w = a
    · rw [if_pos hw] at h
      cases h
      simp
    · rw [if_neg hw] at h
      have := firstAt_lt w r (i + 1) j h
      rw [List.length_cons]; omega

theorem skind_eq (k : Nat) (w : List Int) (hk : 8 < k) : speech_Kind.f k w gv0 = some (kindOf w) := by
  unfold speech_Kind.f speech_Kind.tree
  rw [strs_words]
  unfold slices_Index_string_string.f slices_Index_string_string.tree kindOf
  have := index_l0 k w words8 8 k 0 rfl hk (by decide)
  rw [List.drop_zero] at this
  rw [show List.drop 1 ([] :: words8) = words8 from rfl]
  rw [show ((0 : Nat) : Int) = 0 from rfl] at this
  rw [this, firstAt_shift w words8 0, Option.bind_some]
  cases hf : firstAt w words8 0 with
  | none => rfl
  | some j =>
    have := firstAt_lt w words8 0 j hf
    have h8 : words8.length = 8 := rfl
    simp only [sel, Option.map, Option.bind_some]
    rw [add_id (by omega) (by omega)]
    unfold mxI
    rw [if_neg (by omega)]
    rfl

theorem kind_word (v : Int) (h : wordOf v ≠ []) : kindOf (wordOf v) = v := by
  by_cases h1 : 1 ≤ v ∧ v ≤ 8
  · rcases k8 h1.1 h1.2 with rfl | rfl | rfl | rfl | rfl | rfl | rfl | rfl <;> decide
  · exact absurd (by unfold wordOf; rw [if_neg h1]) h

theorem kindOf_le (w : List Int) : 0 ≤ kindOf w ∧ kindOf w ≤ 8 := by
  unfold kindOf
  cases hf : firstAt w words8 1 with
  | none => exact ⟨by decide, by decide⟩
  | some j =>
    have := firstAt_lt w words8 1 j hf
    have h8 : words8.length = 8 := rfl
    simp only
    omega

/-! ### What can be -/

def sI (n : Nat) (x : Int) : Bool := decide (0 ≤ x ∧ x < 256 ^ n)

theorem small_l0 (k : Nat) (s : Int) (n' : Nat) (he : shlI .i64 1 (mulI .i64 8 s) = 256 ^ n') (h0 : ¬ mulI .i64 8 s < 0) (l : List Int) : ∀ (d n i : Nat), i + d = l.length → d < n → l.length ≤ 1000000 →
    speech_small.l0.f k s (l.length : Int) l n (i : Int) = some (if (l.drop i).all (sI n') = true then .inl (l.length : Int) else .inr false) := by
  intro d
  induction d with
  | zero =>
    intro n i hi hn hl
    obtain ⟨n, rfl⟩ : ∃ q, n = q + 1 := ⟨n - 1, by omega⟩
    unfold speech_small.l0.f speech_small.l0.go speech_small.l0.step
    have : i = l.length := by omega
    subst this
    rw [df (Int.lt_irrefl _), List.drop_length]
    rfl
  | succ d ih =>
    intro n i hi hn hl
    obtain ⟨n, rfl⟩ : ∃ q, n = q + 1 := ⟨n - 1, by omega⟩
    have hlt : i < l.length := by omega
    have := ih n (i + 1) (by omega) (by omega) hl
    unfold speech_small.l0.f at this ⊢
    unfold speech_small.l0.go speech_small.l0.step
    have e : (i : Int) + 1 = ((i + 1 : Nat) : Int) := by omega
    have e2 : l.getD i (0 : Int) = l[i] := by rw [List.getD_eq_getElem?_getD, List.getElem?_eq_getElem hlt]; rfl
    rw [dt (by omega), dt (by omega), dt (by omega), Int.toNat_natCast, add_id (by omega) (by omega), e2, he, df h0, e, this, List.drop_eq_getElem_cons hlt, List.all_cons]
    simp only [cond_true, cond_false]
    by_cases h1 : l[i] < 0
    · rw [dt h1, show sI n' l[i] = false from df (fun h => by omega)]; rfl
    · rw [df h1, cond_false]
      by_cases h2 : l[i] ≥ 256 ^ n'
      · rw [dt h2, show sI n' l[i] = false from df (fun h => by omega)]; rfl
      · rw [df h2, show sI n' l[i] = true from dt ⟨by omega, by omega⟩]; rfl

theorem small_eq (k : Nat) (s : Int) (n' : Nat) (he : shlI .i64 1 (mulI .i64 8 s) = 256 ^ n') (h0 : ¬ mulI .i64 8 s < 0) (l : List Int) (hk : l.length < k) (hl : l.length ≤ 1000000) :
    speech_small.f k s l = some (l.all (sI n')) := by
  unfold speech_small.f speech_small.tree
  have := small_l0 k s n' he h0 l l.length k 0 (by omega) hk hl
  rw [show ((0 : Nat) : Int) = 0 from rfl, List.drop_zero] at this
  rw [this, Option.bind_some]
  cases l.all (sI n') <;> rfl

theorem small4 (k : Nat) (l : List Int) (hk : l.length < k) (hl : l.length ≤ 1000000) : speech_small.f k 4 l = some (l.all (sI 4)) := small_eq k 4 4 (by decide) (by decide) l hk hl
theorem small7 (k : Nat) (l : List Int) (hk : l.length < k) (hl : l.length ≤ 1000000) : speech_small.f k 7 l = some (l.all (sI 7)) := small_eq k 7 7 (by decide) (by decide) l hk hl

theorem shr_i64 (x : Int) (n : Nat) (hn : n ≤ 64) : shrI .i64 x (n : Int) = x / 2 ^ n := by
  unfold shrI
  rw [Int.toNat_natCast, show IntKind.i64.bits = 64 from rfl, Nat.min_eq_left hn, Int.fdiv_eq_ediv_of_nonneg _ (Int.le_of_lt (Int.pow_pos (by omega)))]

theorem in4 (k : Nat) (x : Int) : trailheadref08_in.f k x 4 = some (sI 4 x) := by
  unfold trailheadref08_in.f trailheadref08_in.tree sI
  have e : IntKind.wrap .u64 (mulI .i64 8 4) = ((32 : Nat) : Int) := by decide
  rw [e, shr_i64 x 32 (by omega)]
  by_cases h : x ≥ 0
  · rw [dt h, df (by omega), cond_true, cond_false]
    by_cases h2 : x < 256 ^ 4
    · rw [beqt (by omega), dt ⟨h, h2⟩]
    · rw [beqf (by omega), df (fun h => h2 h.2)]
  · rw [df h, cond_false, df (fun h' => h h'.1)]

theorem in7 (k : Nat) (x : Int) : trailheadref08_in.f k x 7 = some (sI 7 x) := by
  unfold trailheadref08_in.f trailheadref08_in.tree sI
  have e : IntKind.wrap .u64 (mulI .i64 8 7) = ((56 : Nat) : Int) := by decide
  rw [e, shr_i64 x 56 (by omega)]
  by_cases h : x ≥ 0
  · rw [dt h, df (by omega), cond_true, cond_false]
    by_cases h2 : x < 256 ^ 7
    · rw [beqt (by omega), dt ⟨h, h2⟩]
    · rw [beqf (by omega), df (fun h => h2 h.2)]
  · rw [df h, cond_false, df (fun h' => h h'.1)]

def mgood (m : Msg) : Bool :=
  if m.1 = 1 then (sI 4 m.2.1 && sI 4 m.2.2.2.1) && (sI 7 m.2.2.1 && sI 7 m.2.2.2.2.1)
  else if m.1 = 3 then sI 4 m.2.1 && decide (m.2.2.2.2.2.1.length ≤ 32)
  else if m.1 = 4 then decide (m.2.2.2.2.2.2.2.length ≤ 64) && m.2.2.2.2.2.2.2.all hgood
  else if m.1 = 5 then decide (m.2.2.2.2.2.1.length ≤ 32)
  else if m.1 = 6 ∨ m.1 = 7 then sI 7 m.2.2.2.2.1
  else decide (m.1 = 2 ∨ m.1 = 8)

theorem sgood1 (k : Nat) (h : Hdr) : speech_Good_1.f k (h.1, h.2.1, h.2.2.1, h.2.2.2.1, h.2.2.2.2) = some (!hgood h) := by
  unfold speech_Good_1.f speech_Good_1.tree
  show (header_Good.f k h).bind _ = _
  rw [hgood_eq, Option.bind_some]

theorem indexF_l0 (k : Nat) (l : List Hdr) : ∀ (d n i : Nat), i + d = l.length → d < n → l.length ≤ 1000000 →
    (if (l.drop i).all hgood = true then slices_IndexFunc_api_Header_api_Header_v1.l0.f k (l.length : Int) l n (i : Int) = some (.inl (l.length : Int)) else ∃ j : Nat, slices_IndexFunc_api_Header_api_Header_v1.l0.f k (l.length : Int) l n (i : Int) = some (.inr (j : Int))) := by
  intro d
  induction d with
  | zero =>
    intro n i hi hn hl
    obtain ⟨n, rfl⟩ : ∃ q, n = q + 1 := ⟨n - 1, by omega⟩
    have : i = l.length := by omega
    subst this
    rw [List.drop_length, if_pos (List.all_nil : ([] : List Hdr).all hgood = true)]
    unfold slices_IndexFunc_api_Header_api_Header_v1.l0.f slices_IndexFunc_api_Header_api_Header_v1.l0.go slices_IndexFunc_api_Header_api_Header_v1.l0.step
    rw [df (Int.lt_irrefl _)]
    rfl
  | succ d ih =>
    intro n i hi hn hl
    obtain ⟨n, rfl⟩ : ∃ q, n = q + 1 := ⟨n - 1, by omega⟩
    have hlt : i < l.length := by omega
    have := ih n (i + 1) (by omega) (by omega) hl
    have e : (i : Int) + 1 = ((i + 1 : Nat) : Int) := by omega
    have e2 : l.getD i dfl_31f8ee = l[i] := by rw [List.getD_eq_getElem?_getD, List.getElem?_eq_getElem hlt]; rfl
    have st : slices_IndexFunc_api_Header_api_Header_v1.l0.f k (l.length : Int) l (n + 1) (i : Int) = (bif !hgood l[i] then some (.inr (i : Int)) else slices_IndexFunc_api_Header_api_Header_v1.l0.f k (l.length : Int) l n ((i + 1 : Nat) : Int)) := by
      unfold slices_IndexFunc_api_Header_api_Header_v1.l0.f
      rw [slices_IndexFunc_api_Header_api_Header_v1.l0.go]
      unfold slices_IndexFunc_api_Header_api_Header_v1.l0.step
      rw [dt (by omega), dt (by omega), dt (by omega), Int.toNat_natCast, add_id (by omega) (by omega), e2, sgood1, e]
      rfl
    rw [st, List.drop_eq_getElem_cons hlt, List.all_cons]
    cases hg : hgood l[i]
    · rw [Bool.false_and, if_neg (by decide)]; exact ⟨i, rfl⟩
    · rw [Bool.true_and]; exact this

theorem contains_eq (k : Nat) (l : List Hdr) (hk : l.length < k) (hl : l.length ≤ 1000000) : slices_ContainsFunc_api_Header_api_Header_v1.f k l = some (!l.all hgood) := by
  unfold slices_ContainsFunc_api_Header_api_Header_v1.f slices_ContainsFunc_api_Header_api_Header_v1.tree slices_IndexFunc_api_Header_api_Header_v1.f slices_IndexFunc_api_Header_api_Header_v1.tree
  have := indexF_l0 k l l.length k 0 (by omega) hk hl
  rw [show ((0 : Nat) : Int) = 0 from rfl, List.drop_zero] at this
  cases hg : l.all hgood
  · rw [hg, if_neg (by decide)] at this
    obtain ⟨j, hj⟩ := this
    rw [hj, Option.bind_some]
    simp only [sel, Option.bind_some]
    rw [dt (by omega)]; rfl
  · rw [hg, if_pos rfl] at this
    rw [this, Option.bind_some]
    rfl

theorem mgood_eq (k : Nat) (m : Msg) (hk : 100 < k) : speech_Good.f k m = some (mgood m) := by
  unfold speech_Good.f speech_Good.tree mgood
  by_cases h1 : m.1 = 1
  · rw [if_pos h1, beqt h1, cond_true, small4 k _ (by simp; omega) (by simp), Option.bind_some, small7 k _ (by simp; omega) (by simp), Option.bind_some]
    simp only [List.all_cons, List.all_nil, Bool.and_true]
    cases sI 4 m.2.1 && sI 4 m.2.2.2.1 <;> rfl
  rw [if_neg h1, beqf h1, cond_false]
  by_cases h3 : m.1 = 3
  · rw [if_pos h3, beqt h3, cond_true, small4 k _ (by simp; omega) (by simp), Option.bind_some]
    simp only [List.all_cons, List.all_nil, Bool.and_true]
    cases sI 4 m.2.1
    · rfl
    · rw [cond_true, Bool.true_and]
      congr 1
      exact decide_eq_decide.2 (by omega)
  rw [if_neg h3, beqf h3, cond_false]
  by_cases h4 : m.1 = 4
  · rw [if_pos h4, beqt h4, cond_true]
    by_cases hl : m.2.2.2.2.2.2.2.length ≤ 64
    · rw [dt (by omega), cond_true, contains_eq k _ (by omega) (by omega), Option.bind_some, dt hl, Bool.not_not, Bool.true_and]
    · rw [df (by omega), cond_false, df hl]; rfl
  rw [if_neg h4, beqf h4, cond_false]
  by_cases h5 : m.1 = 5
  · rw [if_pos h5, beqt h5, cond_true]
    congr 1
    exact decide_eq_decide.2 (by omega)
  rw [if_neg h5, beqf h5, cond_false]
  by_cases h6 : m.1 = 6
  · rw [if_pos (.inl h6), beqt h6, cond_true, cond_true, small7 k _ (by simp; omega) (by simp), Option.bind_some]
    simp only [List.all_cons, List.all_nil, Bool.and_true]
  rw [beqf h6, cond_false]
  by_cases h7 : m.1 = 7
  · rw [if_pos (.inr h7), beqt h7, cond_true, small7 k _ (by simp; omega) (by simp), Option.bind_some]
    simp only [List.all_cons, List.all_nil, Bool.and_true]
  rw [beqf h7, cond_false, if_neg (by omega)]
  by_cases h2 : m.1 = 2
  · rw [beqt h2, dt (.inl h2)]; rfl
  · rw [beqf h2, cond_false]
    by_cases h8 : m.1 = 8
    · rw [beqt h8, dt (.inr h8)]
    · rw [beqf h8, df (by omega)]

theorem rgoodh (k : Nat) (h : Hdr) : trailheadref06_Good.f k (h.1, h.2.1, h.2.2.1, h.2.2.2.1, h.2.2.2.2) = some (hgood h) := rgood_eq k h

theorem rgood8_l1 (k : Nat) (y : Msg) (l : List Hdr) : ∀ (d n i : Nat), i + d = l.length → d < n → l.length ≤ 1000000 →
    trailheadref08_Good.l1.f k (l.length : Int) y l n (i : Int) = some (if (l.drop i).all hgood = true then .inl (l.length : Int) else .inr false) := by
  intro d
  induction d with
  | zero =>
    intro n i hi hn hl
    obtain ⟨n, rfl⟩ : ∃ q, n = q + 1 := ⟨n - 1, by omega⟩
    unfold trailheadref08_Good.l1.f trailheadref08_Good.l1.go trailheadref08_Good.l1.step
    have : i = l.length := by omega
    subst this
    rw [df (Int.lt_irrefl _), List.drop_length]
    rfl
  | succ d ih =>
    intro n i hi hn hl
    obtain ⟨n, rfl⟩ : ∃ q, n = q + 1 := ⟨n - 1, by omega⟩
    have hlt : i < l.length := by omega
    have := ih n (i + 1) (by omega) (by omega) hl
    unfold trailheadref08_Good.l1.f at this ⊢
    unfold trailheadref08_Good.l1.go trailheadref08_Good.l1.step
    have e : (i : Int) + 1 = ((i + 1 : Nat) : Int) := by omega
    have e2 : l.getD i dfl_31f8ee = l[i] := by rw [List.getD_eq_getElem?_getD, List.getElem?_eq_getElem hlt]; rfl
    rw [dt (by omega), dt (by omega), dt (by omega), Int.toNat_natCast, add_id (by omega) (by omega), e2, rgoodh, e, this, List.drop_eq_getElem_cons hlt, List.all_cons]
    cases hgood l[i] <;> rfl

theorem rmgood_eq (k : Nat) (m : Msg) (hk : m.2.2.2.2.2.2.2.length < k) (hl : m.2.2.2.2.2.2.2.length ≤ 1000000) : trailheadref08_Good.f k m = some (mgood m) := by
  unfold trailheadref08_Good.f trailheadref08_Good.tree mgood
  simp only [in4, in7, Option.bind_some]
  by_cases h1 : m.1 = 1
  · rw [if_pos h1, beqt h1, cond_true]
    cases sI 4 m.2.1 <;> cases sI 4 m.2.2.2.1 <;> cases sI 7 m.2.2.1 <;> rfl
  rw [if_neg h1, beqf h1, cond_false]
  by_cases h3 : m.1 = 3
  · rw [if_pos h3, beqt h3, cond_true]
    cases sI 4 m.2.1
    · rfl
    · rw [cond_true, Bool.true_and]
      congr 1
      exact decide_eq_decide.2 (by omega)
  rw [if_neg h3, beqf h3, cond_false]
  by_cases h4 : m.1 = 4
  · rw [if_pos h4, beqt h4, cond_true]
    have := rgood8_l1 k m m.2.2.2.2.2.2.2 _ k 0 (by omega) hk hl
    rw [show ((0 : Nat) : Int) = 0 from rfl, List.drop_zero] at this
    rw [this, Option.bind_some]
    cases m.2.2.2.2.2.2.2.all hgood
    · rw [Bool.and_false]; rfl
    · rw [if_pos rfl, Bool.and_true]
      show some _ = some _
      congr 1
      exact decide_eq_decide.2 (by omega)
  rw [if_neg h4, beqf h4, cond_false]
  by_cases h5 : m.1 = 5
  · rw [if_pos h5, beqt h5, cond_true]
    congr 1
    exact decide_eq_decide.2 (by omega)
  rw [if_neg h5, beqf h5, cond_false]
  by_cases h6 : m.1 = 6
  · rw [if_pos (.inl h6), beqt h6, cond_true, cond_true]
  rw [beqf h6, cond_false]
  by_cases h7 : m.1 = 7
  · rw [if_pos (.inr h7), beqt h7, cond_true]
  rw [beqf h7, cond_false, if_neg (by omega)]
  by_cases h2 : m.1 = 2
  · rw [beqt h2, dt (.inl h2)]; rfl
  · rw [beqf h2, cond_false]
    by_cases h8 : m.1 = 8
    · rw [beqt h8, dt (.inr h8)]
    · rw [beqf h8, df (by omega)]

end Go.Proofs.YtkgpjplncfginaaGreatDoor.Sy
