/- Messages: payloads. -/
import Derived.Test.YtkgpjplncfginaaGreatDoorQ121Z
namespace Go.Proofs.YtkgpjplncfginaaGreatDoor.Sy
open Go
set_option linter.unusedVariables false
set_option linter.unusedSimpArgs false

theorem hwrite1_eq (k : Nat) (h : Hdr) (m : List Int) (hn : hN h) (hg : hgood h = true) (hk : 100 < k) (hf : m.length ≤ 10000000000000) : header_Write_v1.f k h m = some (m ++ hb h) := by
  unfold header_Write_v1.f header_Write_v1.tree
  obtain ⟨v, p, r, t, b, n⟩ := h
  have hp := hn.1.1
  have hr := hn.2.1
  simp only at hp hr
  rw [hgood_eq, Option.bind_some, hg]
  simp only [Bool.not_true, cond_false, cond_true]
  rw [put_eq k 4 [v] _ (by omega) (by simp; omega) (by simp) (by omega), Option.bind_some, nums1, cl_4]
  rw [names_eq k [p, r] _ (by intro h hh; simp at hh; rcases hh with rfl | rfl <;> assumption) (by simp; omega) (by simp) (by simp; omega), Option.bind_some]
  rw [put_eq k 4 [t, b, n] _ (by omega) (by simp; omega) (by simp) (by simp [hp, hr]; omega), Option.bind_some, cl_4]
  unfold hb
  simp [nums]

theorem pnames_go (k : Nat) (x7 : Int) (y1 : List (List Int)) : ∀ (n : Nat) (i : Int) (m : List Int), scroll_Pen_Names_v1.l0.f k x7 y1 n i m = scroll_Pen_Names.l0.f k x7 y1 n i m := by
  intro n
  induction n with
  | zero => intro i m; rfl
  | succ n ih =>
    intro i m
    have ih' : ∀ i m, scroll_Pen_Names_v1.l0.go (fun x8 y => some (x8, y)) k x7 y1 n i m = scroll_Pen_Names.l0.go (fun x8 y => some (x8, y)) k x7 y1 n i m := ih
    unfold scroll_Pen_Names_v1.l0.f scroll_Pen_Names.l0.f
    rw [scroll_Pen_Names_v1.l0.go, scroll_Pen_Names.l0.go]
    unfold scroll_Pen_Names_v1.l0.step scroll_Pen_Names.l0.step
    simp only [ih']

theorem names1_eq (k : Nat) (l : List (List Int)) (m : List Int) (hn : ∀ h ∈ l, List.length h = 32) (hk : l.length < k) (hl : l.length ≤ 1000000) (hf : m.length ≤ 100000000000000) : scroll_Pen_Names_v1.f k l m = some (m ++ l.flatten) := by
  unfold scroll_Pen_Names_v1.f scroll_Pen_Names_v1.tree
  rw [pnames_go]
  exact names_eq k l m hn hk hl hf

theorem cnt_small {n : Int} (h : 0 ≤ n) (h' : n < 253) : cntB n = [n] := by
  unfold cntB
  rw [if_neg (by omega), if_pos h', num1_lit n h (by omega)]

abbrev hB (h : Hdr) : List Int := hb h ++ [0]
abbrev nB (n : List Int) : List Int := [2, 0, 0, 0] ++ n

theorem hB_length {h : Hdr} (hn : hN h) : (hB h).length = 81 := by simp [hb_length hn]

theorem flat_length {X : Type} (f : X → List Int) (w : Nat) (l : List X) (h : ∀ x ∈ l, (f x).length = w) : (l.map f).flatten.length = w * l.length := by
  induction l with
  | nil => rfl
  | cons x r ih =>
    have e : ((x :: r).map f).flatten = f x ++ (r.map f).flatten := rfl
    rw [e, List.length_append, ih (fun y hy => h y (List.mem_cons_of_mem _ hy)), h x List.mem_cons_self, List.length_cons, Nat.mul_succ, Nat.add_comm]

theorem flat_length_le {X : Type} (f : X → List Int) (w : Nat) (l : List X) (i : Nat) (h : ∀ x ∈ l, (f x).length = w) : ((l.drop i).map f).flatten.length ≤ w * l.length := by
  rw [flat_length f w _ (fun x hx => h x (List.mem_of_mem_drop hx)), List.length_drop]
  exact Nat.mul_le_mul_left _ (by omega)

theorem flat_byteL {X : Type} (f : X → List Int) (l : List X) (h : ∀ x ∈ l, byteL (f x)) : byteL (l.map f).flatten := by
  intro y hy
  obtain ⟨s, hs, hy⟩ := List.mem_flatten.1 hy
  obtain ⟨x, hx, rfl⟩ := List.mem_map.1 hs
  exact h x hx y hy

theorem flat_drop {X : Type} (f : X → List Int) (l : List X) (i : Nat) (h : i < l.length) : ((l.drop i).map f).flatten = f l[i] ++ ((l.drop (i + 1)).map f).flatten := by
  rw [List.drop_eq_getElem_cons h]; rfl

theorem hwriteE (k : Nat) (h : Hdr) (m : List Int) : header_Write_v1.f k (h.1, h.2.1, h.2.2.1, h.2.2.2.1, h.2.2.2.2) m = header_Write_v1.f k h m := rfl

theorem pay_l1 (k : Nat) (l : List Hdr) (hk : 100 < k) (hn : ∀ h ∈ l, hN h) (hg : ∀ h ∈ l, hgood h = true) (hl : l.length ≤ 1000) : ∀ (d n i : Nat) (m : List Int), i + d = l.length → d < n → m.length + 81 * d ≤ 1000000 →
    speech_payload.l1.f k (l.length : Int) l n (i : Int) m = some ((l.length : Int), m ++ ((l.drop i).map hB).flatten) := by
  intro d
  induction d with
  | zero =>
    intro n i m hi hn hf
    obtain ⟨n, rfl⟩ : ∃ q, n = q + 1 := ⟨n - 1, by omega⟩
    unfold speech_payload.l1.f speech_payload.l1.go speech_payload.l1.step
    have : i = l.length := by omega
    subst this
    rw [df (Int.lt_irrefl _), List.drop_length]
    simp
  | succ d ih =>
    intro n i m hi hn' hf
    obtain ⟨n, rfl⟩ : ∃ q, n = q + 1 := ⟨n - 1, by omega⟩
    have hlt : i < l.length := by omega
    have hm := List.getElem_mem hlt
    have := ih n (i + 1) (m ++ hB l[i]) (by omega) (by omega) (by rw [List.length_append, hB_length (hn _ hm)]; omega)
    unfold speech_payload.l1.f at this ⊢
    unfold speech_payload.l1.go speech_payload.l1.step
    have e : (i : Int) + 1 = ((i + 1 : Nat) : Int) := by omega
    have e2 : l.getD i dfl_31f8ee = l[i] := by rw [List.getD_eq_getElem?_getD, List.getElem?_eq_getElem hlt]; rfl
    rw [dt (by omega), dt (by omega), dt (by omega), Int.toNat_natCast, add_id (by omega) (by omega), e2, hwriteE, hwrite1_eq k _ m (hn _ hm) (hg _ hm) hk (by omega)]
    simp only [cond_true, Option.bind_some]
    rw [count_eq k 0 _ (by omega) (by rw [List.length_append, hb_length (hn _ hm)]; omega), Option.bind_some, cnt_small (by omega) (by omega), List.append_assoc, e, this, flat_drop hB l i hlt, List.append_assoc]

theorem pay_l3 (k : Nat) (l : List (List Int)) (hk : 100 < k) (hn : ∀ h ∈ l, List.length h = 32) (hl : l.length ≤ 1000) : ∀ (d n i : Nat) (m : List Int), i + d = l.length → d < n → m.length + 36 * d ≤ 1000000 →
    speech_payload.l3.f k (l.length : Int) l n (i : Int) m = some ((l.length : Int), m ++ ((l.drop i).map nB).flatten) := by
  intro d
  induction d with
  | zero =>
    intro n i m hi hn hf
    obtain ⟨n, rfl⟩ : ∃ q, n = q + 1 := ⟨n - 1, by omega⟩
    unfold speech_payload.l3.f speech_payload.l3.go speech_payload.l3.step
    have : i = l.length := by omega
    subst this
    rw [df (Int.lt_irrefl _), List.drop_length]
    simp
  | succ d ih =>
    intro n i m hi hn' hf
    obtain ⟨n, rfl⟩ : ∃ q, n = q + 1 := ⟨n - 1, by omega⟩
    have hlt : i < l.length := by omega
    have hm := hn _ (List.getElem_mem hlt)
    have := ih n (i + 1) (m ++ nB l[i]) (by omega) (by omega) (by simp [hm]; omega)
    unfold speech_payload.l3.f at this ⊢
    unfold speech_payload.l3.go speech_payload.l3.step
    have e : (i : Int) + 1 = ((i + 1 : Nat) : Int) := by omega
    have e2 : l.getD i (List.replicate 32 0 : List Int) = l[i] := by rw [List.getD_eq_getElem?_getD, List.getElem?_eq_getElem hlt]; rfl
    have e3 : num 4 2 = [2, 0, 0, 0] := by decide
    rw [dt (by omega), dt (by omega), dt (by omega), Int.toNat_natCast, add_id (by omega) (by omega), e2, put_eq k 4 [2] m (by omega) (by simp; omega) (by simp) (by omega), cl_4, nums1, e3]
    simp only [cond_true, Option.bind_some]
    rw [names_eq k [l[i]] _ (by intro h hh; rw [List.mem_singleton.1 hh]; exact hm) (by simp; omega) (by simp) (by simp; omega), Option.bind_some]
    have e4 : m ++ [2, 0, 0, 0] ++ [l[i]].flatten = m ++ nB l[i] := by simp
    rw [e4, e, this, flat_drop nB l i hlt, List.append_assoc]

/-- What the names and headers of a message are. -/
def mN (m : Msg) : Prop := (∀ h ∈ m.2.2.2.2.2.1, name h) ∧ name m.2.2.2.2.2.2.1 ∧ ∀ h ∈ m.2.2.2.2.2.2.2, hN h

def mpay (m : Msg) : List Int :=
  if m.1 = 1 then num 4 m.2.1 ++ (num 4 m.2.2.2.1 ++ (num 7 m.2.2.1 ++ num 7 m.2.2.2.2.1))
  else if m.1 = 3 then num 4 m.2.1 ++ ((m.2.2.2.2.2.1.length : Int) :: (m.2.2.2.2.2.1.flatten ++ m.2.2.2.2.2.2.1))
  else if m.1 = 4 then (m.2.2.2.2.2.2.2.length : Int) :: (m.2.2.2.2.2.2.2.map hB).flatten
  else if m.1 = 5 then (m.2.2.2.2.2.1.length : Int) :: (m.2.2.2.2.2.1.map nB).flatten
  else if m.1 = 6 ∨ m.1 = 7 then num 7 m.2.2.2.2.1
  else []

theorem flatten_byteL {l : List (List Int)} (h : ∀ x ∈ l, byteL x) : byteL l.flatten := by
  have := flat_byteL id l h
  rwa [List.map_id] at this
theorem flatten_length {l : List (List Int)} (w : Nat) (h : ∀ x ∈ l, List.length x = w) : l.flatten.length = w * l.length := by
  have := flat_length id w l h
  rwa [List.map_id] at this

theorem good_names {m : Msg} (hg : mgood m = true) (h : m.1 = 3 ∨ m.1 = 5) : m.2.2.2.2.2.1.length ≤ 32 := by
  unfold mgood at hg
  rcases h with h | h
  · rw [if_neg (by omega), if_pos h, Bool.and_eq_true] at hg
    exact of_decide_eq_true hg.2
  · rw [if_neg (by omega), if_neg (by omega), if_neg (by omega), if_pos h] at hg
    exact of_decide_eq_true hg
theorem good_headers {m : Msg} (hg : mgood m = true) (h : m.1 = 4) : m.2.2.2.2.2.2.2.length ≤ 64 ∧ ∀ h ∈ m.2.2.2.2.2.2.2, hgood h = true := by
  unfold mgood at hg
  rw [if_neg (by omega), if_neg (by omega), if_pos h, Bool.and_eq_true] at hg
  exact ⟨of_decide_eq_true hg.1, fun x hx => List.all_eq_true.1 hg.2 x hx⟩
theorem good_kind {m : Msg} (hg : mgood m = true) : 1 ≤ m.1 ∧ m.1 ≤ 8 := by
  unfold mgood at hg
  by_cases h1 : m.1 = 1
  · omega
  by_cases h3 : m.1 = 3
  · omega
  by_cases h4 : m.1 = 4
  · omega
  by_cases h5 : m.1 = 5
  · omega
  by_cases h6 : m.1 = 6 ∨ m.1 = 7
  · omega
  rw [if_neg h1, if_neg h3, if_neg h4, if_neg h5, if_neg h6] at hg
  have := of_decide_eq_true hg
  omega

theorem byteL_one {n : Int} {s : List Int} (h0 : 0 ≤ n) (h1 : n < 256) (h : byteL s) : byteL (n :: s) := byteL_cons.2 ⟨⟨h0, h1⟩, h⟩
theorem nB_byteL {n : List Int} (h : byteL n) : byteL (nB n) := byteL_app7 (by intro y hy; simp at hy; omega) h
theorem hB_byteL {h : Hdr} (hn : hN h) : byteL (hB h) := byteL_app7 (hb_byteL hn) (by intro y hy; simp at hy; omega)

theorem pay_byteL {m : Msg} (hg : mgood m = true) (hn : mN m) : byteL (mpay m) := by
  unfold mpay
  by_cases h1 : m.1 = 1
  · rw [if_pos h1]
    exact byteL_app7 (num_byteL _ _) (byteL_app7 (num_byteL _ _) (byteL_app7 (num_byteL _ _) (num_byteL _ _)))
  by_cases h3 : m.1 = 3
  · rw [if_neg h1, if_pos h3]
    have := good_names hg (.inl h3)
    exact byteL_app7 (num_byteL _ _) (byteL_one (by omega) (by omega) (byteL_app7 (flatten_byteL (fun x hx => (hn.1 x hx).2)) hn.2.1.2))
  by_cases h4 : m.1 = 4
  · rw [if_neg h1, if_neg h3, if_pos h4]
    have := (good_headers hg h4).1
    exact byteL_one (by omega) (by omega) (flat_byteL _ _ (fun x hx => hB_byteL (hn.2.2 x hx)))
  by_cases h5 : m.1 = 5
  · rw [if_neg h1, if_neg h3, if_neg h4, if_pos h5]
    have := good_names hg (.inr h5)
    exact byteL_one (by omega) (by omega) (flat_byteL _ _ (fun x hx => nB_byteL (hn.1 x hx).2))
  by_cases h6 : m.1 = 6 ∨ m.1 = 7
  · rw [if_neg h1, if_neg h3, if_neg h4, if_neg h5, if_pos h6]; exact num_byteL _ _
  · rw [if_neg h1, if_neg h3, if_neg h4, if_neg h5, if_neg h6]; exact byteL_nil

/-- How long a payload must be. -/
def mlen (kd : Int) (p : List Int) : Nat :=
  if kd = 1 then 22 else if kd = 3 then 37 + 32 * (p.getD 4 0).toNat else if kd = 4 then 1 + 81 * (p.getD 0 0).toNat
  else if kd = 5 then 1 + 36 * (p.getD 0 0).toNat else if kd = 6 ∨ kd = 7 then 7 else 0

theorem pay_length {m : Msg} (hn : mN m) : (mpay m).length = mlen m.1 (mpay m) := by
  unfold mpay mlen
  by_cases h1 : m.1 = 1
  · rw [if_pos h1, if_pos h1]; simp
  by_cases h3 : m.1 = 3
  · rw [if_neg h1, if_pos h3, if_neg h1, if_pos h3]
    have e : (num 4 m.2.1 ++ ((m.2.2.2.2.2.1.length : Int) :: (m.2.2.2.2.2.1.flatten ++ m.2.2.2.2.2.2.1))).getD 4 0 = (m.2.2.2.2.2.1.length : Int) := by
      rw [List.getD_eq_getElem?_getD, List.getElem?_append_right (by simp)]; simp
    rw [e, List.length_append, List.length_cons, List.length_append, flatten_length 32 (fun x hx => (hn.1 x hx).1), hn.2.1.1, num_length, Int.toNat_natCast]
    omega
  by_cases h4 : m.1 = 4
  · rw [if_neg h1, if_neg h3, if_pos h4, if_neg h1, if_neg h3, if_pos h4, List.length_cons, flat_length hB 81 _ (fun x hx => hB_length (hn.2.2 x hx))]
    show _ = 1 + 81 * ((m.2.2.2.2.2.2.2.length : Int)).toNat
    rw [Int.toNat_natCast]; omega
  by_cases h5 : m.1 = 5
  · rw [if_neg h1, if_neg h3, if_neg h4, if_pos h5, if_neg h1, if_neg h3, if_neg h4, if_pos h5, List.length_cons, flat_length nB 36 _ (fun x hx => by simp [(hn.1 x hx).1])]
    show _ = 1 + 36 * ((m.2.2.2.2.2.1.length : Int)).toNat
    rw [Int.toNat_natCast]; omega
  by_cases h6 : m.1 = 6 ∨ m.1 = 7
  · rw [if_neg h1, if_neg h3, if_neg h4, if_neg h5, if_pos h6, if_neg h1, if_neg h3, if_neg h4, if_neg h5, if_pos h6]; simp
  · rw [if_neg h1, if_neg h3, if_neg h4, if_neg h5, if_neg h6, if_neg h1, if_neg h3, if_neg h4, if_neg h5, if_neg h6]; rfl

theorem pay_le {m : Msg} (hg : mgood m = true) (hn : mN m) : (mpay m).length ≤ 10000 := by
  unfold mpay
  by_cases h1 : m.1 = 1
  · rw [if_pos h1]; simp
  by_cases h3 : m.1 = 3
  · rw [if_neg h1, if_pos h3]
    have := good_names hg (.inl h3)
    rw [List.length_append, List.length_cons, List.length_append, flatten_length 32 (fun x hx => (hn.1 x hx).1), hn.2.1.1, num_length]
    omega
  by_cases h4 : m.1 = 4
  · rw [if_neg h1, if_neg h3, if_pos h4, List.length_cons, flat_length hB 81 _ (fun x hx => hB_length (hn.2.2 x hx))]
    have := (good_headers hg h4).1
    omega
  by_cases h5 : m.1 = 5
  · rw [if_neg h1, if_neg h3, if_neg h4, if_pos h5, List.length_cons, flat_length nB 36 _ (fun x hx => by simp [(hn.1 x hx).1])]
    have := good_names hg (.inr h5)
    omega
  by_cases h6 : m.1 = 6 ∨ m.1 = 7
  · rw [if_neg h1, if_neg h3, if_neg h4, if_neg h5, if_pos h6]; simp
  · rw [if_neg h1, if_neg h3, if_neg h4, if_neg h5, if_neg h6]; simp

theorem nums2 (s : Nat) (a b : Int) : nums s [a, b] = num s a ++ num s b := by simp [nums]

theorem text0_eq (k : Nat) : scroll_Pen_Text_v1.f k = some [] := rfl

theorem pay_eq (k : Nat) (m : Msg) (hg : mgood m = true) (hn : mN m) (hk : 200 < k) : speech_payload.f k m = some (mpay m) := by
  have hb := pay_byteL hg hn
  unfold speech_payload.f speech_payload.tree
  by_cases h1 : m.1 = 1
  · unfold mpay at hb ⊢
    rw [if_pos h1] at hb ⊢
    rw [beqt h1, cond_true, put0_eq k 4 _ (by omega) (by simp; omega) (by simp), Option.bind_some, cl_4, nums2, put_eq k 7 _ _ (by omega) (by simp; omega) (by simp) (by simp), Option.bind_some, cl_7, nums2, List.append_assoc, text_eq k _ hb]
    rfl
  rw [beqf h1, cond_false]
  by_cases h3 : m.1 = 3
  · have h32 := good_names hg (.inl h3)
    unfold mpay at hb ⊢
    rw [if_neg h1, if_pos h3] at hb ⊢
    have hf := flatten_length 32 (fun x hx => (hn.1 x hx).1)
    rw [beqt h3, cond_true, put0_eq k 4 _ (by omega) (by simp; omega) (by simp), Option.bind_some, cl_4, nums1, count_eq k _ _ (by omega) (by simp), Option.bind_some, cnt_small (by omega) (by omega),
      names1_eq k _ _ (fun x hx => (hn.1 x hx).1) (by omega) (by omega) (by simp), Option.bind_some,
      names_eq k [m.2.2.2.2.2.2.1] _ (by intro h hh; rw [List.mem_singleton.1 hh]; exact hn.2.1.1) (by simp; omega) (by simp) (by simp [hf]; omega), Option.bind_some]
    have e : num 4 m.2.1 ++ [(m.2.2.2.2.2.1.length : Int)] ++ m.2.2.2.2.2.1.flatten ++ [m.2.2.2.2.2.2.1].flatten = num 4 m.2.1 ++ ((m.2.2.2.2.2.1.length : Int) :: (m.2.2.2.2.2.1.flatten ++ m.2.2.2.2.2.2.1)) := by simp
    rw [e, text_eq k _ hb]
    rfl
  rw [beqf h3, cond_false]
  by_cases h4 : m.1 = 4
  · have h64 := good_headers hg h4
    unfold mpay at hb ⊢
    rw [if_neg h1, if_neg h3, if_pos h4] at hb ⊢
    have := pay_l1 k m.2.2.2.2.2.2.2 (by omega) hn.2.2 h64.2 (by omega) m.2.2.2.2.2.2.2.length k 0 [(m.2.2.2.2.2.2.2.length : Int)] (by omega) (by omega) (by simp; omega)
    rw [show ((0 : Nat) : Int) = 0 from rfl, List.drop_zero] at this
    rw [beqt h4, cond_true, count0_eq k _ (by omega), Option.bind_some, cnt_small (by omega) (by omega), this, Option.bind_some]
    simp only
    rw [List.singleton_append, text_eq k _ hb]
    rfl
  rw [beqf h4, cond_false]
  by_cases h5 : m.1 = 5
  · have h32 := good_names hg (.inr h5)
    unfold mpay at hb ⊢
    rw [if_neg h1, if_neg h3, if_neg h4, if_pos h5] at hb ⊢
    have := pay_l3 k m.2.2.2.2.2.1 (by omega) (fun x hx => (hn.1 x hx).1) (by omega) m.2.2.2.2.2.1.length k 0 [(m.2.2.2.2.2.1.length : Int)] (by omega) (by omega) (by simp; omega)
    rw [show ((0 : Nat) : Int) = 0 from rfl, List.drop_zero] at this
    rw [beqt h5, cond_true, count0_eq k _ (by omega), Option.bind_some, cnt_small (by omega) (by omega), this, Option.bind_some]
    simp only
    rw [List.singleton_append, text_eq k _ hb]
    rfl
  rw [beqf h5, cond_false]
  unfold mpay at hb ⊢
  rw [if_neg h1, if_neg h3, if_neg h4, if_neg h5] at hb ⊢
  by_cases h6 : m.1 = 6
  · rw [if_pos (.inl h6)] at hb ⊢
    rw [beqt h6, cond_true, cond_true, put0_eq k 7 _ (by omega) (by simp; omega) (by simp), Option.bind_some, cl_7, nums1, text_eq k _ hb]
    rfl
  rw [beqf h6, cond_false]
  by_cases h7 : m.1 = 7
  · rw [if_pos (.inr h7)] at hb ⊢
    rw [beqt h7, cond_true, put0_eq k 7 _ (by omega) (by simp; omega) (by simp), Option.bind_some, cl_7, nums1, text_eq k _ hb]
    rfl
  rw [beqf h7, cond_false, if_neg (by omega), text0_eq]
  rfl

end Go.Proofs.YtkgpjplncfginaaGreatDoor.Sy
