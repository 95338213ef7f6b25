/- Messages: what is read. -/
import Derived.Test.YtkgpjplncfginaaGreatDoorQ123Z
namespace Go.Proofs.YtkgpjplncfginaaGreatDoor.Sy
open Go
set_option linter.unusedVariables false
set_option linter.unusedSimpArgs false

theorem eget_n (k : Nat) (s : Int) (m : List Int × Bool) (hk : 7 < k) (hb : byteL m.1) : scroll_Eye_Get.f k s m = some (bif (adv (cl7 s) m).2 then 0 else val (m.1.take (cl7 s)), adv (cl7 s) m) := by
  by_cases h : m.2 = false ∧ cl7 s ≤ m.1.length
  · obtain ⟨t, b⟩ := m
    obtain ⟨rfl, h⟩ := h
    rw [adv_ok h, eget_take k s t hk hb h]; rfl
  · have h' : m.2 = true ∨ m.1.length < cl7 s := by
      cases h2 : m.2
      · exact .inr (by have : ¬ cl7 s ≤ m.1.length := fun h' => h ⟨h2, h'⟩; omega)
      · exact .inl rfl
    rw [adv_bad h', eget_bad k s m (by omega) h']; rfl

theorem cl7_7 : cl7 7 = 7 := rfl

theorem done_adv (k n : Nat) (t : List Int) : scroll_Eye_Done.f k (adv n (t, false)) = some (decide (t.length = n)) := by
  by_cases h : n ≤ t.length
  · rw [adv_ok h, done_eq]
    congr 1
    refine decide_eq_decide.2 ?_
    rw [List.drop_eq_nil_iff]
    omega
  · rw [adv_bad (.inr (by show t.length < n; omega)), done_bad, df (by omega)]

theorem cw_none (r : List Int) (w : Nat) (least most : Int) (h : most < least) : cw r w least most = none := by
  unfold cw
  by_cases h1 : r.length < w
  · rw [if_pos h1]
  · rw [if_neg h1, if_pos]
    by_cases h2 : val (r.take w) < least
    · exact .inl h2
    · exact .inr (.inl (by omega))

theorem counted_small (most : Int) (h : most < 253) (t : List Int) : counted t most = (match t with | [] => none | b :: r => if most < b then none else some (b, 1)) := by
  cases t with
  | nil => rfl
  | cons b r =>
    unfold counted
    simp only
    by_cases h1 : b = 253
    · rw [if_pos h1, cw_none _ _ _ _ (by omega), if_pos (by omega)]
    by_cases h2 : b = 254
    · rw [if_neg h1, if_pos h2, cw_none _ _ _ _ (by omega), if_pos (by omega)]
    by_cases h3 : b = 255
    · rw [if_neg h1, if_neg h2, if_pos h3, cw_none _ _ _ _ (by omega), if_pos (by omega)]
    rw [if_neg h1, if_neg h2, if_neg h3]

def many {X : Type} (w : Nat) (ok : List Int → Bool) (f : List Int → X) : Nat → List Int → Option (List X × List Int)
  | 0, t => some ([], t)
  | n + 1, t => if w ≤ t.length ∧ ok (t.take w) = true then (match many w ok f n (t.drop w) with | some r => some (f (t.take w) :: r.1, r.2) | none => none) else none

def cntM {X : Type} (w : Nat) (ok : List Int → Bool) (f : List Int → X) (most : Int) : List Int → Option (List X × List Int)
  | [] => none
  | b :: r => if most < b then none else many w ok f b.toNat r

theorem many_sound {X : Type} (w : Nat) (ok : List Int → Bool) (f : List Int → X) (g : X → List Int) (P : X → Prop) (h : ∀ s, s.length = w → ok s = true → byteL s → g (f s) = s ∧ P (f s)) :
    ∀ (n : Nat) (t : List Int) (r : List X × List Int), byteL t → many w ok f n t = some r → t = (r.1.map g).flatten ++ r.2 ∧ r.1.length = n ∧ ∀ x ∈ r.1, P x := by
  intro n
  induction n with
  | zero =>
    intro t r hb e
    unfold many at e
    cases e
    exact ⟨rfl, rfl, (fun x hx => by cases hx)⟩
  | succ n ih =>
    intro t r hb e
    unfold many at e
    by_cases c : w ≤ t.length ∧ ok (t.take w) = true
    · rw [if_pos c] at e
      cases hm : many w ok f n (t.drop w) with
      | none => rw [hm] at e; cases e
      | some r' =>
        rw [hm] at e
        cases e
        obtain ⟨e1, e2, e3⟩ := ih _ _ (byteL_drop _ hb) hm
        obtain ⟨g1, g2⟩ := h (t.take w) (by rw [List.length_take]; omega) c.2 (byteL_take _ hb)
        refine ⟨?_, by simp [e2], ?_⟩
        · rw [List.map_cons, List.flatten_cons, g1, List.append_assoc, ← e1, List.take_append_drop]
        · intro x hx
          rcases List.mem_cons.1 hx with rfl | hx
          · exact g2
          · exact e3 x hx
    · rw [if_neg c] at e; cases e

theorem many_complete {X : Type} (w : Nat) (ok : List Int → Bool) (f : List Int → X) (g : X → List Int) (u : List Int) : ∀ (xs : List X), (∀ x ∈ xs, (g x).length = w ∧ ok (g x) = true ∧ f (g x) = x) →
    many w ok f xs.length ((xs.map g).flatten ++ u) = some (xs, u)
  | [], _ => rfl
  | x :: r, h => by
    obtain ⟨h1, h2, h3⟩ := h x List.mem_cons_self
    have ih := many_complete w ok f g u r (fun y hy => h y (List.mem_cons_of_mem _ hy))
    rw [List.length_cons, many, List.map_cons, List.flatten_cons, List.append_assoc, take_app h1, drop_app h1, if_pos ⟨by rw [List.length_append]; omega, h2⟩, ih, h3]

def okN (s : List Int) : Bool := true
def okT (s : List Int) : Bool := decide (val (s.take 4) = 2)
def okH (s : List Int) : Bool := decide (s.getD 80 0 = 0)

theorem item_Hash (k : Nat) (t : List Int) (hb : byteL t) (hk : 7 < k) : ∃ v, scroll_Eye_Name.f k (t, false) = some (if 32 ≤ t.length ∧ okN (t.take 32) = true then (t.take 32, (t.drop 32, false)) else (v, ([], true))) := by
  by_cases h : 32 ≤ t.length
  · exact ⟨[], by rw [ename_take k t h, if_pos ⟨h, rfl⟩]⟩
  · exact ⟨_, by rw [ename_bad k _ (.inr (by show t.length < 32; omega)), if_neg (fun c => h c.1)]⟩

theorem item_thing (k : Nat) (t : List Int) (hb : byteL t) (hk : 7 < k) : ∃ v, speech_thing.f k (t, false) = some (if 36 ≤ t.length ∧ okT (t.take 36) = true then ((t.take 36).drop 4, (t.drop 36, false)) else (v, ([], true))) := by
  have hbl : ∀ m : List Int × Bool, scroll_Eye_Blind.f k m = some ([], true) := fun m => rfl
  have hbad : scroll_Eye_Name.f k ([], true) = some (List.replicate 32 0, ([], true)) := ename_bad k _ (.inl rfl)
  have e36 : (t.take 36).take 4 = t.take 4 := by rw [List.take_take]; rfl
  unfold speech_thing.f speech_thing.tree okT
  rw [e36]
  by_cases h4 : 4 ≤ t.length
  · rw [eget_n k 4 _ hk hb, cl7_4, adv_ok h4, Option.bind_some]
    simp only [cond_false]
    by_cases h2 : val (t.take 4) = 2
    · rw [h2]
      simp only [bne_self_eq_false, cond_false]
      by_cases h36 : 36 ≤ t.length
      · refine ⟨[], ?_⟩
        rw [ename_take k _ (by rw [List.length_drop]; omega), Option.bind_some, if_pos ⟨h36, rfl⟩, List.drop_drop, List.drop_take]
      · refine ⟨List.replicate 32 0, ?_⟩
        rw [ename_bad k _ (.inr (by show (t.drop 4).length < 32; rw [List.length_drop]; omega)), Option.bind_some, if_neg (fun c => h36 c.1)]
    · refine ⟨List.replicate 32 0, ?_⟩
      rw [show (val (t.take 4) != (2 : Int)) = true by simp [h2], cond_true, hbl, Option.bind_some, hbad, Option.bind_some, if_neg (fun c => h2 (of_decide_eq_true c.2))]
  · refine ⟨List.replicate 32 0, ?_⟩
    rw [eget_n k 4 _ hk hb, cl7_4, adv_bad (.inr (by show t.length < 4; omega)), Option.bind_some]
    simp only [cond_true]
    rw [show ((0 : Int) != (2 : Int)) = true from rfl, cond_true, hbl, Option.bind_some, hbad, Option.bind_some, if_neg (fun c => by omega)]

theorem rd_take (t : List Int) : rd (t.take 81) = rd t := by
  unfold rd
  simp only [List.drop_take, List.take_take]
  rfl

theorem item_head (k : Nat) (t : List Int) (hb : byteL t) (hk : 7 < k) : ∃ v, speech_head.f k (t, false) = some (if 81 ≤ t.length ∧ okH (t.take 81) = true then (rd (t.take 81), (t.drop 81, false)) else (v, ([], true))) := by
  unfold speech_head.f speech_head.tree okH
  by_cases h : t.length < 80
  · refine ⟨zeroH, ?_⟩
    rw [hread_bad k t hk hb h, Option.bind_some, ecount_bad k 0 _ (by omega) (.inl rfl) (.inr trivial), Option.bind_some, if_neg (fun c => by omega)]
  · rw [hread_ok k t hk hb (by omega), Option.bind_some, rd_take]
    simp only
    rw [ecount_eq k 0 _ hk (byteL_drop _ hb), counted_small 0 (by omega), Option.bind_some]
    by_cases h81 : 81 ≤ t.length
    · have hlt : 80 < t.length := by omega
      have e2 : (t.take 81).getD 80 0 = t[80] := by rw [List.getD_eq_getElem?_getD, List.getElem?_take_of_lt (by omega), List.getElem?_eq_getElem hlt]; rfl
      have h0 := hb _ (List.getElem_mem hlt)
      rw [List.drop_eq_getElem_cons hlt, e2]
      by_cases hz : t[80] = 0
      · refine ⟨zeroH, ?_⟩
        simp only []
        rw [if_neg (by omega : ¬ (0 : Int) < t[80]), if_pos ⟨h81, dt hz⟩]
        rfl
      · refine ⟨rd t, ?_⟩
        simp only
        rw [if_pos (by omega : (0 : Int) < t[80]), if_neg (fun c => hz (of_decide_eq_true c.2))]
        rfl
    · refine ⟨rd t, ?_⟩
      rw [List.drop_eq_nil_of_le (by omega), if_neg (fun c => h81 c.1)]
      rfl


theorem speech_some_api_Hash_v2_l0 (k : Nat) (C : Nat) (hC : C ≤ 1000) (hk : 7 < k) : ∀ (d n i : Nat) (t : List Int) (acc : List (List Int)), byteL t → i + d = C → d < n → acc.length + d ≤ 1000 →
    speech_some_api_Hash_v2.l0.f k (C : Int) n (i : Int) (t, false) acc = some (match many 32 okN id d t with | some r => .inl ((C : Int), ((r.2, false), acc ++ r.1)) | none => .inr ([], true)) := by
  intro d
  induction d with
  | zero =>
    intro n i t acc hb hi hn hl
    obtain ⟨n, rfl⟩ : ∃ q, n = q + 1 := ⟨n - 1, by omega⟩
    unfold speech_some_api_Hash_v2.l0.f speech_some_api_Hash_v2.l0.go speech_some_api_Hash_v2.l0.step
    have : i = C := by omega
    subst this
    rw [df (Int.lt_irrefl _)]
    simp only [many, List.append_nil]
    rfl
  | succ d ih =>
    intro n i t acc hb hi hn hl
    obtain ⟨n, rfl⟩ : ∃ q, n = q + 1 := ⟨n - 1, by omega⟩
    obtain ⟨v, hv⟩ := item_Hash k t hb hk
    have bad : ∀ m, scroll_Eye_Bad.f k m = some m.2 := fun m => rfl
    have st : speech_some_api_Hash_v2.l0.f k (C : Int) (n + 1) (i : Int) (t, false) acc = (if 32 ≤ t.length ∧ okN (t.take 32) = true then speech_some_api_Hash_v2.l0.f k (C : Int) n ((i + 1 : Nat) : Int) (t.drop 32, false) (acc ++ [t.take 32]) else some (.inr ([], true))) := by
      unfold speech_some_api_Hash_v2.l0.f
      rw [speech_some_api_Hash_v2.l0.go]
      unfold speech_some_api_Hash_v2.l0.step
      have e : (i : Int) + 1 = ((i + 1 : Nat) : Int) := by omega
      rw [dt (by omega : (i : Int) < (C : Int)), cond_true, hv, Option.bind_some, bad, Option.bind_some, ← e, add_id (by omega) (by omega), fits_ok (by omega)]
      by_cases c : 32 ≤ t.length ∧ okN (t.take 32) = true
      · rw [if_pos c, if_pos c]; rfl
      · rw [if_neg c, if_neg c]; rfl
    rw [st, many]
    by_cases c : 32 ≤ t.length ∧ okN (t.take 32) = true
    · rw [if_pos c, if_pos c, ih n (i + 1) _ _ (byteL_drop _ hb) (by omega) (by omega) (by simp; omega)]
      cases many 32 okN id d (t.drop 32) with
      | none => rfl
      | some r => simp only [List.append_assoc]; rfl
    · rw [if_neg c, if_neg c]

theorem speech_some_api_Hash_v2_eq (k : Nat) (most : Int) (t : List Int) (hb : byteL t) (hk : 300 < k) (h0 : 0 ≤ most) (hm : most < 253) :
    speech_some_api_Hash_v2.f k most (t, false) = some (match cntM 32 okN id most t with | some r => ((r.2, false), r.1) | none => (([], true), [])) := by
  unfold speech_some_api_Hash_v2.f speech_some_api_Hash_v2.tree
  have z : speech_some_api_Hash_v2.l0.f k 0 k 0 ([], true) [] = some (.inl (0, (([], true), []))) := by
    obtain ⟨q, rfl⟩ : ∃ q, k = q + 1 := ⟨k - 1, by omega⟩
    rfl
  rw [ecount_eq k most t (by omega) hb, counted_small most hm, Option.bind_some]
  cases t with
  | nil =>
    simp only [eyeOf, cntM]
    rw [z]
    rfl
  | cons b r =>
    simp only [cntM]
    by_cases c : most < b
    · rw [if_pos c, if_pos c]
      simp only [eyeOf]
      rw [z]
      rfl
    · rw [if_neg c, if_neg c]
      have hb' := byteL_cons.1 hb
      have := speech_some_api_Hash_v2_l0 k b.toNat (by omega) (by omega) b.toNat k 0 r [] hb'.2 (by omega) (by omega) (by simp; omega)
      rw [show ((0 : Nat) : Int) = 0 from rfl, Int.toNat_of_nonneg hb'.1.1] at this
      simp only [eyeOf, List.drop_succ_cons, List.drop_zero]
      rw [this, Option.bind_some]
      cases many 32 okN id b.toNat r <;> rfl

theorem speech_some_api_Hash_v2_bad (k : Nat) (most : Int) (hk : 300 < k) : speech_some_api_Hash_v2.f k most ([], true) = some (([], true), []) := by
  unfold speech_some_api_Hash_v2.f speech_some_api_Hash_v2.tree
  have z : speech_some_api_Hash_v2.l0.f k 0 k 0 ([], true) [] = some (.inl (0, (([], true), []))) := by
    obtain ⟨q, rfl⟩ : ∃ q, k = q + 1 := ⟨k - 1, by omega⟩
    rfl
  rw [ecount_bad k most _ (by omega) (.inl rfl) (.inr trivial), Option.bind_some]
  simp only
  rw [z]
  rfl

theorem speech_some_api_Header_v1_l0 (k : Nat) (C : Nat) (hC : C ≤ 1000) (hk : 7 < k) : ∀ (d n i : Nat) (t : List Int) (acc : List Hdr), byteL t → i + d = C → d < n → acc.length + d ≤ 1000 →
    speech_some_api_Header_v1.l0.f k (C : Int) n (i : Int) (t, false) acc = some (match many 81 okH rd d t with | some r => .inl ((C : Int), ((r.2, false), acc ++ r.1)) | none => .inr ([], true)) := by
  intro d
  induction d with
  | zero =>
    intro n i t acc hb hi hn hl
    obtain ⟨n, rfl⟩ : ∃ q, n = q + 1 := ⟨n - 1, by omega⟩
    unfold speech_some_api_Header_v1.l0.f speech_some_api_Header_v1.l0.go speech_some_api_Header_v1.l0.step
    have : i = C := by omega
    subst this
    rw [df (Int.lt_irrefl _)]
    simp only [many, List.append_nil]
    rfl
  | succ d ih =>
    intro n i t acc hb hi hn hl
    obtain ⟨n, rfl⟩ : ∃ q, n = q + 1 := ⟨n - 1, by omega⟩
    obtain ⟨v, hv⟩ := item_head k t hb hk
    have bad : ∀ m, scroll_Eye_Bad.f k m = some m.2 := fun m => rfl
    have st : speech_some_api_Header_v1.l0.f k (C : Int) (n + 1) (i : Int) (t, false) acc = (if 81 ≤ t.length ∧ okH (t.take 81) = true then speech_some_api_Header_v1.l0.f k (C : Int) n ((i + 1 : Nat) : Int) (t.drop 81, false) (acc ++ [rd (t.take 81)]) else some (.inr ([], true))) := by
      unfold speech_some_api_Header_v1.l0.f
      rw [speech_some_api_Header_v1.l0.go]
      unfold speech_some_api_Header_v1.l0.step
      have e : (i : Int) + 1 = ((i + 1 : Nat) : Int) := by omega
      rw [dt (by omega : (i : Int) < (C : Int)), cond_true, hv, Option.bind_some, bad, Option.bind_some, ← e, add_id (by omega) (by omega), fits_ok (by omega)]
      by_cases c : 81 ≤ t.length ∧ okH (t.take 81) = true
      · rw [if_pos c, if_pos c]; rfl
      · rw [if_neg c, if_neg c]; rfl
    rw [st, many]
    by_cases c : 81 ≤ t.length ∧ okH (t.take 81) = true
    · rw [if_pos c, if_pos c, ih n (i + 1) _ _ (byteL_drop _ hb) (by omega) (by omega) (by simp; omega)]
      cases many 81 okH rd d (t.drop 81) with
      | none => rfl
      | some r => simp only [List.append_assoc]; rfl
    · rw [if_neg c, if_neg c]

theorem speech_some_api_Header_v1_eq (k : Nat) (most : Int) (t : List Int) (hb : byteL t) (hk : 300 < k) (h0 : 0 ≤ most) (hm : most < 253) :
    speech_some_api_Header_v1.f k most (t, false) = some (match cntM 81 okH rd most t with | some r => ((r.2, false), r.1) | none => (([], true), [])) := by
  unfold speech_some_api_Header_v1.f speech_some_api_Header_v1.tree
  have z : speech_some_api_Header_v1.l0.f k 0 k 0 ([], true) [] = some (.inl (0, (([], true), []))) := by
    obtain ⟨q, rfl⟩ : ∃ q, k = q + 1 := ⟨k - 1, by omega⟩
    rfl
  rw [ecount_eq k most t (by omega) hb, counted_small most hm, Option.bind_some]
  cases t with
  | nil =>
    simp only [eyeOf, cntM]
    rw [z]
    rfl
  | cons b r =>
    simp only [cntM]
    by_cases c : most < b
    · rw [if_pos c, if_pos c]
      simp only [eyeOf]
      rw [z]
      rfl
    · rw [if_neg c, if_neg c]
      have hb' := byteL_cons.1 hb
      have := speech_some_api_Header_v1_l0 k b.toNat (by omega) (by omega) b.toNat k 0 r [] hb'.2 (by omega) (by omega) (by simp; omega)
      rw [show ((0 : Nat) : Int) = 0 from rfl, Int.toNat_of_nonneg hb'.1.1] at this
      simp only [eyeOf, List.drop_succ_cons, List.drop_zero]
      rw [this, Option.bind_some]
      cases many 81 okH rd b.toNat r <;> rfl

theorem speech_some_api_Header_v1_bad (k : Nat) (most : Int) (hk : 300 < k) : speech_some_api_Header_v1.f k most ([], true) = some (([], true), []) := by
  unfold speech_some_api_Header_v1.f speech_some_api_Header_v1.tree
  have z : speech_some_api_Header_v1.l0.f k 0 k 0 ([], true) [] = some (.inl (0, (([], true), []))) := by
    obtain ⟨q, rfl⟩ : ∃ q, k = q + 1 := ⟨k - 1, by omega⟩
    rfl
  rw [ecount_bad k most _ (by omega) (.inl rfl) (.inr trivial), Option.bind_some]
  simp only
  rw [z]
  rfl

theorem speech_some_api_Hash_v3_l0 (k : Nat) (C : Nat) (hC : C ≤ 1000) (hk : 7 < k) : ∀ (d n i : Nat) (t : List Int) (acc : List (List Int)), byteL t → i + d = C → d < n → acc.length + d ≤ 1000 →
    speech_some_api_Hash_v3.l0.f k (C : Int) n (i : Int) (t, false) acc = some (match many 36 okT (List.drop 4) d t with | some r => .inl ((C : Int), ((r.2, false), acc ++ r.1)) | none => .inr ([], true)) := by
  intro d
  induction d with
  | zero =>
    intro n i t acc hb hi hn hl
    obtain ⟨n, rfl⟩ : ∃ q, n = q + 1 := ⟨n - 1, by omega⟩
    unfold speech_some_api_Hash_v3.l0.f speech_some_api_Hash_v3.l0.go speech_some_api_Hash_v3.l0.step
    have : i = C := by omega
    subst this
    rw [df (Int.lt_irrefl _)]
    simp only [many, List.append_nil]
    rfl
  | succ d ih =>
    intro n i t acc hb hi hn hl
    obtain ⟨n, rfl⟩ : ∃ q, n = q + 1 := ⟨n - 1, by omega⟩
    obtain ⟨v, hv⟩ := item_thing k t hb hk
    have bad : ∀ m, scroll_Eye_Bad.f k m = some m.2 := fun m => rfl
    have st : speech_some_api_Hash_v3.l0.f k (C : Int) (n + 1) (i : Int) (t, false) acc = (if 36 ≤ t.length ∧ okT (t.take 36) = true then speech_some_api_Hash_v3.l0.f k (C : Int) n ((i + 1 : Nat) : Int) (t.drop 36, false) (acc ++ [(t.take 36).drop 4]) else some (.inr ([], true))) := by
      unfold speech_some_api_Hash_v3.l0.f
      rw [speech_some_api_Hash_v3.l0.go]
      unfold speech_some_api_Hash_v3.l0.step
      have e : (i : Int) + 1 = ((i + 1 : Nat) : Int) := by omega
      rw [dt (by omega : (i : Int) < (C : Int)), cond_true, hv, Option.bind_some, bad, Option.bind_some, ← e, add_id (by omega) (by omega), fits_ok (by omega)]
      by_cases c : 36 ≤ t.length ∧ okT (t.take 36) = true
      · rw [if_pos c, if_pos c]; rfl
      · rw [if_neg c, if_neg c]; rfl
    rw [st, many]
    by_cases c : 36 ≤ t.length ∧ okT (t.take 36) = true
    · rw [if_pos c, if_pos c, ih n (i + 1) _ _ (byteL_drop _ hb) (by omega) (by omega) (by simp; omega)]
      cases many 36 okT (List.drop 4) d (t.drop 36) with
      | none => rfl
      | some r => simp only [List.append_assoc]; rfl
    · rw [if_neg c, if_neg c]

theorem speech_some_api_Hash_v3_eq (k : Nat) (most : Int) (t : List Int) (hb : byteL t) (hk : 300 < k) (h0 : 0 ≤ most) (hm : most < 253) :
    speech_some_api_Hash_v3.f k most (t, false) = some (match cntM 36 okT (List.drop 4) most t with | some r => ((r.2, false), r.1) | none => (([], true), [])) := by
  unfold speech_some_api_Hash_v3.f speech_some_api_Hash_v3.tree
  have z : speech_some_api_Hash_v3.l0.f k 0 k 0 ([], true) [] = some (.inl (0, (([], true), []))) := by
    obtain ⟨q, rfl⟩ : ∃ q, k = q + 1 := ⟨k - 1, by omega⟩
    rfl
  rw [ecount_eq k most t (by omega) hb, counted_small most hm, Option.bind_some]
  cases t with
  | nil =>
    simp only [eyeOf, cntM]
    rw [z]
    rfl
  | cons b r =>
    simp only [cntM]
    by_cases c : most < b
    · rw [if_pos c, if_pos c]
      simp only [eyeOf]
      rw [z]
      rfl
    · rw [if_neg c, if_neg c]
      have hb' := byteL_cons.1 hb
      have := speech_some_api_Hash_v3_l0 k b.toNat (by omega) (by omega) b.toNat k 0 r [] hb'.2 (by omega) (by omega) (by simp; omega)
      rw [show ((0 : Nat) : Int) = 0 from rfl, Int.toNat_of_nonneg hb'.1.1] at this
      simp only [eyeOf, List.drop_succ_cons, List.drop_zero]
      rw [this, Option.bind_some]
      cases many 36 okT (List.drop 4) b.toNat r <;> rfl

theorem speech_some_api_Hash_v3_bad (k : Nat) (most : Int) (hk : 300 < k) : speech_some_api_Hash_v3.f k most ([], true) = some (([], true), []) := by
  unfold speech_some_api_Hash_v3.f speech_some_api_Hash_v3.tree
  have z : speech_some_api_Hash_v3.l0.f k 0 k 0 ([], true) [] = some (.inl (0, (([], true), []))) := by
    obtain ⟨q, rfl⟩ : ∃ q, k = q + 1 := ⟨k - 1, by omega⟩
    rfl
  rw [ecount_bad k most _ (by omega) (.inl rfl) (.inr trivial), Option.bind_some]
  simp only
  rw [z]
  rfl

/-! ### The message in a payload -/

abbrev zeroM : Msg := (0, 0, 0, 0, 0, [], zeroN, [])

def rM (kd : Int) (p : List Int) : Option Msg :=
  if kd = 1 then (if p.length = 22 then some (kd, val (p.take 4), val ((p.drop 8).take 7), val ((p.drop 4).take 4), val ((p.drop 15).take 7), [], zeroN, []) else none)
  else if kd = 3 then (if p.length < 4 then none else match cntM 32 okN id 32 (p.drop 4) with | none => none | some r => if r.2.length = 32 then some (kd, val (p.take 4), 0, 0, 0, r.1, r.2, []) else none)
  else if kd = 4 then (match cntM 81 okH rd 64 p with | none => none | some r => if r.2 = [] then some (kd, 0, 0, 0, 0, [], zeroN, r.1) else none)
  else if kd = 5 then (match cntM 36 okT (List.drop 4) 32 p with | none => none | some r => if r.2 = [] then some (kd, 0, 0, 0, 0, r.1, zeroN, []) else none)
  else if kd = 6 ∨ kd = 7 then (if p.length = 7 then some (kd, 0, 0, 0, val p, [], zeroN, []) else none)
  else if p = [] then some (kd, 0, 0, 0, 0, [], zeroN, []) else none

def rR (kd : Int) (p : List Int) : Msg × Int := if kd = 0 then (zeroM, 5) else match rM kd p with | some x => (x, 0) | none => (zeroM, 4)

theorem read_eq (k : Nat) (w p : List Int) (hb : byteL p) (hk : 300 < k) : speech_Read.f k (w, p) gv0 = some (rR (kindOf w) p) := by
  unfold speech_Read.f speech_Read.tree rR
  rw [skind_eq k w (by omega), Option.bind_some]
  generalize kindOf w = kd
  by_cases h0 : kd = 0
  · rw [if_pos h0, beqt h0, h0]; rfl
  have on : scroll_On.f k p = some (p, false) := rfl
  have n7 : 7 < k := by omega
  rw [if_neg h0, beqf h0, cond_false, on, Option.bind_some]
  unfold rM
  by_cases h1 : kd = 1
  · rw [if_pos h1, beqt h1, cond_true, eget_n k 4 _ n7 hb, Option.bind_some]
    simp only []
    rw [eget_n k 4 _ n7 (adv_byteL hb), Option.bind_some]
    simp only [adv_adv]
    rw [eget_n k 7 _ n7 (adv_byteL hb), Option.bind_some]
    simp only [adv_adv]
    rw [eget_n k 7 _ n7 (adv_byteL hb), Option.bind_some]
    simp only [adv_adv, cl7_4, cl7_7]
    rw [done_adv, Option.bind_some]
    by_cases hl : p.length = 22
    · rw [if_pos hl, dt (by omega), adv_ok (n := 4) (by omega), adv_ok (n := 4 + 4) (by omega), adv_ok (n := 4 + 4 + 7) (by omega), adv_ok (n := 4 + 4 + 7 + 7) (by omega)]
      rfl
    · rw [if_neg hl, df (by omega)]
      rfl
  rw [if_neg h1, beqf h1, cond_false]
  by_cases h3 : kd = 3
  · rw [if_pos h3, beqt h3, cond_true, eget_n k 4 _ n7 hb, Option.bind_some, cl7_4]
    by_cases hl : p.length < 4
    · rw [if_pos hl, adv_bad (.inr (by show p.length < 4; exact hl))]
      simp only []
      rw [speech_some_api_Hash_v2_bad k 32 hk, Option.bind_some]
      simp only []
      rw [ename_bad k _ (.inl rfl), Option.bind_some, done_bad]
      rfl
    · rw [if_neg hl, adv_ok (by omega)]
      simp only [cond_false]
      rw [speech_some_api_Hash_v2_eq k 32 _ (byteL_drop _ hb) hk (by omega) (by omega), Option.bind_some]
      cases cntM 32 okN id 32 (p.drop 4) with
      | none =>
        simp only []
        rw [ename_bad k _ (.inl rfl), Option.bind_some, done_bad]
        rfl
      | some r =>
        simp only []
        rw [ename_adv, Option.bind_some]
        simp only []
        rw [done_adv, Option.bind_some]
        by_cases hr : r.2.length = 32
        · rw [if_pos hr, dt hr, adv_ok (by omega)]
          simp only [Bool.not_true, cond_false]
          rw [List.take_of_length_le (show r.2.length ≤ 32 by omega)]
        · rw [if_neg hr, df hr]
          rfl
  rw [if_neg h3, beqf h3, cond_false]
  have dn : ∀ (r : List Int) (X : Type) (a b : Option X), (Option.bind (scroll_Eye_Done.f k (r, false)) (fun v => bif !v then a else b)) = if r = [] then b else a := by
    intro r X a b
    rw [done_eq, Option.bind_some]
    by_cases h : r = []
    · rw [if_pos h, dt h]; rfl
    · rw [if_neg h, df h]; rfl
  by_cases h4 : kd = 4
  · rw [if_pos h4, beqt h4, cond_true, speech_some_api_Header_v1_eq k 64 _ hb hk (by omega) (by omega), Option.bind_some]
    cases cntM 81 okH rd 64 p with
    | none => rfl
    | some r =>
      simp only []
      rw [dn]
      by_cases h : r.2 = []
      · rw [if_pos h, if_pos h]
      · rw [if_neg h, if_neg h]
  rw [if_neg h4, beqf h4, cond_false]
  by_cases h5 : kd = 5
  · rw [if_pos h5, beqt h5, cond_true, speech_some_api_Hash_v3_eq k 32 _ hb hk (by omega) (by omega), Option.bind_some]
    cases cntM 36 okT (List.drop 4) 32 p with
    | none => rfl
    | some r =>
      simp only []
      rw [dn]
      by_cases h : r.2 = []
      · rw [if_pos h, if_pos h]
      · rw [if_neg h, if_neg h]
  rw [if_neg h5, beqf h5, cond_false]
  by_cases h6 : kd = 6
  · rw [if_pos (.inl h6), beqt h6, cond_true, cond_true, eget_n k 7 _ n7 hb, Option.bind_some, cl7_7]
    simp only []
    rw [done_adv, Option.bind_some]
    by_cases hl : p.length = 7
    · rw [if_pos hl, dt hl, adv_ok (by omega), List.take_of_length_le (by omega)]
      rfl
    · rw [if_neg hl, df hl]
      rfl
  rw [beqf h6, cond_false]
  by_cases h7 : kd = 7
  · rw [if_pos (.inr h7), beqt h7, cond_true, eget_n k 7 _ n7 hb, Option.bind_some, cl7_7]
    simp only []
    rw [done_adv, Option.bind_some]
    by_cases hl : p.length = 7
    · rw [if_pos hl, dt hl, adv_ok (by omega), List.take_of_length_le (by omega)]
      rfl
    · rw [if_neg hl, df hl]
      rfl
  rw [beqf h7, cond_false, if_neg (by omega), dn]
  by_cases h : p = []
  · rw [if_pos h, if_pos h]
  · rw [if_neg h, if_neg h]

end Go.Proofs.YtkgpjplncfginaaGreatDoor.Sy
