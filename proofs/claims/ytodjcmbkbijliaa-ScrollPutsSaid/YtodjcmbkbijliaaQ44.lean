/- Items of the laws on the scroll: what is put. -/
import Derived.Test.YtodjcmbkbijliaaQ43
namespace Go.Proofs.Ytodjcmbkbijliaa.Sy
open Go
set_option linter.unusedVariables false
set_option linter.unusedSimpArgs false

abbrev It := Int × (Int × (Int × (List Int × List Int)))
abbrev itT : Ty := .pair (.int .i64) (.pair (.int .i64) (.pair (.int .i64) (.pair (.arr .u8 32) .str)))

def itemB (x : It) : List Int :=
  if x.1 = 0 then num (cl x.2.1) x.2.2.1 ++ num (cl x.2.1) x.2.2.1 else if x.1 = 1 then cntB x.2.2.1 else if x.1 = 2 then x.2.2.2.1 else if x.1 = 3 then x.2.2.2.2 else []

def goodI (x : It) : Prop := name x.2.2.2.1 ∧ byteL x.2.2.2.2 ∧ -9223372036854775808 ≤ x.2.2.1 ∧ x.2.2.1 ≤ 9223372036854775807

theorem goodI_of {x : It} (h : goodT itT x) : goodI x := by
  obtain ⟨_, _, h1, h2, h3⟩ := h
  have h1' : (Lit.int .i64 x.2.2.1).wf = true := h1
  simp only [Lit.wf, Bool.and_eq_true, decide_eq_true_eq] at h1'
  exact ⟨name_of h2, h3.1, h1'.1, h1'.2⟩

theorem itemB_byteL {x : It} (h : goodI x) : byteL (itemB x) := by
  unfold itemB
  split
  · exact byteL_append (num_byteL _ _) (num_byteL _ _)
  split
  · exact cnt_byteL _
  split
  · exact h.1.2
  split
  · exact h.2.1
  · exact byteL_nil

theorem itemB_length (x : It) (h : goodI x) : (itemB x).length ≤ 32 + x.2.2.2.2.length := by
  unfold itemB
  split
  · have := (cl_eq x.2.1).2.2; simp; omega
  split
  · have := (cnt_length x.2.2.1).2; omega
  split
  · rw [h.1.1]; omega
  split
  · omega
  · simp

def itemsB (l : List It) : List Int := (l.map itemB).flatten

theorem itemsB_append (a b : List It) : itemsB (a ++ b) = itemsB a ++ itemsB b := by simp [itemsB]
theorem itemsB_cons (x : It) (l : List It) : itemsB (x :: l) = itemB x ++ itemsB l := rfl
theorem itemsB_byteL : ∀ {l : List It}, (∀ x ∈ l, goodI x) → byteL (itemsB l)
  | [], _ => byteL_nil
  | x :: r, h => byteL_append (itemB_byteL (h x (by simp))) (itemsB_byteL (fun y hy => h y (by simp [hy])))

def textSum : List It → Nat
  | [] => 0
  | x :: r => x.2.2.2.2.length + textSum r

theorem textSum_append : ∀ a b : List It, textSum (a ++ b) = textSum a + textSum b
  | [], b => by simp [textSum]
  | x :: r, b => by simp only [List.cons_append, textSum, textSum_append r b]; omega

theorem itemsB_length : ∀ {l : List It}, (∀ x ∈ l, goodI x) → (itemsB l).length ≤ 32 * l.length + textSum l
  | [], _ => by simp [itemsB]
  | x :: r, h => by
    have h1 := itemB_length x (h x (by simp))
    have h2 := itemsB_length (l := r) (fun y hy => h y (by simp [hy]))
    rw [itemsB_cons, List.length_append, List.length_cons]
    simp only [textSum]
    omega

theorem getD_it {l : List It} {i : Nat} (h : i < l.length) : l.getD i ((0 : Int), (((0 : Int), (((0 : Int), (((List.replicate 32 0 : List Int), ([] : List Int)) : (List Int × List Int))) : (Int × (List Int × List Int)))) : (Int × (Int × (List Int × List Int))))) = l[i] := by
  rw [List.getD_eq_getElem?_getD, List.getElem?_eq_getElem h]; rfl

/-! ### Too great? -/

theorem great_l0 (k : Nat) (l : List It) (hl : l.length ≤ 9223372036854775807) (hs : ∀ x ∈ l, x.2.2.2.2.length ≤ 140737488351232) : ∀ (d n i s : Nat), i + d = l.length → d < n → s ≤ 4096 →
    ∃ r, trailheadlaw05_great.l0.f k false (l.length : Int) l n (s : Int) (i : Int) = some r ∧ (r = .inr true ∨ (∃ v, r = .inl v) ∧ s + textSum (l.drop i) ≤ 4096) := by
  intro d
  induction d with
  | zero =>
    intro n i s hi hn h0
    obtain ⟨n, rfl⟩ : ∃ q, n = q + 1 := ⟨n - 1, by omega⟩
    unfold trailheadlaw05_great.l0.f trailheadlaw05_great.l0.go trailheadlaw05_great.l0.step
    have : i = l.length := by omega
    subst this
    rw [df (Int.lt_irrefl _), List.drop_length]
    exact ⟨_, rfl, .inr ⟨⟨_, rfl⟩, by simpa [textSum] using h0⟩⟩
  | succ d ih =>
    intro n i s hi hn h0
    obtain ⟨n, rfl⟩ : ∃ q, n = q + 1 := ⟨n - 1, by omega⟩
    have hlt : i < l.length := by omega
    have hx := hs _ (List.getElem_mem hlt)
    have ih' := fun s' h' => ih n (i + 1) s' (by omega) (by omega) h'
    unfold trailheadlaw05_great.l0.f at ih' ⊢
    unfold trailheadlaw05_great.l0.go trailheadlaw05_great.l0.step
    rw [dt (by omega), dt (by omega), dt (by omega)]
    simp only [cond_true, Int.toNat_natCast, getD_it hlt]
    rw [add_id (a := (s : Int)) (by omega) (by omega), add_id (a := (i : Int)) (by omega) (by omega)]
    have ed : textSum (l.drop i) = l[i].2.2.2.2.length + textSum (l.drop (i + 1)) := by rw [List.drop_eq_getElem_cons hlt]; rfl
    by_cases hg : (s : Int) + (l[i].2.2.2.2.length : Int) > 4096
    · rw [dt hg]
      exact ⟨_, rfl, .inl rfl⟩
    · rw [df hg, cond_false]
      obtain ⟨r, hr, hc⟩ := ih' (s + l[i].2.2.2.2.length) (by omega)
      have e : (i : Int) + 1 = ((i + 1 : Nat) : Int) := by omega
      have e2 : (s : Int) + (l[i].2.2.2.2.length : Int) = ((s + l[i].2.2.2.2.length : Nat) : Int) := by omega
      rw [e, e2, hr]
      refine ⟨r, rfl, ?_⟩
      rcases hc with hc | ⟨hc, hd⟩
      · exact .inl hc
      · exact .inr ⟨hc, by omega⟩

theorem great_eq (k : Nat) (l : List It) (hk : l.length < k) (hl : l.length ≤ 9223372036854775807) (hs : ∀ x ∈ l, x.2.2.2.2.length ≤ 140737488351232) :
    ∃ b, trailheadlaw05_great.f k l = some b ∧ (b = false → l.length ≤ 40 ∧ textSum l ≤ 4096) := by
  obtain ⟨r, hr, hc⟩ := great_l0 k l hl hs l.length k 0 0 (by omega) hk (by omega)
  unfold trailheadlaw05_great.f trailheadlaw05_great.tree
  rw [show ((0 : Nat) : Int) = 0 from rfl] at hr
  rw [hr]
  rcases hc with rfl | ⟨⟨v, rfl⟩, hs⟩
  · exact ⟨true, rfl, fun h => by cases h⟩
  · refine ⟨_, rfl, fun h => ⟨?_, by simpa using hs⟩⟩
    have := of_decide_eq_false h
    omega

/-! ### Putting -/

theorem put_run (k : Nat) (x2 x3 : List Int) (l : List It) (hk : 100 < k) (hl : l.length ≤ 1000) (hg : ∀ x ∈ l, goodI x) : ∀ (d n i : Nat) (w g : List Int), i + d = l.length → d < n → w.length + (itemsB (l.drop i)).length ≤ 1000000 → g.length + (itemsB (l.drop i)).length ≤ 1000000 →
    trailheadlaw05_put.l0.f k x2 x3 (l.length : Int) l n w (i : Int) g = some (w ++ itemsB (l.drop i), (l.length : Int), g ++ itemsB (l.drop i)) := by
  intro d
  induction d with
  | zero =>
    intro n i w g hi hn hw hgl
    obtain ⟨n, rfl⟩ : ∃ q, n = q + 1 := ⟨n - 1, by omega⟩
    unfold trailheadlaw05_put.l0.f trailheadlaw05_put.l0.go trailheadlaw05_put.l0.step
    have : i = l.length := by omega
    subst this
    rw [df (Int.lt_irrefl _)]
    simp [itemsB]
  | succ d ih =>
    intro n i w g hi hn hw hgl
    obtain ⟨n, rfl⟩ : ∃ q, n = q + 1 := ⟨n - 1, by omega⟩
    have hlt : i < l.length := by omega
    have hx := hg _ (List.getElem_mem hlt)
    have ed : itemsB (l.drop i) = itemB l[i] ++ itemsB (l.drop (i + 1)) := by rw [List.drop_eq_getElem_cons hlt]; rfl
    rw [ed, List.length_append] at hw hgl
    have ih' := ih n (i + 1) (w ++ itemB l[i]) (g ++ itemB l[i]) (by omega) (by omega) (by rw [List.length_append]; omega) (by rw [List.length_append]; omega)
    unfold trailheadlaw05_put.l0.f at ih' ⊢
    unfold trailheadlaw05_put.l0.go trailheadlaw05_put.l0.step
    rw [dt (by omega), dt (by omega), dt (by omega)]
    simp only [cond_true, Int.toNat_natCast, getD_it hlt]
    rw [add_id (a := (i : Int)) (by omega) (by omega)]
    have e : (i : Int) + 1 = ((i + 1 : Nat) : Int) := by omega
    rw [e, ed]
    generalize l[i] = x at hx hw hgl ih' ⊢
    have fin : w ++ itemB x ++ itemsB (l.drop (i + 1)) = w ++ (itemB x ++ itemsB (l.drop (i + 1))) := List.append_assoc ..
    have fin2 : g ++ itemB x ++ itemsB (l.drop (i + 1)) = g ++ (itemB x ++ itemsB (l.drop (i + 1))) := List.append_assoc ..
    rw [fin, fin2] at ih'
    by_cases h0 : x.1 = 0
    · have eI : itemB x = num (cl x.2.1) x.2.2.1 ++ num (cl x.2.1) x.2.2.1 := by unfold itemB; rw [if_pos h0]
      rw [beqt h0, cond_true, put_eq k _ _ _ (by omega) (by simp; omega) (by simp) (by omega)]
      simp only [Option.bind_some]
      rw [number_eq k _ _ (by omega)]
      simp only [Option.bind_some]
      rw [eI] at hw hgl ih' ⊢
      rw [List.length_append] at hw hgl
      rw [fits_ok (by omega), cond_true, fits_ok (by rw [List.length_append]; omega), cond_true]
      have e3 : nums (cl x.2.1) [x.2.2.1, x.2.2.1] = num (cl x.2.1) x.2.2.1 ++ num (cl x.2.1) x.2.2.1 := by simp [nums]
      rw [e3, List.append_assoc w]
      exact ih'
    rw [beqf h0, cond_false]
    by_cases h1 : x.1 = 1
    · have eI : itemB x = cntB x.2.2.1 := by unfold itemB; rw [if_neg h0, if_pos h1]
      rw [beqt h1, cond_true, count_eq k _ _ (by omega) (by omega)]
      simp only [Option.bind_some]
      rw [rcount_eq k _ (by omega)]
      simp only [Option.bind_some]
      rw [eI] at hw hgl ih' ⊢
      rw [fits_ok (by omega), cond_true]
      exact ih'
    rw [beqf h1, cond_false]
    by_cases h2 : x.1 = 2
    · have eI : itemB x = x.2.2.2.1 := by unfold itemB; rw [if_neg h0, if_neg h1, if_pos h2]
      rw [beqt h2, cond_true, names_eq k _ _ (by intro h hh; simp at hh; rw [hh]; exact hx.1.1) (by simp; omega) (by simp) (by omega)]
      simp only [Option.bind_some]
      rw [rname_eq k _ hx.1 (by omega)]
      simp only [Option.bind_some]
      rw [eI] at hw hgl ih' ⊢
      rw [fits_ok (by omega), cond_true]
      have e3 : [x.2.2.2.1].flatten = x.2.2.2.1 := by simp
      rw [e3]
      exact ih'
    rw [beqf h2, cond_false]
    by_cases h3 : x.1 = 3
    · have eI : itemB x = x.2.2.2.2 := by unfold itemB; rw [if_neg h0, if_neg h1, if_neg h2, if_pos h3]
      rw [eI] at hw hgl ih' ⊢
      rw [beqt h3, cond_true, raw_eq k _ _ (by omega)]
      simp only [Option.bind_some]
      rw [fits_ok (by omega), cond_true]
      exact ih'
    rw [beqf h3, cond_false]
    have eI : itemB x = [] := by unfold itemB; rw [if_neg h0, if_neg h1, if_neg h2, if_neg h3]
    rw [eI] at ih' ⊢
    rw [List.append_nil, List.append_nil] at ih'
    exact ih'

theorem putB_eq (k : Nat) (l : List It) (hk : 100 < k) (hlk : l.length < k) (hl : l.length ≤ 1000) (hg : ∀ x ∈ l, goodI x) (hs : textSum l ≤ 100000) : trailheadlaw05_put.f k l = some (itemsB l, itemsB l) := by
  have hb := itemsB_length hg
  have := put_run k [] [] l hk hl hg l.length k 0 [] [] (by omega) hlk (by simp; omega) (by simp; omega)
  rw [show ((0 : Nat) : Int) = 0 from rfl] at this
  unfold trailheadlaw05_put.f trailheadlaw05_put.tree
  rw [this]
  simp only [Option.bind_some, List.drop_zero, List.nil_append]
  rw [text_eq k _ (itemsB_byteL hg)]
  rfl

end Go.Proofs.Ytodjcmbkbijliaa.Sy
