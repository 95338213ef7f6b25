/- ScrollPuts: the statement on data. -/
import Derived.Test.YtodjcmbkbijliaaQ44
import Derived.Test.YtodjcmbkbijliaaRScrollPuts
namespace Go.Proofs.Ytodjcmbkbijliaa.Sy
open Go
set_option linter.unusedVariables false
set_option linter.unusedSimpArgs false

theorem bnef {a b : Int} (h : a = b) : (a != b) = false := by simp [h]

theorem puts_run (k : Nat) (l : List It) (hk : 100 < k) (hl : l.length ≤ 1000) (hg : ∀ x ∈ l, goodI x) : ∀ (d n i : Nat), i + d = l.length → d < n →
    ∃ r, trailheadlaw05_ScrollPuts.l0.f k false (l.length : Int) l n (i : Int) (itemsB (l.drop i), false) = some r ∧ (r = .inl ((l.length : Int), ([], false)) ∨ r = .inr true) := by
  intro d
  induction d with
  | zero =>
    intro n i hi hn
    obtain ⟨n, rfl⟩ : ∃ q, n = q + 1 := ⟨n - 1, by omega⟩
    unfold trailheadlaw05_ScrollPuts.l0.f trailheadlaw05_ScrollPuts.l0.go trailheadlaw05_ScrollPuts.l0.step
    have : i = l.length := by omega
    subst this
    rw [df (Int.lt_irrefl _), List.drop_length]
    exact ⟨_, rfl, .inl rfl⟩
  | succ d ih =>
    intro n i hi hn
    obtain ⟨n, rfl⟩ : ∃ q, n = q + 1 := ⟨n - 1, by omega⟩
    have hlt : i < l.length := by omega
    have hx := hg _ (List.getElem_mem hlt)
    have hr : ∀ y ∈ l.drop (i + 1), goodI y := fun y hy => hg y (List.mem_of_mem_drop hy)
    have hrb := itemsB_byteL hr
    have ed : itemsB (l.drop i) = itemB l[i] ++ itemsB (l.drop (i + 1)) := by rw [List.drop_eq_getElem_cons hlt]; rfl
    have ih' := ih n (i + 1) (by omega) (by omega)
    unfold trailheadlaw05_ScrollPuts.l0.f at ih' ⊢
    unfold trailheadlaw05_ScrollPuts.l0.go trailheadlaw05_ScrollPuts.l0.step
    rw [dt (by omega), dt (by omega), dt (by omega)]
    simp only [cond_true, Int.toNat_natCast, getD_it hlt]
    rw [add_id (a := (i : Int)) (by omega) (by omega)]
    have e : (i : Int) + 1 = ((i + 1 : Nat) : Int) := by omega
    rw [e, ed]
    generalize l[i] = x at hx ⊢
    generalize itemsB (l.drop (i + 1)) = t at hrb ih' ⊢
    have hxb := itemB_byteL hx
    by_cases h0 : x.1 = 0
    · rw [beqt h0, cond_true]
      by_cases s1 : x.2.1 < 1
      · rw [dt s1]; exact ⟨_, rfl, .inr rfl⟩
      by_cases s7 : x.2.1 > 7
      · rw [df s1, dt s7]; exact ⟨_, rfl, .inr rfl⟩
      rw [df s1, df s7, cond_false, cond_false, number_eq k _ _ (by omega)]
      simp only [Option.bind_some]
      have ec : cl x.2.1 = cl7 x.2.1 := by rw [cl_of (by omega) (by omega), cl7_of (by omega) (by omega)]
      obtain ⟨_, c1, c7⟩ := cl7_eq x.2.1
      have eI : itemB x = num (cl7 x.2.1) x.2.2.1 ++ num (cl7 x.2.1) x.2.2.1 := by unfold itemB; rw [if_pos h0, ec]
      rw [rback_eq k _ (by simp; omega) (num_byteL _ _) (by omega), ec, val_num]
      simp only [Option.bind_some]
      have hp : (256 : Int) ^ cl7 x.2.1 ≤ 256 ^ 7 := pow256_le c7
      have hp0 : (0 : Int) < 256 ^ cl7 x.2.1 := Int.pow_pos (by omega)
      have m0 := Int.emod_nonneg x.2.2.1 (Int.ne_of_gt hp0)
      have m1 := Int.emod_lt_of_pos x.2.2.1 hp0
      rw [eI, List.append_assoc]
      have T (u : List Int) : (num (cl7 x.2.1) x.2.2.1 ++ u).take (cl7 x.2.1) = num (cl7 x.2.1) x.2.2.1 := by
        rw [List.take_append_of_le_length (by simp), List.take_of_length_le (by simp)]
      have D (u : List Int) : (num (cl7 x.2.1) x.2.2.1 ++ u).drop (cl7 x.2.1) = u := by
        rw [List.drop_append_of_le_length (by simp), List.drop_of_length_le (by simp)]; simp
      rw [eget_take k _ _ (by omega) (byteL_append (num_byteL _ _) (byteL_append (num_byteL _ _) hrb)) (by simp), T, D, val_num]
      simp only [Option.bind_some]
      rw [i64_id (by omega) (by omega), bnef rfl, cond_false]
      rw [eget_take k _ _ (by omega) (byteL_append (num_byteL _ _) hrb) (by simp), T, D, val_num]
      simp only [Option.bind_some]
      rw [bnef rfl, cond_false]
      exact ih'
    rw [beqf h0, cond_false]
    by_cases h1 : x.1 = 1
    · have eI : itemB x = cntB x.2.2.1 := by unfold itemB; rw [if_neg h0, if_pos h1]
      have hc := counted_cnt x.2.2.1 9223372036854775807 t (by have := hx.2.2.2; omega)
      rw [if_neg (by have := hx.2.2.2; omega)] at hc
      rw [beqt h1, cond_true, eI, ecount_eq k _ _ (by omega) (byteL_append (cnt_byteL _) hrb), hc]
      simp only [Option.bind_some, eyeOf]
      rw [mxI_max, bnef rfl, cond_false]
      have D : (cntB x.2.2.1 ++ t).drop (cntB x.2.2.1).length = t := by simp
      rw [D]
      exact ih'
    rw [beqf h1, cond_false]
    by_cases h2 : x.1 = 2
    · have eI : itemB x = x.2.2.2.1 := by unfold itemB; rw [if_neg h0, if_neg h1, if_pos h2]
      have h32 := hx.1.1
      rw [beqt h2, cond_true, eI, ename_take k _ (by rw [List.length_append]; omega)]
      have T : (x.2.2.2.1 ++ t).take 32 = x.2.2.2.1 := by rw [List.take_append_of_le_length (by omega), List.take_of_length_le (by omega)]
      have D : (x.2.2.2.1 ++ t).drop 32 = t := by rw [List.drop_append_of_le_length (by omega), List.drop_of_length_le (by omega)]; simp
      simp only [Option.bind_some]
      rw [T, D, dt rfl]
      exact ih'
    rw [beqf h2, cond_false]
    by_cases h3 : x.1 = 3
    · have eI : itemB x = x.2.2.2.2 := by unfold itemB; rw [if_neg h0, if_neg h1, if_neg h2, if_pos h3]
      rw [beqt h3, cond_true, eI, eraw_take k _ _ (by simp)]
      simp only [Option.bind_some]
      have T : (x.2.2.2.2 ++ t).take x.2.2.2.2.length = x.2.2.2.2 := by simp
      have D : (x.2.2.2.2 ++ t).drop x.2.2.2.2.length = t := by simp
      rw [T, D, dt rfl]
      exact ih'
    rw [beqf h3, cond_false]
    have eI : itemB x = [] := by unfold itemB; rw [if_neg h0, if_neg h1, if_neg h2, if_neg h3]
    rw [eI]
    exact ih'

theorem scrollPuts_pure : ScrollPutsPure := by
  intro a ga la
  refine ⟨a.length + 200, ?_⟩
  have hk : a.length + 100 < a.length + 200 := by omega
  generalize a.length + 200 = k at hk
  have ml : maxLen = 9223372036854775807 := rfl
  have rb : reachBytes = 140737488351232 := rfl
  have Ga : ∀ x ∈ a, goodI x := fun x hx => goodI_of (ga x hx)
  have Ta : ∀ x ∈ a, x.2.2.2.2.length ≤ 140737488351232 := fun x hx => by
    have := (ga x hx).2.2.2.2.2
    omega
  unfold trailheadlaw05_ScrollPuts.f trailheadlaw05_ScrollPuts.tree
  rw [alive05 k (by omega)]
  simp only [Option.bind_some, Bool.not_true, cond_false]
  obtain ⟨c, hc, c1⟩ := great_eq k a (by omega) (by omega) Ta
  rw [hc]
  simp only [Option.bind_some]
  cases c
  · obtain ⟨c2, c3⟩ := c1 rfl
    rw [cond_false, putB_eq k a (by omega) (by omega) (by omega) Ga (by omega)]
    simp only [Option.bind_some, decide_true, Bool.not_true, cond_false]
    have e1 : scroll_On.f k (itemsB a) = some (itemsB a, false) := rfl
    rw [e1]
    simp only [Option.bind_some]
    obtain ⟨r, hr, hh⟩ := puts_run k a (by omega) (by omega) Ga a.length k 0 (by omega) (by omega)
    rw [show ((0 : Nat) : Int) = 0 from rfl, List.drop_zero] at hr
    rw [hr]
    rcases hh with rfl | rfl <;> rfl
  · rfl

theorem scrollPuts_said : Rows.ScrollPutsSaid := scrollPuts_row scrollPuts_pure

end Go.Proofs.Ytodjcmbkbijliaa.Sy
