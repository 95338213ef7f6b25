/- Messages: what is read is what was written, and nothing else. -/
import Derived.Test.YtkgpjplncfginaaGreatDoorQ124Z
namespace Go.Proofs.YtkgpjplncfginaaGreatDoor.Sy
open Go
set_option linter.unusedVariables false
set_option linter.unusedSimpArgs false

theorem sI_val {t : List Int} (n : Nat) (hb : byteL t) (h : t.length ≤ n) : sI n (val t) = true := by
  have h1 := val_nonneg t hb
  have h2 := val_lt t hb
  have h3 : (256 : Int) ^ t.length ≤ 256 ^ n := pow256_le h
  exact dt ⟨h1, by omega⟩

theorem val_num_sI {n : Nat} {x : Int} (h : sI n x = true) : val (num n x) = x := by
  have := of_decide_eq_true h
  rw [val_num]; exact Int.emod_eq_of_lt this.1 this.2

theorem num_all (t : List Int) (n : Nat) (hb : byteL t) (h : t.length = n) : num n (val t) = t := by
  subst h; exact num_val t hb

theorem itemN (s : List Int) (hl : s.length = 32) (ho : okN s = true) (hb : byteL s) : id (id s) = s ∧ name (id s) := ⟨rfl, hl, hb⟩
theorem itemT (s : List Int) (hl : s.length = 36) (ho : okT s = true) (hb : byteL s) : nB (s.drop 4) = s ∧ name (s.drop 4) := by
  refine ⟨?_, by rw [List.length_drop]; omega, byteL_drop 4 hb⟩
  have h2 := of_decide_eq_true ho
  have := num_take s 4 hb (by omega)
  rw [h2, show num 4 2 = [2, 0, 0, 0] by decide] at this
  show [2, 0, 0, 0] ++ s.drop 4 = s
  rw [this, List.take_append_drop]
theorem itemH (s : List Int) (hl : s.length = 81) (ho : okH s = true) (hb : byteL s) : hB (rd s) = s ∧ hN (rd s) ∧ hgood (rd s) = true := by
  refine ⟨?_, rd_hN s hb (by omega), rd_good s hb⟩
  have h0 := of_decide_eq_true ho
  have e80 : (s.take 80).length = 80 := by rw [List.length_take]; omega
  have e : rd s = rd (s.take 80) := by
    unfold rd
    simp only [List.drop_take, List.take_take]
    rfl
  rw [e]
  show Sy.hb (rd (s.take 80)) ++ [0] = s
  rw [hb_rd _ (byteL_take 80 hb) e80]
  have hlt : 80 < s.length := by omega
  have e2 : s.getD 80 0 = s[80] := by rw [List.getD_eq_getElem?_getD, List.getElem?_eq_getElem hlt]; rfl
  have e3 : s.drop 80 = [0] := by
    rw [List.drop_eq_getElem_cons hlt, ← e2, h0, List.drop_eq_nil_of_le (by omega)]
  rw [← e3, List.take_append_drop]

theorem cnt_sound {X : Type} (w : Nat) (ok : List Int → Bool) (f : List Int → X) (g : X → List Int) (P : X → Prop) (h : ∀ s, s.length = w → ok s = true → byteL s → g (f s) = s ∧ P (f s))
    (most : Int) (t : List Int) (r : List X × List Int) (hb : byteL t) (e : cntM w ok f most t = some r) : t = (r.1.length : Int) :: ((r.1.map g).flatten ++ r.2) ∧ (r.1.length : Int) ≤ most ∧ ∀ x ∈ r.1, P x := by
  cases t with
  | nil => cases e
  | cons b t =>
    have hb' := byteL_cons.1 hb
    unfold cntM at e
    simp only at e
    by_cases c : most < b
    · rw [if_pos c] at e; cases e
    · rw [if_neg c] at e
      obtain ⟨e1, e2, e3⟩ := many_sound w ok f g P h _ _ _ hb'.2 e
      have e4 : (r.1.length : Int) = b := by omega
      exact ⟨by rw [← e1, e4], by omega, e3⟩

theorem cnt_complete {X : Type} (w : Nat) (ok : List Int → Bool) (f : List Int → X) (g : X → List Int) (most : Int) (xs : List X) (u : List Int) (h : ∀ x ∈ xs, (g x).length = w ∧ ok (g x) = true ∧ f (g x) = x) (hl : (xs.length : Int) ≤ most) :
    cntM w ok f most ((xs.length : Int) :: ((xs.map g).flatten ++ u)) = some (xs, u) := by
  unfold cntM
  simp only
  rw [if_neg (by omega), Int.toNat_natCast]
  exact many_complete w ok f g u xs h

theorem read_sound (kd : Int) (p : List Int) (x : Msg) (hk : 1 ≤ kd ∧ kd ≤ 8) (hb : byteL p) (e : rM kd p = some x) : x.1 = kd ∧ mgood x = true ∧ mN x ∧ mpay x = p ∧ x.2.2.2.2.2.2.2.length ≤ 64 := by
  unfold rM at e
  have m0 : ∀ h ∈ ([] : List (List Int)), name h := fun h hh => by cases hh
  have H0 : ∀ h ∈ ([] : List Hdr), hN h := fun h hh => by cases hh
  by_cases h1 : kd = 1
  · rw [if_pos h1] at e
    by_cases hl : p.length = 22
    · rw [if_pos hl] at e
      cases e
      have b1 := byteL_take 4 hb
      have b2 := byteL_take 4 (byteL_drop 4 hb)
      have b3 := byteL_take 7 (byteL_drop 8 hb)
      have b4 := byteL_take 7 (byteL_drop 15 hb)
      refine ⟨rfl, ?_, ⟨m0, name_zero, H0⟩, ?_, by simp⟩
      · unfold mgood
        rw [if_pos h1, Bool.and_eq_true, Bool.and_eq_true, Bool.and_eq_true]
        exact ⟨⟨sI_val 4 b1 (by rw [List.length_take]; omega), sI_val 4 b2 (by rw [List.length_take]; omega)⟩, sI_val 7 b3 (by rw [List.length_take]; omega), sI_val 7 b4 (by rw [List.length_take]; omega)⟩
      · unfold mpay
        rw [if_pos h1]
        show num 4 (val (p.take 4)) ++ (num 4 (val ((p.drop 4).take 4)) ++ (num 7 (val ((p.drop 8).take 7)) ++ num 7 (val ((p.drop 15).take 7)))) = p
        rw [num_take p 4 hb (by omega), num_take _ 4 (byteL_drop 4 hb) (by rw [List.length_drop]; omega), num_take _ 7 (byteL_drop 8 hb) (by rw [List.length_drop]; omega), num_take _ 7 (byteL_drop 15 hb) (by rw [List.length_drop]; omega)]
        have e (a b : Nat) : (p.drop a).take b ++ p.drop (a + b) = p.drop a := by rw [← List.drop_drop]; exact List.take_append_drop b (p.drop a)
        have e5 : (p.drop 15).take 7 = p.drop 15 := List.take_of_length_le (by rw [List.length_drop]; omega)
        rw [e5, e 8 7, e 4 4]
        exact List.take_append_drop 4 p
    · rw [if_neg hl] at e; cases e
  rw [if_neg h1] at e
  by_cases h3 : kd = 3
  · rw [if_pos h3] at e
    by_cases hl : p.length < 4
    · rw [if_pos hl] at e; cases e
    rw [if_neg hl] at e
    cases hc : cntM 32 okN id 32 (p.drop 4) with
    | none => rw [hc] at e; cases e
    | some r =>
      rw [hc] at e
      simp only at e
      by_cases hr : r.2.length = 32
      · rw [if_pos hr] at e
        cases e
        obtain ⟨e1, e2, e3⟩ := cnt_sound 32 okN id id name itemN 32 _ _ (byteL_drop 4 hb) hc
        have b1 := byteL_take 4 hb
        have br : byteL r.2 := by
          have := byteL_drop 4 hb
          rw [e1] at this
          exact fun y hy => this y (List.mem_cons_of_mem _ (List.mem_append_right _ hy))
        refine ⟨rfl, ?_, ⟨e3, ⟨hr, br⟩, H0⟩, ?_, by simp⟩
        · unfold mgood
          rw [if_neg h1, if_pos h3, Bool.and_eq_true]
          exact ⟨sI_val 4 b1 (by rw [List.length_take]; omega), dt (by show r.1.length ≤ 32; omega)⟩
        · unfold mpay
          rw [if_neg h1, if_pos h3]
          show num 4 (val (p.take 4)) ++ ((r.1.length : Int) :: (r.1.flatten ++ r.2)) = p
          rw [List.map_id] at e1
          rw [num_take p 4 hb (by omega), ← e1, List.take_append_drop]
      · rw [if_neg hr] at e; cases e
  rw [if_neg h3] at e
  by_cases h4 : kd = 4
  · rw [if_pos h4] at e
    cases hc : cntM 81 okH rd 64 p with
    | none => rw [hc] at e; cases e
    | some r =>
      rw [hc] at e
      simp only at e
      by_cases hr : r.2 = []
      · rw [if_pos hr] at e
        cases e
        obtain ⟨e1, e2, e3⟩ := cnt_sound 81 okH rd hB (fun h => hN h ∧ hgood h = true) itemH 64 _ _ hb hc
        refine ⟨rfl, ?_, ⟨m0, name_zero, fun h hh => (e3 h hh).1⟩, ?_, by show r.1.length ≤ 64; omega⟩
        · unfold mgood
          rw [if_neg h1, if_neg h3, if_pos h4, Bool.and_eq_true]
          exact ⟨dt (by show r.1.length ≤ 64; omega), List.all_eq_true.2 (fun h hh => (e3 h hh).2)⟩
        · unfold mpay
          rw [if_neg h1, if_neg h3, if_pos h4]
          rw [hr, List.append_nil] at e1
          exact e1.symm
      · rw [if_neg hr] at e; cases e
  rw [if_neg h4] at e
  by_cases h5 : kd = 5
  · rw [if_pos h5] at e
    cases hc : cntM 36 okT (List.drop 4) 32 p with
    | none => rw [hc] at e; cases e
    | some r =>
      rw [hc] at e
      simp only at e
      by_cases hr : r.2 = []
      · rw [if_pos hr] at e
        cases e
        obtain ⟨e1, e2, e3⟩ := cnt_sound 36 okT (List.drop 4) nB name itemT 32 _ _ hb hc
        refine ⟨rfl, ?_, ⟨e3, name_zero, H0⟩, ?_, by simp⟩
        · unfold mgood
          rw [if_neg h1, if_neg h3, if_neg h4, if_pos h5]
          exact dt (by show r.1.length ≤ 32; omega)
        · unfold mpay
          rw [if_neg h1, if_neg h3, if_neg h4, if_pos h5]
          rw [hr, List.append_nil] at e1
          exact e1.symm
      · rw [if_neg hr] at e; cases e
  rw [if_neg h5] at e
  by_cases h6 : kd = 6 ∨ kd = 7
  · rw [if_pos h6] at e
    by_cases hl : p.length = 7
    · rw [if_pos hl] at e
      cases e
      refine ⟨rfl, ?_, ⟨m0, name_zero, H0⟩, ?_, by simp⟩
      · unfold mgood
        rw [if_neg h1, if_neg h3, if_neg h4, if_neg h5, if_pos h6]
        exact sI_val 7 hb (by omega)
      · unfold mpay
        rw [if_neg h1, if_neg h3, if_neg h4, if_neg h5, if_pos h6]
        exact num_all p 7 hb hl
    · rw [if_neg hl] at e; cases e
  rw [if_neg h6] at e
  by_cases hp : p = []
  · rw [if_pos hp] at e
    cases e
    refine ⟨rfl, ?_, ⟨m0, name_zero, H0⟩, ?_, by simp⟩
    · unfold mgood
      rw [if_neg h1, if_neg h3, if_neg h4, if_neg h5, if_neg h6]
      exact dt (by show kd = 2 ∨ kd = 8; omega)
    · unfold mpay
      rw [if_neg h1, if_neg h3, if_neg h4, if_neg h5, if_neg h6, hp]
  · rw [if_neg hp] at e; cases e

theorem read_complete (m : Msg) (hg : mgood m = true) (hn : mN m) : rM m.1 (mpay m) = some (bare m) := by
  have hg' := hg
  unfold rM mpay bare
  unfold mgood at hg'
  by_cases h1 : m.1 = 1
  · rw [if_pos h1, Bool.and_eq_true, Bool.and_eq_true, Bool.and_eq_true] at hg'
    obtain ⟨⟨a1, a2⟩, a3, a4⟩ := hg'
    rw [if_pos h1, if_pos h1, if_pos h1, if_pos (by simp)]
    have d8 (y z w : List Int) (hy : y.length = 4) (hz : z.length = 4) : (y ++ (z ++ w)).drop 8 = w := by rw [show 8 = 4 + 4 from rfl, ← List.drop_drop, drop_app hy, drop_app hz]
    have d15 (y z w v : List Int) (hy : y.length = 4) (hz : z.length = 4) (hw : w.length = 7) : (y ++ (z ++ (w ++ v))).drop 15 = v := by rw [show 15 = 8 + 7 from rfl, ← List.drop_drop, d8 y z _ hy hz, drop_app hw]
    rw [d15 _ _ _ _ (by simp) (by simp) (by simp), d8 _ _ _ (by simp) (by simp), take_app (by simp), drop_app (by simp), take_app (by simp), take_app (by simp), List.take_of_length_le (by simp), val_num_sI a1, val_num_sI a2, val_num_sI a3, val_num_sI a4]
  rw [if_neg h1] at hg'
  rw [if_neg h1, if_neg h1, if_neg h1]
  by_cases h3 : m.1 = 3
  · rw [if_pos h3, Bool.and_eq_true] at hg'
    have hl := of_decide_eq_true hg'.2
    rw [if_pos h3, if_pos h3, if_pos h3, if_neg (by simp), drop_app (by simp), take_app (by simp)]
    have := cnt_complete 32 okN id id 32 m.2.2.2.2.2.1 m.2.2.2.2.2.2.1 (fun x hx => ⟨(hn.1 x hx).1, rfl, rfl⟩) (by omega)
    rw [List.map_id] at this
    rw [this]
    simp only
    rw [if_pos hn.2.1.1, val_num_sI hg'.1]
  rw [if_neg h3] at hg'
  rw [if_neg h3, if_neg h3, if_neg h3]
  by_cases h4 : m.1 = 4
  · obtain ⟨hl, hh⟩ := good_headers hg h4
    rw [if_pos h4, if_pos h4, if_pos h4]
    have := cnt_complete 81 okH rd hB 64 m.2.2.2.2.2.2.2 [] (fun x hx => ⟨hB_length (hn.2.2 x hx), ?_, rd_hb x [0] (hn.2.2 x hx) (hh x hx)⟩) (by omega)
    · rw [List.append_nil] at this
      rw [this]
      rfl
    · refine dt ?_
      show (Sy.hb x ++ [0]).getD 80 0 = 0
      have := hb_length (hn.2.2 x hx)
      rw [List.getD_eq_getElem?_getD, List.getElem?_append_right (by omega), this]
      rfl
  rw [if_neg h4, if_neg h4, if_neg h4]
  by_cases h5 : m.1 = 5
  · have hl := good_names hg (.inr h5)
    rw [if_pos h5, if_pos h5, if_pos h5]
    have := cnt_complete 36 okT (List.drop 4) nB 32 m.2.2.2.2.2.1 [] (fun x hx => ⟨by simp [(hn.1 x hx).1], rfl, rfl⟩) (by omega)
    rw [List.append_nil] at this
    rw [this]
    rfl
  rw [if_neg h4, if_neg h5] at hg'
  rw [if_neg h5, if_neg h5, if_neg h5]
  by_cases h6 : m.1 = 6 ∨ m.1 = 7
  · rw [if_pos h6] at hg'
    rw [if_pos h6, if_pos h6, if_pos h6, if_pos (by simp), val_num_sI hg']
  · rw [if_neg h6, if_neg h6, if_neg h6, if_pos rfl]

theorem bare_iff {a b : Msg} (ga : mgood a = true) (na : mN a) (gb : mgood b = true) (nb : mN b) (h : a.1 = b.1) : bare a = bare b ↔ mpay a = mpay b := by
  have pb : ∀ m : Msg, mpay (bare m) = mpay m := by
    intro m
    unfold bare
    by_cases h1 : m.1 = 1
    · rw [if_pos h1]; unfold mpay; rw [if_pos h1, if_pos h1]
    by_cases h3 : m.1 = 3
    · rw [if_neg h1, if_pos h3]; unfold mpay; rw [if_neg h1, if_pos h3, if_neg h1, if_pos h3]
    by_cases h4 : m.1 = 4
    · rw [if_neg h1, if_neg h3, if_pos h4]; unfold mpay; rw [if_neg h1, if_neg h3, if_pos h4, if_neg h1, if_neg h3, if_pos h4]
    by_cases h5 : m.1 = 5
    · rw [if_neg h1, if_neg h3, if_neg h4, if_pos h5]; unfold mpay; rw [if_neg h1, if_neg h3, if_neg h4, if_pos h5, if_neg h1, if_neg h3, if_neg h4, if_pos h5]
    by_cases h6 : m.1 = 6 ∨ m.1 = 7
    · rw [if_neg h1, if_neg h3, if_neg h4, if_neg h5, if_pos h6]; unfold mpay; simp only [if_neg h1, if_neg h3, if_neg h4, if_neg h5, if_pos h6]
    · rw [if_neg h1, if_neg h3, if_neg h4, if_neg h5, if_neg h6]; unfold mpay; simp only [if_neg h1, if_neg h3, if_neg h4, if_neg h5, if_neg h6]
  constructor
  · intro e
    rw [← pb a, e, pb b]
  · intro e
    have h1 := read_complete a ga na
    have h2 := read_complete b gb nb
    rw [h, e, h2] at h1
    exact (Option.some.inj h1).symm

theorem bare_kind (m : Msg) : (bare m).1 = m.1 := by
  unfold bare
  repeat' split
  all_goals rfl

/-- No payload is the beginning of another one. -/
theorem pay_prefix {a b : Msg} (ga : mgood a = true) (na : mN a) (gb : mgood b = true) (nb : mN b) (h : a.1 = b.1) (s : List Int) (e : mpay a = mpay b ++ s) : s = [] := by
  have la := pay_length na
  have lb := pay_length nb
  have hgd : ∀ (i : Nat) (p : List Int), i < p.length → (p ++ s).getD i 0 = p.getD i 0 := by
    intro i p hi
    rw [List.getD_eq_getElem?_getD, List.getElem?_append_left hi, ← List.getD_eq_getElem?_getD]
  have key : mlen b.1 (mpay b ++ s) = mlen b.1 (mpay b) := by
    rw [h] at la
    unfold mlen at lb la ⊢
    by_cases h1 : b.1 = 1
    · rw [if_pos h1, if_pos h1]
    by_cases h3 : b.1 = 3
    · rw [if_neg h1, if_pos h3] at lb ⊢
      rw [if_neg h1, if_pos h3, hgd 4 _ (by omega)]
    by_cases h4 : b.1 = 4
    · rw [if_neg h1, if_neg h3, if_pos h4] at lb ⊢
      rw [if_neg h1, if_neg h3, if_pos h4, hgd 0 _ (by omega)]
    by_cases h5 : b.1 = 5
    · rw [if_neg h1, if_neg h3, if_neg h4, if_pos h5] at lb ⊢
      rw [if_neg h1, if_neg h3, if_neg h4, if_pos h5, hgd 0 _ (by omega)]
    · rw [if_neg h1, if_neg h3, if_neg h4, if_neg h5, if_neg h1, if_neg h3, if_neg h4, if_neg h5]
  rw [e, h, key, ← lb, List.length_append] at la
  exact List.eq_nil_of_length_eq_zero (by omega)

end Go.Proofs.YtkgpjplncfginaaGreatDoor.Sy
