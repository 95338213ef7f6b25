/- Envelopes, one behind the other. -/
import Derived.Test.YtkcdbbflelgbeaaDoorQ102
namespace Go.Proofs.YtkcdbbflelgbeaaDoor.Sy
open Go
set_option linter.unusedVariables false
set_option linter.unusedSimpArgs false

theorem nn7 {P : Prop} (h : P) : ¬¬P := fun c => c h

theorem tk_ok {s : List Int} (hb : byteL s) (h : (tk s).2.2 = 0) : 24 ≤ (tk s).2.1 ∧ (tk s).2.1 ≤ (s.length : Int) ∧ 4 ≤ s.length ∧ s.take 4 = tail4 ∧ 24 ≤ s.length ∧ wB (tkW s) = true ∧ tkN s ≤ 16384 ∧ 24 + tkN s ≤ (s.length : Int) ∧ sum4 (tkP s) = tkS s := by
  have hv4 := val4b (byteL_drop 16 hb)
  have hn0 : 0 ≤ tkN s := hv4.1
  unfold tk at h ⊢
  by_cases c1 : 4 ≤ s.length ∧ s.take 4 ≠ tail4
  · rw [if_pos c1] at h; exact absurd h (by decide)
  rw [if_neg c1] at h ⊢
  by_cases c2 : s.length < 24
  · rw [if_pos c2] at h; exact absurd h (by decide)
  rw [if_neg c2] at h ⊢
  by_cases c3 : wB (tkW s) = false ∨ 16384 < tkN s
  · rw [if_pos c3] at h; exact absurd h (by decide)
  rw [if_neg c3] at h ⊢
  by_cases c4 : (s.length : Int) < 24 + tkN s
  · rw [if_pos c4] at h; exact absurd h (by decide)
  rw [if_neg c4] at h ⊢
  by_cases c5 : sum4 (tkP s) ≠ tkS s
  · rw [if_pos c5] at h; exact absurd h (by decide)
  rw [if_neg c5]
  refine ⟨by show 24 ≤ 24 + tkN s; omega, by show 24 + tkN s ≤ _; omega, by omega, ?_, by omega, ?_, by omega, by omega, Decidable.not_not.1 c5⟩
  · exact Decidable.not_not.1 (fun hm => c1 ⟨by omega, hm⟩)
  · cases hw : wB (tkW s)
    · exact absurd (.inl hw) c3
    · rfl

/-- What is taken from bytes is taken from them, whatever stands behind. -/
theorem tk_app {p : List Int} (hb : byteL p) (h : (tk p).2.2 = 0) (q : List Int) : tk (p ++ q) = tk p := by
  obtain ⟨_, _, h4, hm, h24, hw, hN, hL, hS⟩ := tk_ok hb h
  have hv4 := val4b (byteL_drop 16 hb)
  have hn0 : 0 ≤ tkN p := hv4.1
  have t4 : (p ++ q).take 4 = p.take 4 := List.take_append_of_le_length (by omega)
  have d4 : (p ++ q).drop 4 = p.drop 4 ++ q := List.drop_append_of_le_length (by omega)
  have d16 : (p ++ q).drop 16 = p.drop 16 ++ q := List.drop_append_of_le_length (by omega)
  have d20 : (p ++ q).drop 20 = p.drop 20 ++ q := List.drop_append_of_le_length (by omega)
  have d24 : (p ++ q).drop 24 = p.drop 24 ++ q := List.drop_append_of_le_length (by omega)
  have eW : tkW (p ++ q) = tkW p := by unfold tkW; rw [d4, List.take_append_of_le_length (by rw [List.length_drop]; omega)]
  have eN : tkN (p ++ q) = tkN p := by unfold tkN; rw [d16, List.take_append_of_le_length (by rw [List.length_drop]; omega)]
  have eP : tkP (p ++ q) = tkP p := by unfold tkP; rw [eN, d24, List.take_append_of_le_length (by rw [List.length_drop]; omega)]
  have eS : tkS (p ++ q) = tkS p := by unfold tkS; rw [d20, List.take_append_of_le_length (by rw [List.length_drop]; omega)]
  have hl : (p ++ q).length = p.length + q.length := List.length_append
  have n1 : ¬ (4 ≤ (p ++ q).length ∧ (p ++ q).take 4 ≠ tail4) := fun c => c.2 (t4.trans hm)
  have n1' : ¬ (4 ≤ p.length ∧ p.take 4 ≠ tail4) := fun c => c.2 hm
  have n2 : ¬ (p ++ q).length < 24 := by omega
  have n2' : ¬ p.length < 24 := by omega
  have c3 : ¬ (wB (tkW p) = false ∨ 16384 < tkN p) := fun c => by
    rcases c with c | c
    · rw [hw] at c; cases c
    · omega
  have n4 : ¬ ((p ++ q).length : Int) < 24 + tkN p := by omega
  have n4' : ¬ (p.length : Int) < 24 + tkN p := by omega
  have a1 : tk (p ++ q) = if sum4 (tkP p) ≠ tkS p then (none7, 0, 4) else ((tkW p, tkP p), 24 + tkN p, 0) := by
    unfold tk; rw [if_neg n1, if_neg n2, eW, eN, if_neg c3, if_neg n4, eP, eS]
  have a2 : tk p = if sum4 (tkP p) ≠ tkS p then (none7, 0, 4) else ((tkW p, tkP p), 24 + tkN p, 0) := by
    unfold tk; rw [if_neg n1', if_neg n2', if_neg c3, if_neg n4']
  rw [a1, a2]

theorem tk_bad {p : List Int} (hb : byteL p) (h : (tk p).2.2 = 4) (q : List Int) : tk (p ++ q) = (none7, 0, 4) := by
  have hv4 := val4b (byteL_drop 16 hb)
  have hn0 : 0 ≤ tkN p := hv4.1
  have hl : (p ++ q).length = p.length + q.length := List.length_append
  unfold tk at h
  by_cases c1 : 4 ≤ p.length ∧ p.take 4 ≠ tail4
  · have t4 : (p ++ q).take 4 = p.take 4 := List.take_append_of_le_length (by omega)
    unfold tk
    rw [if_pos ⟨by omega, by rw [t4]; exact c1.2⟩]
  rw [if_neg c1] at h
  by_cases c2 : p.length < 24
  · rw [if_pos c2] at h; exact absurd h (by decide)
  rw [if_neg c2] at h
  have t4 : (p ++ q).take 4 = p.take 4 := List.take_append_of_le_length (by omega)
  have d4 : (p ++ q).drop 4 = p.drop 4 ++ q := List.drop_append_of_le_length (by omega)
  have d16 : (p ++ q).drop 16 = p.drop 16 ++ q := List.drop_append_of_le_length (by omega)
  have d20 : (p ++ q).drop 20 = p.drop 20 ++ q := List.drop_append_of_le_length (by omega)
  have d24 : (p ++ q).drop 24 = p.drop 24 ++ q := List.drop_append_of_le_length (by omega)
  have eW : tkW (p ++ q) = tkW p := by unfold tkW; rw [d4, List.take_append_of_le_length (by rw [List.length_drop]; omega)]
  have eN : tkN (p ++ q) = tkN p := by unfold tkN; rw [d16, List.take_append_of_le_length (by rw [List.length_drop]; omega)]
  have eS : tkS (p ++ q) = tkS p := by unfold tkS; rw [d20, List.take_append_of_le_length (by rw [List.length_drop]; omega)]
  have n1 : ¬ (4 ≤ (p ++ q).length ∧ (p ++ q).take 4 ≠ tail4) := fun c => c1 ⟨by omega, by rw [← t4]; exact c.2⟩
  by_cases c3 : wB (tkW p) = false ∨ 16384 < tkN p
  · unfold tk
    rw [if_neg n1, if_neg (by omega), eW, eN, if_pos c3]
  rw [if_neg c3] at h
  by_cases c4 : (p.length : Int) < 24 + tkN p
  · rw [if_pos c4] at h; exact absurd h (by decide)
  rw [if_neg c4] at h
  by_cases c5 : sum4 (tkP p) ≠ tkS p
  · have eP : tkP (p ++ q) = tkP p := by unfold tkP; rw [eN, d24, List.take_append_of_le_length (by rw [List.length_drop]; omega)]
    unfold tk
    rw [if_neg n1, if_neg (by omega), eW, eN, eP, eS, if_neg c3, if_neg (by omega), if_pos c5]
  · rw [if_neg c5] at h; exact absurd (show (0 : Int) = 4 from h) (by decide)

/-- What can it be? -/
theorem tk_e (s : List Int) : (tk s).2.2 = 0 ∨ (tk s).2.2 = 4 ∨ (tk s).2.2 = 7 := by
  unfold tk
  split
  · exact .inr (.inl rfl)
  split
  · exact .inr (.inr rfl)
  split
  · exact .inr (.inl rfl)
  split
  · exact .inr (.inr rfl)
  split
  · exact .inr (.inl rfl)
  · exact .inl rfl

/-- All of them: what is left, why, and they. -/
def al : Nat → List Int → List Int × Int × List Env7
  | 0, s => (s, 0, [])
  | n + 1, s => if s = [] then (s, 0, []) else if (tk s).2.2 ≠ 0 then (s, (tk s).2.2, []) else
      ((al n (s.drop (tk s).2.1.toNat)).1, (al n (s.drop (tk s).2.1.toNat)).2.1, (tk s).1 :: (al n (s.drop (tk s).2.1.toNat)).2.2)

theorem al_succ (n : Nat) (s : List Int) : al (n + 1) s = if s = [] then (s, 0, []) else if (tk s).2.2 ≠ 0 then (s, (tk s).2.2, []) else
      ((al n (s.drop (tk s).2.1.toNat)).1, (al n (s.drop (tk s).2.1.toNat)).2.1, (tk s).1 :: (al n (s.drop (tk s).2.1.toNat)).2.2) := rfl

theorem drop_lt {s : List Int} (hb : byteL s) (h : (tk s).2.2 = 0) : (s.drop (tk s).2.1.toNat).length + 24 ≤ s.length := by
  obtain ⟨h1, h2, _⟩ := tk_ok hb h
  rw [List.length_drop]; omega

theorem al_more : ∀ (n m : Nat) (s : List Int), byteL s → s.length < n → s.length < m → al n s = al m s := by
  intro n
  induction n with
  | zero => intro m s _ h; omega
  | succ n ih =>
    intro m s hb h hm
    obtain ⟨m, rfl⟩ : ∃ q, m = q + 1 := ⟨m - 1, by omega⟩
    unfold al
    by_cases h0 : s = []
    · rw [if_pos h0, if_pos h0]
    rw [if_neg h0, if_neg h0]
    by_cases he : (tk s).2.2 ≠ 0
    · rw [if_pos he, if_pos he]
    rw [if_neg he, if_neg he]
    have hd := drop_lt hb (Decidable.not_not.1 he)
    rw [ih m _ (byteL_drop _ hb) (by omega) (by omega)]

theorem all_l0 (k : Nat) (hk : 20000 < k) : ∀ (n : Nat) (s : List Int) (out : List Env7), byteL s → s.length < n → s.length ≤ 100000 → out.length + s.length ≤ 200000 →
    envelope_All.l0.f k H8 K64 n s out = some (if (al n s).2.1 = 0 then .inl ((al n s).1, out ++ (al n s).2.2) else .inr ((al n s).1, (al n s).2.1, out ++ (al n s).2.2)) := by
  intro n
  induction n with
  | zero => intro s out _ h; omega
  | succ n ih =>
    intro s out hb h hl ho
    unfold envelope_All.l0.f at ih ⊢
    unfold envelope_All.l0.go envelope_All.l0.step al
    by_cases h0 : s = []
    · subst h0
      rw [dt rfl, if_pos rfl]
      simp
    rw [df h0, Bool.not_false, cond_true, if_neg h0, take_eq7 k s hb (by omega) hk, Option.bind_some]
    by_cases he : (tk s).2.2 = 0
    · have b0 : ((tk s).2.2 != (0 : Int)) = false := by rw [he]; rfl
      have hd := drop_lt hb he
      obtain ⟨h1, h2, _⟩ := tk_ok hb he
      rw [b0, cond_false, if_neg (nn7 he), fits_ok (by omega), cond_true, dt (by omega), cond_true, dt h2, cond_true]
      rw [ih _ _ (byteL_drop _ hb) (by omega) (by omega) (by rw [List.length_append, List.length_singleton]; omega)]
      simp only [List.append_assoc, List.singleton_append]
    · have b0 : ((tk s).2.2 != (0 : Int)) = true := by rw [bne_iff_ne]; exact he
      rw [b0, cond_true, if_pos he, if_neg he]
      simp

theorem all_eq (k : Nat) (hk : 200000 < k) (s : List Int) (hb : byteL s) (hl : s.length ≤ 100000) : envelope_All.f k s H8 K64 = some (al k s) := by
  unfold envelope_All.f envelope_All.tree
  rw [all_l0 k (by omega) k s [] hb (by omega) hl (by simp; omega), Option.bind_some]
  by_cases h : (al k s).2.1 = 0
  · rw [if_pos h]
    simp only [Sy.sel, List.nil_append]
    exact congrArg some (Prod.ext rfl (Prod.ext h.symm rfl))
  · rw [if_neg h]
    simp only [Sy.sel, List.nil_append]

theorem al_rest : ∀ (n : Nat) (s : List Int), byteL s → (al n s).1.length ≤ s.length ∧ byteL (al n s).1 := by
  intro n
  induction n with
  | zero => intro s hb; exact ⟨Nat.le_refl _, hb⟩
  | succ n ih =>
    intro s hb
    unfold al
    split
    · exact ⟨Nat.le_refl _, hb⟩
    split
    · exact ⟨Nat.le_refl _, hb⟩
    · have := ih (s.drop (tk s).2.1.toNat) (byteL_drop _ hb)
      exact ⟨Nat.le_trans this.1 (by rw [List.length_drop]; omega), this.2⟩

theorem al_len : ∀ (n : Nat) (s : List Int), byteL s → (al n s).2.2.length ≤ s.length := by
  intro n
  induction n with
  | zero => intro s _; exact Nat.zero_le _
  | succ n ih =>
    intro s hb
    unfold al
    split
    · exact Nat.zero_le _
    split
    · exact Nat.zero_le _
    · rename_i he
      have := ih (s.drop (tk s).2.1.toNat) (byteL_drop _ hb)
      have hd := drop_lt hb (Decidable.not_not.1 he)
      show (al n (s.drop (tk s).2.1.toNat)).2.2.length + 1 ≤ _
      omega

/-- However bytes are cut. -/
theorem al_cut (q : List Int) (hq : byteL q) : ∀ (n : Nat) (p : List Int), byteL p → p.length < n → ∀ m, p.length + q.length < m →
    al m (p ++ q) = if (al n p).2.1 = 4 then ((al n p).1 ++ q, 4, (al n p).2.2) else ((al m ((al n p).1 ++ q)).1, (al m ((al n p).1 ++ q)).2.1, (al n p).2.2 ++ (al m ((al n p).1 ++ q)).2.2) := by
  intro n
  induction n with
  | zero => intro p _ h; omega
  | succ n ih =>
    intro p hb h m hm
    by_cases h0 : p = []
    · have e : al (n + 1) p = (p, 0, []) := by rw [al_succ, if_pos h0]
      rw [e, if_neg (show ¬ (0 : Int) = 4 by decide), h0]
      rfl
    by_cases he : (tk p).2.2 = 0
    · have hd := drop_lt hb he
      have e : al (n + 1) p = ((al n (p.drop (tk p).2.1.toNat)).1, (al n (p.drop (tk p).2.1.toNat)).2.1, (tk p).1 :: (al n (p.drop (tk p).2.1.toNat)).2.2) := by
        rw [al_succ, if_neg h0, if_neg (nn7 he)]
      obtain ⟨m, rfl⟩ : ∃ q, m = q + 1 := ⟨m - 1, by omega⟩
      obtain ⟨h1, h2, _⟩ := tk_ok hb he
      have ed : (p ++ q).drop (tk p).2.1.toNat = p.drop (tk p).2.1.toNat ++ q := List.drop_append_of_le_length (by omega)
      have ea : al (m + 1) (p ++ q) = ((al m (p.drop (tk p).2.1.toNat ++ q)).1, (al m (p.drop (tk p).2.1.toNat ++ q)).2.1, (tk p).1 :: (al m (p.drop (tk p).2.1.toNat ++ q)).2.2) := by
        have hne : p ++ q ≠ [] := fun c => h0 (List.append_eq_nil_iff.1 c).1
        have ht := tk_app hb he q
        rw [al_succ, if_neg hne, ht, if_neg (nn7 he), ed]
      have := ih (p.drop (tk p).2.1.toNat) (byteL_drop _ hb) (by omega) m (by omega)
      rw [ea, e, this]
      have hr := al_rest n (p.drop (tk p).2.1.toNat) (byteL_drop _ hb)
      by_cases h4 : (al n (p.drop (tk p).2.1.toNat)).2.1 = 4
      · rw [if_pos h4, if_pos h4]
      · rw [if_neg h4, if_neg h4]
        have em := al_more m (m + 1) ((al n (p.drop (tk p).2.1.toNat)).1 ++ q) (byteL_app7 hr.2 hq) (by rw [List.length_append]; omega) (by rw [List.length_append]; omega)
        rw [em]
        rfl
    · have e : al (n + 1) p = (p, (tk p).2.2, []) := by rw [al_succ, if_neg h0, if_pos he]
      rw [e]
      by_cases h4 : (tk p).2.2 = 4
      · have hne : p ++ q ≠ [] := fun c => h0 (List.append_eq_nil_iff.1 c).1
        obtain ⟨m, rfl⟩ : ∃ q, m = q + 1 := ⟨m - 1, by omega⟩
        have ht := tk_bad hb h4 q
        rw [if_pos h4]
        rw [al_succ, if_neg hne, ht, if_pos (show ¬ (4 : Int) = 0 by decide)]
      · rw [if_neg h4]
        rfl

end Go.Proofs.YtkcdbbflelgbeaaDoor.Sy
