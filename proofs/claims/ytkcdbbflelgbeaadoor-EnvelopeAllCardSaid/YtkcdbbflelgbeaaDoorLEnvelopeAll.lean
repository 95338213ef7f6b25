/- EnvelopeAll: the statement on data, and the card. -/
import Derived.Test.YtkcdbbflelgbeaaDoorQ103
import Derived.Test.YtkcdbbflelgbeaaDoorREnvelopeAll
namespace Go.Proofs.YtkcdbbflelgbeaaDoor.Sy
open Go
set_option linter.unusedVariables false
set_option linter.unusedSimpArgs false

theorem all_law_l0 (k : Nat) (hk : 200000 < k) (x4 : List Int) (x5 : Int) (L : List Env7) (hL : L.length ≤ 100000) : ∀ (n : Nat) (s : List Int) (pre : List Env7) (N : Nat), byteL s → s.length < N → s.length ≤ 100000 → L = pre ++ (al N s).2.2 → (al N s).2.2.length < n →
    trailheadlaw07_EnvelopeAll.l0.f k x4 x5 (L.length : Int) H8 K64 L n s (pre.length : Int) = some (.inl ((al N s).1, (L.length : Int))) := by
  intro n
  induction n with
  | zero => intro s pre N _ _ _ _ h; omega
  | succ n ih =>
    intro s pre N hb hN hl hp hn
    obtain ⟨N, rfl⟩ : ∃ q, N = q + 1 := ⟨N - 1, by omega⟩
    have stop : al (N + 1) s = (s, (al (N + 1) s).2.1, []) → trailheadlaw07_EnvelopeAll.l0.f k x4 x5 (L.length : Int) H8 K64 L (n + 1) s (pre.length : Int) = some (.inl ((al (N + 1) s).1, (L.length : Int))) := by
      intro e
      rw [e] at hp ⊢
      simp only [List.append_nil] at hp
      rw [hp]
      unfold trailheadlaw07_EnvelopeAll.l0.f trailheadlaw07_EnvelopeAll.l0.go trailheadlaw07_EnvelopeAll.l0.step
      rw [df (Int.lt_irrefl _)]
      rfl
    by_cases h0 : s = []
    · exact stop (by rw [al_succ, if_pos h0])
    by_cases he : (tk s).2.2 = 0
    · have e : al (N + 1) s = ((al N (s.drop (tk s).2.1.toNat)).1, (al N (s.drop (tk s).2.1.toNat)).2.1, (tk s).1 :: (al N (s.drop (tk s).2.1.toNat)).2.2) := by
        rw [al_succ, if_neg h0, if_neg (nn7 he)]
      have hd := drop_lt hb he
      obtain ⟨h1, h2, _⟩ := tk_ok hb he
      rw [e] at hp hn ⊢
      have hn' : (al N (s.drop (tk s).2.1.toNat)).2.2.length < n := by
        have : (al N (s.drop (tk s).2.1.toNat)).2.2.length + 1 < n + 1 := hn
        omega
      have hp' : L = (pre ++ [(tk s).1]) ++ (al N (s.drop (tk s).2.1.toNat)).2.2 := by rw [List.append_assoc]; exact hp
      have ih' := ih (s.drop (tk s).2.1.toNat) (pre ++ [(tk s).1]) N (byteL_drop _ hb) (by omega) (by omega) hp' hn'
      have hpl : pre.length < L.length := by rw [hp', List.length_append, List.length_append, List.length_singleton]; omega
      have hgd : L.getD pre.length dfl_88e6f2 = (tk s).1 := by
        rw [hp', List.append_assoc, List.getD_eq_getElem?_getD, List.getElem?_append_right (Nat.le_refl _), Nat.sub_self]; rfl
      have e1 : addI .i64 (pre.length : Int) 1 = ((pre ++ [(tk s).1]).length : Int) := by
        rw [List.length_append, List.length_singleton]; exact (add_id (by omega) (by omega)).trans (by omega)
      unfold trailheadlaw07_EnvelopeAll.l0.f at ih' ⊢
      unfold trailheadlaw07_EnvelopeAll.l0.go trailheadlaw07_EnvelopeAll.l0.step
      simp only [e1, Int.toNat_natCast, hgd]
      repeat rw [dt (by omega), cond_true]
      rw [rtake_eq7 k s hb hl hk, Option.bind_some]
      have b0 : ((tk s).2.2 != (0 : Int)) = false := by rw [he]; rfl
      have d1 : decide ((tk s).1.1 = (tk s).1.1) = true := dt rfl
      have d2 : decide ((tk s).1.2 = (tk s).1.2) = true := dt rfl
      have d3 : decide ((0 : Int) ≤ (tk s).2.1) = true := dt (by omega)
      have d4 : decide ((tk s).2.1 ≤ (s.length : Int)) = true := dt h2
      rw [b0, cond_false, d1, Bool.not_true, cond_false, d2, Bool.not_true, cond_false, d3, cond_true, d4, cond_true]
      exact ih'
    · exact stop (by rw [al_succ, if_neg h0, if_pos he])

theorem al_end : ∀ (n : Nat) (s : List Int), byteL s → s.length < n → ((al n s).1 = [] ∧ (al n s).2.1 = 0) ∨ ((al n s).1 ≠ [] ∧ (tk (al n s).1).2.2 = (al n s).2.1 ∧ (al n s).2.1 ≠ 0) := by
  intro n
  induction n with
  | zero => intro s _ h; omega
  | succ n ih =>
    intro s hb h
    by_cases h0 : s = []
    · rw [al_succ, if_pos h0]; exact .inl ⟨h0, rfl⟩
    by_cases he : (tk s).2.2 = 0
    · have hd := drop_lt hb he
      rw [al_succ, if_neg h0, if_neg (nn7 he)]
      exact ih _ (byteL_drop _ hb) (by omega)
    · rw [al_succ, if_neg h0, if_pos he]
      exact .inr ⟨h0, rfl, he⟩

theorem envelopeAll_pure : EnvelopeAllPure := by
  intro s hs
  refine ⟨300000, ?_⟩
  obtain ⟨hb, _⟩ : byteL s ∧ s.length ≤ reachBytes := hs
  have hk : 200000 < 300000 := by omega
  generalize 300000 = k at hk
  have e0 : gv1 = H8 := rfl
  have e1 : gv2 = K64 := rfl
  rw [e0, e1]
  unfold trailheadlaw07_EnvelopeAll.f trailheadlaw07_EnvelopeAll.tree
  rw [alive07 k hk, Option.bind_some, Bool.not_true, cond_false]
  by_cases hl : (s.length : Int) > 4096
  · rw [dt hl]; rfl
  rw [df hl, cond_false, all_eq k hk s hb (by omega), Option.bind_some]
  have hlen := al_len k s hb
  have hr := al_rest k s hb
  have hl0 := all_law_l0 k hk (al k s).1 (al k s).2.1 (al k s).2.2 (by omega) k s [] k hb (by omega) (by omega) rfl (by omega)
  rw [show (([] : List Env7).length : Int) = 0 from rfl] at hl0
  rw [hl0, Option.bind_some]
  simp only [Sy.sel]
  rw [rtake_eq7 k _ hr.2 (by omega) hk, Option.bind_some]
  rw [show decide True = true from rfl, cond_true]
  rcases al_end k s hb (by omega) with ⟨h1, h2⟩ | ⟨h1, h2, h3⟩
  · rw [dt h1, cond_true, beqt h2, cond_true]
  · have b0 : ((tk (al k s).1).2.2 != (0 : Int)) = true := by rw [bne_iff_ne, h2]; exact h3
    rw [df h1, cond_false, Bool.not_false, cond_true, b0, cond_true, beqt h2.symm]

theorem envelopeAll_said : Rows.EnvelopeAllCardSaid := envelopeAll_card envelopeAll_pure

end Go.Proofs.YtkcdbbflelgbeaaDoor.Sy
