/- EnvelopeCuts: the statement on data, and the card. -/
import Derived.Test.YtkcdbbflelgbeaaDoorQ103
import Derived.Test.YtkcdbbflelgbeaaDoorREnvelopeCuts
namespace Go.Proofs.YtkcdbbflelgbeaaDoor.Sy
open Go
set_option linter.unusedVariables false
set_option linter.unusedSimpArgs false

theorem cuts_l0 (k : Nat) (y0 y1 : List Int) (l : List Env7) (hl : l.length ≤ 100000) : ∀ (d n i : Nat), i + d = l.length → d < n →
    trailheadlaw07_EnvelopeCuts.l0.f k (l.length : Int) y0 y1 l l n (i : Int) = some (.inl (l.length : Int)) := by
  intro d
  induction d with
  | zero =>
    intro n i hi hn
    obtain ⟨n, rfl⟩ : ∃ q, n = q + 1 := ⟨n - 1, by omega⟩
    have : i = l.length := by omega
    subst this
    unfold trailheadlaw07_EnvelopeCuts.l0.f trailheadlaw07_EnvelopeCuts.l0.go trailheadlaw07_EnvelopeCuts.l0.step
    rw [df (Int.lt_irrefl _)]
    rfl
  | succ d ih =>
    intro n i hi hn
    obtain ⟨n, rfl⟩ : ∃ q, n = q + 1 := ⟨n - 1, by omega⟩
    have e1 : addI .i64 (i : Int) 1 = ((i + 1 : Nat) : Int) := add_id (by omega) (by omega)
    have ih' := ih n (i + 1) (by omega) (by omega)
    have b3 (x : Env7) : eqDen (.pair .str .str) x x = true := by rw [eqDen7]; exact dt rfl
    unfold trailheadlaw07_EnvelopeCuts.l0.f at ih' ⊢
    unfold trailheadlaw07_EnvelopeCuts.l0.go trailheadlaw07_EnvelopeCuts.l0.step
    simp only [e1, Int.toNat_natCast]
    repeat rw [dt (by omega), cond_true]
    simp only [cond_true]
    exact (congrArg (fun t => bif !t then some (Sum.inr false) else trailheadlaw07_EnvelopeCuts.l0.go (fun x82 => some (Sum.inl x82)) (fun q0 => some (Sum.inr q0)) k (l.length : Int) y0 y1 l l n ((i + 1 : Nat) : Int)) (b3 (l.getD i dfl_88e6f2))).trans ih'

theorem envelopeCuts_pure : EnvelopeCutsPure := by
  intro s hs cut _
  refine ⟨300000, ?_⟩
  obtain ⟨hb, _⟩ : byteL s ∧ s.length ≤ reachBytes := hs
  have hk : 200000 < 300000 := by omega
  generalize 300000 = k at hk
  have e0 : gv1 = H8 := rfl
  have e1 : gv2 = K64 := rfl
  rw [e0, e1]
  unfold trailheadlaw07_EnvelopeCuts.f trailheadlaw07_EnvelopeCuts.tree
  rw [alive07 k hk, Option.bind_some, Bool.not_true, cond_false]
  by_cases hl : (s.length : Int) > 4096
  · rw [dt hl]; rfl
  rw [df hl, cond_false]
  by_cases g1 : cut < 0
  · rw [dt g1]; rfl
  rw [df g1, cond_false]
  by_cases g2 : cut > (s.length : Int)
  · rw [dt g2]; rfl
  have c1 : decide ((0 : Int) ≤ cut) = true := dt (by omega)
  have c2 : decide (cut ≤ (s.length : Int)) = true := dt (by omega)
  have hbp := byteL_take cut.toNat hb
  have hbq := byteL_drop cut.toNat hb
  have hpq := List.take_append_drop cut.toNat s
  have lp : (s.take cut.toNat).length ≤ 4096 := by rw [List.length_take]; omega
  have lq : (s.drop cut.toNat).length ≤ 4096 := by rw [List.length_drop]; omega
  have hsum := congrArg List.length hpq
  rw [List.length_append] at hsum
  rw [df g2, cond_false, all_eq k hk s hb (by omega), Option.bind_some]
  simp only [c1, c2, cond_true]
  generalize s.take cut.toNat = p at *
  generalize s.drop cut.toNat = q at *
  have hr := al_rest k p hbp
  have hn := al_len k p hbp
  rw [all_eq k hk p hbp (by omega), Option.bind_some]
  rw [fits_ok (by omega)]
  simp only [cond_true]
  have hbr := byteL_app7 hr.2 hbq
  rw [all_eq k hk _ hbr (by rw [List.length_append]; omega), Option.bind_some]
  have hcut := al_cut q hbq k p hbp (by omega) k (by omega)
  rw [hpq] at hcut
  have hn4 := al_len k ((al k p).1 ++ q) hbr
  rw [List.length_append] at hn4
  have b0 (x : Int) : (x != x) = false := by simp
  by_cases h4 : (al k p).2.1 = 4
  · rw [if_pos h4] at hcut
    rw [hcut, beqt h4, cond_true]
    rw [fits_ok (by omega), cond_true]
    simp only [List.append_nil, b0, cond_false]
    rw [show decide True = true from rfl, Bool.not_true, cond_false, h4, b0, cond_false]
    have hl0 := cuts_l0 k H8 K64 (al k p).2.2 (by omega) (al k p).2.2.length k 0 (by omega) (by omega)
    rw [show ((0 : Nat) : Int) = 0 from rfl] at hl0
    rw [hl0, Option.bind_some]
    rfl
  · rw [if_neg h4] at hcut
    rw [hcut, beqf h4, cond_false, fits_ok (by omega), cond_true]
    simp only [b0, cond_false]
    rw [show decide True = true from rfl, Bool.not_true, cond_false]
    have hl0 := cuts_l0 k H8 K64 ((al k p).2.2 ++ (al k ((al k p).1 ++ q)).2.2) (by rw [List.length_append]; omega) ((al k p).2.2 ++ (al k ((al k p).1 ++ q)).2.2).length k 0 (by omega) (by rw [List.length_append]; omega)
    rw [show ((0 : Nat) : Int) = 0 from rfl] at hl0
    rw [hl0, Option.bind_some]
    rfl

theorem envelopeCuts_said : Rows.EnvelopeCutsCardSaid := envelopeCuts_card envelopeCuts_pure

end Go.Proofs.YtkcdbbflelgbeaaDoor.Sy
