/- HeaderMines: the statement on data, and the card. -/
import Derived.Test.YtnnajeoeeefjaaaDoorQ81
import Derived.Test.YtnnajeoeeefjaaaDoorRHeaderMines
namespace Go.Proofs.YtnnajeoeeefjaaaDoor.Sy
open Go
set_option linter.unusedVariables false
set_option linter.unusedSimpArgs false

theorem headerMines_pure : HeaderMinesPure := by
  intro h hh a ha a2 ha2
  have hn : hN h := hN_of hh
  have e0 : gv0 = H8 := rfl
  have e1 : gv1 = K64 := rfl
  have wa : -9223372036854775808 ≤ a ∧ a ≤ 9223372036854775807 := wf_i64.1 ha
  rw [e0, e1]
  by_cases hl : a > 40
  · refine ⟨20001, ?_⟩
    unfold trailheadlaw06_HeaderMines.f trailheadlaw06_HeaderMines.tree
    rw [alive06 _ (by omega), Option.bind_some, Bool.not_true, cond_false, dt hl]
    rfl
  by_cases hl2 : a2 < 0
  · refine ⟨20001, ?_⟩
    unfold trailheadlaw06_HeaderMines.f trailheadlaw06_HeaderMines.tree
    rw [alive06 _ (by omega), Option.bind_some, Bool.not_true, cond_false, df hl, dt hl2]
    rfl
  by_cases hl3 : a2 > 40
  · refine ⟨20001, ?_⟩
    unfold trailheadlaw06_HeaderMines.f trailheadlaw06_HeaderMines.tree
    rw [alive06 _ (by omega), Option.bind_some, Bool.not_true, cond_false, df hl, df hl2, dt hl3]
    rfl
  obtain ⟨b, hb⟩ := seek_eq h a (by omega) hn
  obtain ⟨b2, hb2⟩ := seek_eq h (a + a2) (by omega) hn
  obtain ⟨c, hc⟩ := O.refdecA h.2.2.2.2.1
  simp only at hc
  obtain ⟨d, hd⟩ := less_b (O.dAll_lt h.2.2.2.2.1) (seekV h a).1
  have hid' (x : Hdr) : eqDen (.pair (.int .i64) (.pair (.arr .u8 32) (.pair (.arr .u8 32) (.pair (.int .i64) (.pair (.int .i64) (.int .i64)))))) x x = true := by rw [eqDen_hdr, dt rfl]
  obtain ⟨k, hk1, hk2, hk3, hk4, hk5⟩ : ∃ k, b ≤ k ∧ b2 ≤ k ∧ c ≤ k ∧ d ≤ k ∧ 20001 ≤ k := ⟨b + b2 + c + d + 20001, by omega, by omega, by omega, by omega, by omega⟩
  refine ⟨k, ?_⟩
  have e3 : addI .i64 a a2 = a + a2 := add_id (by omega) (by omega)
  unfold trailheadlaw06_HeaderMines.f trailheadlaw06_HeaderMines.tree
  rw [alive06 k (by omega), Option.bind_some, Bool.not_true, cond_false, df hl, cond_false, df hl2, cond_false, df hl3, cond_false, hb k hk1, Option.bind_some]
  cases hs : (seekV h a).2
  · rfl
  rw [Bool.not_true, cond_false, e3, hb2 k hk2, Option.bind_some, hc k hk3, Option.bind_some]
  have hsk : seekable h = true := by
    cases h1 : seekable h
    · unfold seekV at hs; rw [h1] at hs; cases hs
    · rfl
  have ea : seekV h a = seekN (O.dAll h.2.2.2.2.1).1 a.toNat h := by unfold seekV; rw [hsk]; rfl
  have hpos : 0 ≤ a := by
    by_cases h0 : 0 ≤ a
    · exact h0
    · rw [ea, show a.toNat = 0 by omega] at hs
      cases hs
  have ea2 : seekV h (a + a2) = seekV h a := by
    rw [ea]
    unfold seekV; rw [hsk, cond_true, show (a + a2).toNat = a.toNat + a2.toNat by omega]
    exact seekN_more _ _ _ _ (by rw [← ea]; exact hs)
  have hN' : hN (seekV h a).1 := by rw [ea]; exact seekN_hN _ _ _ hn
  have hm : met (O.dAll h.2.2.2.2.1).1 (seekV h a).1 = true := by
    rw [ea] at hs ⊢
    exact seekN_met _ _ _ hs
  have hfix : ((seekV h a).1.1, ((seekV h a).1.2.1, ((seekV h a).1.2.2.1, ((seekV h a).1.2.2.2.1, ((seekV h a).1.2.2.2.2.1, h.2.2.2.2.2))))) = h := by
    rw [ea]; exact (seekN_fix _ _ h h.2.2.2.2.2).trans rfl
  rw [ea2, hs, cond_true, hid', cond_true]
  rw [show eqDen (.pair (.int .i64) (.pair (.arr .u8 32) (.pair (.arr .u8 32) (.pair (.int .i64) (.pair (.int .i64) (.int .i64)))))) (((seekV h a).1.1, ((seekV h a).1.2.1, ((seekV h a).1.2.2.1, ((seekV h a).1.2.2.2.1, ((seekV h a).1.2.2.2.2.1, h.2.2.2.2.2))))) : T_3d5633) h = true by rw [hfix]; exact hid' h]
  rw [cond_true, rid_eq k _ hN' (by omega), Option.bind_some, (hd k hk4).1, Option.bind_some, (hd k hk4).2, hm, Option.bind_some]
  rfl

theorem headerMines_said : Rows.HeaderMinesCardSaid := headerMines_card headerMines_pure

end Go.Proofs.YtnnajeoeeefjaaaDoor.Sy
