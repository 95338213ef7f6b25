/- HeaderSeeks: the statement on data, and the card. -/
import Derived.Test.YtnnajeoeeefjaaaDoorQ81
import Derived.Test.YtnnajeoeeefjaaaDoorRHeaderSeeks
namespace Go.Proofs.YtnnajeoeeefjaaaDoor.Sy
open Go
set_option linter.unusedVariables false
set_option linter.unusedSimpArgs false

theorem headerSeeks_pure : HeaderSeeksPure := by
  intro h hh a ha
  have hn : hN h := hN_of hh
  have e0 : gv0 = H8 := rfl
  have e1 : gv1 = K64 := rfl
  rw [e0, e1]
  by_cases hl : a > 40
  · refine ⟨20001, ?_⟩
    unfold trailheadlaw06_HeaderSeeks.f trailheadlaw06_HeaderSeeks.tree
    rw [alive06 _ (by omega), Option.bind_some, Bool.not_true, cond_false, dt hl]
    rfl
  obtain ⟨b, hb⟩ := seek_eq h a (by omega) hn
  obtain ⟨c, hc⟩ := O.refdecA h.2.2.2.2.1
  simp only at hc
  have hid' (x : Hdr) : eqDen (.pair (.int .i64) (.pair (.arr .u8 32) (.pair (.arr .u8 32) (.pair (.int .i64) (.pair (.int .i64) (.int .i64)))))) x x = true := by rw [eqDen_hdr, dt rfl]
  cases hg : hgood h
  · refine ⟨max (max b c) 20001, ?_⟩
    have hb' := hb (max (max b c) 20001) (by omega)
    have hc' := hc (max (max b c) 20001) (by omega)
    have ha' := alive06 (max (max b c) 20001) (by omega)
    generalize max (max b c) 20001 = k at hb' hc' ha'
    have es : seekV h a = (h, false) := by unfold seekV seekable; rw [hg]; rfl
    unfold trailheadlaw06_HeaderSeeks.f trailheadlaw06_HeaderSeeks.tree
    rw [ha', Option.bind_some, Bool.not_true, cond_false, df hl, cond_false, hb', Option.bind_some, hc', Option.bind_some, rgood_eq, hg, Option.bind_some, es]
    simp only [hid']
    rfl
  · obtain ⟨d, hd⟩ := law_l0 (O.dAll h.2.2.2.2.1).1 (O.dAll_lt _) (seekV h a).1 (seekV h a).2 a (by omega) a.toNat 0 h (by omega) hn hg
    refine ⟨max (max b c) (max d 20001), ?_⟩
    have hb' := hb (max (max b c) (max d 20001)) (by omega)
    have hc' := hc (max (max b c) (max d 20001)) (by omega)
    have hd' := hd (max (max b c) (max d 20001)) (by omega) (max (max b c) (max d 20001)) (by omega)
    have ha' := alive06 (max (max b c) (max d 20001)) (by omega)
    generalize max (max b c) (max d 20001) = k at hb' hc' hd' ha'
    rw [show ((0 : Nat) : Int) = 0 from rfl] at hd'
    unfold trailheadlaw06_HeaderSeeks.f trailheadlaw06_HeaderSeeks.tree
    rw [ha', Option.bind_some, Bool.not_true, cond_false, df hl, cond_false, hb', Option.bind_some, hc', Option.bind_some, rgood_eq, hg, Option.bind_some, Bool.not_true, cond_false]
    cases h1 : (O.dAll h.2.2.2.2.1).2.1
    · cases h2 : (O.dAll h.2.2.2.2.1).2.2
      · have es : seekV h a = seekN (O.dAll h.2.2.2.2.1).1 a.toNat h := by unfold seekV seekable; rw [hg, h1, h2]; rfl
        rw [hd', Option.bind_some, es]
        cases h3 : (seekN (O.dAll h.2.2.2.2.1).1 a.toNat h).2
        · simp only [cond_false, Sy.sel, Bool.not_false, cond_true, hid']
        · simp only [cond_true, Sy.sel, dt rfl]
          simp
      · have es : seekV h a = (h, false) := by unfold seekV seekable; rw [hg, h1, h2]; rfl
        simp only [es, hid']
        rfl
    · have es : seekV h a = (h, false) := by unfold seekV seekable; rw [hg, h1]; rfl
      simp only [es, hid']
      rfl

theorem headerSeeks_said : Rows.HeaderSeeksCardSaid := headerSeeks_card headerSeeks_pure

end Go.Proofs.YtnnajeoeeefjaaaDoor.Sy
