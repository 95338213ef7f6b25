/- DigestShows: the statement on data, and the card. -/
import Derived.Test.YtnnajeoeeefjaaaDoorQ66
import Derived.Test.YtnnajeoeeefjaaaDoorRDigestShows
namespace Go.Proofs.YtnnajeoeeefjaaaDoor.Sy
open Go
set_option linter.unusedVariables false
set_option linter.unusedSimpArgs false

theorem wf_u8' {y : Int} : (Lit.int .u8 y).wf = true ↔ 0 ≤ y ∧ y < 256 := by
  simp only [Lit.wf, Bool.and_eq_true, decide_eq_true_eq]
  show (0 : Int) ≤ y ∧ y ≤ 255 ↔ _
  omega

theorem digestShows_pure : DigestShowsPure := by
  intro h hg
  refine ⟨30000, ?_⟩
  have hg2 : h.length = 32 ∧ goodL .u8 h := hg
  have hb : byteL h := fun y hy => wf_u8'.1 (hg2.2 y hy)
  have hk : 20000 < 30000 := by omega
  generalize 30000 = k at hk
  have e0 : gv0 = H8 := rfl
  have e1 : gv1 = K64 := rfl
  rw [e0, e1]
  unfold trailheadlaw01_DigestShows.f trailheadlaw01_DigestShows.tree
  rw [alive01 k hk, Option.bind_some, Bool.not_true, cond_false, show_eq k h hb hg2.1 (by omega), Option.bind_some]
  have hsb := showB_byteL h hb
  rcases parse_eq k (showB h) hsb (by omega) with ⟨x, h1, h2, h3, h4⟩ | ⟨h1, h2⟩
  · have : x = h := showB_inj x h h3 hb (by omega) h4
    subst this
    rw [h1, Option.bind_some, rshow_eq k x hb hg2.1 (by omega), Option.bind_some, dt rfl, cond_true, dt rfl]
    rfl
  · obtain ⟨c, hc, hn⟩ := h2 (by rw [showB_length]; omega)
    obtain ⟨v, hv⟩ := showB_hex h hb c hc
    rw [hv] at hn; cases hn

theorem digestShows_said : Rows.DigestShowsCardSaid := digestShows_card digestShows_pure

end Go.Proofs.YtnnajeoeeefjaaaDoor.Sy
