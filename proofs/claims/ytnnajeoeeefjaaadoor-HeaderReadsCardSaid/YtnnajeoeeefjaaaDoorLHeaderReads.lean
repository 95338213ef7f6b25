/- HeaderReads: the statement on data, and the card. -/
import Derived.Test.YtnnajeoeeefjaaaDoorQ71
import Derived.Test.YtnnajeoeeefjaaaDoorRHeaderReads
namespace Go.Proofs.YtnnajeoeeefjaaaDoor.Sy
open Go
set_option linter.unusedVariables false
set_option linter.unusedSimpArgs false

theorem headerReads_pure : HeaderReadsPure := by
  intro t ht
  refine ⟨30000, ?_⟩
  obtain ⟨hb', _⟩ : byteL t ∧ t.length ≤ reachBytes := ht
  have hk : 20000 < 30000 := by omega
  generalize 30000 = k at hk
  have e0 : gv0 = H8 := rfl
  have e1 : gv1 = K64 := rfl
  rw [e0, e1]
  unfold trailheadlaw06_HeaderReads.f trailheadlaw06_HeaderReads.tree
  rw [alive06 k hk, Option.bind_some, Bool.not_true, cond_false]
  by_cases hl : (t.length : Int) > 300
  · rw [dt hl]; rfl
  rw [df hl, cond_false, hof_eq k t (by omega) hb', Option.bind_some]
  by_cases h : t.length = 80
  · have b0 : ((t.length : Int) != (80 : Int)) = false := by rw [h]; rfl
    have b1 : ((0 : Int) == (0 : Int)) = true := rfl
    rw [if_pos h, b0, cond_false]
    simp only [b1, cond_true]
    rw [rgood_eq, rd_good t hb', Option.bind_some, cond_true, rbytes_eq k _ (rd_hN t hb' (by omega)) (by omega), Option.bind_some, hb_rd t hb' h, dt rfl]
  · have b0 : ((t.length : Int) != (80 : Int)) = true := by rw [bne_iff_ne]; omega
    have b1 : ((4 : Int) == (4 : Int)) = true := rfl
    rw [if_neg h, b0, cond_true]
    simp only [b1, cond_true]
    rw [eqDen_hdr, dt rfl]

theorem headerReads_said : Rows.HeaderReadsCardSaid := headerReads_card headerReads_pure

end Go.Proofs.YtnnajeoeeefjaaaDoor.Sy
