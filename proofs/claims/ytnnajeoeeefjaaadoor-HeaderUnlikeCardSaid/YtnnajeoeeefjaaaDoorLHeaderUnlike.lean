/- HeaderUnlike: the statement on data, and the card. -/
import Derived.Test.YtnnajeoeeefjaaaDoorQ71
import Derived.Test.YtnnajeoeeefjaaaDoorRHeaderUnlike
namespace Go.Proofs.YtnnajeoeeefjaaaDoor.Sy
open Go
set_option linter.unusedVariables false
set_option linter.unusedSimpArgs false

theorem headerUnlike_pure : HeaderUnlikePure := by
  intro a ha b hb'
  refine ⟨30000, ?_⟩
  have na : hN a := hN_of ha
  have nb : hN b := hN_of hb'
  have hk : 20000 < 30000 := by omega
  generalize 30000 = k at hk
  have e0 : gv0 = H8 := rfl
  have e1 : gv1 = K64 := rfl
  rw [e0, e1]
  unfold trailheadlaw06_HeaderUnlike.f trailheadlaw06_HeaderUnlike.tree
  rw [alive06 k hk, Option.bind_some, Bool.not_true, cond_false, rgood_eq, Option.bind_some]
  cases ga : hgood a
  · rfl
  rw [Bool.not_true, cond_false, rgood_eq, Option.bind_some]
  cases gb : hgood b
  · rfl
  rw [Bool.not_true, cond_false, hbytes_eq k a na (by omega), Option.bind_some, hbytes_eq k b nb (by omega), Option.bind_some, ga, gb, eqDen_hdr]
  have b0 : ((0 : Int) == (0 : Int)) = true := rfl
  simp only [cond_true, b0]
  by_cases e : a = b
  · subst e
    rw [dt rfl, dt rfl, hid_eq k a na hk, Option.bind_some, Option.bind_some]
    simp
  · have e' : ¬ hb a = hb b := fun h => e (hb_inj na nb ga gb h)
    rw [df e, df e']
    rfl

theorem headerUnlike_said : Rows.HeaderUnlikeCardSaid := headerUnlike_card headerUnlike_pure

end Go.Proofs.YtnnajeoeeefjaaaDoor.Sy
