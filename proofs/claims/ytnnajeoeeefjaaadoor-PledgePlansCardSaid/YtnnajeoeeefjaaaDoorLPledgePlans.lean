/- PledgePlans: the statement on data, and the card. -/
import Derived.Test.YtnnajeoeeefjaaaDoorQ91
import Derived.Test.YtnnajeoeeefjaaaDoorRPledgePlans
namespace Go.Proofs.YtnnajeoeeefjaaaDoor.Sy
open Go
set_option linter.unusedVariables false
set_option linter.unusedSimpArgs false

theorem plans_tail (k : Nat) (hk : 20000 < k) (p : Plan) (h : Int) (id : List Int) (hn : name id) :
    (Option.bind (pledge_Plan_Due.f k p h) (fun r6 => Option.bind (trailheadref18_Due.f k p.2.1 p.2.2 h) (fun r7 => bif (r6 == r7) then Option.bind (pledge_Plan_Bit.f k p id H8 K64) (fun r8 => Option.bind (trailheadref18_Bit.f k p.1 id) (fun r9 => some (r8 == r9))) else some false))) = some true := by
  rw [due_eq, rdue_eq, Option.bind_some, Option.bind_some, bit_eq k p id hn hk, rbit_eq k p.1 id hn hk]
  simp

theorem pledgePlans_pure : PledgePlansPure := by
  intro p _ h _ id hid
  refine ⟨30000, ?_⟩
  have hn : name id := name_of hid
  have hk : 20000 < 30000 := by omega
  generalize 30000 = k at hk
  have e0 : gv0 = H8 := rfl
  have e1 : gv1 = K64 := rfl
  rw [e0, e1]
  unfold trailheadlaw18_PledgePlans.f trailheadlaw18_PledgePlans.tree
  rw [alive18 k hk, Option.bind_some, Bool.not_true, cond_false, pnew_eq]
  by_cases hp : pP p
  · obtain ⟨h1, h2, h3, h4⟩ := hp
    rw [if_pos ⟨h1, h2, h3, h4⟩, Option.bind_some]
    simp only [Sy.sel]
    rw [dt (show p.2.1 ≥ 1 from h1), cond_true, dt h2, cond_true, dt (show p.2.2 ≥ 0 from h3), cond_true, pgood_eq, Option.bind_some, dt (show pP p from ⟨h1, h2, h3, h4⟩), dt h4]
    exact plans_tail k hk p h id hn
  · rw [if_neg hp, Option.bind_some]
    simp only [Sy.sel]
    by_cases h1 : p.2.1 ≥ 1
    · rw [dt h1, cond_true]
      by_cases h2 : p.2.1 ≤ 64
      · rw [dt h2, cond_true]
        by_cases h3 : p.2.2 ≥ 0
        · rw [dt h3, cond_true, pgood_eq, Option.bind_some, df hp, df (show ¬ p.2.2 < p.2.1 from fun h4 => hp ⟨h1, h2, h3, h4⟩)]
          exact plans_tail k hk p h id hn
        · rw [df h3, cond_false, pgood_eq, Option.bind_some, df hp]
          exact plans_tail k hk p h id hn
      · rw [df h2, cond_false, pgood_eq, Option.bind_some, df hp]
        exact plans_tail k hk p h id hn
    · rw [df h1, cond_false, pgood_eq, Option.bind_some, df hp]
      exact plans_tail k hk p h id hn

theorem pledgePlans_said : Rows.PledgePlansCardSaid := pledgePlans_card pledgePlans_pure

end Go.Proofs.YtnnajeoeeefjaaaDoor.Sy
