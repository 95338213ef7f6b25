/- ShakeEnds: the statement on data. -/
import Derived.Test.YtodjcmbkbijliaaQ33
import Derived.Test.YtodjcmbkbijliaaRShakeEnds
namespace Go.Proofs.Ytodjcmbkbijliaa.Sy
open Go Go.Proofs
set_option linter.unusedVariables false
set_option linter.unusedSimpArgs false

theorem open_total (k : Nat) (a b c) : ∃ r, shake_Open.f k a b c = some r := by
  cases b <;> exact ⟨_, rfl⟩

theorem end_eq (k : Nat) (m : HandT) : ∃ r : HandT, shake_Hand_End.f k m = some r ∧ r.2.2.2.2.2.1 = true := ⟨_, rfl, rfl⟩

theorem shakeEnds_pure : ShakeEndsPure := by
  intro a0 _ a1 _ y0 _ _ y1 _ _
  refine ⟨100, ?_⟩
  have hk : 90 < 100 := by omega
  generalize 100 = k at hk
  unfold trailheadlaw21_ShakeEnds.f trailheadlaw21_ShakeEnds.tree
  rw [alive21]
  simp only [Option.bind_some, Bool.not_true, cond_false]
  by_cases h1 : (y0.length : Int) > 60
  · rw [decide_eq_true h1]; rfl
  by_cases h2 : (y1.length : Int) > 60
  · rw [decide_eq_false h1, decide_eq_true h2]; rfl
  rw [decide_eq_false h1, decide_eq_false h2, cond_false, cond_false]
  obtain ⟨r, hr⟩ := open_total k a0 a1 0
  rw [hr]
  simp only [Option.bind_some]
  obtain ⟨s, hs⟩ := ends_l0 k y0 y1 (by omega) y0.length k 0 false r.1 (by omega) (by omega) (fun h => by cases h)
  rw [show ((0 : Nat) : Int) = 0 from rfl] at hs
  rw [hs]
  simp only [Option.bind_some, sel]
  obtain ⟨m, hm, hg⟩ := end_eq k s.2.2
  rw [hm]
  simp only [Option.bind_some]
  rw [ends_l3 k y0 y1 m hg (by omega) y1.length k 0 (by omega) (by omega) (by omega)]
  simp only [Option.bind_some, sel]
  rw [gone_eq, hg]
  rfl

theorem shakeEnds_said : Rows.ShakeEndsSaid := shakeEnds_row shakeEnds_pure

end Go.Proofs.Ytodjcmbkbijliaa.Sy
