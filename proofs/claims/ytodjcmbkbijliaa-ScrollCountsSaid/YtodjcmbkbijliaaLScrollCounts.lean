/- ScrollCounts: the statement on data. -/
import Derived.Test.YtodjcmbkbijliaaQ42
import Derived.Test.YtodjcmbkbijliaaRScrollCounts
namespace Go.Proofs.Ytodjcmbkbijliaa.Sy
open Go
set_option linter.unusedVariables false
set_option linter.unusedSimpArgs false

theorem scrollCounts_pure : ScrollCountsPure := by
  intro s hs most _ n hn
  refine ⟨10, ?_⟩
  obtain ⟨hb, _⟩ : byteL s ∧ s.length ≤ reachBytes := hs
  have hn' : n ≤ 9223372036854775807 := by
    have h : (Lit.int .i64 n).wf = true := hn
    simp only [Lit.wf, Bool.and_eq_true, decide_eq_true_eq] at h
    exact h.2
  have hk : 8 < 10 := by omega
  generalize 10 = k at hk
  unfold trailheadlaw05_ScrollCounts.f trailheadlaw05_ScrollCounts.tree
  rw [alive05 k hk]
  simp only [Option.bind_some, Bool.not_true, cond_false]
  by_cases hl : (s.length : Int) > 100
  · rw [dt hl]; rfl
  rw [df hl, cond_false]
  have e1 : scroll_On.f k s = some (s, false) := rfl
  rw [e1]
  simp only [Option.bind_some]
  rw [ecount_eq k most s (by omega) hb]
  simp only [Option.bind_some]
  rw [rcounted_eq k most s hk hb]
  simp only [Option.bind_some]
  rw [count0_eq k n hk]
  simp only [Option.bind_some]
  rw [text_eq k _ (cnt_byteL n)]
  simp only [Option.bind_some]
  have e2 : scroll_On.f k (cntB n) = some (cntB n, false) := rfl
  rw [e2]
  simp only [Option.bind_some]
  rw [mxI_max, ecount_eq k _ (cntB n) (by omega) (cnt_byteL n)]
  have e3 : counted (cntB n) (max n 0) = some (max n 0, (cntB n).length) := by
    have := counted_cnt n (max n 0) [] (by omega)
    rw [List.append_nil, if_neg (by omega)] at this
    exact this
  rw [e3]
  have e4 : eyeOf (cntB n) (some (max n 0, (cntB n).length)) = (max n 0, ([], false)) := by simp [eyeOf]
  rw [e4]
  simp only [Option.bind_some]
  rw [beqt rfl]
  cases hc : counted s most with
  | none => rfl
  | some p =>
    obtain ⟨v, u⟩ := p
    have hu : 1 ≤ u ∧ u ≤ s.length := by
      cases s with
      | nil => cases hc
      | cons b r =>
        simp only [counted, cw] at hc
        rw [List.length_cons]
        repeat' (split at hc)
        all_goals first | (cases hc; done) | (cases hc; omega)
    simp only [eyeOf, cntPair]
    rw [beqt rfl, cond_true]
    have e5 : scroll_Eye_Bad.f k (s.drop u, false) = some false := rfl
    rw [e5, beqf (by omega)]
    simp only [Option.bind_some]
    have e6 : scroll_Eye_Left.f k (s.drop u, false) = some ((s.drop u).length : Int) := rfl
    rw [e6, sub_id (by omega) (by omega), List.length_drop]
    simp only [Option.bind_some]
    rw [beqt (by omega)]
    rfl

theorem scrollCounts_said : Rows.ScrollCountsSaid := scrollCounts_row scrollCounts_pure

end Go.Proofs.Ytodjcmbkbijliaa.Sy
