/- PaceSame: the statement on data alone, and the row. -/
import Derived.Test.YtjciljaojcekeaaQ24
import Derived.Test.YtjciljaojcekeaaRPaceSame
namespace Go.Proofs.Ytjciljaojcekeaa.Sx
open Go
set_option linter.unusedVariables false
set_option linter.unusedSimpArgs false
set_option maxRecDepth 100000

theorem paceSame_pure : PaceSamePure := by
  intro p hp at_ hat time ht
  obtain ⟨lim, iv, sp, fu, easy, u, v, r⟩ := p
  refine Ev.get ?_
  unfold trailheadlaw10_PaceSame.f trailheadlaw10_PaceSame.tree
  refine Ev.bind pace_alive ?_
  simp only [Bool.not_true, cond_false]
  refine Ev.const fun k => ?_
  by_cases h1 : at_.1 < 1
  · rw [decide_eq_true h1]; rfl
  rw [decide_eq_false h1]
  simp only [cond_false]
  by_cases h2 : iv < 1
  · rw [decide_eq_true h2]; rfl
  rw [decide_eq_false h2, decide_eq_false (show ¬ iv = 0 by omega)]
  simp only [cond_false]
  unfold pace_Next.f pace_Next.tree pace_Starts_v1.f pace_Starts_v1.tree
  rw [decide_eq_false (show ¬ at_.1 ≤ 0 by omega), decide_eq_true (show iv > 0 by omega), decide_eq_false (show ¬ iv = 0 by omega)]
  simp only [cond_false, cond_true, Option.bind_some]
  generalize (remI at_.1 iv == (0 : Int)) = c
  cases c
  · simp only [cond_false]
    cases easy
    · simp
    · simp only [Bool.not_true, cond_false, cond_true]
      cases decide (subI .i64 time at_.2.2.1 > mulI .i64 2 sp) <;> simp
  · rfl

theorem paceSame_said : Rows.PaceSameSaid := paceSame_row paceSame_pure

end Go.Proofs.Ytjciljaojcekeaa.Sx
