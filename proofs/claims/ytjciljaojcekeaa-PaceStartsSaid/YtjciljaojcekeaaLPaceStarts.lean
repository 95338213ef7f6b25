/- PaceStarts: the statement on data alone, and the row. -/
import Derived.Test.YtjciljaojcekeaaQ24
import Derived.Test.YtjciljaojcekeaaRPaceStarts
namespace Go.Proofs.Ytjciljaojcekeaa.Sx
open Go
set_option linter.unusedVariables false
set_option linter.unusedSimpArgs false
set_option maxRecDepth 100000

theorem paceStarts_pure : PaceStartsPure := by
  intro p hp height hh
  obtain ⟨lim, iv, sp, fu, easy, u, v, r⟩ := p
  refine Ev.get ?_
  unfold trailheadlaw10_PaceStarts.f trailheadlaw10_PaceStarts.tree
  refine Ev.bind pace_alive ?_
  simp only [Bool.not_true, cond_false]
  by_cases h1 : height < 0
  · rw [decide_eq_true h1]; exact Ev.const fun _ => rfl
  rw [decide_eq_false h1]
  simp only [cond_false]
  by_cases h2 : height > 1099511627776
  · rw [decide_eq_true h2]; exact Ev.const fun _ => rfl
  rw [decide_eq_false h2]
  simp only [cond_false]
  by_cases h3 : iv > 1000
  · rw [decide_eq_true h3]; exact Ev.const fun _ => rfl
  rw [decide_eq_false h3]
  simp only [cond_false]
  by_cases h4 : iv < 1
  · refine Ev.bind (v := (0, 0)) (Ev.of 1 fun m => ?_) (Ev.const fun k => ?_)
    · simp only [trailheadlaw10_PaceStarts.l0.f, trailheadlaw10_PaceStarts.l0.go, trailheadlaw10_PaceStarts.l0.step]
      rw [decide_eq_false (by omega)]; rfl
    · rw [decide_eq_true h4]; rfl
  · obtain ⟨h, rfl⟩ : ∃ h : Nat, height = (h : Int) := ⟨height.toNat, by omega⟩
    obtain ⟨q, rfl⟩ : ∃ q : Nat, iv = (q : Int) := ⟨iv.toNat, by omega⟩
    have hl := (starts_loop (h := h) (p := q) (by omega) (by omega) (by omega) false lim sp fu easy u v r q 0 (by omega)).ev
    rw [if_neg (by omega)] at hl
    refine Ev.bind hl (Ev.const fun k => ?_)
    rw [decide_eq_false h4]; rfl

theorem paceStarts_said : Rows.PaceStartsSaid := paceStarts_row paceStarts_pure

end Go.Proofs.Ytjciljaojcekeaa.Sx
