/- WholeMoves: the statement on data alone, and the row. -/
import Derived.Test.YtjciljaojcekeaaQ13
import Derived.Test.YtjciljaojcekeaaRWholeMoves
namespace Go.Proofs.Ytjciljaojcekeaa.Sx
open Go
set_option linter.unusedVariables false
set_option linter.unusedSimpArgs false
set_option maxRecDepth 100000

theorem wholeMoves_pure : WholeMovesPure := by
  intro a ha n hn
  have hn' := wf_i64.1 hn
  refine Ev.get ?_
  unfold trailheadlaw02_WholeMoves.f trailheadlaw02_WholeMoves.tree
  refine Ev.bind whole_alive ?_
  simp only [Bool.not_true, cond_false]
  have hmx : ∃ m : Nat, mxI n 0 = (m : Int) ∧ m = n.toNat := ⟨n.toNat, by unfold mxI; split <;> omega, rfl⟩
  obtain ⟨m, hm, em⟩ := hmx
  have hup : Ev (fun k => whole_Up.f k a n) (toNum (vN a * 2 ^ m)) := by
    by_cases h0 : 0 ≤ n
    · have : n = (m : Int) := by omega
      rw [this]; exact up_ev ha m
    · have : m = 0 := by omega
      subst this
      refine (up_ev ha 0).congr fun k => ?_
      unfold whole_Up.f whole_Up.tree
      rw [hm, mx0, decide_eq_false (show ¬ n ≥ 256 by omega), decide_eq_false (show ¬ ((0 : Nat) : Int) ≥ 256 by omega)]
  have hdn : Ev (fun k => whole_Down.f k a n) (toNum (vN a / 2 ^ m)) := by
    by_cases h0 : 0 ≤ n
    · have : n = (m : Int) := by omega
      rw [this]; exact down_ev ha m
    · have : m = 0 := by omega
      subst this
      refine (down_ev ha 0).congr fun k => ?_
      unfold whole_Down.f whole_Down.tree
      rw [hm, mx0, decide_eq_false (show ¬ n ≥ 256 by omega), decide_eq_false (show ¬ ((0 : Nat) : Int) ≥ 256 by omega)]
  refine Ev.bind hup ?_
  rw [hm]
  refine Ev.bind (move_up_ev ha m) ?_
  rw [decide_eq_true rfl]
  simp only [cond_true]
  refine Ev.bind hdn ?_
  have hneg : subI .i64 0 (m : Int) = -(m : Int) := by
    unfold subI; rw [wrap_i64 (by omega) (by omega)]; omega
  rw [hneg]
  refine Ev.bind (move_down_ev ha m) (Ev.const fun k => ?_)
  rw [decide_eq_true rfl]

theorem wholeMoves_said : Rows.WholeMovesSaid := wholeMoves_row wholeMoves_pure

end Go.Proofs.Ytjciljaojcekeaa.Sx
