
/- The statements of chapter 04. -/
import Derived.Test.YtjciljaojcekeaaQ22
import Derived.Test.YtjciljaojcekeaaWD
namespace Go.Proofs.Ytjciljaojcekeaa.Sx
open Go
set_option linter.unusedVariables false
set_option linter.unusedSimpArgs false
set_option maxRecDepth 100000

theorem most_ev : Ev (fun k => whole_Most.f k) (toNum (2 ^ 256 - 1)) := by
  unfold whole_Most.f whole_Most.tree
  rw [zeroNum]
  exact Ev.bind (not_num (by omega)) (Ev.const fun k => rfl)

theorem one_ev : Ev (fun k => whole_Of.f k 1) (toNum 1) := of_ev 1 (by omega)

/-- The work behind a target. -/
def wk (x : Nat) : Nat := if x + 1 = 2 ^ 256 then 1 else if x = 0 then 2 ^ 256 - 1 else (2 ^ 256 - 1 - x) / (x + 1) + 1

theorem wk_lt {x : Nat} (hx : x < 2 ^ 256) : wk x < 2 ^ 256 := by
  unfold wk
  split
  · omega
  split
  · omega
  · exact Nat.lt_of_le_of_lt (Nat.succ_le_succ (Nat.div_le_self (2 ^ 256 - 1 - x) (x + 1))) (by omega)

theorem wk_pos (x : Nat) : 0 < wk x := by
  unfold wk; split
  · omega
  split
  · omega
  · exact Nat.succ_pos _

theorem wk_mono {x y : Nat} (h : x ≤ y) (hy : y < 2 ^ 256) : wk y ≤ wk x := by
  have hx := wk_pos x
  have hly := wk_lt hy
  by_cases h1 : y + 1 = 2 ^ 256
  · have : wk y = 1 := by unfold wk; rw [if_pos h1]
    omega
  · by_cases h0 : x = 0
    · have : wk x = 2 ^ 256 - 1 := by unfold wk; rw [if_neg (by omega), if_pos h0]
      omega
    · unfold wk
      rw [if_neg h1, if_neg (by omega), if_neg (by omega), if_neg h0]
      have h2 : (2 ^ 256 - 1 - y) / (y + 1) ≤ (2 ^ 256 - 1 - x) / (y + 1) := Nat.div_le_div_right (by omega)
      have h3 : (2 ^ 256 - 1 - x) / (y + 1) ≤ (2 ^ 256 - 1 - x) / (x + 1) := Nat.div_le_div_left (by omega) (by omega)
      exact Nat.succ_le_succ (Nat.le_trans h2 h3)

theorem of_work {x : Nat} (hx : x < 2 ^ 256) : Ev (fun k => work_Of.f k (toNum x)) (toNum (wk x)) := by
  unfold work_Of.f work_Of.tree wk
  refine Ev.bind one_ev (Ev.bind (add_num hx (by omega)) ?_)
  by_cases h1 : x + 1 = 2 ^ 256
  · rw [decide_eq_true (show 2 ^ 256 ≤ x + 1 by omega), if_pos h1]
    exact Ev.bind one_ev (Ev.const fun k => rfl)
  · rw [decide_eq_false (show ¬ 2 ^ 256 ≤ x + 1 by omega), if_neg h1]
    simp only [cond_false]
    refine Ev.bind (not_num hx) (Ev.bind (quo_ev (by omega) (by omega)) (Ev.bind one_ev ?_))
    have hq := Nat.div_le_self (2 ^ 256 - 1 - x) (x + 1)
    have hq2 : (2 ^ 256 - 1 - x) / (x + 1) < 2 ^ 256 := Nat.lt_of_le_of_lt hq (by omega)
    refine Ev.bind (add_num hq2 (by omega)) ?_
    by_cases h0 : x = 0
    · subst h0
      rw [if_pos rfl, decide_eq_true (by simp)]
      exact Ev.bind most_ev (Ev.const fun k => rfl)
    · rw [if_neg h0]
      rw [decide_eq_false (Nat.not_le.2 (Nat.lt_of_le_of_lt (Nat.succ_le_succ hq) (by omega)))]
      exact Ev.const fun k => rfl

theorem work_alive : Ev (fun k => trailheadlaw04_alive.f k) true := Ev.of 300 fun m => by kernel_rfl

end Go.Proofs.Ytjciljaojcekeaa.Sx
