/- WholeProducts: the statement on data alone, and the row. -/
import Derived.Test.YtjciljaojcekeaaQ18
import Derived.Test.YtjciljaojcekeaaRWholeProducts
namespace Go.Proofs.Ytjciljaojcekeaa.Sx
open Go
set_option linter.unusedVariables false
set_option linter.unusedSimpArgs false
set_option maxRecDepth 100000

theorem wholeProducts_pure : WholeProductsPure := by
  intro a ha b hb
  have hb' := wf_u64.1 hb
  refine Ev.get ?_
  unfold trailheadlaw02_WholeProducts.f trailheadlaw02_WholeProducts.tree
  refine Ev.bind whole_alive ?_
  simp only [Bool.not_true, cond_false]
  obtain ⟨x, hx, rfl⟩ := num_of ha
  obtain ⟨y, rfl⟩ : ∃ y : Nat, b = (y : Int) := ⟨b.toNat, by omega⟩
  have hy : y < 2 ^ 64 := by omega
  refine Ev.bind (times_ev hx hy) (Ev.bind (reftimes_ev hx hy) ?_)
  by_cases h0 : y = 0
  · subst h0
    refine Ev.bind (v := (toNum 0, 0)) (Ev.const fun k => rfl) (Ev.const fun k => ?_)
    rw [decide_eq_true rfl]
    simp [zeroNum]
  · refine Ev.bind (over_ev hx hy (by omega)) ?_
    have b1 : ((y : Int) == 0) = false := by simp; omega
    rw [decide_eq_true rfl, b1]
    simp only [Bool.not_true, cond_false, beq_self_eq_true]
    have hd := Nat.div_mul_le_self x y
    have hm := Nat.mod_lt x (show 0 < y by omega)
    refine Ev.bind (times_ev (Nat.lt_of_le_of_lt (Nat.div_le_self _ _) hx) hy) ?_
    refine Ev.bind (of_ev (x % y) (by omega)) ?_
    refine Ev.bind (add_num (Nat.lt_of_le_of_lt hd hx) (by omega)) (Ev.const fun k => ?_)
    have e1 : x / y * y + x % y = x := by have := Nat.div_add_mod x y; rw [Nat.mul_comm] at this; exact this
    rw [e1, decide_eq_false (show ¬ 2 ^ 256 ≤ x / y * y by omega), decide_eq_false (show ¬ 2 ^ 256 ≤ x by omega), decide_eq_true rfl, decide_eq_true (show ((x % y : Nat) : Int) < (y : Int) by omega)]
    rfl

theorem wholeProducts_said : Rows.WholeProductsSaid := wholeProducts_row wholeProducts_pure

end Go.Proofs.Ytjciljaojcekeaa.Sx
