/- CompactSmall: the statement on data alone, and the row. -/
import Derived.Test.YtjciljaojcekeaaQ22
import Derived.Test.YtjciljaojcekeaaRCompactSmall
namespace Go.Proofs.Ytjciljaojcekeaa.Sx
open Go
set_option linter.unusedVariables false
set_option linter.unusedSimpArgs false
set_option maxRecDepth 100000

theorem compactSmall_pure : CompactSmallPure := by
  intro w hw s hs
  have hw' := wf_i64.1 hw
  have hs' := wf_i64.1 hs
  refine Ev.get ?_
  unfold trailheadlaw03_CompactSmall.f trailheadlaw03_CompactSmall.tree
  refine Ev.bind compact_alive ?_
  simp only [Bool.not_true, cond_false]
  by_cases h1 : w < 0
  · rw [decide_eq_true h1]; exact Ev.const fun _ => rfl
  rw [decide_eq_false h1]
  simp only [cond_false]
  by_cases h2 : w > 8388607
  · rw [decide_eq_true h2]; exact Ev.const fun _ => rfl
  rw [decide_eq_false h2]
  simp only [cond_false]
  by_cases h3 : s < 0
  · rw [decide_eq_true h3]; exact Ev.const fun _ => rfl
  rw [decide_eq_false h3]
  simp only [cond_false]
  by_cases h4 : s > 28
  · rw [decide_eq_true h4]; exact Ev.const fun _ => rfl
  rw [decide_eq_false h4]
  simp only [cond_false]
  obtain ⟨n, rfl⟩ : ∃ n : Nat, w = (n : Int) := ⟨w.toNat, by omega⟩
  obtain ⟨m, rfl⟩ : ∃ m : Nat, s = (m : Int) := ⟨s.toNat, by omega⟩
  have e8 : mulI .i64 8 (m : Int) = ((8 * m : Nat) : Int) := mulII 8 m (by omega)
  rw [wrap_u64 (n := (n : Int)) (by omega) (by omega), ofNum n (by omega), e8]
  have hlt : n * 2 ^ (8 * m) < 2 ^ 256 := by
    have h5 := Nat.mul_lt_mul_of_lt_of_le (show n < 2 ^ 23 by omega) (Nat.pow_le_pow_right (show 0 < 2 by omega) (show 8 * m ≤ 224 by omega)) (Nat.two_pow_pos 224)
    rw [← Nat.pow_add] at h5
    exact Nat.lt_of_lt_of_le h5 (Nat.pow_le_pow_right (by omega) (by omega))
  refine Ev.bind (moveup_num n (8 * m)) (Ev.bind (enc_ev hlt) (Ev.bind (decA _) (Ev.const fun k => ?_)))
  rw [dAll_enc hlt, cut_small (by omega), decide_eq_true rfl]; rfl

theorem compactSmall_said : Rows.CompactSmallSaid := compactSmall_row compactSmall_pure

end Go.Proofs.Ytjciljaojcekeaa.Sx
