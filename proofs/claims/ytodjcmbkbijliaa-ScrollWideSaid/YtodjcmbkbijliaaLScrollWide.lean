/- ScrollWide: the statement on data. -/
import Derived.Test.YtodjcmbkbijliaaQ42
import Derived.Test.YtodjcmbkbijliaaRScrollWide
namespace Go.Proofs.Ytodjcmbkbijliaa.Sy
open Go
set_option linter.unusedVariables false
set_option linter.unusedSimpArgs false

theorem scrollWide_pure : ScrollWidePure := by
  intro n hn s hs
  refine ⟨10, ?_⟩
  obtain ⟨hb, _⟩ : byteL s ∧ s.length ≤ reachBytes := hs
  have hn' : -9223372036854775808 ≤ n ∧ n ≤ 9223372036854775807 := by
    have h : (Lit.int .i64 n).wf = true := hn
    simp only [Lit.wf, Bool.and_eq_true, decide_eq_true_eq] at h
    exact h
  have hk : 8 < 10 := by omega
  generalize 10 = k at hk
  unfold trailheadlaw05_ScrollWide.f trailheadlaw05_ScrollWide.tree
  rw [alive05 k hk]
  simp only [Option.bind_some, Bool.not_true, cond_false]
  by_cases hl : (s.length : Int) > 100
  · rw [dt hl]; rfl
  rw [df hl, cond_false, put0_eq k 8 [n] hk (by simp; omega) (by simp), nums1, cl_8]
  simp only [Option.bind_some]
  rw [raw_eq k _ _ (by simp; omega)]
  simp only [Option.bind_some]
  have hbb := byteL_append (num_byteL 8 n) hb
  rw [text_eq k _ hbb]
  simp only [Option.bind_some]
  have e1 : scroll_On.f k (num 8 n ++ s) = some (num 8 n ++ s, false) := rfl
  rw [e1]
  simp only [Option.bind_some]
  rw [ewide_take k _ (by omega) hbb (by simp)]
  have e2 : (num 8 n ++ s).take 8 = num 8 n := by rw [List.take_append_of_le_length (by simp), List.take_of_length_le (by simp)]
  have e3 : (num 8 n ++ s).drop 8 = s := by rw [List.drop_append_of_le_length (by simp), List.drop_of_length_le (by simp)]; simp
  rw [e2, e3, val_num]
  by_cases h0 : n < 0
  · have : n % 256 ^ 8 = n + 18446744073709551616 := by omega
    rw [this, if_neg (by omega), dt h0]
    rfl
  · have : n % 256 ^ 8 = n := by omega
    rw [this, if_pos (by omega), df h0]
    simp only [Option.bind_some, cond_false]
    rw [beqt rfl]
    have e4 : scroll_Eye_Left.f k (s, false) = some (s.length : Int) := rfl
    have e5 : scroll_Eye_Bad.f k (s, false) = some false := rfl
    rw [cond_true, e5]
    simp only [Option.bind_some, Bool.not_false, cond_true]
    rw [e4]
    simp only [Option.bind_some]
    rw [beqt rfl]

theorem scrollWide_said : Rows.ScrollWideSaid := scrollWide_row scrollWide_pure

end Go.Proofs.Ytodjcmbkbijliaa.Sy
