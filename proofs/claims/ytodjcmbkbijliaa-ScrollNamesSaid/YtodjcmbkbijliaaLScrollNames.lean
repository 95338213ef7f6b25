/- ScrollNames: the statement on data. -/
import Derived.Test.YtodjcmbkbijliaaQ43
import Derived.Test.YtodjcmbkbijliaaRScrollNames
namespace Go.Proofs.Ytodjcmbkbijliaa.Sy
open Go
set_option linter.unusedVariables false
set_option linter.unusedSimpArgs false

theorem names_cmp (k : Nat) (x1 : Int) (l : List (List Int)) (y : List Int × Bool) (hl : l.length ≤ 1000) : ∀ (d n i : Nat), i + d = l.length → d < n →
    trailheadlaw05_ScrollNames.l0.f k x1 false (l.length : Int) l y l n (i : Int) = some (.inl (l.length : Int)) := by
  intro d
  induction d with
  | zero =>
    intro n i hi hn
    obtain ⟨n, rfl⟩ : ∃ q, n = q + 1 := ⟨n - 1, by omega⟩
    unfold trailheadlaw05_ScrollNames.l0.f trailheadlaw05_ScrollNames.l0.go trailheadlaw05_ScrollNames.l0.step
    have : i = l.length := by omega
    subst this
    rw [df (Int.lt_irrefl _)]
    rfl
  | succ d ih =>
    intro n i hi hn
    obtain ⟨n, rfl⟩ : ∃ q, n = q + 1 := ⟨n - 1, by omega⟩
    have := ih n (i + 1) (by omega) (by omega)
    unfold trailheadlaw05_ScrollNames.l0.f at this ⊢
    unfold trailheadlaw05_ScrollNames.l0.go trailheadlaw05_ScrollNames.l0.step
    rw [dt (by omega), dt (by omega), dt (by omega), dt rfl, add_id (by omega) (by omega)]
    simp only [cond_true, cond_false, Bool.not_true]
    have e : (i : Int) + 1 = ((i + 1 : Nat) : Int) := by omega
    rw [e, this]

theorem scrollNames_pure : ScrollNamesPure := by
  intro l hg _ more hm
  refine ⟨200, ?_⟩
  have hk : 150 < 200 := by omega
  generalize 200 = k at hk
  unfold trailheadlaw05_ScrollNames.f trailheadlaw05_ScrollNames.tree
  rw [alive05 k (by omega)]
  simp only [Option.bind_some, Bool.not_true, cond_false]
  by_cases hl : (l.length : Int) > 60
  · rw [dt hl]; rfl
  rw [df hl, cond_false]
  by_cases h1 : more < 1
  · rw [dt h1]; rfl
  rw [df h1, cond_false]
  by_cases h2 : more > 60
  · rw [dt h2]; rfl
  rw [df h2, cond_false]
  have h32 : ∀ h ∈ l, List.length h = 32 := fun h hh => (hg h hh).1
  have hb : byteL l.flatten := by
    intro y hy
    obtain ⟨h, hh, hy⟩ := List.mem_flatten.1 hy
    exact wf_u8.1 ((hg h hh).2 y hy)
  rw [names0_eq k l h32 (by omega) (by omega)]
  simp only [Option.bind_some]
  rw [text_eq k _ hb]
  simp only [Option.bind_some]
  have e1 : scroll_On.f k l.flatten = some (l.flatten, false) := rfl
  rw [e1]
  have hlen := flatten_length l h32
  simp only [Option.bind_some]
  rw [enames_take k l.length l.flatten (by omega) (by omega) (by omega)]
  simp only [Option.bind_some]
  rw [chunks_flatten l h32]
  have e2 : ((l.length : Int) != (l.length : Int)) = false := by simp
  rw [e2, ← hlen, List.drop_length]
  simp only [cond_false]
  have e3 : scroll_Eye_Done.f k (([] : List Int), false) = some true := rfl
  rw [e3]
  simp only [Option.bind_some, Bool.not_true, cond_false]
  have := names_cmp k more l (l.flatten, false) (by omega) l.length k 0 (by omega) (by omega)
  rw [show ((0 : Nat) : Int) = 0 from rfl] at this
  rw [this]
  simp only [Option.bind_some, sel]
  rw [add_id (by omega) (by omega)]
  have e4 : (l.length : Int) + more = ((l.length + more.toNat : Nat) : Int) := by omega
  rw [e4, enames_bad k _ l.flatten (by omega) (by omega) (by omega)]
  simp only [Option.bind_some]
  have e5 : ((([] : List (List Int)).length : Int) == 0) = true := rfl
  rw [e5]
  simp only [cond_true]
  have e6 : scroll_Eye_Bad.f k (([] : List Int), true) = some true := rfl
  rw [e6]
  simp only [Option.bind_some, cond_true]
  have e7 : scroll_On.f k [] = some ([], false) := rfl
  rw [e7]
  simp only [Option.bind_some]
  rw [sub_id (by omega) (by omega), enames_none k _ _ (by omega) (by omega)]
  rfl

theorem scrollNames_said : Rows.ScrollNamesSaid := scrollNames_row scrollNames_pure

end Go.Proofs.Ytodjcmbkbijliaa.Sy
