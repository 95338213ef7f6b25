/- ScrollParts: the statement on data. -/
import Derived.Test.YtodjcmbkbijliaaQ44
import Derived.Test.YtodjcmbkbijliaaRScrollParts
namespace Go.Proofs.Ytodjcmbkbijliaa.Sy
open Go
set_option linter.unusedVariables false
set_option linter.unusedSimpArgs false

theorem put1_go {X : Type} (K : List Int → Int → List Int → Option X) (k : Nat) (x2 x3 : List Int) (x11 : Int) (y0 : List It) : ∀ (n : Nat) (a : List Int) (i : Int) (b : List Int),
    trailheadlaw05_put_v1.l0.go K k x2 x3 x11 y0 n a i b = trailheadlaw05_put.l0.go K k x2 x3 x11 y0 n a i b
  | 0, _, _, _ => rfl
  | n + 1, a, i, b => by
    have e : trailheadlaw05_put_v1.l0.go K k x2 x3 x11 y0 n = trailheadlaw05_put.l0.go K k x2 x3 x11 y0 n := by
      funext a i b; exact put1_go K k x2 x3 x11 y0 n a i b
    show trailheadlaw05_put_v1.l0.step K (trailheadlaw05_put_v1.l0.go K k x2 x3 x11 y0 n) k x2 x3 x11 y0 a i b = trailheadlaw05_put.l0.step K (trailheadlaw05_put.l0.go K k x2 x3 x11 y0 n) k x2 x3 x11 y0 a i b
    rw [e]; rfl

theorem put1_eq (k : Nat) (l : List It) : trailheadlaw05_put_v1.f k l = trailheadlaw05_put.f k l := by
  unfold trailheadlaw05_put_v1.f trailheadlaw05_put_v1.tree trailheadlaw05_put.f trailheadlaw05_put.tree trailheadlaw05_put_v1.l0.f trailheadlaw05_put.l0.f
  rw [put1_go]

theorem scrollParts_pure : ScrollPartsPure := by
  intro a ga la b gb lb
  refine ⟨a.length + b.length + 200, ?_⟩
  have hk : a.length + b.length + 100 < a.length + b.length + 200 := by omega
  generalize a.length + b.length + 200 = k at hk
  have ml : maxLen = 9223372036854775807 := rfl
  have rb : reachBytes = 140737488351232 := rfl
  have Ga : ∀ x ∈ a, goodI x := fun x hx => goodI_of (ga x hx)
  have Gb : ∀ x ∈ b, goodI x := fun x hx => goodI_of (gb x hx)
  have Ta : ∀ x ∈ a, x.2.2.2.2.length ≤ 140737488351232 := fun x hx => by
    have := (ga x hx).2.2.2.2.2
    omega
  have Tb : ∀ x ∈ b, x.2.2.2.2.length ≤ 140737488351232 := fun x hx => by
    have := (gb x hx).2.2.2.2.2
    omega
  unfold trailheadlaw05_ScrollParts.f trailheadlaw05_ScrollParts.tree
  rw [alive05 k (by omega)]
  simp only [Option.bind_some, Bool.not_true, cond_false]
  obtain ⟨c, hc, c1⟩ := great_eq k a (by omega) (by omega) Ta
  rw [hc]
  simp only [Option.bind_some]
  cases c
  · obtain ⟨d, hd, d1⟩ := great_eq k b (by omega) (by omega) Tb
    rw [cond_false, hd]
    simp only [Option.bind_some]
    cases d
    · obtain ⟨c2, c3⟩ := c1 rfl
      obtain ⟨d2, d3⟩ := d1 rfl
      rw [cond_false, add_id (by omega) (by omega)]
      by_cases h40 : (a.length : Int) + (b.length : Int) > 40
      · rw [dt h40]; rfl
      · rw [df h40, cond_false, putB_eq k a (by omega) (by omega) (by omega) Ga (by omega)]
        simp only [Option.bind_some]
        rw [putB_eq k b (by omega) (by omega) (by omega) Gb (by omega)]
        simp only [Option.bind_some, List.nil_append]
        rw [fits_ok (by omega), fits_ok (by omega)]
        rw [put1_eq, putB_eq k (a ++ b) (by omega) (by rw [List.length_append]; omega) (by rw [List.length_append]; omega) (fun x hx => by
          rcases List.mem_append.1 hx with h | h
          · exact Ga x h
          · exact Gb x h) (by rw [textSum_append]; omega)]
        have h1 := itemsB_length Ga
        have h2 := itemsB_length Gb
        simp only [cond_true, Option.bind_some]
        rw [fits_ok (by omega), itemsB_append, dt rfl]
        rfl
    · rfl
  · rfl

theorem scrollParts_said : Rows.ScrollPartsSaid := scrollParts_row scrollParts_pure

end Go.Proofs.Ytodjcmbkbijliaa.Sy
