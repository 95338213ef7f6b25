/- ScrollCounts: its statement on data alone, and the step from there to the row. Printed by rows.py. -/
import Derived.Test.YtodjcmbkbijliaaSy21
import Derived.Test.YtodjcmbkbijliaaH
import Derived.Test.YtodjcmbkbijliaaWA
namespace Go.Proofs.Ytodjcmbkbijliaa.Sy
open Go Go.Proofs Go.ChangeShapes Go.WideShapes Go.ChangeAt Go.RowKit
set_option maxRecDepth 100000
set_option linter.unusedVariables false
set_option linter.unusedSimpArgs false
def ScrollCountsPure : Prop := ∀ (x0 : (List Int)), goodS (.data .str) x0 → ∀ (x1 : Int), goodS (.data (.int .i64)) x1 → ∀ (x2 : Int), goodS (.data (.int .i64)) x2 → ∃ k, trailheadlaw05_ScrollCounts.f k x0 x1 x2 = some true
theorem scrollCounts_lifted (pure : ScrollCountsPure) (os : Os) (started : os.Started) (H : Type) (en : TypeId × Value → H) :
    ReturnsInHanded {} Try.checked os 7 .any (Rows.scrollCountsSpec.pre6 en Try.prog Try.f7 Rows.scrollCountsRow.domain false) (Rows.scrollCountsSpec.post en Try.prog Try.f7 false true false false) := by
  refine returnsInHanded_of_change_sized (C := Try.checked) own0 started (by kernel_rfl) Try.func7
    (ChangeSpec.witness6 (enc := en) (C := Try.checked) false ⟨#[], #[.string ⟨#[]⟩, .int .i64 0, .int .i64 0], []⟩ 8 (by kernel_rfl) (by kernel_rfl) (by kernel_rfl) (by kernel_rfl)) ?_
  intro W base args ds gs before hval0 hW hcnd hsz0 _
  have hval : ∀ (j : Nat) t v, (Try.f7.params)[j]? = some t → args[j]? = some v → Value.okWide Try.prog W .any base t v := hval0
  have hW1 : DataW.Whole en Try.prog Try.f7.params.toList [] false W args.toList ds gs before := hW
  obtain ⟨p, q, hA0, hV, hpq, hfz, hnd⟩ := hW1
  have hA : DataW.TrodAll en Try.prog W 0 (fun _ => true) true [9, 3, 3] args.toList ds p := hA0
  obtain ⟨hgs, _⟩ := trodVars_none hV
  subst hgs
  obtain ⟨v0, vs0, d0, ds0, p0, q0, ha0, hd0, _, h0, hA1⟩ := trodAll_cons2 hA
  obtain ⟨v1, vs1, d1, ds1, p1, q1, ha1, hd1, _, h1, hA2⟩ := trodAll_cons2 hA1
  obtain ⟨v2, vs2, d2, ds2, p2, q2, ha2, hd2, _, h2, hA3⟩ := trodAll_cons2 hA2
  obtain ⟨e1, e2⟩ := trodAll_nil2 hA3
  subst e1 e2
  subst ha2 hd2
  subst ha1 hd1
  have hargs : args = #[v0, v1, v2] := by apply Array.toList_inj.1; rw [ha0]
  subst hd0 hargs
  have hsz1 : (DataW.weightsEach Try.prog [9, 3, 3] [d0, d1, d2]).all (· ≤ reachBytes) = true := hsz0
  have hsz : ∀ (j : Nat) (t : TypeId) (d : DataW H), ([9, 3, 3] : List TypeId)[j]? = some t → [d0, d1, d2][j]? = some d → ∀ m ∈ d.weights Try.prog t, m ≤ reachBytes := fun j t d ht hd m hm => of_decide_eq_true (List.all_eq_true.1 hsz1 m (DataW.weights_mem_each ht hd m hm))
  obtain ⟨x0, g0, s0⟩ := open_arg (n := 4) (s := (.data .str)) (by kernel_rfl) (hval 0 9 v0 rfl rfl) h0 (hsz 0 9 d0 rfl rfl)
  obtain ⟨x1, g1, s1⟩ := open_arg (n := 4) (s := (.data (.int .i64))) (by kernel_rfl) (hval 1 3 v1 rfl rfl) h1 (hsz 1 3 d1 rfl rfl)
  obtain ⟨x2, g2, s2⟩ := open_arg (n := 4) (s := (.data (.int .i64))) (by kernel_rfl) (hval 2 3 v2 rfl rfl) h2 (hsz 2 3 d2 rfl rfl)
  obtain ⟨k, hk⟩ := pure x0 g0 x1 g1 x2 g2
  refine (law_call (trailheadlaw05_ScrollCounts.ok k) (d := (x0, x1, x2, ())) (e := (())) hk rfl rfl (W := W) (fun i => ([] : List Value).getD i .nilFunc) [v0, v1, v2] (RO_nil _ _) ⟨s0 _, ⟨s1 _, ⟨s2 _, trivial⟩⟩⟩).mono fun ev W1 hh => ?_
  exact ⟨_, hh.1, law_post (rt := 4) laid0 (by kernel_rfl) (by kernel_rfl) (by kernel_rfl) rfl hW rfl rfl rfl hh.2⟩
theorem scrollCounts_closed : joinedFacts Try.prog 7 Try.f7 Rows.scrollCountsSpec Rows.scrollCountsRow = true :=
  joined_of heard0 enter0 lifts0 laid0 rowed0 (by kernel_rfl) (by kernel_rfl) (by kernel_rfl) rfl
    ⟨by as_aux_lemma => kernel_rfl, by as_aux_lemma => kernel_rfl, by as_aux_lemma => kernel_rfl, by as_aux_lemma => kernel_rfl, by as_aux_lemma => kernel_rfl, by as_aux_lemma => kernel_rfl, by as_aux_lemma => kernel_rfl, by as_aux_lemma => kernel_rfl, by as_aux_lemma => kernel_rfl, make0, by kernel_rfl, by as_aux_lemma => kernel_rfl⟩
    ⟨by as_aux_lemma => kernel_rfl, by as_aux_lemma => kernel_rfl, by as_aux_lemma => kernel_rfl, by as_aux_lemma => kernel_rfl, by as_aux_lemma => kernel_rfl, by as_aux_lemma => kernel_rfl, by as_aux_lemma => kernel_rfl, by as_aux_lemma => kernel_rfl, by as_aux_lemma => kernel_rfl, by as_aux_lemma => kernel_rfl, by as_aux_lemma => kernel_rfl, by as_aux_lemma => kernel_rfl, by as_aux_lemma => kernel_rfl, by as_aux_lemma => kernel_rfl⟩
theorem scrollCounts_row (pure : ScrollCountsPure) : Rows.ScrollCountsSaid :=
  OpenClaim.holds_of_wide 7 Try.f7 rfl rfl rfl rfl rfl rfl rfl ⟨rfl, rfl, rfl, rfl, rfl⟩ rfl rfl rfl rfl rfl (by kernel_rfl) Try.func7 scrollCounts_closed
    (of_decide_eq_true (by kernel_rfl)) (by unfold Func.isWrapper; rw [if_neg (by decide +kernel)]; exact ⟨rfl, rfl⟩)
    (fun os started H en _ => scrollCounts_lifted pure os started H en)
end Go.Proofs.Ytodjcmbkbijliaa.Sy
