/- ScrollNames: its statement on data alone, and the step from there to the row. Printed by rows.py. -/
import Derived.Test.YtodjcmbkbijliaaSy21
import Derived.Test.YtodjcmbkbijliaaH
import Derived.Test.YtodjcmbkbijliaaWA
namespace Go.Proofs.Ytodjcmbkbijliaa.Sy
open Go Go.Proofs Go.ChangeShapes Go.WideShapes Go.ChangeAt Go.RowKit
set_option maxRecDepth 100000
set_option linter.unusedVariables false
set_option linter.unusedSimpArgs false
def ScrollNamesPure : Prop := ∀ (x0 : List (List Int)), (∀ x ∈ x0, goodT (.arr .u8 32) x) → x0.length ≤ maxLen → ∀ (x1 : Int), goodS (.data (.int .i64)) x1 → ∃ k, trailheadlaw05_ScrollNames.f k x1 x0 = some true
theorem scrollNames_lifted (pure : ScrollNamesPure) (os : Os) (started : os.Started) (H : Type) (en : TypeId × Value → H) :
    ReturnsInHanded {} Try.checked os 4 .any (Rows.scrollNamesSpec.pre6 en Try.prog Try.f4 Rows.scrollNamesRow.domain false) (Rows.scrollNamesSpec.post en Try.prog Try.f4 false true false false) := by
  refine returnsInHanded_of_change_sized (C := Try.checked) own0 started (by kernel_rfl) Try.func4
    (ChangeSpec.witness6 (enc := en) (C := Try.checked) false ⟨#[], #[.slice none 0 0, .int .i64 0], []⟩ 8 (by kernel_rfl) (by kernel_rfl) (by kernel_rfl) (by kernel_rfl)) ?_
  intro W base args ds gs before hval0 hW hcnd hsz0 _
  have hval : ∀ (j : Nat) t v, (Try.f4.params)[j]? = some t → args[j]? = some v → Value.okWide Try.prog W .any base t v := hval0
  have hW1 : DataW.Whole en Try.prog Try.f4.params.toList [] false W args.toList ds gs before := hW
  obtain ⟨p, q, hA0, hV, hpq, hfz, hnd⟩ := hW1
  have hA : DataW.TrodAll en Try.prog W 0 (fun _ => true) true [28, 3] args.toList ds p := hA0
  obtain ⟨hgs, _⟩ := trodVars_none hV
  subst hgs
  obtain ⟨v0, vs0, d0, ds0, p0, q0, ha0, hd0, _, h0, hA1⟩ := trodAll_cons2 hA
  obtain ⟨v1, vs1, d1, ds1, p1, q1, ha1, hd1, _, h1, hA2⟩ := trodAll_cons2 hA1
  obtain ⟨e1, e2⟩ := trodAll_nil2 hA2
  subst e1 e2
  subst ha1 hd1
  have hargs : args = #[v0, v1] := by apply Array.toList_inj.1; rw [ha0]
  subst hd0 hargs
  have hsz1 : (DataW.weightsEach Try.prog [28, 3] [d0, d1]).all (· ≤ reachBytes) = true := hsz0
  have hsz : ∀ (j : Nat) (t : TypeId) (d : DataW H), ([28, 3] : List TypeId)[j]? = some t → [d0, d1][j]? = some d → ∀ m ∈ d.weights Try.prog t, m ≤ reachBytes := fun j t d ht hd m hm => of_decide_eq_true (List.all_eq_true.1 hsz1 m (DataW.weights_mem_each ht hd m hm))
  obtain ⟨x0, g0, l0, r0, s0⟩ := open_rows (n := 4) (e := 39) (ty := (.arr .u8 32)) (by kernel_rfl) (by kernel_rfl) (by kernel_rfl) (by decide) (hval 0 28 v0 rfl rfl) h0 (hsz 0 28 d0 rfl rfl)
  obtain ⟨x1, g1, s1⟩ := open_arg (n := 4) (s := (.data (.int .i64))) (by kernel_rfl) (hval 1 3 v1 rfl rfl) h1 (hsz 1 3 d1 rfl rfl)
  obtain ⟨k, hk⟩ := pure x0 g0 l0 x1 g1
  refine (law_call (trailheadlaw05_ScrollNames.ok k) (d := ((), x1, ())) (e := (x0, ())) hk rfl rfl (W := W) (fun i => ([v0] : List Value).getD i .nilFunc) [v0, v1] (RO_cons r0 (RO_nil _ _)) ⟨s0 _ _ rfl, ⟨s1 _, trivial⟩⟩).mono fun ev W1 hh => ?_
  exact ⟨_, hh.1, law_post (rt := 4) laid0 (by kernel_rfl) (by kernel_rfl) (by kernel_rfl) rfl hW rfl rfl rfl hh.2⟩
theorem scrollNames_closed : joinedFacts Try.prog 4 Try.f4 Rows.scrollNamesSpec Rows.scrollNamesRow = true :=
  joined_of heard0 enter0 lifts0 laid0 rowed0 (by kernel_rfl) (by kernel_rfl) (by kernel_rfl) rfl
    ⟨by as_aux_lemma => kernel_rfl, by as_aux_lemma => kernel_rfl, by as_aux_lemma => kernel_rfl, by as_aux_lemma => kernel_rfl, by as_aux_lemma => kernel_rfl, by as_aux_lemma => kernel_rfl, by as_aux_lemma => kernel_rfl, by as_aux_lemma => kernel_rfl, by as_aux_lemma => kernel_rfl, make0, by kernel_rfl, by as_aux_lemma => kernel_rfl⟩
    ⟨by as_aux_lemma => kernel_rfl, by as_aux_lemma => kernel_rfl, by as_aux_lemma => kernel_rfl, by as_aux_lemma => kernel_rfl, by as_aux_lemma => kernel_rfl, by as_aux_lemma => kernel_rfl, by as_aux_lemma => kernel_rfl, by as_aux_lemma => kernel_rfl, by as_aux_lemma => kernel_rfl, by as_aux_lemma => kernel_rfl, by as_aux_lemma => kernel_rfl, by as_aux_lemma => kernel_rfl, by as_aux_lemma => kernel_rfl, by as_aux_lemma => kernel_rfl⟩
theorem scrollNames_row (pure : ScrollNamesPure) : Rows.ScrollNamesSaid :=
  OpenClaim.holds_of_wide 4 Try.f4 rfl rfl rfl rfl rfl rfl rfl ⟨rfl, rfl, rfl, rfl, rfl⟩ rfl rfl rfl rfl rfl (by kernel_rfl) Try.func4 scrollNames_closed
    (of_decide_eq_true (by kernel_rfl)) (by unfold Func.isWrapper; rw [if_neg (by decide +kernel)]; exact ⟨rfl, rfl⟩)
    (fun os started H en _ => scrollNames_lifted pure os started H en)
end Go.Proofs.Ytodjcmbkbijliaa.Sy
