/- ScrollPuts: its statement on data alone, and the step from there to the row. Printed by rows.py. -/
import Derived.Test.YtodjcmbkbijliaaSy21
import Derived.Test.YtodjcmbkbijliaaH
import Derived.Test.YtodjcmbkbijliaaWA
namespace Go.Proofs.Ytodjcmbkbijliaa.Sy
open Go Go.Proofs Go.ChangeShapes Go.WideShapes Go.ChangeAt Go.RowKit
set_option maxRecDepth 100000
set_option linter.unusedVariables false
set_option linter.unusedSimpArgs false
def ScrollPutsPure : Prop := ∀ (x0 : List (Int × (Int × (Int × ((List Int) × (List Int)))))), (∀ x ∈ x0, goodT (.pair (.int .i64) (.pair (.int .i64) (.pair (.int .i64) (.pair (.arr .u8 32) .str)))) x) → x0.length ≤ maxLen → ∃ k, trailheadlaw05_ScrollPuts.f k x0 = some true
theorem scrollPuts_lifted (pure : ScrollPutsPure) (os : Os) (started : os.Started) (H : Type) (en : TypeId × Value → H) :
    ReturnsInHanded {} Try.checked os 8 .any (Rows.scrollPutsSpec.pre6 en Try.prog Try.f8 Rows.scrollPutsRow.domain false) (Rows.scrollPutsSpec.post en Try.prog Try.f8 false true false false) := by
  refine returnsInHanded_of_change_sized (C := Try.checked) own0 started (by kernel_rfl) Try.func8
    (ChangeSpec.witness6 (enc := en) (C := Try.checked) false ⟨#[], #[.slice none 0 0], []⟩ 8 (by kernel_rfl) (by kernel_rfl) (by kernel_rfl) (by kernel_rfl)) ?_
  intro W base args ds gs before hval0 hW hcnd hsz0 _
  have hval : ∀ (j : Nat) t v, (Try.f8.params)[j]? = some t → args[j]? = some v → Value.okWide Try.prog W .any base t v := hval0
  have hW1 : DataW.Whole en Try.prog Try.f8.params.toList [] false W args.toList ds gs before := hW
  obtain ⟨p, q, hA0, hV, hpq, hfz, hnd⟩ := hW1
  have hA : DataW.TrodAll en Try.prog W 0 (fun _ => true) true [22] args.toList ds p := hA0
  obtain ⟨hgs, _⟩ := trodVars_none hV
  subst hgs
  obtain ⟨v0, vs0, d0, ds0, p0, q0, ha0, hd0, _, h0, hA1⟩ := trodAll_cons2 hA
  obtain ⟨e1, e2⟩ := trodAll_nil2 hA1
  subst e1 e2
  have hargs : args = #[v0] := by apply Array.toList_inj.1; rw [ha0]
  subst hd0 hargs
  have hsz1 : (DataW.weightsEach Try.prog [22] [d0]).all (· ≤ reachBytes) = true := hsz0
  have hsz : ∀ (j : Nat) (t : TypeId) (d : DataW H), ([22] : List TypeId)[j]? = some t → [d0][j]? = some d → ∀ m ∈ d.weights Try.prog t, m ≤ reachBytes := fun j t d ht hd m hm => of_decide_eq_true (List.all_eq_true.1 hsz1 m (DataW.weights_mem_each ht hd m hm))
  obtain ⟨x0, g0, l0, r0, s0⟩ := open_rows (n := 4) (e := 59) (ty := (.pair (.int .i64) (.pair (.int .i64) (.pair (.int .i64) (.pair (.arr .u8 32) .str))))) (by kernel_rfl) (by kernel_rfl) (by kernel_rfl) (by decide) (hval 0 22 v0 rfl rfl) h0 (hsz 0 22 d0 rfl rfl)
  obtain ⟨k, hk⟩ := pure x0 g0 l0
  refine (law_call (trailheadlaw05_ScrollPuts.ok k) (d := ((), ())) (e := (x0, ())) hk rfl rfl (W := W) (fun i => ([v0] : List Value).getD i .nilFunc) [v0] (RO_cons r0 (RO_nil _ _)) ⟨s0 _ _ rfl, trivial⟩).mono fun ev W1 hh => ?_
  exact ⟨_, hh.1, law_post (rt := 4) laid0 (by kernel_rfl) (by kernel_rfl) (by kernel_rfl) rfl hW rfl rfl rfl hh.2⟩
theorem scrollPuts_closed : joinedFacts Try.prog 8 Try.f8 Rows.scrollPutsSpec Rows.scrollPutsRow = true :=
  joined_of heard0 enter0 lifts0 laid0 rowed0 (by kernel_rfl) (by kernel_rfl) (by kernel_rfl) rfl
    ⟨by as_aux_lemma => kernel_rfl, by as_aux_lemma => kernel_rfl, by as_aux_lemma => kernel_rfl, by as_aux_lemma => kernel_rfl, by as_aux_lemma => kernel_rfl, by as_aux_lemma => kernel_rfl, by as_aux_lemma => kernel_rfl, by as_aux_lemma => kernel_rfl, by as_aux_lemma => kernel_rfl, make0, by kernel_rfl, by as_aux_lemma => kernel_rfl⟩
    ⟨by as_aux_lemma => kernel_rfl, by as_aux_lemma => kernel_rfl, by as_aux_lemma => kernel_rfl, by as_aux_lemma => kernel_rfl, by as_aux_lemma => kernel_rfl, by as_aux_lemma => kernel_rfl, by as_aux_lemma => kernel_rfl, by as_aux_lemma => kernel_rfl, by as_aux_lemma => kernel_rfl, by as_aux_lemma => kernel_rfl, by as_aux_lemma => kernel_rfl, by as_aux_lemma => kernel_rfl, by as_aux_lemma => kernel_rfl, by as_aux_lemma => kernel_rfl⟩
theorem scrollPuts_row (pure : ScrollPutsPure) : Rows.ScrollPutsSaid :=
  OpenClaim.holds_of_wide 8 Try.f8 rfl rfl rfl rfl rfl rfl rfl ⟨rfl, rfl, rfl, rfl, rfl⟩ rfl rfl rfl rfl rfl (by kernel_rfl) Try.func8 scrollPuts_closed
    (of_decide_eq_true (by kernel_rfl)) (by unfold Func.isWrapper; rw [if_neg (by decide +kernel)]; exact ⟨rfl, rfl⟩)
    (fun os started H en _ => scrollPuts_lifted pure os started H en)
end Go.Proofs.Ytodjcmbkbijliaa.Sy
