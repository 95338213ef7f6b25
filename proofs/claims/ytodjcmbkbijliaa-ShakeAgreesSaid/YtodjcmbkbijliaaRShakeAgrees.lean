/- ShakeAgrees: its statement on data alone, and the step from there to the row. Printed by rows.py. -/
import Derived.Test.YtodjcmbkbijliaaSy21
import Derived.Test.YtodjcmbkbijliaaH
import Derived.Test.YtodjcmbkbijliaaWB
namespace Go.Proofs.Ytodjcmbkbijliaa.Sy
open Go Go.Proofs Go.ChangeShapes Go.WideShapes Go.ChangeAt Go.RowKit
set_option maxRecDepth 100000
set_option linter.unusedVariables false
set_option linter.unusedSimpArgs false
def ShakeAgreesPure : Prop := ∀ (x0 : (Int × (Int × (Int × Int)))), goodS (.data (.pair (.int .i64) (.pair (.int .i64) (.pair (.int .i64) (.int .i64))))) x0 → ∀ (x1 : (Int × (Int × (Int × Int)))), goodS (.data (.pair (.int .i64) (.pair (.int .i64) (.pair (.int .i64) (.int .i64))))) x1 → ∀ (x2 : List Bool), (∀ x ∈ x2, goodT .bool x) → x2.length ≤ maxLen → ∀ (x3 : Int), goodS (.data (.int .i64)) x3 → ∃ k, trailheadlaw21_ShakeAgrees.f k x0 x1 x3 x2 = some true
theorem shakeAgrees_lifted (pure : ShakeAgreesPure) (os : Os) (started : os.Started) (H : Type) (en : TypeId × Value → H) :
    ReturnsInHanded {} Try.checked os 9 .any (Rows.shakeAgreesSpec.pre6 en Try.prog Try.f9 Rows.shakeAgreesRow.domain false) (Rows.shakeAgreesSpec.post en Try.prog Try.f9 false true false false) := by
  refine returnsInHanded_of_change_sized (C := Try.checked) own0 started (by kernel_rfl) Try.func9
    (ChangeSpec.witness6 (enc := en) (C := Try.checked) false ⟨#[], #[.agg #[.int .i64 0, .int .i64 0, .int .i64 0, .int .i64 0], .agg #[.int .i64 0, .int .i64 0, .int .i64 0, .int .i64 0], .slice none 0 0, .int .i64 0], []⟩ 8 (by kernel_rfl) (by kernel_rfl) (by kernel_rfl) (by kernel_rfl)) ?_
  intro W base args ds gs before hval0 hW hcnd hsz0 _
  have hval : ∀ (j : Nat) t v, (Try.f9.params)[j]? = some t → args[j]? = some v → Value.okWide Try.prog W .any base t v := hval0
  have hW1 : DataW.Whole en Try.prog Try.f9.params.toList [] false W args.toList ds gs before := hW
  obtain ⟨p, q, hA0, hV, hpq, hfz, hnd⟩ := hW1
  have hA : DataW.TrodAll en Try.prog W 0 (fun _ => true) true [46, 46, 65, 3] args.toList ds p := hA0
  obtain ⟨hgs, _⟩ := trodVars_none hV
  subst hgs
  obtain ⟨v0, vs0, d0, ds0, p0, q0, ha0, hd0, _, h0, hA1⟩ := trodAll_cons2 hA
  obtain ⟨v1, vs1, d1, ds1, p1, q1, ha1, hd1, _, h1, hA2⟩ := trodAll_cons2 hA1
  obtain ⟨v2, vs2, d2, ds2, p2, q2, ha2, hd2, _, h2, hA3⟩ := trodAll_cons2 hA2
  obtain ⟨v3, vs3, d3, ds3, p3, q3, ha3, hd3, _, h3, hA4⟩ := trodAll_cons2 hA3
  obtain ⟨e1, e2⟩ := trodAll_nil2 hA4
  subst e1 e2
  subst ha3 hd3
  subst ha2 hd2
  subst ha1 hd1
  have hargs : args = #[v0, v1, v2, v3] := by apply Array.toList_inj.1; rw [ha0]
  subst hd0 hargs
  have hsz1 : (DataW.weightsEach Try.prog [46, 46, 65, 3] [d0, d1, d2, d3]).all (· ≤ reachBytes) = true := hsz0
  have hsz : ∀ (j : Nat) (t : TypeId) (d : DataW H), ([46, 46, 65, 3] : List TypeId)[j]? = some t → [d0, d1, d2, d3][j]? = some d → ∀ m ∈ d.weights Try.prog t, m ≤ reachBytes := fun j t d ht hd m hm => of_decide_eq_true (List.all_eq_true.1 hsz1 m (DataW.weights_mem_each ht hd m hm))
  obtain ⟨x0, g0, s0⟩ := open_arg (n := 4) (s := (.data (.pair (.int .i64) (.pair (.int .i64) (.pair (.int .i64) (.int .i64)))))) (by kernel_rfl) (hval 0 46 v0 rfl rfl) h0 (hsz 0 46 d0 rfl rfl)
  obtain ⟨x1, g1, s1⟩ := open_arg (n := 4) (s := (.data (.pair (.int .i64) (.pair (.int .i64) (.pair (.int .i64) (.int .i64)))))) (by kernel_rfl) (hval 1 46 v1 rfl rfl) h1 (hsz 1 46 d1 rfl rfl)
  obtain ⟨x2, g2, l2, r2, s2⟩ := open_rows (n := 4) (e := 4) (ty := .bool) (by kernel_rfl) (by kernel_rfl) (by kernel_rfl) (by decide) (hval 2 65 v2 rfl rfl) h2 (hsz 2 65 d2 rfl rfl)
  obtain ⟨x3, g3, s3⟩ := open_arg (n := 4) (s := (.data (.int .i64))) (by kernel_rfl) (hval 3 3 v3 rfl rfl) h3 (hsz 3 3 d3 rfl rfl)
  obtain ⟨k, hk⟩ := pure x0 g0 x1 g1 x2 g2 l2 x3 g3
  refine (law_call (trailheadlaw21_ShakeAgrees.ok k) (d := (x0, x1, (), x3, ())) (e := (x2, ())) hk rfl rfl (W := W) (fun i => ([v2] : List Value).getD i .nilFunc) [v0, v1, v2, v3] (RO_cons r2 (RO_nil _ _)) ⟨s0 _, ⟨s1 _, ⟨s2 _ _ rfl, ⟨s3 _, trivial⟩⟩⟩⟩).mono fun ev W1 hh => ?_
  exact ⟨_, hh.1, law_post (rt := 4) laid0 (by kernel_rfl) (by kernel_rfl) (by kernel_rfl) rfl hW rfl rfl rfl hh.2⟩
theorem shakeAgrees_closed : joinedFacts Try.prog 9 Try.f9 Rows.shakeAgreesSpec Rows.shakeAgreesRow = true :=
  joined_of heard0 enter0 lifts0 laid0 rowed0 (by kernel_rfl) (by kernel_rfl) (by kernel_rfl) rfl
    ⟨by as_aux_lemma => kernel_rfl, by as_aux_lemma => kernel_rfl, by as_aux_lemma => kernel_rfl, by as_aux_lemma => kernel_rfl, by as_aux_lemma => kernel_rfl, by as_aux_lemma => kernel_rfl, by as_aux_lemma => kernel_rfl, by as_aux_lemma => kernel_rfl, by as_aux_lemma => kernel_rfl, make0, by kernel_rfl, by as_aux_lemma => kernel_rfl⟩
    ⟨by as_aux_lemma => kernel_rfl, by as_aux_lemma => kernel_rfl, by as_aux_lemma => kernel_rfl, by as_aux_lemma => kernel_rfl, by as_aux_lemma => kernel_rfl, by as_aux_lemma => kernel_rfl, by as_aux_lemma => kernel_rfl, by as_aux_lemma => kernel_rfl, by as_aux_lemma => kernel_rfl, by as_aux_lemma => kernel_rfl, by as_aux_lemma => kernel_rfl, by as_aux_lemma => kernel_rfl, by as_aux_lemma => kernel_rfl, by as_aux_lemma => kernel_rfl⟩
theorem shakeAgrees_row (pure : ShakeAgreesPure) : Rows.ShakeAgreesSaid :=
  OpenClaim.holds_of_wide 9 Try.f9 rfl rfl rfl rfl rfl rfl rfl ⟨rfl, rfl, rfl, rfl, rfl⟩ rfl rfl rfl rfl rfl (by kernel_rfl) Try.func9 shakeAgrees_closed
    (of_decide_eq_true (by kernel_rfl)) (by unfold Func.isWrapper; rw [if_neg (by decide +kernel)]; exact ⟨rfl, rfl⟩)
    (fun os started H en _ => shakeAgrees_lifted pure os started H en)
end Go.Proofs.Ytodjcmbkbijliaa.Sy
