/- ShakeDoes: its statement on data alone, and the step from there to the row. Printed by plainrows.py. -/
import Derived.Test.YtodjcmbkbijliaaSy21
import Derived.Test.YtodjcmbkbijliaaH
import Derived.Test.YtodjcmbkbijliaaWC
namespace Go.Proofs.Ytodjcmbkbijliaa.Sy
open Go Go.Proofs Go.ChangeShapes Go.WideShapes Go.ChangeAt Go.RowKit
set_option maxRecDepth 100000
set_option linter.unusedVariables false
set_option linter.unusedSimpArgs false
def ShakeDoesPure : Prop := ∀ (x0 : (Int × (Int × (Int × Int)))), goodS (.data (.pair (.int .i64) (.pair (.int .i64) (.pair (.int .i64) (.int .i64))))) x0 → ∀ (x1 : Bool), goodS (.data .bool) x1 → ∀ (x2 : Int), goodS (.data (.int .i64)) x2 → ∀ (x3 : List T_4272cd), (∀ x ∈ x3, goodT (.pair (.int .i64) (.pair (.pair (.int .i64) (.pair (.int .i64) (.pair (.int .i64) (.pair (.int .i64) (.pair (.int .i64) (.pair .opq (.pair (.arr .u8 32) .opq))))))) (.pair (.int .i64) (.int .i64)))) x) → x3.length ≤ maxLen → ∃ k, trailheadlaw21_ShakeDoes.f k x0 x1 x2 x3 = some true
theorem shakeDoes_lifted (pure : ShakeDoesPure) (os : Os) (started : os.Started) (H : Type) (en : TypeId × Value → H) :
    ReturnsInHanded {} Try.checked os 11 .any (Rows.shakeDoesSpec.pre6 en Try.prog Try.f11 Rows.shakeDoesRow.domain false) (Rows.shakeDoesSpec.post en Try.prog Try.f11 false true false false) := by
  refine returnsInHanded_of_change_sized (C := Try.checked) own0 started (by kernel_rfl) Try.func11
    (ChangeSpec.witness6 (enc := en) (C := Try.checked) false ⟨#[], #[.agg #[.int .i64 0, .int .i64 0, .int .i64 0, .int .i64 0], .bool false, .int .i64 0, .slice none 0 0], []⟩ 8 (by kernel_rfl) (by kernel_rfl) (by kernel_rfl) (by kernel_rfl)) ?_
  intro W base args ds gs before hval0 hW hcnd hsz0 _
  have hval : ∀ (j : Nat) t v, (Try.f11.params)[j]? = some t → args[j]? = some v → Value.okWide Try.prog W .any base t v := hval0
  have hW1 : DataW.Whole en Try.prog Try.f11.params.toList [] false W args.toList ds gs before := hW
  obtain ⟨p, q, hA0, hV, hpq, hfz, hnd⟩ := hW1
  have hA : DataW.TrodAll en Try.prog W 0 (fun _ => true) true [46, 4, 3, 74] args.toList ds p := hA0
  obtain ⟨hgs, _⟩ := trodVars_none hV
  subst hgs
  obtain ⟨v0, vs0, d0, ds0, p0, q0, ha0, hd0, _, h0, hA1⟩ := trodAll_cons2 hA
  obtain ⟨v1, vs1, d1, ds1, p1, q1, ha1, hd1, _, h1, hA2⟩ := trodAll_cons2 hA1
  obtain ⟨v2, vs2, d2, ds2, p2, q2, ha2, hd2, _, h2, hA3⟩ := trodAll_cons2 hA2
  obtain ⟨v3, vs3, d3, ds3, p3, q3, ha3, hd3, _, h3, hA4⟩ := trodAll_cons2 hA3
  obtain ⟨e1, e2⟩ := trodAll_nil2 hA4
  subst e1 e2
  subst ha3 hd3
  subst ha2 hd2
  subst ha1 hd1
  have hargs : args = #[v0, v1, v2, v3] := by apply Array.toList_inj.1; rw [ha0]
  subst hd0 hargs
  have hsz1 : (DataW.weightsEach Try.prog [46, 4, 3, 74] [d0, d1, d2, d3]).all (· ≤ reachBytes) = true := hsz0
  have hsz : ∀ (j : Nat) (t : TypeId) (d : DataW H), ([46, 4, 3, 74] : List TypeId)[j]? = some t → [d0, d1, d2, d3][j]? = some d → ∀ m ∈ d.weights Try.prog t, m ≤ reachBytes := fun j t d ht hd m hm => of_decide_eq_true (List.all_eq_true.1 hsz1 m (DataW.weights_mem_each ht hd m hm))
  obtain ⟨x0, g0, s0⟩ := open_arg (n := 4) (s := (.data (.pair (.int .i64) (.pair (.int .i64) (.pair (.int .i64) (.int .i64)))))) (by kernel_rfl) (hval 0 46 v0 rfl rfl) h0 (hsz 0 46 d0 rfl rfl)
  obtain ⟨x1, g1, s1⟩ := open_arg (n := 4) (s := (.data .bool)) (by kernel_rfl) (hval 1 4 v1 rfl rfl) h1 (hsz 1 4 d1 rfl rfl)
  obtain ⟨x2, g2, s2⟩ := open_arg (n := 4) (s := (.data (.int .i64))) (by kernel_rfl) (hval 2 3 v2 rfl rfl) h2 (hsz 2 3 d2 rfl rfl)
  obtain ⟨x3, g3, l3, r3, s3⟩ := open_rows (n := 4) (e := 76) (ty := (.pair (.int .i64) (.pair (.pair (.int .i64) (.pair (.int .i64) (.pair (.int .i64) (.pair (.int .i64) (.pair (.int .i64) (.pair .opq (.pair (.arr .u8 32) .opq))))))) (.pair (.int .i64) (.int .i64))))) (by kernel_rfl) (by kernel_rfl) (by kernel_rfl) (by decide) (hval 3 74 v3 rfl rfl) h3 (hsz 3 74 d3 rfl rfl)
  obtain ⟨k, hk⟩ := pure x0 g0 x1 g1 x2 g2 x3 g3 l3
  refine (law_call (trailheadlaw21_ShakeDoes.ok k) (d := (x0, x1, x2, (), ())) (e := (x3, ())) hk rfl rfl (W := W) (fun i => ([v3] : List Value).getD i .nilFunc) [v0, v1, v2, v3] (RO_cons r3 (RO_nil _ _)) ⟨s0 _, ⟨s1 _, ⟨s2 _, ⟨s3 _ _ rfl, trivial⟩⟩⟩⟩).mono fun ev W1 hh => ?_
  exact ⟨_, hh.1, law_post (rt := 4) laid0 (by kernel_rfl) (by kernel_rfl) (by kernel_rfl) rfl hW rfl rfl rfl hh.2⟩
theorem shakeDoes_closed : joinedFacts Try.prog 11 Try.f11 Rows.shakeDoesSpec Rows.shakeDoesRow = true :=
  joined_of heard0 enter0 lifts0 laid0 rowed0 (by kernel_rfl) (by kernel_rfl) (by kernel_rfl) rfl
    ⟨by as_aux_lemma => kernel_rfl, by as_aux_lemma => kernel_rfl, by as_aux_lemma => kernel_rfl, by as_aux_lemma => kernel_rfl, by as_aux_lemma => kernel_rfl, by as_aux_lemma => kernel_rfl, by as_aux_lemma => kernel_rfl, by as_aux_lemma => kernel_rfl, by as_aux_lemma => kernel_rfl, make0, by kernel_rfl, by as_aux_lemma => kernel_rfl⟩
    ⟨by as_aux_lemma => kernel_rfl, by as_aux_lemma => kernel_rfl, by as_aux_lemma => kernel_rfl, by as_aux_lemma => kernel_rfl, by as_aux_lemma => kernel_rfl, by as_aux_lemma => kernel_rfl, by as_aux_lemma => kernel_rfl, by as_aux_lemma => kernel_rfl, by as_aux_lemma => kernel_rfl, by as_aux_lemma => kernel_rfl, by as_aux_lemma => kernel_rfl, by as_aux_lemma => kernel_rfl, by as_aux_lemma => kernel_rfl, by as_aux_lemma => kernel_rfl⟩
theorem shakeDoes_row (pure : ShakeDoesPure) : Rows.ShakeDoesSaid :=
  OpenClaim.holds_of_wide 11 Try.f11 rfl rfl rfl rfl rfl rfl rfl ⟨rfl, rfl, rfl, rfl, rfl⟩ rfl rfl rfl rfl rfl (by kernel_rfl) Try.func11 shakeDoes_closed
    (of_decide_eq_true (by kernel_rfl)) (by unfold Func.isWrapper; rw [if_neg (by decide +kernel)]; exact ⟨rfl, rfl⟩)
    (fun os started H en _ => shakeDoes_lifted pure os started H en)
end Go.Proofs.Ytodjcmbkbijliaa.Sy
