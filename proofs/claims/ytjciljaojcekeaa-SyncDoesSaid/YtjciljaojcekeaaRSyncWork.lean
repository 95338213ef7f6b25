/- SyncWork: its statement on data alone, and the step from there to the row. Printed by rows.py. -/
import Derived.Test.YtjciljaojcekeaaSx21
import Derived.Test.YtjciljaojcekeaaH
import Derived.Test.YtjciljaojcekeaaWC
namespace Go.Proofs.Ytjciljaojcekeaa.Sx
open Go Go.Proofs Go.ChangeShapes Go.WideShapes Go.ChangeAt Go.RowKit
set_option maxRecDepth 100000
set_option linter.unusedVariables false
set_option linter.unusedSimpArgs false
def SyncWorkPure : Prop := ∀ (x0 : List (List Int)), (∀ x ∈ x0, goodT (.arr .u64 4) x) → x0.length ≤ maxLen → ∀ (x1 : Int), goodS (.data (.int .i64)) x1 → ∀ (x2 : Int), goodS (.data (.int .i64)) x2 → ∃ k, trailheadlaw22_SyncWork.f k x1 x2 x0 = some true
theorem syncWork_lifted (pure : SyncWorkPure) (os : Os) (started : os.Started) (H : Type) (en : TypeId × Value → H) :
    ReturnsInHanded {} Try.checked os 3 .any (Rows.syncWorkSpec.pre6 en Try.prog Try.f3 Rows.syncWorkRow.domain false) (Rows.syncWorkSpec.post en Try.prog Try.f3 false true false false) := by
  refine returnsInHanded_of_change (C := Try.checked) own0 started (by kernel_rfl) Try.func3
    (ChangeSpec.witness6 (enc := en) (C := Try.checked) false ⟨#[], #[.slice none 0 0, .int .i64 0, .int .i64 0], []⟩ 8 (by kernel_rfl) (by kernel_rfl) (by kernel_rfl) (by kernel_rfl)) ?_
  intro W base args ds gs before hval0 hW hcnd _
  have hval : ∀ (j : Nat) t v, (Try.f3.params)[j]? = some t → args[j]? = some v → Value.okWide Try.prog W .any base t v := hval0
  have hW1 : DataW.Whole en Try.prog Try.f3.params.toList [] false W args.toList ds gs before := hW
  obtain ⟨p, q, hA0, hV, hpq, hfz, hnd⟩ := hW1
  have hA : DataW.TrodAll en Try.prog W 0 (fun _ => true) true [22, 3, 3] args.toList ds p := hA0
  obtain ⟨hgs, _⟩ := trodVars_none hV
  subst hgs
  obtain ⟨v0, vs0, d0, ds0, p0, q0, ha0, hd0, _, h0, hA1⟩ := trodAll_cons2 hA
  obtain ⟨v1, vs1, d1, ds1, p1, q1, ha1, hd1, _, h1, hA2⟩ := trodAll_cons2 hA1
  obtain ⟨v2, vs2, d2, ds2, p2, q2, ha2, hd2, _, h2, hA3⟩ := trodAll_cons2 hA2
  obtain ⟨e1, e2⟩ := trodAll_nil2 hA3
  subst e1 e2
  subst ha2 hd2
  subst ha1 hd1
  have hargs : args = #[v0, v1, v2] := by apply Array.toList_inj.1; rw [ha0]
  subst hd0 hargs
  obtain ⟨x0, g0, l0, r0, s0⟩ := open_rows (n := 4) (e := 27) (ty := (.arr .u64 4)) (by kernel_rfl) (by kernel_rfl) (by kernel_rfl) (by decide) (hval 0 22 v0 rfl rfl) h0
  obtain ⟨x1, g1, s1⟩ := open_arg (n := 4) (s := (.data (.int .i64))) (by kernel_rfl) (hval 1 3 v1 rfl rfl) h1
  obtain ⟨x2, g2, s2⟩ := open_arg (n := 4) (s := (.data (.int .i64))) (by kernel_rfl) (hval 2 3 v2 rfl rfl) h2
  obtain ⟨k, hk⟩ := pure x0 g0 l0 x1 g1 x2 g2
  refine (law_call (trailheadlaw22_SyncWork.ok k) (d := ((), x1, x2, ())) (e := (x0, ())) hk rfl rfl (W := W) (fun i => ([v0] : List Value).getD i .nilFunc) [v0, v1, v2] (RO_cons r0 (RO_nil _ _)) ⟨s0 _ _ rfl, ⟨s1 _, ⟨s2 _, trivial⟩⟩⟩).mono fun ev W1 hh => ?_
  exact ⟨_, hh.1, law_post (rt := 4) laid0 (by kernel_rfl) (by kernel_rfl) (by kernel_rfl) rfl hW rfl rfl rfl hh.2⟩
theorem syncWork_closed : joinedFacts Try.prog 3 Try.f3 Rows.syncWorkSpec Rows.syncWorkRow = true :=
  joined_of heard0 enter0 lifts0 laid0 rowed0 (by kernel_rfl) (by kernel_rfl) (by kernel_rfl) rfl
    ⟨by as_aux_lemma => kernel_rfl, by as_aux_lemma => kernel_rfl, by as_aux_lemma => kernel_rfl, by as_aux_lemma => kernel_rfl, by as_aux_lemma => kernel_rfl, by as_aux_lemma => kernel_rfl, by as_aux_lemma => kernel_rfl, by as_aux_lemma => kernel_rfl, by as_aux_lemma => kernel_rfl, make0, by kernel_rfl, by as_aux_lemma => kernel_rfl⟩
    ⟨by as_aux_lemma => kernel_rfl, by as_aux_lemma => kernel_rfl, by as_aux_lemma => kernel_rfl, by as_aux_lemma => kernel_rfl, by as_aux_lemma => kernel_rfl, by as_aux_lemma => kernel_rfl, by as_aux_lemma => kernel_rfl, by as_aux_lemma => kernel_rfl, by as_aux_lemma => kernel_rfl, by as_aux_lemma => kernel_rfl, by as_aux_lemma => kernel_rfl, by as_aux_lemma => kernel_rfl, by as_aux_lemma => kernel_rfl, by as_aux_lemma => kernel_rfl⟩
theorem syncWork_row (pure : SyncWorkPure) : Rows.SyncWorkSaid :=
  OpenClaim.holds_of_wide 3 Try.f3 rfl rfl rfl rfl rfl rfl rfl ⟨rfl, rfl, rfl, rfl, rfl⟩ rfl rfl rfl rfl rfl (by kernel_rfl) Try.func3 syncWork_closed
    (of_decide_eq_true (by kernel_rfl)) (by unfold Func.isWrapper; rw [if_neg (by decide +kernel)]; exact ⟨rfl, rfl⟩)
    (fun os started H en _ => syncWork_lifted pure os started H en)
end Go.Proofs.Ytjciljaojcekeaa.Sx
