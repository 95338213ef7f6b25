/- Each law of this group: its statement on data alone, and the step from there to the row. Printed by rows.py. -/
import Derived.Test.YtjciljaojcekeaaSx21
import Derived.Test.YtjciljaojcekeaaH
import Derived.Test.YtjciljaojcekeaaWA
namespace Go.Proofs.Ytjciljaojcekeaa.Sx
open Go Go.Proofs Go.ChangeShapes Go.WideShapes Go.ChangeAt Go.RowKit
set_option maxRecDepth 100000
set_option linter.unusedVariables false
set_option linter.unusedSimpArgs false
def WholeOrderPure : Prop := ∀ (x0 : (List Int)), goodS (.data (.arr .u64 4)) x0 → ∀ (x1 : (List Int)), goodS (.data (.arr .u64 4)) x1 → ∃ k, trailheadlaw02_WholeOrder.f k x0 x1 = some true
theorem wholeOrder_lifted (pure : WholeOrderPure) (os : Os) (started : os.Started) (H : Type) (en : TypeId × Value → H) :
    ReturnsInHanded {} Try.checked os 6 .any (Rows.wholeOrderSpec.pre6 en Try.prog Try.f6 Rows.wholeOrderRow.domain false) (Rows.wholeOrderSpec.post en Try.prog Try.f6 false true false false) := by
  refine returnsInHanded_of_change (C := Try.checked) own0 started (by kernel_rfl) Try.func6
    (ChangeSpec.witness6 (enc := en) (C := Try.checked) false ⟨#[], #[.agg #[.int .u64 0, .int .u64 0, .int .u64 0, .int .u64 0], .agg #[.int .u64 0, .int .u64 0, .int .u64 0, .int .u64 0]], []⟩ 8 (by kernel_rfl) (by kernel_rfl) (by kernel_rfl) (by kernel_rfl)) ?_
  intro W base args ds gs before hval0 hW hcnd _
  have hval : ∀ (j : Nat) t v, (Try.f6.params)[j]? = some t → args[j]? = some v → Value.okWide Try.prog W .any base t v := hval0
  have hW1 : DataW.Whole en Try.prog Try.f6.params.toList [] false W args.toList ds gs before := hW
  obtain ⟨p, q, hA0, hV, hpq, hfz, hnd⟩ := hW1
  have hA : DataW.TrodAll en Try.prog W 0 (fun _ => true) true [27, 27] args.toList ds p := hA0
  obtain ⟨hgs, _⟩ := trodVars_none hV
  subst hgs
  obtain ⟨v0, vs0, d0, ds0, p0, q0, ha0, hd0, _, h0, hA1⟩ := trodAll_cons2 hA
  obtain ⟨v1, vs1, d1, ds1, p1, q1, ha1, hd1, _, h1, hA2⟩ := trodAll_cons2 hA1
  obtain ⟨e1, e2⟩ := trodAll_nil2 hA2
  subst e1 e2
  subst ha1 hd1
  have hargs : args = #[v0, v1] := by apply Array.toList_inj.1; rw [ha0]
  subst hd0 hargs
  obtain ⟨x0, g0, s0⟩ := open_arg (n := 4) (s := (.data (.arr .u64 4))) (by kernel_rfl) (hval 0 27 v0 rfl rfl) h0
  obtain ⟨x1, g1, s1⟩ := open_arg (n := 4) (s := (.data (.arr .u64 4))) (by kernel_rfl) (hval 1 27 v1 rfl rfl) h1
  obtain ⟨k, hk⟩ := pure x0 g0 x1 g1
  refine (law_call (trailheadlaw02_WholeOrder.ok k) (d := (x0, x1, ())) (e := (())) hk rfl rfl (W := W) (fun i => ([] : List Value).getD i .nilFunc) [v0, v1] (RO_nil _ _) ⟨s0 _, ⟨s1 _, trivial⟩⟩).mono fun ev W1 hh => ?_
  exact ⟨_, hh.1, law_post (rt := 4) laid0 (by kernel_rfl) (by kernel_rfl) (by kernel_rfl) rfl hW rfl rfl rfl hh.2⟩
theorem wholeOrder_closed : joinedFacts Try.prog 6 Try.f6 Rows.wholeOrderSpec Rows.wholeOrderRow = true :=
  joined_of heard0 enter0 lifts0 laid0 rowed0 (by kernel_rfl) (by kernel_rfl) (by kernel_rfl) rfl
    ⟨by as_aux_lemma => kernel_rfl, by as_aux_lemma => kernel_rfl, by as_aux_lemma => kernel_rfl, by as_aux_lemma => kernel_rfl, by as_aux_lemma => kernel_rfl, by as_aux_lemma => kernel_rfl, by as_aux_lemma => kernel_rfl, by as_aux_lemma => kernel_rfl, by as_aux_lemma => kernel_rfl, make0, by kernel_rfl, by as_aux_lemma => kernel_rfl⟩
    ⟨by as_aux_lemma => kernel_rfl, by as_aux_lemma => kernel_rfl, by as_aux_lemma => kernel_rfl, by as_aux_lemma => kernel_rfl, by as_aux_lemma => kernel_rfl, by as_aux_lemma => kernel_rfl, by as_aux_lemma => kernel_rfl, by as_aux_lemma => kernel_rfl, by as_aux_lemma => kernel_rfl, by as_aux_lemma => kernel_rfl, by as_aux_lemma => kernel_rfl, by as_aux_lemma => kernel_rfl, by as_aux_lemma => kernel_rfl, by as_aux_lemma => kernel_rfl⟩
theorem wholeOrder_row (pure : WholeOrderPure) : Rows.WholeOrderSaid :=
  OpenClaim.holds_of_wide 6 Try.f6 rfl rfl rfl rfl rfl rfl rfl ⟨rfl, rfl, rfl, rfl, rfl⟩ rfl rfl rfl rfl rfl (by kernel_rfl) Try.func6 wholeOrder_closed
    (of_decide_eq_true (by kernel_rfl)) (by unfold Func.isWrapper; rw [if_neg (by decide +kernel)]; exact ⟨rfl, rfl⟩)
    (fun os started H en _ => wholeOrder_lifted pure os started H en)
def WholeHashesPure : Prop := ∀ (x0 : (List Int)), goodS (.data (.arr .u8 32)) x0 → ∀ (x1 : (List Int)), goodS (.data (.arr .u64 4)) x1 → ∃ k, trailheadlaw02_WholeHashes.f k x0 x1 = some true
theorem wholeHashes_lifted (pure : WholeHashesPure) (os : Os) (started : os.Started) (H : Type) (en : TypeId × Value → H) :
    ReturnsInHanded {} Try.checked os 7 .any (Rows.wholeHashesSpec.pre6 en Try.prog Try.f7 Rows.wholeHashesRow.domain false) (Rows.wholeHashesSpec.post en Try.prog Try.f7 false true false false) := by
  refine returnsInHanded_of_change (C := Try.checked) own0 started (by kernel_rfl) Try.func7
    (ChangeSpec.witness6 (enc := en) (C := Try.checked) false ⟨#[], #[.agg #[.int .u8 0, .int .u8 0, .int .u8 0, .int .u8 0, .int .u8 0, .int .u8 0, .int .u8 0, .int .u8 0, .int .u8 0, .int .u8 0, .int .u8 0, .int .u8 0, .int .u8 0, .int .u8 0, .int .u8 0, .int .u8 0, .int .u8 0, .int .u8 0, .int .u8 0, .int .u8 0, .int .u8 0, .int .u8 0, .int .u8 0, .int .u8 0, .int .u8 0, .int .u8 0, .int .u8 0, .int .u8 0, .int .u8 0, .int .u8 0, .int .u8 0, .int .u8 0], .agg #[.int .u64 0, .int .u64 0, .int .u64 0, .int .u64 0]], []⟩ 8 (by kernel_rfl) (by kernel_rfl) (by kernel_rfl) (by kernel_rfl)) ?_
  intro W base args ds gs before hval0 hW hcnd _
  have hval : ∀ (j : Nat) t v, (Try.f7.params)[j]? = some t → args[j]? = some v → Value.okWide Try.prog W .any base t v := hval0
  have hW1 : DataW.Whole en Try.prog Try.f7.params.toList [] false W args.toList ds gs before := hW
  obtain ⟨p, q, hA0, hV, hpq, hfz, hnd⟩ := hW1
  have hA : DataW.TrodAll en Try.prog W 0 (fun _ => true) true [46, 27] args.toList ds p := hA0
  obtain ⟨hgs, _⟩ := trodVars_none hV
  subst hgs
  obtain ⟨v0, vs0, d0, ds0, p0, q0, ha0, hd0, _, h0, hA1⟩ := trodAll_cons2 hA
  obtain ⟨v1, vs1, d1, ds1, p1, q1, ha1, hd1, _, h1, hA2⟩ := trodAll_cons2 hA1
  obtain ⟨e1, e2⟩ := trodAll_nil2 hA2
  subst e1 e2
  subst ha1 hd1
  have hargs : args = #[v0, v1] := by apply Array.toList_inj.1; rw [ha0]
  subst hd0 hargs
  obtain ⟨x0, g0, s0⟩ := open_arg (n := 4) (s := (.data (.arr .u8 32))) (by kernel_rfl) (hval 0 46 v0 rfl rfl) h0
  obtain ⟨x1, g1, s1⟩ := open_arg (n := 4) (s := (.data (.arr .u64 4))) (by kernel_rfl) (hval 1 27 v1 rfl rfl) h1
  obtain ⟨k, hk⟩ := pure x0 g0 x1 g1
  refine (law_call (trailheadlaw02_WholeHashes.ok k) (d := (x0, x1, ())) (e := (())) hk rfl rfl (W := W) (fun i => ([] : List Value).getD i .nilFunc) [v0, v1] (RO_nil _ _) ⟨s0 _, ⟨s1 _, trivial⟩⟩).mono fun ev W1 hh => ?_
  exact ⟨_, hh.1, law_post (rt := 4) laid0 (by kernel_rfl) (by kernel_rfl) (by kernel_rfl) rfl hW rfl rfl rfl hh.2⟩
theorem wholeHashes_closed : joinedFacts Try.prog 7 Try.f7 Rows.wholeHashesSpec Rows.wholeHashesRow = true :=
  joined_of heard0 enter0 lifts0 laid0 rowed0 (by kernel_rfl) (by kernel_rfl) (by kernel_rfl) rfl
    ⟨by as_aux_lemma => kernel_rfl, by as_aux_lemma => kernel_rfl, by as_aux_lemma => kernel_rfl, by as_aux_lemma => kernel_rfl, by as_aux_lemma => kernel_rfl, by as_aux_lemma => kernel_rfl, by as_aux_lemma => kernel_rfl, by as_aux_lemma => kernel_rfl, by as_aux_lemma => kernel_rfl, make0, by kernel_rfl, by as_aux_lemma => kernel_rfl⟩
    ⟨by as_aux_lemma => kernel_rfl, by as_aux_lemma => kernel_rfl, by as_aux_lemma => kernel_rfl, by as_aux_lemma => kernel_rfl, by as_aux_lemma => kernel_rfl, by as_aux_lemma => kernel_rfl, by as_aux_lemma => kernel_rfl, by as_aux_lemma => kernel_rfl, by as_aux_lemma => kernel_rfl, by as_aux_lemma => kernel_rfl, by as_aux_lemma => kernel_rfl, by as_aux_lemma => kernel_rfl, by as_aux_lemma => kernel_rfl, by as_aux_lemma => kernel_rfl⟩
theorem wholeHashes_row (pure : WholeHashesPure) : Rows.WholeHashesSaid :=
  OpenClaim.holds_of_wide 7 Try.f7 rfl rfl rfl rfl rfl rfl rfl ⟨rfl, rfl, rfl, rfl, rfl⟩ rfl rfl rfl rfl rfl (by kernel_rfl) Try.func7 wholeHashes_closed
    (of_decide_eq_true (by kernel_rfl)) (by unfold Func.isWrapper; rw [if_neg (by decide +kernel)]; exact ⟨rfl, rfl⟩)
    (fun os started H en _ => wholeHashes_lifted pure os started H en)
def WholeSumsPure : Prop := ∀ (x0 : (List Int)), goodS (.data (.arr .u64 4)) x0 → ∀ (x1 : (List Int)), goodS (.data (.arr .u64 4)) x1 → ∀ (x2 : (List Int)), goodS (.data (.arr .u64 4)) x2 → ∃ k, trailheadlaw02_WholeSums.f k x0 x1 x2 = some true
theorem wholeSums_lifted (pure : WholeSumsPure) (os : Os) (started : os.Started) (H : Type) (en : TypeId × Value → H) :
    ReturnsInHanded {} Try.checked os 11 .any (Rows.wholeSumsSpec.pre6 en Try.prog Try.f11 Rows.wholeSumsRow.domain false) (Rows.wholeSumsSpec.post en Try.prog Try.f11 false true false false) := by
  refine returnsInHanded_of_change (C := Try.checked) own0 started (by kernel_rfl) Try.func11
    (ChangeSpec.witness6 (enc := en) (C := Try.checked) false ⟨#[], #[.agg #[.int .u64 0, .int .u64 0, .int .u64 0, .int .u64 0], .agg #[.int .u64 0, .int .u64 0, .int .u64 0, .int .u64 0], .agg #[.int .u64 0, .int .u64 0, .int .u64 0, .int .u64 0]], []⟩ 8 (by kernel_rfl) (by kernel_rfl) (by kernel_rfl) (by kernel_rfl)) ?_
  intro W base args ds gs before hval0 hW hcnd _
  have hval : ∀ (j : Nat) t v, (Try.f11.params)[j]? = some t → args[j]? = some v → Value.okWide Try.prog W .any base t v := hval0
  have hW1 : DataW.Whole en Try.prog Try.f11.params.toList [] false W args.toList ds gs before := hW
  obtain ⟨p, q, hA0, hV, hpq, hfz, hnd⟩ := hW1
  have hA : DataW.TrodAll en Try.prog W 0 (fun _ => true) true [27, 27, 27] args.toList ds p := hA0
  obtain ⟨hgs, _⟩ := trodVars_none hV
  subst hgs
  obtain ⟨v0, vs0, d0, ds0, p0, q0, ha0, hd0, _, h0, hA1⟩ := trodAll_cons2 hA
  obtain ⟨v1, vs1, d1, ds1, p1, q1, ha1, hd1, _, h1, hA2⟩ := trodAll_cons2 hA1
  obtain ⟨v2, vs2, d2, ds2, p2, q2, ha2, hd2, _, h2, hA3⟩ := trodAll_cons2 hA2
  obtain ⟨e1, e2⟩ := trodAll_nil2 hA3
  subst e1 e2
  subst ha2 hd2
  subst ha1 hd1
  have hargs : args = #[v0, v1, v2] := by apply Array.toList_inj.1; rw [ha0]
  subst hd0 hargs
  obtain ⟨x0, g0, s0⟩ := open_arg (n := 4) (s := (.data (.arr .u64 4))) (by kernel_rfl) (hval 0 27 v0 rfl rfl) h0
  obtain ⟨x1, g1, s1⟩ := open_arg (n := 4) (s := (.data (.arr .u64 4))) (by kernel_rfl) (hval 1 27 v1 rfl rfl) h1
  obtain ⟨x2, g2, s2⟩ := open_arg (n := 4) (s := (.data (.arr .u64 4))) (by kernel_rfl) (hval 2 27 v2 rfl rfl) h2
  obtain ⟨k, hk⟩ := pure x0 g0 x1 g1 x2 g2
  refine (law_call (trailheadlaw02_WholeSums.ok k) (d := (x0, x1, x2, ())) (e := (())) hk rfl rfl (W := W) (fun i => ([] : List Value).getD i .nilFunc) [v0, v1, v2] (RO_nil _ _) ⟨s0 _, ⟨s1 _, ⟨s2 _, trivial⟩⟩⟩).mono fun ev W1 hh => ?_
  exact ⟨_, hh.1, law_post (rt := 4) laid0 (by kernel_rfl) (by kernel_rfl) (by kernel_rfl) rfl hW rfl rfl rfl hh.2⟩
theorem wholeSums_closed : joinedFacts Try.prog 11 Try.f11 Rows.wholeSumsSpec Rows.wholeSumsRow = true :=
  joined_of heard0 enter0 lifts0 laid0 rowed0 (by kernel_rfl) (by kernel_rfl) (by kernel_rfl) rfl
    ⟨by as_aux_lemma => kernel_rfl, by as_aux_lemma => kernel_rfl, by as_aux_lemma => kernel_rfl, by as_aux_lemma => kernel_rfl, by as_aux_lemma => kernel_rfl, by as_aux_lemma => kernel_rfl, by as_aux_lemma => kernel_rfl, by as_aux_lemma => kernel_rfl, by as_aux_lemma => kernel_rfl, make0, by kernel_rfl, by as_aux_lemma => kernel_rfl⟩
    ⟨by as_aux_lemma => kernel_rfl, by as_aux_lemma => kernel_rfl, by as_aux_lemma => kernel_rfl, by as_aux_lemma => kernel_rfl, by as_aux_lemma => kernel_rfl, by as_aux_lemma => kernel_rfl, by as_aux_lemma => kernel_rfl, by as_aux_lemma => kernel_rfl, by as_aux_lemma => kernel_rfl, by as_aux_lemma => kernel_rfl, by as_aux_lemma => kernel_rfl, by as_aux_lemma => kernel_rfl, by as_aux_lemma => kernel_rfl, by as_aux_lemma => kernel_rfl⟩
theorem wholeSums_row (pure : WholeSumsPure) : Rows.WholeSumsSaid :=
  OpenClaim.holds_of_wide 11 Try.f11 rfl rfl rfl rfl rfl rfl rfl ⟨rfl, rfl, rfl, rfl, rfl⟩ rfl rfl rfl rfl rfl (by kernel_rfl) Try.func11 wholeSums_closed
    (of_decide_eq_true (by kernel_rfl)) (by unfold Func.isWrapper; rw [if_neg (by decide +kernel)]; exact ⟨rfl, rfl⟩)
    (fun os started H en _ => wholeSums_lifted pure os started H en)
def WholeMovesPure : Prop := ∀ (x0 : (List Int)), goodS (.data (.arr .u64 4)) x0 → ∀ (x1 : Int), goodS (.data (.int .i64)) x1 → ∃ k, trailheadlaw02_WholeMoves.f k x0 x1 = some true
theorem wholeMoves_lifted (pure : WholeMovesPure) (os : Os) (started : os.Started) (H : Type) (en : TypeId × Value → H) :
    ReturnsInHanded {} Try.checked os 12 .any (Rows.wholeMovesSpec.pre6 en Try.prog Try.f12 Rows.wholeMovesRow.domain false) (Rows.wholeMovesSpec.post en Try.prog Try.f12 false true false false) := by
  refine returnsInHanded_of_change (C := Try.checked) own0 started (by kernel_rfl) Try.func12
    (ChangeSpec.witness6 (enc := en) (C := Try.checked) false ⟨#[], #[.agg #[.int .u64 0, .int .u64 0, .int .u64 0, .int .u64 0], .int .i64 0], []⟩ 8 (by kernel_rfl) (by kernel_rfl) (by kernel_rfl) (by kernel_rfl)) ?_
  intro W base args ds gs before hval0 hW hcnd _
  have hval : ∀ (j : Nat) t v, (Try.f12.params)[j]? = some t → args[j]? = some v → Value.okWide Try.prog W .any base t v := hval0
  have hW1 : DataW.Whole en Try.prog Try.f12.params.toList [] false W args.toList ds gs before := hW
  obtain ⟨p, q, hA0, hV, hpq, hfz, hnd⟩ := hW1
  have hA : DataW.TrodAll en Try.prog W 0 (fun _ => true) true [27, 3] args.toList ds p := hA0
  obtain ⟨hgs, _⟩ := trodVars_none hV
  subst hgs
  obtain ⟨v0, vs0, d0, ds0, p0, q0, ha0, hd0, _, h0, hA1⟩ := trodAll_cons2 hA
  obtain ⟨v1, vs1, d1, ds1, p1, q1, ha1, hd1, _, h1, hA2⟩ := trodAll_cons2 hA1
  obtain ⟨e1, e2⟩ := trodAll_nil2 hA2
  subst e1 e2
  subst ha1 hd1
  have hargs : args = #[v0, v1] := by apply Array.toList_inj.1; rw [ha0]
  subst hd0 hargs
  obtain ⟨x0, g0, s0⟩ := open_arg (n := 4) (s := (.data (.arr .u64 4))) (by kernel_rfl) (hval 0 27 v0 rfl rfl) h0
  obtain ⟨x1, g1, s1⟩ := open_arg (n := 4) (s := (.data (.int .i64))) (by kernel_rfl) (hval 1 3 v1 rfl rfl) h1
  obtain ⟨k, hk⟩ := pure x0 g0 x1 g1
  refine (law_call (trailheadlaw02_WholeMoves.ok k) (d := (x0, x1, ())) (e := (())) hk rfl rfl (W := W) (fun i => ([] : List Value).getD i .nilFunc) [v0, v1] (RO_nil _ _) ⟨s0 _, ⟨s1 _, trivial⟩⟩).mono fun ev W1 hh => ?_
  exact ⟨_, hh.1, law_post (rt := 4) laid0 (by kernel_rfl) (by kernel_rfl) (by kernel_rfl) rfl hW rfl rfl rfl hh.2⟩
theorem wholeMoves_closed : joinedFacts Try.prog 12 Try.f12 Rows.wholeMovesSpec Rows.wholeMovesRow = true :=
  joined_of heard0 enter0 lifts0 laid0 rowed0 (by kernel_rfl) (by kernel_rfl) (by kernel_rfl) rfl
    ⟨by as_aux_lemma => kernel_rfl, by as_aux_lemma => kernel_rfl, by as_aux_lemma => kernel_rfl, by as_aux_lemma => kernel_rfl, by as_aux_lemma => kernel_rfl, by as_aux_lemma => kernel_rfl, by as_aux_lemma => kernel_rfl, by as_aux_lemma => kernel_rfl, by as_aux_lemma => kernel_rfl, make0, by kernel_rfl, by as_aux_lemma => kernel_rfl⟩
    ⟨by as_aux_lemma => kernel_rfl, by as_aux_lemma => kernel_rfl, by as_aux_lemma => kernel_rfl, by as_aux_lemma => kernel_rfl, by as_aux_lemma => kernel_rfl, by as_aux_lemma => kernel_rfl, by as_aux_lemma => kernel_rfl, by as_aux_lemma => kernel_rfl, by as_aux_lemma => kernel_rfl, by as_aux_lemma => kernel_rfl, by as_aux_lemma => kernel_rfl, by as_aux_lemma => kernel_rfl, by as_aux_lemma => kernel_rfl, by as_aux_lemma => kernel_rfl⟩
theorem wholeMoves_row (pure : WholeMovesPure) : Rows.WholeMovesSaid :=
  OpenClaim.holds_of_wide 12 Try.f12 rfl rfl rfl rfl rfl rfl rfl ⟨rfl, rfl, rfl, rfl, rfl⟩ rfl rfl rfl rfl rfl (by kernel_rfl) Try.func12 wholeMoves_closed
    (of_decide_eq_true (by kernel_rfl)) (by unfold Func.isWrapper; rw [if_neg (by decide +kernel)]; exact ⟨rfl, rfl⟩)
    (fun os started H en _ => wholeMoves_lifted pure os started H en)
def WholeBackPure : Prop := ∀ (x0 : (List Int)), goodS (.data (.arr .u64 4)) x0 → ∀ (x1 : Int), goodS (.data (.int .i64)) x1 → ∃ k, trailheadlaw02_WholeBack.f k x0 x1 = some true
theorem wholeBack_lifted (pure : WholeBackPure) (os : Os) (started : os.Started) (H : Type) (en : TypeId × Value → H) :
    ReturnsInHanded {} Try.checked os 17 .any (Rows.wholeBackSpec.pre6 en Try.prog Try.f17 Rows.wholeBackRow.domain false) (Rows.wholeBackSpec.post en Try.prog Try.f17 false true false false) := by
  refine returnsInHanded_of_change (C := Try.checked) own0 started (by kernel_rfl) Try.func17
    (ChangeSpec.witness6 (enc := en) (C := Try.checked) false ⟨#[], #[.agg #[.int .u64 0, .int .u64 0, .int .u64 0, .int .u64 0], .int .i64 0], []⟩ 8 (by kernel_rfl) (by kernel_rfl) (by kernel_rfl) (by kernel_rfl)) ?_
  intro W base args ds gs before hval0 hW hcnd _
  have hval : ∀ (j : Nat) t v, (Try.f17.params)[j]? = some t → args[j]? = some v → Value.okWide Try.prog W .any base t v := hval0
  have hW1 : DataW.Whole en Try.prog Try.f17.params.toList [] false W args.toList ds gs before := hW
  obtain ⟨p, q, hA0, hV, hpq, hfz, hnd⟩ := hW1
  have hA : DataW.TrodAll en Try.prog W 0 (fun _ => true) true [27, 3] args.toList ds p := hA0
  obtain ⟨hgs, _⟩ := trodVars_none hV
  subst hgs
  obtain ⟨v0, vs0, d0, ds0, p0, q0, ha0, hd0, _, h0, hA1⟩ := trodAll_cons2 hA
  obtain ⟨v1, vs1, d1, ds1, p1, q1, ha1, hd1, _, h1, hA2⟩ := trodAll_cons2 hA1
  obtain ⟨e1, e2⟩ := trodAll_nil2 hA2
  subst e1 e2
  subst ha1 hd1
  have hargs : args = #[v0, v1] := by apply Array.toList_inj.1; rw [ha0]
  subst hd0 hargs
  obtain ⟨x0, g0, s0⟩ := open_arg (n := 4) (s := (.data (.arr .u64 4))) (by kernel_rfl) (hval 0 27 v0 rfl rfl) h0
  obtain ⟨x1, g1, s1⟩ := open_arg (n := 4) (s := (.data (.int .i64))) (by kernel_rfl) (hval 1 3 v1 rfl rfl) h1
  obtain ⟨k, hk⟩ := pure x0 g0 x1 g1
  refine (law_call (trailheadlaw02_WholeBack.ok k) (d := (x0, x1, ())) (e := (())) hk rfl rfl (W := W) (fun i => ([] : List Value).getD i .nilFunc) [v0, v1] (RO_nil _ _) ⟨s0 _, ⟨s1 _, trivial⟩⟩).mono fun ev W1 hh => ?_
  exact ⟨_, hh.1, law_post (rt := 4) laid0 (by kernel_rfl) (by kernel_rfl) (by kernel_rfl) rfl hW rfl rfl rfl hh.2⟩
theorem wholeBack_closed : joinedFacts Try.prog 17 Try.f17 Rows.wholeBackSpec Rows.wholeBackRow = true :=
  joined_of heard0 enter0 lifts0 laid0 rowed0 (by kernel_rfl) (by kernel_rfl) (by kernel_rfl) rfl
    ⟨by as_aux_lemma => kernel_rfl, by as_aux_lemma => kernel_rfl, by as_aux_lemma => kernel_rfl, by as_aux_lemma => kernel_rfl, by as_aux_lemma => kernel_rfl, by as_aux_lemma => kernel_rfl, by as_aux_lemma => kernel_rfl, by as_aux_lemma => kernel_rfl, by as_aux_lemma => kernel_rfl, make0, by kernel_rfl, by as_aux_lemma => kernel_rfl⟩
    ⟨by as_aux_lemma => kernel_rfl, by as_aux_lemma => kernel_rfl, by as_aux_lemma => kernel_rfl, by as_aux_lemma => kernel_rfl, by as_aux_lemma => kernel_rfl, by as_aux_lemma => kernel_rfl, by as_aux_lemma => kernel_rfl, by as_aux_lemma => kernel_rfl, by as_aux_lemma => kernel_rfl, by as_aux_lemma => kernel_rfl, by as_aux_lemma => kernel_rfl, by as_aux_lemma => kernel_rfl, by as_aux_lemma => kernel_rfl, by as_aux_lemma => kernel_rfl⟩
theorem wholeBack_row (pure : WholeBackPure) : Rows.WholeBackSaid :=
  OpenClaim.holds_of_wide 17 Try.f17 rfl rfl rfl rfl rfl rfl rfl ⟨rfl, rfl, rfl, rfl, rfl⟩ rfl rfl rfl rfl rfl (by kernel_rfl) Try.func17 wholeBack_closed
    (of_decide_eq_true (by kernel_rfl)) (by unfold Func.isWrapper; rw [if_neg (by decide +kernel)]; exact ⟨rfl, rfl⟩)
    (fun os started H en _ => wholeBack_lifted pure os started H en)
def WholeQuotientsPure : Prop := ∀ (x0 : (List Int)), goodS (.data (.arr .u64 4)) x0 → ∀ (x1 : (List Int)), goodS (.data (.arr .u64 4)) x1 → ∃ k, trailheadlaw02_WholeQuotients.f k x0 x1 = some true
theorem wholeQuotients_lifted (pure : WholeQuotientsPure) (os : Os) (started : os.Started) (H : Type) (en : TypeId × Value → H) :
    ReturnsInHanded {} Try.checked os 18 .any (Rows.wholeQuotientsSpec.pre6 en Try.prog Try.f18 Rows.wholeQuotientsRow.domain false) (Rows.wholeQuotientsSpec.post en Try.prog Try.f18 false true false false) := by
  refine returnsInHanded_of_change (C := Try.checked) own0 started (by kernel_rfl) Try.func18
    (ChangeSpec.witness6 (enc := en) (C := Try.checked) false ⟨#[], #[.agg #[.int .u64 0, .int .u64 0, .int .u64 0, .int .u64 0], .agg #[.int .u64 0, .int .u64 0, .int .u64 0, .int .u64 0]], []⟩ 8 (by kernel_rfl) (by kernel_rfl) (by kernel_rfl) (by kernel_rfl)) ?_
  intro W base args ds gs before hval0 hW hcnd _
  have hval : ∀ (j : Nat) t v, (Try.f18.params)[j]? = some t → args[j]? = some v → Value.okWide Try.prog W .any base t v := hval0
  have hW1 : DataW.Whole en Try.prog Try.f18.params.toList [] false W args.toList ds gs before := hW
  obtain ⟨p, q, hA0, hV, hpq, hfz, hnd⟩ := hW1
  have hA : DataW.TrodAll en Try.prog W 0 (fun _ => true) true [27, 27] args.toList ds p := hA0
  obtain ⟨hgs, _⟩ := trodVars_none hV
  subst hgs
  obtain ⟨v0, vs0, d0, ds0, p0, q0, ha0, hd0, _, h0, hA1⟩ := trodAll_cons2 hA
  obtain ⟨v1, vs1, d1, ds1, p1, q1, ha1, hd1, _, h1, hA2⟩ := trodAll_cons2 hA1
  obtain ⟨e1, e2⟩ := trodAll_nil2 hA2
  subst e1 e2
  subst ha1 hd1
  have hargs : args = #[v0, v1] := by apply Array.toList_inj.1; rw [ha0]
  subst hd0 hargs
  obtain ⟨x0, g0, s0⟩ := open_arg (n := 4) (s := (.data (.arr .u64 4))) (by kernel_rfl) (hval 0 27 v0 rfl rfl) h0
  obtain ⟨x1, g1, s1⟩ := open_arg (n := 4) (s := (.data (.arr .u64 4))) (by kernel_rfl) (hval 1 27 v1 rfl rfl) h1
  obtain ⟨k, hk⟩ := pure x0 g0 x1 g1
  refine (law_call (trailheadlaw02_WholeQuotients.ok k) (d := (x0, x1, ())) (e := (())) hk rfl rfl (W := W) (fun i => ([] : List Value).getD i .nilFunc) [v0, v1] (RO_nil _ _) ⟨s0 _, ⟨s1 _, trivial⟩⟩).mono fun ev W1 hh => ?_
  exact ⟨_, hh.1, law_post (rt := 4) laid0 (by kernel_rfl) (by kernel_rfl) (by kernel_rfl) rfl hW rfl rfl rfl hh.2⟩
theorem wholeQuotients_closed : joinedFacts Try.prog 18 Try.f18 Rows.wholeQuotientsSpec Rows.wholeQuotientsRow = true :=
  joined_of heard0 enter0 lifts0 laid0 rowed0 (by kernel_rfl) (by kernel_rfl) (by kernel_rfl) rfl
    ⟨by as_aux_lemma => kernel_rfl, by as_aux_lemma => kernel_rfl, by as_aux_lemma => kernel_rfl, by as_aux_lemma => kernel_rfl, by as_aux_lemma => kernel_rfl, by as_aux_lemma => kernel_rfl, by as_aux_lemma => kernel_rfl, by as_aux_lemma => kernel_rfl, by as_aux_lemma => kernel_rfl, make0, by kernel_rfl, by as_aux_lemma => kernel_rfl⟩
    ⟨by as_aux_lemma => kernel_rfl, by as_aux_lemma => kernel_rfl, by as_aux_lemma => kernel_rfl, by as_aux_lemma => kernel_rfl, by as_aux_lemma => kernel_rfl, by as_aux_lemma => kernel_rfl, by as_aux_lemma => kernel_rfl, by as_aux_lemma => kernel_rfl, by as_aux_lemma => kernel_rfl, by as_aux_lemma => kernel_rfl, by as_aux_lemma => kernel_rfl, by as_aux_lemma => kernel_rfl, by as_aux_lemma => kernel_rfl, by as_aux_lemma => kernel_rfl⟩
theorem wholeQuotients_row (pure : WholeQuotientsPure) : Rows.WholeQuotientsSaid :=
  OpenClaim.holds_of_wide 18 Try.f18 rfl rfl rfl rfl rfl rfl rfl ⟨rfl, rfl, rfl, rfl, rfl⟩ rfl rfl rfl rfl rfl (by kernel_rfl) Try.func18 wholeQuotients_closed
    (of_decide_eq_true (by kernel_rfl)) (by unfold Func.isWrapper; rw [if_neg (by decide +kernel)]; exact ⟨rfl, rfl⟩)
    (fun os started H en _ => wholeQuotients_lifted pure os started H en)
def WholeProductsPure : Prop := ∀ (x0 : (List Int)), goodS (.data (.arr .u64 4)) x0 → ∀ (x1 : Int), goodS (.data (.int .u64)) x1 → ∃ k, trailheadlaw02_WholeProducts.f k x0 x1 = some true
theorem wholeProducts_lifted (pure : WholeProductsPure) (os : Os) (started : os.Started) (H : Type) (en : TypeId × Value → H) :
    ReturnsInHanded {} Try.checked os 19 .any (Rows.wholeProductsSpec.pre6 en Try.prog Try.f19 Rows.wholeProductsRow.domain false) (Rows.wholeProductsSpec.post en Try.prog Try.f19 false true false false) := by
  refine returnsInHanded_of_change (C := Try.checked) own0 started (by kernel_rfl) Try.func19
    (ChangeSpec.witness6 (enc := en) (C := Try.checked) false ⟨#[], #[.agg #[.int .u64 0, .int .u64 0, .int .u64 0, .int .u64 0], .int .u64 0], []⟩ 8 (by kernel_rfl) (by kernel_rfl) (by kernel_rfl) (by kernel_rfl)) ?_
  intro W base args ds gs before hval0 hW hcnd _
  have hval : ∀ (j : Nat) t v, (Try.f19.params)[j]? = some t → args[j]? = some v → Value.okWide Try.prog W .any base t v := hval0
  have hW1 : DataW.Whole en Try.prog Try.f19.params.toList [] false W args.toList ds gs before := hW
  obtain ⟨p, q, hA0, hV, hpq, hfz, hnd⟩ := hW1
  have hA : DataW.TrodAll en Try.prog W 0 (fun _ => true) true [27, 25] args.toList ds p := hA0
  obtain ⟨hgs, _⟩ := trodVars_none hV
  subst hgs
  obtain ⟨v0, vs0, d0, ds0, p0, q0, ha0, hd0, _, h0, hA1⟩ := trodAll_cons2 hA
  obtain ⟨v1, vs1, d1, ds1, p1, q1, ha1, hd1, _, h1, hA2⟩ := trodAll_cons2 hA1
  obtain ⟨e1, e2⟩ := trodAll_nil2 hA2
  subst e1 e2
  subst ha1 hd1
  have hargs : args = #[v0, v1] := by apply Array.toList_inj.1; rw [ha0]
  subst hd0 hargs
  obtain ⟨x0, g0, s0⟩ := open_arg (n := 4) (s := (.data (.arr .u64 4))) (by kernel_rfl) (hval 0 27 v0 rfl rfl) h0
  obtain ⟨x1, g1, s1⟩ := open_arg (n := 4) (s := (.data (.int .u64))) (by kernel_rfl) (hval 1 25 v1 rfl rfl) h1
  obtain ⟨k, hk⟩ := pure x0 g0 x1 g1
  refine (law_call (trailheadlaw02_WholeProducts.ok k) (d := (x0, x1, ())) (e := (())) hk rfl rfl (W := W) (fun i => ([] : List Value).getD i .nilFunc) [v0, v1] (RO_nil _ _) ⟨s0 _, ⟨s1 _, trivial⟩⟩).mono fun ev W1 hh => ?_
  exact ⟨_, hh.1, law_post (rt := 4) laid0 (by kernel_rfl) (by kernel_rfl) (by kernel_rfl) rfl hW rfl rfl rfl hh.2⟩
theorem wholeProducts_closed : joinedFacts Try.prog 19 Try.f19 Rows.wholeProductsSpec Rows.wholeProductsRow = true :=
  joined_of heard0 enter0 lifts0 laid0 rowed0 (by kernel_rfl) (by kernel_rfl) (by kernel_rfl) rfl
    ⟨by as_aux_lemma => kernel_rfl, by as_aux_lemma => kernel_rfl, by as_aux_lemma => kernel_rfl, by as_aux_lemma => kernel_rfl, by as_aux_lemma => kernel_rfl, by as_aux_lemma => kernel_rfl, by as_aux_lemma => kernel_rfl, by as_aux_lemma => kernel_rfl, by as_aux_lemma => kernel_rfl, make0, by kernel_rfl, by as_aux_lemma => kernel_rfl⟩
    ⟨by as_aux_lemma => kernel_rfl, by as_aux_lemma => kernel_rfl, by as_aux_lemma => kernel_rfl, by as_aux_lemma => kernel_rfl, by as_aux_lemma => kernel_rfl, by as_aux_lemma => kernel_rfl, by as_aux_lemma => kernel_rfl, by as_aux_lemma => kernel_rfl, by as_aux_lemma => kernel_rfl, by as_aux_lemma => kernel_rfl, by as_aux_lemma => kernel_rfl, by as_aux_lemma => kernel_rfl, by as_aux_lemma => kernel_rfl, by as_aux_lemma => kernel_rfl⟩
theorem wholeProducts_row (pure : WholeProductsPure) : Rows.WholeProductsSaid :=
  OpenClaim.holds_of_wide 19 Try.f19 rfl rfl rfl rfl rfl rfl rfl ⟨rfl, rfl, rfl, rfl, rfl⟩ rfl rfl rfl rfl rfl (by kernel_rfl) Try.func19 wholeProducts_closed
    (of_decide_eq_true (by kernel_rfl)) (by unfold Func.isWrapper; rw [if_neg (by decide +kernel)]; exact ⟨rfl, rfl⟩)
    (fun os started H en _ => wholeProducts_lifted pure os started H en)
end Go.Proofs.Ytjciljaojcekeaa.Sx
