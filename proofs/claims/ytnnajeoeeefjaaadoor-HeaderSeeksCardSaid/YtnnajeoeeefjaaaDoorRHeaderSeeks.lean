/- HeaderSeeks: its statement on data alone, and the steps from there to the row and the card. Printed by cards.py. -/
import Derived.Test.YtnnajeoeeefjaaaDoorSy22
import Derived.Test.YtnnajeoeeefjaaaDoorH
import Derived.Test.YtnnajeoeeefjaaaDoorG
import Derived.Test.YtnnajeoeeefjaaaDoorCards
import Derived.Test.YtnnajeoeeefjaaaDoorTie
import Derived.Test.YtnnajeoeeefjaaaDoorWC
import Derived.SevenTiedAt
import Derived.Stop.Joined
namespace Go.Proofs.YtnnajeoeeefjaaaDoor.Sy
open Go Go.Proofs Go.ChangeShapes Go.WideShapes Go.ChangeAt Go.RowKit
set_option maxRecDepth 100000
set_option linter.unusedVariables false
set_option linter.unusedSimpArgs false
def HeaderSeeksPure : Prop := ∀ (x0 : T_3d5633), goodS (.data (.pair (.int .i64) (.pair (.arr .u8 32) (.pair (.arr .u8 32) (.pair (.int .i64) (.pair (.int .i64) (.int .i64))))))) x0 → ∀ (x1 : Int), goodS (.data (.int .i64)) x1 → ∃ k, trailheadlaw06_HeaderSeeks.f k x0 x1 gv0 gv1 = some true
theorem headerSeeks_lifted (pure : HeaderSeeksPure) (os : Os) (started : os.Started) (H : Type) (en : TypeId × Value → H) :
    ReturnsInHanded {} Tryd.checked os 16 .any (fun w args => (Rows.headerSeeksSpec.pre en Tryd.prog Tryd.f16 Rows.headerSeeksRow.domain false w args ∧ laidMetH Tryd.prog laidL w) ∧ sizedMet en Tryd.prog Tryd.f16 (OpenSpec.ofChange Rows.headerSeeksSpec) false w args) (Rows.headerSeeksSpec.post en Tryd.prog Tryd.f16 false true false false) := by
  refine returnsInHanded_of_change_and (C := Tryd.checked) (X := fun w _ => laidMetH Tryd.prog laidL w) (fun _ _ _ hh h => h.of_heap hh) own0 started (by kernel_rfl) Tryd.func16
    (ChangeSpec.witness_shaped (enc := en) (C := Tryd.checked) (os := os) (X := fun w _ => laidMetH Tryd.prog laidL w) false (World.laidAll Tryd.prog os laidL) #[.agg #[.int .i64 0, .int .u8 0, .int .u8 0, .int .u8 0, .int .u8 0, .int .u8 0, .int .u8 0, .int .u8 0, .int .u8 0, .int .u8 0, .int .u8 0, .int .u8 0, .int .u8 0, .int .u8 0, .int .u8 0, .int .u8 0, .int .u8 0, .int .u8 0, .int .u8 0, .int .u8 0, .int .u8 0, .int .u8 0, .int .u8 0, .int .u8 0, .int .u8 0, .int .u8 0, .int .u8 0, .int .u8 0, .int .u8 0, .int .u8 0, .int .u8 0, .int .u8 0, .int .u8 0, .int .u8 0, .int .u8 0, .int .u8 0, .int .u8 0, .int .u8 0, .int .u8 0, .int .u8 0, .int .u8 0, .int .u8 0, .int .u8 0, .int .u8 0, .int .u8 0, .int .u8 0, .int .u8 0, .int .u8 0, .int .u8 0, .int .u8 0, .int .u8 0, .int .u8 0, .int .u8 0, .int .u8 0, .int .u8 0, .int .u8 0, .int .u8 0, .int .u8 0, .int .u8 0, .int .u8 0, .int .u8 0, .int .u8 0, .int .u8 0, .int .u8 0, .int .u8 0, .int .i64 0, .int .i64 0, .int .i64 0], .int .i64 0] 8 (World.laidAll_os _ _ _)
      (World.shaped_of_ZipB (by kernel_rfl) (by kernel_rfl)) (by kernel_rfl) (by kernel_rfl) (by kernel_rfl)
      (by rw [laidL_plain]; exact laidMet_laidAll _ (by kernel_rfl) (by kernel_rfl))) ?_
  intro W base args ds gs before hval0 hW hcnd hsz0 hL _
  have hval : ∀ (j : Nat) t v, (Tryd.f16.params)[j]? = some t → args[j]? = some v → Value.okWide Tryd.prog W .any base t v := hval0
  have hW1 : DataW.Whole en Tryd.prog Tryd.f16.params.toList [] false W args.toList ds gs before := hW
  obtain ⟨p, q, hA0, hV, hpq, hfz, hnd⟩ := hW1
  have hA : DataW.TrodAll en Tryd.prog W 0 (fun _ => true) true [42, 3] args.toList ds p := hA0
  obtain ⟨hgs, _⟩ := trodVars_none hV
  subst hgs
  obtain ⟨GL1, GL0⟩ := globs_of hL
  obtain ⟨v0, vs0, d0, ds0, p0, q0, ha0, hd0, _, h0, hA1⟩ := trodAll_cons2 hA
  obtain ⟨v1, vs1, d1, ds1, p1, q1, ha1, hd1, _, h1, hA2⟩ := trodAll_cons2 hA1
  obtain ⟨e1, e2⟩ := trodAll_nil2 hA2
  subst e1 e2
  subst ha1 hd1
  have hargs : args = #[v0, v1] := by apply Array.toList_inj.1; rw [ha0]
  subst hd0 hargs
  have hsz1 : (DataW.weightsEach Tryd.prog [42, 3] [d0, d1]).all (· ≤ reachBytes) = true := hsz0
  have hsz : ∀ (j : Nat) (t : TypeId) (d : DataW H), ([42, 3] : List TypeId)[j]? = some t → [d0, d1][j]? = some d → ∀ m ∈ d.weights Tryd.prog t, m ≤ reachBytes := fun j t d ht hd m hm => of_decide_eq_true (List.all_eq_true.1 hsz1 m (DataW.weights_mem_each ht hd m hm))
  obtain ⟨x0, g0, s0⟩ := open_arg (n := 4) (s := (.data (.pair (.int .i64) (.pair (.arr .u8 32) (.pair (.arr .u8 32) (.pair (.int .i64) (.pair (.int .i64) (.int .i64)))))))) (by kernel_rfl) (hval 0 42 v0 rfl rfl) h0 (hsz 0 42 d0 rfl rfl)
  obtain ⟨x1, g1, s1⟩ := open_arg (n := 4) (s := (.data (.int .i64))) (by kernel_rfl) (hval 1 3 v1 rfl rfl) h1 (hsz 1 3 d1 rfl rfl)
  obtain ⟨k, hk⟩ := pure x0 g0 x1 g1
  refine (law_call (trailheadlaw06_HeaderSeeks.ok k) (d := (x0, x1, ())) (e := (gv0, gv1, ())) hk rfl rfl (W := W) (fun i => ([.pointer (some ⟨0, 0, none⟩), .pointer (some ⟨1, 0, none⟩)] : List Value).getD i .nilFunc) [v0, v1] (RO_glob ((GL0).ent rfl) (RO_glob ((GL1).ent rfl) (RO_nil _ _))) ⟨s0 _, ⟨s1 _, trivial⟩⟩).mono fun ev W1 hh => ?_
  exact ⟨_, hh.1, law_post (rt := 4) laid0 (by kernel_rfl) (by kernel_rfl) (by kernel_rfl) rfl hW rfl rfl rfl hh.2⟩
theorem headerSeeks_closed : joinedFacts Tryd.prog 16 Tryd.f16 Rows.headerSeeksSpec Rows.headerSeeksRow = true :=
  joined_of heard0 enter0 lifts0 laid0 rowed0 (by kernel_rfl) (by kernel_rfl) (by kernel_rfl) rfl
    ⟨by as_aux_lemma => kernel_rfl, by as_aux_lemma => kernel_rfl, by as_aux_lemma => kernel_rfl, by as_aux_lemma => kernel_rfl, by as_aux_lemma => kernel_rfl, by as_aux_lemma => kernel_rfl, by as_aux_lemma => kernel_rfl, by as_aux_lemma => kernel_rfl, by as_aux_lemma => kernel_rfl, make0, by kernel_rfl, by as_aux_lemma => kernel_rfl⟩
    ⟨by as_aux_lemma => kernel_rfl, by as_aux_lemma => kernel_rfl, by as_aux_lemma => kernel_rfl, by as_aux_lemma => kernel_rfl, by as_aux_lemma => kernel_rfl, by as_aux_lemma => kernel_rfl, by as_aux_lemma => kernel_rfl, by as_aux_lemma => kernel_rfl, by as_aux_lemma => kernel_rfl, by as_aux_lemma => kernel_rfl, by as_aux_lemma => kernel_rfl, by as_aux_lemma => kernel_rfl, by as_aux_lemma => kernel_rfl, by as_aux_lemma => kernel_rfl⟩
theorem headerSeeks_row (pure : HeaderSeeksPure) : Rows.HeaderSeeksSaid :=
  OpenClaim.holds_of_wide 16 Tryd.f16 rfl rfl rfl rfl rfl rfl rfl ⟨rfl, rfl, rfl, rfl, rfl⟩ rfl rfl rfl rfl rfl (by kernel_rfl) Tryd.func16 headerSeeks_closed
    (of_decide_eq_true (by kernel_rfl)) (by unfold Func.isWrapper; rw [if_neg (by decide +kernel)]; exact ⟨rfl, rfl⟩)
    (fun os started H en _ => headerSeeks_lifted pure os started H en)
theorem headerSeeks_card (pure : HeaderSeeksPure) : Rows.HeaderSeeksCardSaid :=
  Claim7.holds_tied_plain_at .later [] [.data, .data] true (true, "27b7b1b9fed20d507fb3f5d1e0a302dafc00c28084ccd1c687741aa54effa028") false
    (headerSeeks_row pure) (fun _ h => by cases h) (by kernel_rfl) (fun _ h => by cases h) headerSeeks_row_tie rfl ⟨rfl, rfl⟩ (by kernel_rfl) rfl
    (fun f fn hf hfn => by
      obtain rfl : f = 16 := Option.some.inj ((show Tryd.prog.funcNamed "trailhead/trailheadlaw06.HeaderSeeks" = some 16 by kernel_rfl).symm.trans hf) |>.symm
      obtain rfl : fn = Tryd.f16 := (Option.some.inj (Tryd.func16.symm.trans hfn)).symm
      exact ⟨by kernel_rfl, fun j t ht => by
        have hp : Tryd.f16.params = #[42, 3] := by kernel_rfl
        rw [hp] at ht
        have hm : t ∈ [42, 3] := by simpa using Array.mem_of_getElem? ht
        have hall : ([42, 3].all fun u => !Tryd.prog.wantsStandIn u) = true := by kernel_rfl
        exact (show Tryd.prog.wantsStandIn t = false by simpa using List.all_eq_true.1 hall t hm)⟩)
    (by kernel_rfl)
end Go.Proofs.YtnnajeoeeefjaaaDoor.Sy
