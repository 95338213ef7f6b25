/- PledgeMeets: its statement on data alone, and the steps from there to the row and the card. Printed by cards.py. -/
import Derived.Test.YtnnajeoeeefjaaaDoorSy22
import Derived.Test.YtnnajeoeeefjaaaDoorH
import Derived.Test.YtnnajeoeeefjaaaDoorG
import Derived.Test.YtnnajeoeeefjaaaDoorCards
import Derived.Test.YtnnajeoeeefjaaaDoorTie
import Derived.Test.YtnnajeoeeefjaaaDoorWD
import Derived.SevenTiedAt
import Derived.Stop.Joined
namespace Go.Proofs.YtnnajeoeeefjaaaDoor.Sy
open Go Go.Proofs Go.ChangeShapes Go.WideShapes Go.ChangeAt Go.RowKit
set_option maxRecDepth 100000
set_option linter.unusedVariables false
set_option linter.unusedSimpArgs false
def PledgeMeetsPure : Prop := ∀ (x0 : (Int × (Int × Int))), goodS (.data (.pair (.int .i64) (.pair (.int .i64) (.int .i64)))) x0 → ∀ (x1 : Int), goodS (.data (.int .i64)) x1 → ∀ (x2 : List (List Int)), (∀ x ∈ x2, goodT (.arr .u8 32) x) → x2.length ≤ maxLen → ∀ (x3 : Int), goodS (.data (.int .i64)) x3 → ∀ (x4 : (List Int)), goodS (.data (.arr .u8 32)) x4 → ∀ (x5 : Int), goodS (.data (.int .i64)) x5 → ∃ k, trailheadlaw18_PledgeMeets.f k x0 x1 x3 x4 x5 x2 gv0 gv1 = some true
theorem pledgeMeets_lifted (pure : PledgeMeetsPure) (os : Os) (started : os.Started) (H : Type) (en : TypeId × Value → H) :
    ReturnsInHanded {} Tryd.checked os 12 .any (fun w args => (Rows.pledgeMeetsSpec.pre en Tryd.prog Tryd.f12 Rows.pledgeMeetsRow.domain false w args ∧ laidMetH Tryd.prog laidL w) ∧ sizedMet en Tryd.prog Tryd.f12 (OpenSpec.ofChange Rows.pledgeMeetsSpec) false w args) (Rows.pledgeMeetsSpec.post en Tryd.prog Tryd.f12 false true false false) := by
  refine returnsInHanded_of_change_and (C := Tryd.checked) (X := fun w _ => laidMetH Tryd.prog laidL w) (fun _ _ _ hh h => h.of_heap hh) own0 started (by kernel_rfl) Tryd.func12
    (ChangeSpec.witness_shaped (enc := en) (C := Tryd.checked) (os := os) (X := fun w _ => laidMetH Tryd.prog laidL w) false (World.laidAll Tryd.prog os laidL) #[.agg #[.int .i64 0, .int .i64 0, .int .i64 0], .int .i64 0, .slice none 0 0, .int .i64 0, .agg #[.int .u8 0, .int .u8 0, .int .u8 0, .int .u8 0, .int .u8 0, .int .u8 0, .int .u8 0, .int .u8 0, .int .u8 0, .int .u8 0, .int .u8 0, .int .u8 0, .int .u8 0, .int .u8 0, .int .u8 0, .int .u8 0, .int .u8 0, .int .u8 0, .int .u8 0, .int .u8 0, .int .u8 0, .int .u8 0, .int .u8 0, .int .u8 0, .int .u8 0, .int .u8 0, .int .u8 0, .int .u8 0, .int .u8 0, .int .u8 0, .int .u8 0, .int .u8 0], .int .i64 0] 8 (World.laidAll_os _ _ _)
      (World.shaped_of_ZipB (by kernel_rfl) (by kernel_rfl)) (by kernel_rfl) (by kernel_rfl) (by kernel_rfl)
      (by rw [laidL_plain]; exact laidMet_laidAll _ (by kernel_rfl) (by kernel_rfl))) ?_
  intro W base args ds gs before hval0 hW hcnd hsz0 hL _
  have hval : ∀ (j : Nat) t v, (Tryd.f12.params)[j]? = some t → args[j]? = some v → Value.okWide Tryd.prog W .any base t v := hval0
  have hW1 : DataW.Whole en Tryd.prog Tryd.f12.params.toList [] false W args.toList ds gs before := hW
  obtain ⟨p, q, hA0, hV, hpq, hfz, hnd⟩ := hW1
  have hA : DataW.TrodAll en Tryd.prog W 0 (fun _ => true) true [52, 3, 61, 3, 24, 3] args.toList ds p := hA0
  obtain ⟨hgs, _⟩ := trodVars_none hV
  subst hgs
  obtain ⟨GL1, GL0⟩ := globs_of hL
  obtain ⟨v0, vs0, d0, ds0, p0, q0, ha0, hd0, _, h0, hA1⟩ := trodAll_cons2 hA
  obtain ⟨v1, vs1, d1, ds1, p1, q1, ha1, hd1, _, h1, hA2⟩ := trodAll_cons2 hA1
  obtain ⟨v2, vs2, d2, ds2, p2, q2, ha2, hd2, _, h2, hA3⟩ := trodAll_cons2 hA2
  obtain ⟨v3, vs3, d3, ds3, p3, q3, ha3, hd3, _, h3, hA4⟩ := trodAll_cons2 hA3
  obtain ⟨v4, vs4, d4, ds4, p4, q4, ha4, hd4, _, h4, hA5⟩ := trodAll_cons2 hA4
  obtain ⟨v5, vs5, d5, ds5, p5, q5, ha5, hd5, _, h5, hA6⟩ := trodAll_cons2 hA5
  obtain ⟨e1, e2⟩ := trodAll_nil2 hA6
  subst e1 e2
  subst ha5 hd5
  subst ha4 hd4
  subst ha3 hd3
  subst ha2 hd2
  subst ha1 hd1
  have hargs : args = #[v0, v1, v2, v3, v4, v5] := by apply Array.toList_inj.1; rw [ha0]
  subst hd0 hargs
  have hsz1 : (DataW.weightsEach Tryd.prog [52, 3, 61, 3, 24, 3] [d0, d1, d2, d3, d4, d5]).all (· ≤ reachBytes) = true := hsz0
  have hsz : ∀ (j : Nat) (t : TypeId) (d : DataW H), ([52, 3, 61, 3, 24, 3] : List TypeId)[j]? = some t → [d0, d1, d2, d3, d4, d5][j]? = some d → ∀ m ∈ d.weights Tryd.prog t, m ≤ reachBytes := fun j t d ht hd m hm => of_decide_eq_true (List.all_eq_true.1 hsz1 m (DataW.weights_mem_each ht hd m hm))
  obtain ⟨x0, g0, s0⟩ := open_arg (n := 4) (s := (.data (.pair (.int .i64) (.pair (.int .i64) (.int .i64))))) (by kernel_rfl) (hval 0 52 v0 rfl rfl) h0 (hsz 0 52 d0 rfl rfl)
  obtain ⟨x1, g1, s1⟩ := open_arg (n := 4) (s := (.data (.int .i64))) (by kernel_rfl) (hval 1 3 v1 rfl rfl) h1 (hsz 1 3 d1 rfl rfl)
  obtain ⟨x2, g2, l2, r2, s2⟩ := open_rows (n := 4) (e := 24) (ty := (.arr .u8 32)) (by kernel_rfl) (by kernel_rfl) (by kernel_rfl) (by decide) (hval 2 61 v2 rfl rfl) h2 (hsz 2 61 d2 rfl rfl)
  obtain ⟨x3, g3, s3⟩ := open_arg (n := 4) (s := (.data (.int .i64))) (by kernel_rfl) (hval 3 3 v3 rfl rfl) h3 (hsz 3 3 d3 rfl rfl)
  obtain ⟨x4, g4, s4⟩ := open_arg (n := 4) (s := (.data (.arr .u8 32))) (by kernel_rfl) (hval 4 24 v4 rfl rfl) h4 (hsz 4 24 d4 rfl rfl)
  obtain ⟨x5, g5, s5⟩ := open_arg (n := 4) (s := (.data (.int .i64))) (by kernel_rfl) (hval 5 3 v5 rfl rfl) h5 (hsz 5 3 d5 rfl rfl)
  obtain ⟨k, hk⟩ := pure x0 g0 x1 g1 x2 g2 l2 x3 g3 x4 g4 x5 g5
  refine (law_call (trailheadlaw18_PledgeMeets.ok k) (d := (x0, x1, (), x3, x4, x5, ())) (e := (x2, gv0, gv1, ())) hk rfl rfl (W := W) (fun i => ([v2, .pointer (some ⟨0, 0, none⟩), .pointer (some ⟨1, 0, none⟩)] : List Value).getD i .nilFunc) [v0, v1, v2, v3, v4, v5] (RO_cons r2 (RO_glob ((GL0).ent rfl) (RO_glob ((GL1).ent rfl) (RO_nil _ _)))) ⟨s0 _, ⟨s1 _, ⟨s2 _ _ rfl, ⟨s3 _, ⟨s4 _, ⟨s5 _, trivial⟩⟩⟩⟩⟩⟩).mono fun ev W1 hh => ?_
  exact ⟨_, hh.1, law_post (rt := 4) laid0 (by kernel_rfl) (by kernel_rfl) (by kernel_rfl) rfl hW rfl rfl rfl hh.2⟩
theorem pledgeMeets_closed : joinedFacts Tryd.prog 12 Tryd.f12 Rows.pledgeMeetsSpec Rows.pledgeMeetsRow = true :=
  joined_of heard0 enter0 lifts0 laid0 rowed0 (by kernel_rfl) (by kernel_rfl) (by kernel_rfl) rfl
    ⟨by as_aux_lemma => kernel_rfl, by as_aux_lemma => kernel_rfl, by as_aux_lemma => kernel_rfl, by as_aux_lemma => kernel_rfl, by as_aux_lemma => kernel_rfl, by as_aux_lemma => kernel_rfl, by as_aux_lemma => kernel_rfl, by as_aux_lemma => kernel_rfl, by as_aux_lemma => kernel_rfl, make0, by kernel_rfl, by as_aux_lemma => kernel_rfl⟩
    ⟨by as_aux_lemma => kernel_rfl, by as_aux_lemma => kernel_rfl, by as_aux_lemma => kernel_rfl, by as_aux_lemma => kernel_rfl, by as_aux_lemma => kernel_rfl, by as_aux_lemma => kernel_rfl, by as_aux_lemma => kernel_rfl, by as_aux_lemma => kernel_rfl, by as_aux_lemma => kernel_rfl, by as_aux_lemma => kernel_rfl, by as_aux_lemma => kernel_rfl, by as_aux_lemma => kernel_rfl, by as_aux_lemma => kernel_rfl, by as_aux_lemma => kernel_rfl⟩
theorem pledgeMeets_row (pure : PledgeMeetsPure) : Rows.PledgeMeetsSaid :=
  OpenClaim.holds_of_wide 12 Tryd.f12 rfl rfl rfl rfl rfl rfl rfl ⟨rfl, rfl, rfl, rfl, rfl⟩ rfl rfl rfl rfl rfl (by kernel_rfl) Tryd.func12 pledgeMeets_closed
    (of_decide_eq_true (by kernel_rfl)) (by unfold Func.isWrapper; rw [if_neg (by decide +kernel)]; exact ⟨rfl, rfl⟩)
    (fun os started H en _ => pledgeMeets_lifted pure os started H en)
theorem pledgeMeets_card (pure : PledgeMeetsPure) : Rows.PledgeMeetsCardSaid :=
  Claim7.holds_tied_plain_at .later [] [.data, .data] true (true, "27b7b1b9fed20d507fb3f5d1e0a302dafc00c28084ccd1c687741aa54effa028") false
    (pledgeMeets_row pure) (fun _ h => by cases h) (by kernel_rfl) (fun _ h => by cases h) pledgeMeets_row_tie rfl ⟨rfl, rfl⟩ (by kernel_rfl) rfl
    (fun f fn hf hfn => by
      obtain rfl : f = 12 := Option.some.inj ((show Tryd.prog.funcNamed "trailhead/trailheadlaw18.PledgeMeets" = some 12 by kernel_rfl).symm.trans hf) |>.symm
      obtain rfl : fn = Tryd.f12 := (Option.some.inj (Tryd.func12.symm.trans hfn)).symm
      exact ⟨by kernel_rfl, fun j t ht => by
        have hp : Tryd.f12.params = #[52, 3, 61, 3, 24, 3] := by kernel_rfl
        rw [hp] at ht
        have hm : t ∈ [52, 3, 61, 3, 24, 3] := by simpa using Array.mem_of_getElem? ht
        have hall : ([52, 3, 61, 3, 24, 3].all fun u => !Tryd.prog.wantsStandIn u) = true := by kernel_rfl
        exact (show Tryd.prog.wantsStandIn t = false by simpa using List.all_eq_true.1 hall t hm)⟩)
    (by kernel_rfl)
end Go.Proofs.YtnnajeoeeefjaaaDoor.Sy
