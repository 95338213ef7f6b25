/- SpeechCuts: its statement on data alone, and the steps from there to the row and the card. Printed by cards.py. -/
import Derived.Test.YtkgpjplncfginaaDoorSy22
import Derived.Test.YtkgpjplncfginaaDoorH
import Derived.Test.YtkgpjplncfginaaDoorG
import Derived.Test.YtkgpjplncfginaaDoorCards
import Derived.Test.YtkgpjplncfginaaDoorTie
import Derived.Test.YtkgpjplncfginaaDoorWB
import Derived.SevenTiedAt
import Derived.Stop.Joined
namespace Go.Proofs.YtkgpjplncfginaaDoor.Sy
open Go Go.Proofs Go.ChangeShapes Go.WideShapes Go.ChangeAt Go.RowKit
set_option maxRecDepth 100000
set_option linter.unusedVariables false
set_option linter.unusedSimpArgs false
def SpeechCutsPure : Prop := ∀ (x0 : T_85bbee), goodS (.data (.pair (.int .i64) (.pair (.int .i64) (.pair (.int .i64) (.pair (.int .i64) (.pair (.int .i64) (.pair (.row 28 (.arr .u8 32)) (.pair (.arr .u8 32) (.row 52 (.pair (.int .i64) (.pair (.arr .u8 32) (.pair (.arr .u8 32) (.pair (.int .i64) (.pair (.int .i64) (.int .i64))))))))))))))) x0 → ∀ (x1 : Int), goodS (.data (.int .i64)) x1 → ∀ (x2 : (List Int)), goodS (.data .str) x2 → ∃ k, trailheadlaw08_SpeechCuts.f k x0 x1 x2 gv0 gv2 gv3 = some true
theorem speechCuts_lifted (pure : SpeechCutsPure) (os : Os) (started : os.Started) (H : Type) (en : TypeId × Value → H) :
    ReturnsInHanded {} Tryd.checked os 7 .any (fun w args => (Rows.speechCutsSpec.pre en Tryd.prog Tryd.f7 Rows.speechCutsRow.domain false w args ∧ laidMetH Tryd.prog laidL w) ∧ sizedMet en Tryd.prog Tryd.f7 (OpenSpec.ofChange Rows.speechCutsSpec) false w args) (Rows.speechCutsSpec.post en Tryd.prog Tryd.f7 false true false false) := by
  refine returnsInHanded_of_change_and (C := Tryd.checked) (X := fun w _ => laidMetH Tryd.prog laidL w) (fun _ _ _ hh h => h.of_heap hh) own0 started (by kernel_rfl) Tryd.func7
    (ChangeSpec.witness_shaped (enc := en) (C := Tryd.checked) (os := os) (X := fun w _ => laidMetH Tryd.prog laidL w) false (World.laidAll Tryd.prog os laidL) #[.agg #[.int .i64 0, .int .i64 0, .int .i64 0, .int .i64 0, .int .i64 0, .slice none 0 0, .int .u8 0, .int .u8 0, .int .u8 0, .int .u8 0, .int .u8 0, .int .u8 0, .int .u8 0, .int .u8 0, .int .u8 0, .int .u8 0, .int .u8 0, .int .u8 0, .int .u8 0, .int .u8 0, .int .u8 0, .int .u8 0, .int .u8 0, .int .u8 0, .int .u8 0, .int .u8 0, .int .u8 0, .int .u8 0, .int .u8 0, .int .u8 0, .int .u8 0, .int .u8 0, .int .u8 0, .int .u8 0, .int .u8 0, .int .u8 0, .int .u8 0, .int .u8 0, .slice none 0 0], .int .i64 0, .string ⟨#[]⟩] 8 (World.laidAll_os _ _ _)
      (World.shaped_of_ZipB (by kernel_rfl) (by kernel_rfl)) (by kernel_rfl) (by kernel_rfl) (by kernel_rfl)
      (by rw [laidL_plain]; exact laidMet_laidAll _ (by kernel_rfl) (by kernel_rfl))) ?_
  intro W base args ds gs before hval0 hW hcnd hsz0 hL _
  have hval : ∀ (j : Nat) t v, (Tryd.f7.params)[j]? = some t → args[j]? = some v → Value.okWide Tryd.prog W .any base t v := hval0
  have hW1 : DataW.Whole en Tryd.prog Tryd.f7.params.toList [] false W args.toList ds gs before := hW
  obtain ⟨p, q, hA0, hV, hpq, hfz, hnd⟩ := hW1
  have hA : DataW.TrodAll en Tryd.prog W 0 (fun _ => true) true [31, 3, 9] args.toList ds p := hA0
  obtain ⟨hgs, _⟩ := trodVars_none hV
  subst hgs
  obtain ⟨GL3, GL2, GL0⟩ := globs_of hL
  obtain ⟨v0, vs0, d0, ds0, p0, q0, ha0, hd0, _, h0, hA1⟩ := trodAll_cons2 hA
  obtain ⟨v1, vs1, d1, ds1, p1, q1, ha1, hd1, _, h1, hA2⟩ := trodAll_cons2 hA1
  obtain ⟨v2, vs2, d2, ds2, p2, q2, ha2, hd2, _, h2, hA3⟩ := trodAll_cons2 hA2
  obtain ⟨e1, e2⟩ := trodAll_nil2 hA3
  subst e1 e2
  subst ha2 hd2
  subst ha1 hd1
  have hargs : args = #[v0, v1, v2] := by apply Array.toList_inj.1; rw [ha0]
  subst hd0 hargs
  have hsz1 : (DataW.weightsEach Tryd.prog [31, 3, 9] [d0, d1, d2]).all (· ≤ reachBytes) = true := hsz0
  have hsz : ∀ (j : Nat) (t : TypeId) (d : DataW H), ([31, 3, 9] : List TypeId)[j]? = some t → [d0, d1, d2][j]? = some d → ∀ m ∈ d.weights Tryd.prog t, m ≤ reachBytes := fun j t d ht hd m hm => of_decide_eq_true (List.all_eq_true.1 hsz1 m (DataW.weights_mem_each ht hd m hm))
  obtain ⟨x0, g0, s0⟩ := open_arg (n := 4) (s := (.data (.pair (.int .i64) (.pair (.int .i64) (.pair (.int .i64) (.pair (.int .i64) (.pair (.int .i64) (.pair (.row 28 (.arr .u8 32)) (.pair (.arr .u8 32) (.row 52 (.pair (.int .i64) (.pair (.arr .u8 32) (.pair (.arr .u8 32) (.pair (.int .i64) (.pair (.int .i64) (.int .i64)))))))))))))))) (by kernel_rfl) (hval 0 31 v0 rfl rfl) h0 (hsz 0 31 d0 rfl rfl)
  obtain ⟨x1, g1, s1⟩ := open_arg (n := 4) (s := (.data (.int .i64))) (by kernel_rfl) (hval 1 3 v1 rfl rfl) h1 (hsz 1 3 d1 rfl rfl)
  obtain ⟨x2, g2, s2⟩ := open_arg (n := 4) (s := (.data .str)) (by kernel_rfl) (hval 2 9 v2 rfl rfl) h2 (hsz 2 9 d2 rfl rfl)
  obtain ⟨k, hk⟩ := pure x0 g0 x1 g1 x2 g2
  refine (law_call (trailheadlaw08_SpeechCuts.ok k) (d := (x0, x1, x2, ())) (e := (gv0, gv2, gv3, ())) hk rfl rfl (W := W) ⟨fun i => ([.pointer (some ⟨0, 0, none⟩), .pointer (some ⟨2, 0, none⟩), .pointer (some ⟨3, 0, none⟩)] : List Value).getD i .nilFunc, zOf W⟩ [v0, v1, v2] (RO_glob ((GL0).ent rfl rfl) (RO_glob ((GL2).ent rfl rfl) (RO_glob ((GL3).ent rfl rfl) (RO_nil rfl)))) ⟨s0 _ (Zle.refl _), ⟨s1 _ (Zle.refl _), ⟨s2 _ (Zle.refl _), trivial⟩⟩⟩).mono fun ev W1 hh => ?_
  exact ⟨_, hh.1, law_post (rt := 4) laid0 (by kernel_rfl) (by kernel_rfl) (by kernel_rfl) rfl hW rfl rfl rfl hh.2⟩
theorem speechCuts_closed : joinedFacts Tryd.prog 7 Tryd.f7 Rows.speechCutsSpec Rows.speechCutsRow = true :=
  joined_of heard0 enter0 lifts0 laid0 rowed0 (by kernel_rfl) (by kernel_rfl) (by kernel_rfl) rfl
    ⟨by as_aux_lemma => kernel_rfl, by as_aux_lemma => kernel_rfl, by as_aux_lemma => kernel_rfl, by as_aux_lemma => kernel_rfl, by as_aux_lemma => kernel_rfl, by as_aux_lemma => kernel_rfl, by as_aux_lemma => kernel_rfl, by as_aux_lemma => kernel_rfl, by as_aux_lemma => kernel_rfl, make0, by kernel_rfl, by as_aux_lemma => kernel_rfl⟩
    ⟨by as_aux_lemma => kernel_rfl, by as_aux_lemma => kernel_rfl, by as_aux_lemma => kernel_rfl, by as_aux_lemma => kernel_rfl, by as_aux_lemma => kernel_rfl, by as_aux_lemma => kernel_rfl, by as_aux_lemma => kernel_rfl, by as_aux_lemma => kernel_rfl, by as_aux_lemma => kernel_rfl, by as_aux_lemma => kernel_rfl, by as_aux_lemma => kernel_rfl, by as_aux_lemma => kernel_rfl, by as_aux_lemma => kernel_rfl, by as_aux_lemma => kernel_rfl⟩
theorem speechCuts_row (pure : SpeechCutsPure) : Rows.SpeechCutsSaid :=
  OpenClaim.holds_of_wide 7 Tryd.f7 rfl rfl rfl rfl rfl rfl rfl ⟨rfl, rfl, rfl, rfl, rfl⟩ rfl rfl rfl rfl rfl (by kernel_rfl) Tryd.func7 speechCuts_closed
    (of_decide_eq_true (by kernel_rfl)) (by unfold Func.isWrapper; rw [if_neg (by decide +kernel)]; exact ⟨rfl, rfl⟩)
    (fun os started H en _ => speechCuts_lifted pure os started H en)
theorem speechCuts_card (pure : SpeechCutsPure) : Rows.SpeechCutsCardSaid :=
  Claim7.holds_tied_plain_at .later [] [.data, .data, .data, .widerDeep, .pinned] true (true, "725188cf61a2bf5f17c85f2341c13d83f5bcee9bd459005885ec753391808577") false
    (speechCuts_row pure) (fun _ h => by cases h) (by kernel_rfl) (fun _ h => by cases h) speechCuts_row_tie rfl ⟨rfl, rfl⟩ (by kernel_rfl) rfl
    (fun f fn hf hfn => by
      obtain rfl : f = 7 := Option.some.inj ((show Tryd.prog.funcNamed "trailhead/trailheadlaw08.SpeechCuts" = some 7 by kernel_rfl).symm.trans hf) |>.symm
      obtain rfl : fn = Tryd.f7 := (Option.some.inj (Tryd.func7.symm.trans hfn)).symm
      exact ⟨by kernel_rfl, fun j t ht => by
        have hp : Tryd.f7.params = #[31, 3, 9] := by kernel_rfl
        rw [hp] at ht
        have hm : t ∈ [31, 3, 9] := by simpa using Array.mem_of_getElem? ht
        have hall : ([31, 3, 9].all fun u => !Tryd.prog.wantsStandIn u) = true := by kernel_rfl
        exact (show Tryd.prog.wantsStandIn t = false by simpa using List.all_eq_true.1 hall t hm)⟩)
    (by kernel_rfl)
end Go.Proofs.YtkgpjplncfginaaDoor.Sy
