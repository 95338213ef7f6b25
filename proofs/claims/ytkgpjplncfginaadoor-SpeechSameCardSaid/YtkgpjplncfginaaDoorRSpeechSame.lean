/- SpeechSame: its statement on data alone, and the steps from there to the row and the card. Printed by cards.py. -/
import Derived.Test.YtkgpjplncfginaaDoorSy22
import Derived.Test.YtkgpjplncfginaaDoorH
import Derived.Test.YtkgpjplncfginaaDoorG
import Derived.Test.YtkgpjplncfginaaDoorCards
import Derived.Test.YtkgpjplncfginaaDoorTie
import Derived.Test.YtkgpjplncfginaaDoorWB
import Derived.SevenTiedAt
import Derived.Stop.Joined
namespace Go.Proofs.YtkgpjplncfginaaDoor.Sy
open Go Go.Proofs Go.ChangeShapes Go.WideShapes Go.ChangeAt Go.RowKit
set_option maxRecDepth 100000
set_option linter.unusedVariables false
set_option linter.unusedSimpArgs false
def SpeechSamePure : Prop := ∀ (x0 : T_85bbee), goodS (.data (.pair (.int .i64) (.pair (.int .i64) (.pair (.int .i64) (.pair (.int .i64) (.pair (.int .i64) (.pair (.row 28 (.arr .u8 32)) (.pair (.arr .u8 32) (.row 52 (.pair (.int .i64) (.pair (.arr .u8 32) (.pair (.arr .u8 32) (.pair (.int .i64) (.pair (.int .i64) (.int .i64))))))))))))))) x0 → ∀ (x1 : T_85bbee), goodS (.data (.pair (.int .i64) (.pair (.int .i64) (.pair (.int .i64) (.pair (.int .i64) (.pair (.int .i64) (.pair (.row 28 (.arr .u8 32)) (.pair (.arr .u8 32) (.row 52 (.pair (.int .i64) (.pair (.arr .u8 32) (.pair (.arr .u8 32) (.pair (.int .i64) (.pair (.int .i64) (.int .i64))))))))))))))) x1 → ∃ k, trailheadlaw08_SpeechSame.f k x0 x1 gv0 gv2 gv3 = some true
theorem speechSame_lifted (pure : SpeechSamePure) (os : Os) (started : os.Started) (H : Type) (en : TypeId × Value → H) :
    ReturnsInHanded {} Tryd.checked os 4 .any (fun w args => (Rows.speechSameSpec.pre en Tryd.prog Tryd.f4 Rows.speechSameRow.domain false w args ∧ laidMetH Tryd.prog laidL w) ∧ sizedMet en Tryd.prog Tryd.f4 (OpenSpec.ofChange Rows.speechSameSpec) false w args) (Rows.speechSameSpec.post en Tryd.prog Tryd.f4 false true false false) := by
  refine returnsInHanded_of_change_and (C := Tryd.checked) (X := fun w _ => laidMetH Tryd.prog laidL w) (fun _ _ _ hh h => h.of_heap hh) own0 started (by kernel_rfl) Tryd.func4
    (ChangeSpec.witness_shaped (enc := en) (C := Tryd.checked) (os := os) (X := fun w _ => laidMetH Tryd.prog laidL w) false (World.laidAll Tryd.prog os laidL) #[.agg #[.int .i64 0, .int .i64 0, .int .i64 0, .int .i64 0, .int .i64 0, .slice none 0 0, .int .u8 0, .int .u8 0, .int .u8 0, .int .u8 0, .int .u8 0, .int .u8 0, .int .u8 0, .int .u8 0, .int .u8 0, .int .u8 0, .int .u8 0, .int .u8 0, .int .u8 0, .int .u8 0, .int .u8 0, .int .u8 0, .int .u8 0, .int .u8 0, .int .u8 0, .int .u8 0, .int .u8 0, .int .u8 0, .int .u8 0, .int .u8 0, .int .u8 0, .int .u8 0, .int .u8 0, .int .u8 0, .int .u8 0, .int .u8 0, .int .u8 0, .int .u8 0, .slice none 0 0], .agg #[.int .i64 0, .int .i64 0, .int .i64 0, .int .i64 0, .int .i64 0, .slice none 0 0, .int .u8 0, .int .u8 0, .int .u8 0, .int .u8 0, .int .u8 0, .int .u8 0, .int .u8 0, .int .u8 0, .int .u8 0, .int .u8 0, .int .u8 0, .int .u8 0, .int .u8 0, .int .u8 0, .int .u8 0, .int .u8 0, .int .u8 0, .int .u8 0, .int .u8 0, .int .u8 0, .int .u8 0, .int .u8 0, .int .u8 0, .int .u8 0, .int .u8 0, .int .u8 0, .int .u8 0, .int .u8 0, .int .u8 0, .int .u8 0, .int .u8 0, .int .u8 0, .slice none 0 0]] 8 (World.laidAll_os _ _ _)
      (World.shaped_of_ZipB (by kernel_rfl) (by kernel_rfl)) (by kernel_rfl) (by kernel_rfl) (by kernel_rfl)
      (by rw [laidL_plain]; exact laidMet_laidAll _ (by kernel_rfl) (by kernel_rfl))) ?_
  intro W base args ds gs before hval0 hW hcnd hsz0 hL _
  have hval : ∀ (j : Nat) t v, (Tryd.f4.params)[j]? = some t → args[j]? = some v → Value.okWide Tryd.prog W .any base t v := hval0
  have hW1 : DataW.Whole en Tryd.prog Tryd.f4.params.toList [] false W args.toList ds gs before := hW
  obtain ⟨p, q, hA0, hV, hpq, hfz, hnd⟩ := hW1
  have hA : DataW.TrodAll en Tryd.prog W 0 (fun _ => true) true [31, 31] args.toList ds p := hA0
  obtain ⟨hgs, _⟩ := trodVars_none hV
  subst hgs
  obtain ⟨GL3, GL2, GL0⟩ := globs_of hL
  obtain ⟨v0, vs0, d0, ds0, p0, q0, ha0, hd0, _, h0, hA1⟩ := trodAll_cons2 hA
  obtain ⟨v1, vs1, d1, ds1, p1, q1, ha1, hd1, _, h1, hA2⟩ := trodAll_cons2 hA1
  obtain ⟨e1, e2⟩ := trodAll_nil2 hA2
  subst e1 e2
  subst ha1 hd1
  have hargs : args = #[v0, v1] := by apply Array.toList_inj.1; rw [ha0]
  subst hd0 hargs
  have hsz1 : (DataW.weightsEach Tryd.prog [31, 31] [d0, d1]).all (· ≤ reachBytes) = true := hsz0
  have hsz : ∀ (j : Nat) (t : TypeId) (d : DataW H), ([31, 31] : List TypeId)[j]? = some t → [d0, d1][j]? = some d → ∀ m ∈ d.weights Tryd.prog t, m ≤ reachBytes := fun j t d ht hd m hm => of_decide_eq_true (List.all_eq_true.1 hsz1 m (DataW.weights_mem_each ht hd m hm))
  obtain ⟨x0, g0, s0⟩ := open_arg (n := 4) (s := (.data (.pair (.int .i64) (.pair (.int .i64) (.pair (.int .i64) (.pair (.int .i64) (.pair (.int .i64) (.pair (.row 28 (.arr .u8 32)) (.pair (.arr .u8 32) (.row 52 (.pair (.int .i64) (.pair (.arr .u8 32) (.pair (.arr .u8 32) (.pair (.int .i64) (.pair (.int .i64) (.int .i64)))))))))))))))) (by kernel_rfl) (hval 0 31 v0 rfl rfl) h0 (hsz 0 31 d0 rfl rfl)
  obtain ⟨x1, g1, s1⟩ := open_arg (n := 4) (s := (.data (.pair (.int .i64) (.pair (.int .i64) (.pair (.int .i64) (.pair (.int .i64) (.pair (.int .i64) (.pair (.row 28 (.arr .u8 32)) (.pair (.arr .u8 32) (.row 52 (.pair (.int .i64) (.pair (.arr .u8 32) (.pair (.arr .u8 32) (.pair (.int .i64) (.pair (.int .i64) (.int .i64)))))))))))))))) (by kernel_rfl) (hval 1 31 v1 rfl rfl) h1 (hsz 1 31 d1 rfl rfl)
  obtain ⟨k, hk⟩ := pure x0 g0 x1 g1
  refine (law_call (trailheadlaw08_SpeechSame.ok k) (d := (x0, x1, ())) (e := (gv0, gv2, gv3, ())) hk rfl rfl (W := W) ⟨fun i => ([.pointer (some ⟨0, 0, none⟩), .pointer (some ⟨2, 0, none⟩), .pointer (some ⟨3, 0, none⟩)] : List Value).getD i .nilFunc, zOf W⟩ [v0, v1] (RO_glob ((GL0).ent rfl rfl) (RO_glob ((GL2).ent rfl rfl) (RO_glob ((GL3).ent rfl rfl) (RO_nil rfl)))) ⟨s0 _ (Zle.refl _), ⟨s1 _ (Zle.refl _), trivial⟩⟩).mono fun ev W1 hh => ?_
  exact ⟨_, hh.1, law_post (rt := 4) laid0 (by kernel_rfl) (by kernel_rfl) (by kernel_rfl) rfl hW rfl rfl rfl hh.2⟩
theorem speechSame_closed : joinedFacts Tryd.prog 4 Tryd.f4 Rows.speechSameSpec Rows.speechSameRow = true :=
  joined_of heard0 enter0 lifts0 laid0 rowed0 (by kernel_rfl) (by kernel_rfl) (by kernel_rfl) rfl
    ⟨by as_aux_lemma => kernel_rfl, by as_aux_lemma => kernel_rfl, by as_aux_lemma => kernel_rfl, by as_aux_lemma => kernel_rfl, by as_aux_lemma => kernel_rfl, by as_aux_lemma => kernel_rfl, by as_aux_lemma => kernel_rfl, by as_aux_lemma => kernel_rfl, by as_aux_lemma => kernel_rfl, make0, by kernel_rfl, by as_aux_lemma => kernel_rfl⟩
    ⟨by as_aux_lemma => kernel_rfl, by as_aux_lemma => kernel_rfl, by as_aux_lemma => kernel_rfl, by as_aux_lemma => kernel_rfl, by as_aux_lemma => kernel_rfl, by as_aux_lemma => kernel_rfl, by as_aux_lemma => kernel_rfl, by as_aux_lemma => kernel_rfl, by as_aux_lemma => kernel_rfl, by as_aux_lemma => kernel_rfl, by as_aux_lemma => kernel_rfl, by as_aux_lemma => kernel_rfl, by as_aux_lemma => kernel_rfl, by as_aux_lemma => kernel_rfl⟩
theorem speechSame_row (pure : SpeechSamePure) : Rows.SpeechSameSaid :=
  OpenClaim.holds_of_wide 4 Tryd.f4 rfl rfl rfl rfl rfl rfl rfl ⟨rfl, rfl, rfl, rfl, rfl⟩ rfl rfl rfl rfl rfl (by kernel_rfl) Tryd.func4 speechSame_closed
    (of_decide_eq_true (by kernel_rfl)) (by unfold Func.isWrapper; rw [if_neg (by decide +kernel)]; exact ⟨rfl, rfl⟩)
    (fun os started H en _ => speechSame_lifted pure os started H en)
theorem speechSame_card (pure : SpeechSamePure) : Rows.SpeechSameCardSaid :=
  Claim7.holds_tied_plain_at .later [] [.data, .data, .data, .widerDeep, .pinned] true (true, "725188cf61a2bf5f17c85f2341c13d83f5bcee9bd459005885ec753391808577") false
    (speechSame_row pure) (fun _ h => by cases h) (by kernel_rfl) (fun _ h => by cases h) speechSame_row_tie rfl ⟨rfl, rfl⟩ (by kernel_rfl) rfl
    (fun f fn hf hfn => by
      obtain rfl : f = 4 := Option.some.inj ((show Tryd.prog.funcNamed "trailhead/trailheadlaw08.SpeechSame" = some 4 by kernel_rfl).symm.trans hf) |>.symm
      obtain rfl : fn = Tryd.f4 := (Option.some.inj (Tryd.func4.symm.trans hfn)).symm
      exact ⟨by kernel_rfl, fun j t ht => by
        have hp : Tryd.f4.params = #[31, 31] := by kernel_rfl
        rw [hp] at ht
        have hm : t ∈ [31, 31] := by simpa using Array.mem_of_getElem? ht
        have hall : ([31, 31].all fun u => !Tryd.prog.wantsStandIn u) = true := by kernel_rfl
        exact (show Tryd.prog.wantsStandIn t = false by simpa using List.all_eq_true.1 hall t hm)⟩)
    (by kernel_rfl)
end Go.Proofs.YtkgpjplncfginaaDoor.Sy
