/- SpeechReads: its statement on data alone, and the steps from there to the row and the card. Printed by cards.py. -/
import Derived.Test.YtkgpjplncfginaaDoorSy22
import Derived.Test.YtkgpjplncfginaaDoorH
import Derived.Test.YtkgpjplncfginaaDoorG
import Derived.Test.YtkgpjplncfginaaDoorCards
import Derived.Test.YtkgpjplncfginaaDoorTie
import Derived.Test.YtkgpjplncfginaaDoorWB
import Derived.SevenTiedAt
import Derived.Stop.Joined
namespace Go.Proofs.YtkgpjplncfginaaDoor.Sy
open Go Go.Proofs Go.ChangeShapes Go.WideShapes Go.ChangeAt Go.RowKit
set_option maxRecDepth 100000
set_option linter.unusedVariables false
set_option linter.unusedSimpArgs false
def SpeechReadsPure : Prop := ∀ (x0 : (List Int)), goodS (.data .str) x0 → ∀ (x1 : (List Int)), goodS (.data .str) x1 → ∃ k, trailheadlaw08_SpeechReads.f k x0 x1 gv0 gv2 gv3 = some true
theorem speechReads_lifted (pure : SpeechReadsPure) (os : Os) (started : os.Started) (H : Type) (en : TypeId × Value → H) :
    ReturnsInHanded {} Tryd.checked os 6 .any (fun w args => (Rows.speechReadsSpec.pre en Tryd.prog Tryd.f6 Rows.speechReadsRow.domain false w args ∧ laidMetH Tryd.prog laidL w) ∧ sizedMet en Tryd.prog Tryd.f6 (OpenSpec.ofChange Rows.speechReadsSpec) false w args) (Rows.speechReadsSpec.post en Tryd.prog Tryd.f6 false true false false) := by
  refine returnsInHanded_of_change_and (C := Tryd.checked) (X := fun w _ => laidMetH Tryd.prog laidL w) (fun _ _ _ hh h => h.of_heap hh) own0 started (by kernel_rfl) Tryd.func6
    (ChangeSpec.witness_shaped (enc := en) (C := Tryd.checked) (os := os) (X := fun w _ => laidMetH Tryd.prog laidL w) false (World.laidAll Tryd.prog os laidL) #[.string ⟨#[]⟩, .string ⟨#[]⟩] 8 (World.laidAll_os _ _ _)
      (World.shaped_of_ZipB (by kernel_rfl) (by kernel_rfl)) (by kernel_rfl) (by kernel_rfl) (by kernel_rfl)
      (by rw [laidL_plain]; exact laidMet_laidAll _ (by kernel_rfl) (by kernel_rfl))) ?_
  intro W base args ds gs before hval0 hW hcnd hsz0 hL _
  have hval : ∀ (j : Nat) t v, (Tryd.f6.params)[j]? = some t → args[j]? = some v → Value.okWide Tryd.prog W .any base t v := hval0
  have hW1 : DataW.Whole en Tryd.prog Tryd.f6.params.toList [] false W args.toList ds gs before := hW
  obtain ⟨p, q, hA0, hV, hpq, hfz, hnd⟩ := hW1
  have hA : DataW.TrodAll en Tryd.prog W 0 (fun _ => true) true [9, 9] args.toList ds p := hA0
  obtain ⟨hgs, _⟩ := trodVars_none hV
  subst hgs
  obtain ⟨GL3, GL2, GL0⟩ := globs_of hL
  obtain ⟨v0, vs0, d0, ds0, p0, q0, ha0, hd0, _, h0, hA1⟩ := trodAll_cons2 hA
  obtain ⟨v1, vs1, d1, ds1, p1, q1, ha1, hd1, _, h1, hA2⟩ := trodAll_cons2 hA1
  obtain ⟨e1, e2⟩ := trodAll_nil2 hA2
  subst e1 e2
  subst ha1 hd1
  have hargs : args = #[v0, v1] := by apply Array.toList_inj.1; rw [ha0]
  subst hd0 hargs
  have hsz1 : (DataW.weightsEach Tryd.prog [9, 9] [d0, d1]).all (· ≤ reachBytes) = true := hsz0
  have hsz : ∀ (j : Nat) (t : TypeId) (d : DataW H), ([9, 9] : List TypeId)[j]? = some t → [d0, d1][j]? = some d → ∀ m ∈ d.weights Tryd.prog t, m ≤ reachBytes := fun j t d ht hd m hm => of_decide_eq_true (List.all_eq_true.1 hsz1 m (DataW.weights_mem_each ht hd m hm))
  obtain ⟨x0, g0, s0⟩ := open_arg (n := 4) (s := (.data .str)) (by kernel_rfl) (hval 0 9 v0 rfl rfl) h0 (hsz 0 9 d0 rfl rfl)
  obtain ⟨x1, g1, s1⟩ := open_arg (n := 4) (s := (.data .str)) (by kernel_rfl) (hval 1 9 v1 rfl rfl) h1 (hsz 1 9 d1 rfl rfl)
  obtain ⟨k, hk⟩ := pure x0 g0 x1 g1
  refine (law_call (trailheadlaw08_SpeechReads.ok k) (d := (x0, x1, ())) (e := (gv0, gv2, gv3, ())) hk rfl rfl (W := W) ⟨fun i => ([.pointer (some ⟨0, 0, none⟩), .pointer (some ⟨2, 0, none⟩), .pointer (some ⟨3, 0, none⟩)] : List Value).getD i .nilFunc, zOf W⟩ [v0, v1] (RO_glob ((GL0).ent rfl rfl) (RO_glob ((GL2).ent rfl rfl) (RO_glob ((GL3).ent rfl rfl) (RO_nil rfl)))) ⟨s0 _ (Zle.refl _), ⟨s1 _ (Zle.refl _), trivial⟩⟩).mono fun ev W1 hh => ?_
  exact ⟨_, hh.1, law_post (rt := 4) laid0 (by kernel_rfl) (by kernel_rfl) (by kernel_rfl) rfl hW rfl rfl rfl hh.2⟩
theorem speechReads_closed : joinedFacts Tryd.prog 6 Tryd.f6 Rows.speechReadsSpec Rows.speechReadsRow = true :=
  joined_of heard0 enter0 lifts0 laid0 rowed0 (by kernel_rfl) (by kernel_rfl) (by kernel_rfl) rfl
    ⟨by as_aux_lemma => kernel_rfl, by as_aux_lemma => kernel_rfl, by as_aux_lemma => kernel_rfl, by as_aux_lemma => kernel_rfl, by as_aux_lemma => kernel_rfl, by as_aux_lemma => kernel_rfl, by as_aux_lemma => kernel_rfl, by as_aux_lemma => kernel_rfl, by as_aux_lemma => kernel_rfl, make0, by kernel_rfl, by as_aux_lemma => kernel_rfl⟩
    ⟨by as_aux_lemma => kernel_rfl, by as_aux_lemma => kernel_rfl, by as_aux_lemma => kernel_rfl, by as_aux_lemma => kernel_rfl, by as_aux_lemma => kernel_rfl, by as_aux_lemma => kernel_rfl, by as_aux_lemma => kernel_rfl, by as_aux_lemma => kernel_rfl, by as_aux_lemma => kernel_rfl, by as_aux_lemma => kernel_rfl, by as_aux_lemma => kernel_rfl, by as_aux_lemma => kernel_rfl, by as_aux_lemma => kernel_rfl, by as_aux_lemma => kernel_rfl⟩
theorem speechReads_row (pure : SpeechReadsPure) : Rows.SpeechReadsSaid :=
  OpenClaim.holds_of_wide 6 Tryd.f6 rfl rfl rfl rfl rfl rfl rfl ⟨rfl, rfl, rfl, rfl, rfl⟩ rfl rfl rfl rfl rfl (by kernel_rfl) Tryd.func6 speechReads_closed
    (of_decide_eq_true (by kernel_rfl)) (by unfold Func.isWrapper; rw [if_neg (by decide +kernel)]; exact ⟨rfl, rfl⟩)
    (fun os started H en _ => speechReads_lifted pure os started H en)
theorem speechReads_card (pure : SpeechReadsPure) : Rows.SpeechReadsCardSaid :=
  Claim7.holds_tied_plain_at .later [] [.data, .data, .data, .widerDeep, .pinned] true (true, "725188cf61a2bf5f17c85f2341c13d83f5bcee9bd459005885ec753391808577") false
    (speechReads_row pure) (fun _ h => by cases h) (by kernel_rfl) (fun _ h => by cases h) speechReads_row_tie rfl ⟨rfl, rfl⟩ (by kernel_rfl) rfl
    (fun f fn hf hfn => by
      obtain rfl : f = 6 := Option.some.inj ((show Tryd.prog.funcNamed "trailhead/trailheadlaw08.SpeechReads" = some 6 by kernel_rfl).symm.trans hf) |>.symm
      obtain rfl : fn = Tryd.f6 := (Option.some.inj (Tryd.func6.symm.trans hfn)).symm
      exact ⟨by kernel_rfl, fun j t ht => by
        have hp : Tryd.f6.params = #[9, 9] := by kernel_rfl
        rw [hp] at ht
        have hm : t ∈ [9, 9] := by simpa using Array.mem_of_getElem? ht
        have hall : ([9, 9].all fun u => !Tryd.prog.wantsStandIn u) = true := by kernel_rfl
        exact (show Tryd.prog.wantsStandIn t = false by simpa using List.all_eq_true.1 hall t hm)⟩)
    (by kernel_rfl)
end Go.Proofs.YtkgpjplncfginaaDoor.Sy
