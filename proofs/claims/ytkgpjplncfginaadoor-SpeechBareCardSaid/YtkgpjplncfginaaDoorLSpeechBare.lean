/- SpeechBare: the statement on data, and the card. -/
import Derived.Test.YtkgpjplncfginaaDoorQ125
import Derived.Test.YtkgpjplncfginaaDoorRSpeechBare
namespace Go.Proofs.YtkgpjplncfginaaDoor.Sy
open Go
set_option linter.unusedVariables false
set_option linter.unusedSimpArgs false

theorem mN_of {m : Msg} (hg : goodS (.data (.pair (.int .i64) (.pair (.int .i64) (.pair (.int .i64) (.pair (.int .i64) (.pair (.int .i64) (.pair (.row 28 (.arr .u8 32)) (.pair (.arr .u8 32) (.row 52 (.pair (.int .i64) (.pair (.arr .u8 32) (.pair (.arr .u8 32) (.pair (.int .i64) (.pair (.int .i64) (.int .i64))))))))))))))) m) : mN m :=
  ⟨fun h hh => name_of (hg.2.2.2.2.2.1.1 h hh), name_of hg.2.2.2.2.2.2.1, fun h hh => hN_of (hg.2.2.2.2.2.2.2.1 h hh)⟩

theorem same_bytes {a b : Msg} (ga : mgood a = true) (h : a.1 = b.1) (hg : mgood b = mgood a) (hp : mpay b = mpay a) : mB b = mB a := by
  unfold mB
  rw [hg, ← h, hp]

theorem bare_step (k : Nat) (hk : 200000 < k) (a b : Msg) (ga : mgood a = true) (na : mN a) (nb : mN b) (l1 : a.2.2.2.2.2.1.length ≤ 200) (l2 : a.2.2.2.2.2.2.2.length ≤ 100) (h : bare b = bare a) (hk1 : b.1 = a.1) (hg : mgood b = mgood a) (hp : mpay b = mpay a) :
    (Option.bind (speech_Bytes.f k a gv0 H8 K64) (fun r5 => (Option.bind (speech_Bytes.f k b gv0 H8 K64) (fun r6 => (bif (r5.2 == (0 : Int)) then (bif (r6.2 == (0 : Int)) then (bif (decide (r5.1 = r6.1)) then (Option.bind (speech_Same_v1.f k a b) (fun r7 => (some r7))) else (some false)) else (some false)) else (some false)))))) = some true := by
  have e : mB b = mB a := same_bytes ga hk1.symm hg hp
  have e0 : (mB a).2 = 0 := by unfold mB; rw [ga]; rfl
  rw [mbytes_eq k a na (by omega), Option.bind_some, mbytes_eq k b nb (by omega), Option.bind_some, e, e0, dt rfl, same_eq k a b (by omega) l1 l2, Option.bind_some, dt h.symm]
  rfl

theorem speechBare_pure : SpeechBarePure := by
  intro a ha b hb
  refine ⟨300000, ?_⟩
  generalize hk' : (300000 : Nat) = k
  have hk : 200000 < k := by omega
  clear hk'
  have na := mN_of ha
  have nb := mN_of hb
  unfold trailheadlaw08_SpeechBare.f trailheadlaw08_SpeechBare.tree
  rw [show gv2 = H8 from rfl, show gv3 = K64 from rfl, alive08 k hk, Option.bind_some, great_eq, Option.bind_some, great_eq, Option.bind_some, Bool.not_true, cond_false]
  by_cases g1 : 200 < a.2.2.2.2.2.1.length ∨ 100 < a.2.2.2.2.2.2.2.length
  · rw [dt g1]; rfl
  rw [df g1, cond_false]
  by_cases g2 : 200 < b.2.2.2.2.2.1.length ∨ 100 < b.2.2.2.2.2.2.2.length
  · rw [dt g2]; rfl
  rw [df g2, cond_false, rmgood_eq k a (by omega) (by omega), Option.bind_some]
  cases ga : mgood a
  · rfl
  rw [Bool.not_true, cond_false]
  by_cases h1 : a.1 = 1
  · rw [beqt h1, cond_true]
    refine bare_step k hk a _ ga na ⟨nb.1, nb.2.1, nb.2.2⟩ (by omega) (by omega) ?_ rfl ?_ ?_
    · unfold bare; rw [if_pos h1, if_pos h1]
    · unfold mgood; rw [if_pos h1, if_pos h1]
    · unfold mpay; rw [if_pos h1, if_pos h1]
  rw [beqf h1, cond_false]
  by_cases h3 : a.1 = 3
  · rw [beqt h3, cond_true]
    refine bare_step k hk a _ ga na ⟨na.1, na.2.1, nb.2.2⟩ (by omega) (by omega) ?_ rfl ?_ ?_
    · unfold bare; simp only [if_neg h1, if_pos h3]
    · unfold mgood; simp only [if_neg h1, if_pos h3]
    · unfold mpay; simp only [if_neg h1, if_pos h3]
  rw [beqf h3, cond_false]
  by_cases h4 : a.1 = 4
  · rw [beqt h4, cond_true]
    refine bare_step k hk a _ ga na ⟨nb.1, nb.2.1, na.2.2⟩ (by omega) (by omega) ?_ rfl ?_ ?_
    · unfold bare; simp only [if_neg h1, if_neg h3, if_pos h4]
    · unfold mgood; simp only [if_neg h1, if_neg h3, if_pos h4]
    · unfold mpay; simp only [if_neg h1, if_neg h3, if_pos h4]
  rw [beqf h4, cond_false]
  by_cases h5 : a.1 = 5
  · rw [beqt h5, cond_true]
    refine bare_step k hk a _ ga na ⟨na.1, nb.2.1, nb.2.2⟩ (by omega) (by omega) ?_ rfl ?_ ?_
    · unfold bare; simp only [if_neg h1, if_neg h3, if_neg h4, if_pos h5]
    · unfold mgood; simp only [if_neg h1, if_neg h3, if_neg h4, if_pos h5]
    · unfold mpay; simp only [if_neg h1, if_neg h3, if_neg h4, if_pos h5]
  rw [beqf h5, cond_false]
  by_cases h6 : a.1 = 6
  · have h67 : a.1 = 6 ∨ a.1 = 7 := .inl h6
    rw [beqt h6, cond_true, cond_true]
    refine bare_step k hk a _ ga na ⟨nb.1, nb.2.1, nb.2.2⟩ (by omega) (by omega) ?_ rfl ?_ ?_
    · unfold bare; simp only [if_neg h1, if_neg h3, if_neg h4, if_neg h5, if_pos h67]
    · unfold mgood; simp only [if_neg h1, if_neg h3, if_neg h4, if_neg h5, if_pos h67]
    · unfold mpay; simp only [if_neg h1, if_neg h3, if_neg h4, if_neg h5, if_pos h67]
  rw [beqf h6, cond_false]
  by_cases h7 : a.1 = 7
  · have h67 : a.1 = 6 ∨ a.1 = 7 := .inr h7
    rw [beqt h7, cond_true]
    refine bare_step k hk a _ ga na ⟨nb.1, nb.2.1, nb.2.2⟩ (by omega) (by omega) ?_ rfl ?_ ?_
    · unfold bare; simp only [if_neg h1, if_neg h3, if_neg h4, if_neg h5, if_pos h67]
    · unfold mgood; simp only [if_neg h1, if_neg h3, if_neg h4, if_neg h5, if_pos h67]
    · unfold mpay; simp only [if_neg h1, if_neg h3, if_neg h4, if_neg h5, if_pos h67]
  have h67 : ¬ (a.1 = 6 ∨ a.1 = 7) := by omega
  rw [beqf h7, cond_false]
  refine bare_step k hk a _ ga na ⟨nb.1, nb.2.1, nb.2.2⟩ (by omega) (by omega) ?_ rfl ?_ ?_
  · unfold bare; simp only [if_neg h1, if_neg h3, if_neg h4, if_neg h5, if_neg h67]
  · unfold mgood; simp only [if_neg h1, if_neg h3, if_neg h4, if_neg h5, if_neg h67]
  · unfold mpay; simp only [if_neg h1, if_neg h3, if_neg h4, if_neg h5, if_neg h67]

theorem speechBare_said : Rows.SpeechBareCardSaid := speechBare_card speechBare_pure

end Go.Proofs.YtkgpjplncfginaaDoor.Sy
