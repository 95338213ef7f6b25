/- SpeechSame: the statement on data, and the card. -/
import Derived.Test.YtkgpjplncfginaaDoorQ125
import Derived.Test.YtkgpjplncfginaaDoorRSpeechSame
namespace Go.Proofs.YtkgpjplncfginaaDoor.Sy
open Go
set_option linter.unusedVariables false
set_option linter.unusedSimpArgs false

theorem mN_of {m : Msg} (hg : goodS (.data (.pair (.int .i64) (.pair (.int .i64) (.pair (.int .i64) (.pair (.int .i64) (.pair (.int .i64) (.pair (.row 28 (.arr .u8 32)) (.pair (.arr .u8 32) (.row 52 (.pair (.int .i64) (.pair (.arr .u8 32) (.pair (.arr .u8 32) (.pair (.int .i64) (.pair (.int .i64) (.int .i64))))))))))))))) m) : mN m :=
  ⟨fun h hh => name_of (hg.2.2.2.2.2.1.1 h hh), name_of hg.2.2.2.2.2.2.1, fun h hh => hN_of (hg.2.2.2.2.2.2.2.1 h hh)⟩

theorem speechSame_pure : SpeechSamePure := by
  intro a ha b hb
  refine ⟨300000, ?_⟩
  generalize hk' : (300000 : Nat) = k
  have hk : 200000 < k := by omega
  clear hk'
  have na := mN_of ha
  have nb := mN_of hb
  unfold trailheadlaw08_SpeechSame.f trailheadlaw08_SpeechSame.tree
  rw [show gv2 = H8 from rfl, show gv3 = K64 from rfl, alive08 k hk, Option.bind_some, great_eq, Option.bind_some, great_eq, Option.bind_some, Bool.not_true, cond_false]
  by_cases g1 : 200 < a.2.2.2.2.2.1.length ∨ 100 < a.2.2.2.2.2.2.2.length
  · rw [dt g1]; rfl
  rw [df g1, cond_false]
  by_cases g2 : 200 < b.2.2.2.2.2.1.length ∨ 100 < b.2.2.2.2.2.2.2.length
  · rw [dt g2]; rfl
  rw [df g2, cond_false, rmgood_eq k a (by omega) (by omega), Option.bind_some]
  cases ga : mgood a
  · rfl
  rw [Bool.not_true, cond_false, rmgood_eq k b (by omega) (by omega), Option.bind_some]
  cases gb : mgood b
  · rfl
  rw [Bool.not_true, cond_false, same_eq k a b (by omega) (by omega) (by omega), Option.bind_some, same_eq k a a (by omega) (by omega) (by omega), rpay_eq k a ga na (by omega), rpay_eq k b gb nb (by omega)]
  simp only [Option.bind_some]
  by_cases e : a.1 = b.1
  · rw [beqt e, cond_true, decide_eq_decide.2 (bare_iff ga na gb nb e), beq_self_eq_true, cond_true]
    rfl
  · rw [beqf e, cond_false, df (fun h => e (by rw [← bare_kind a, h, bare_kind b]))]
    rfl

theorem speechSame_said : Rows.SpeechSameCardSaid := speechSame_card speechSame_pure

end Go.Proofs.YtkgpjplncfginaaDoor.Sy
