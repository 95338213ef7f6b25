/- SpeechBytes: the statement on data, and the card. -/
import Derived.Test.YtkgpjplncfginaaGreatDoorQ125Z
import Derived.Test.YtkgpjplncfginaaGreatDoorRSpeechBytes
namespace Go.Proofs.YtkgpjplncfginaaGreatDoor.Sy
open Go
set_option linter.unusedVariables false
set_option linter.unusedSimpArgs false

theorem mN_ofG {e1 e2 : Nat} {m : Msg} (hg : goodS (.data (.pair (.int .i64) (.pair (.int .i64) (.pair (.int .i64) (.pair (.int .i64) (.pair (.int .i64) (.pair (.row e1 (.arr .u8 32)) (.pair (.arr .u8 32) (.row e2 (.pair (.int .i64) (.pair (.arr .u8 32) (.pair (.arr .u8 32) (.pair (.int .i64) (.pair (.int .i64) (.int .i64))))))))))))))) m) : mN m :=
  ⟨fun h hh => name_of (hg.2.2.2.2.2.1.1 h hh), name_of hg.2.2.2.2.2.2.1, fun h hh => hN_of (hg.2.2.2.2.2.2.2.1 h hh)⟩

theorem speechBytes_pure : SpeechBytesPure := by
  intro m hm
  refine ⟨300000, ?_⟩
  generalize hk' : (300000 : Nat) = k
  have hk : 200000 < k := by omega
  clear hk'
  have nm := mN_ofG hm
  unfold trailheadlaw08_SpeechBytes.f trailheadlaw08_SpeechBytes.tree
  rw [show gv2 = H8 from rfl, show gv3 = K64 from rfl, alive08 k hk, Option.bind_some, great_eq, Option.bind_some, Bool.not_true, cond_false]
  by_cases g1 : 200 < m.2.2.2.2.2.1.length ∨ 100 < m.2.2.2.2.2.2.2.length
  · rw [dt g1]; rfl
  rw [df g1, cond_false, rmgood_eq k m (by omega) (by omega), Option.bind_some, mbytes_eq k m nm (by omega), Option.bind_some, mgood_eq k m (by omega), Option.bind_some, beq_self_eq_true, Bool.not_true, cond_false]
  cases gm : mgood m
  · have e : mB m = ([], 1) := by unfold mB; rw [gm]; rfl
    rw [e]; rfl
  have e : mB m = (envB (wordOf m.1, mpay m), 0) := by unfold mB; rw [gm]; rfl
  have kd := good_kind gm
  have pl := pay_le gm nm
  have pb := pay_byteL gm nm
  have wg := wB_of (word_good kd.1 kd.2)
  have kw : kindOf (wordOf m.1) = m.1 := kind_word m.1 (fun e => by have := wg.1; rw [e] at this; simp at this)
  have rc := read_complete m gm nm
  obtain ⟨s1, s2, s3, s4, s5⟩ := read_sound m.1 (mpay m) (bare m) kd pb rc
  have rr : rR m.1 (mpay m) = (bare m, 0) := by unfold rR; rw [if_neg (by omega), rc]
  have bl := bare_len m
  have bb : bare (bare m) = bare m := (bare_iff s2 s3 gm nm s1).2 s4
  rw [Bool.not_true, cond_false, cond_false, rpay_eq k m gm nm (by omega), Option.bind_some, rword8_eq, Option.bind_some, read_eq k _ _ pb (by omega), Option.bind_some, kw, rr, e]
  simp only
  rw [beqt rfl, cond_true, rbytes7_eq k _ _ wg.2.1 pb (by omega) hk, Option.bind_some, dt rfl, beqt s1, rpay_eq k _ s2 s3 (by omega), s4]
  simp only [cond_true, Option.bind_some]
  rw [same_eq k _ _ (by omega) (by omega) (by omega), bb]
  exact congrArg some (decide_eq_true rfl)

theorem speechBytes_said : Rows.SpeechBytesCardSaid := speechBytes_card speechBytes_pure

end Go.Proofs.YtkgpjplncfginaaGreatDoor.Sy
