/- SpeechReads: the statement on data, and the card. -/
import Derived.Test.YtkgpjplncfginaaDoorQ125
import Derived.Test.YtkgpjplncfginaaDoorRSpeechReads
namespace Go.Proofs.YtkgpjplncfginaaDoor.Sy
open Go
set_option linter.unusedVariables false
set_option linter.unusedSimpArgs false

theorem speechReads_pure : SpeechReadsPure := by
  intro w hw p hp
  refine ⟨300000, ?_⟩
  generalize hk' : (300000 : Nat) = k
  have hk : 200000 < k := by omega
  clear hk'
  have hb : byteL p := hp.1
  unfold trailheadlaw08_SpeechReads.f trailheadlaw08_SpeechReads.tree
  rw [show gv2 = H8 from rfl, show gv3 = K64 from rfl, alive08 k hk, Option.bind_some, Bool.not_true, cond_false]
  by_cases g1 : (p.length : Int) > 8192
  · rw [dt g1]; rfl
  rw [df g1, cond_false]
  by_cases g2 : (w.length : Int) > 100
  · rw [dt g2]; rfl
  rw [df g2, cond_false, read_eq k w p hb (by omega), Option.bind_some, rkind_eq k w (by omega), Option.bind_some]
  have kl := kindOf_le w
  generalize kindOf w = kd at kl
  unfold rR
  by_cases h0 : kd = 0
  · rw [if_pos h0, beqt h0]; rfl
  rw [if_neg h0, beqf h0, cond_false]
  cases hr : rM kd p with
  | none => rfl
  | some x =>
    obtain ⟨e1, e2, e3, e4, e5⟩ := read_sound kd p x (by omega) hb hr
    simp only [bne_self_eq_false, cond_false]
    rw [beqt e1, cond_true, rmgood_eq k x (by omega) (by omega), Option.bind_some, e2, cond_true, rpay_eq k x e2 e3 (by omega), Option.bind_some, dt e4]

theorem speechReads_said : Rows.SpeechReadsCardSaid := speechReads_card speechReads_pure

end Go.Proofs.YtkgpjplncfginaaDoor.Sy
