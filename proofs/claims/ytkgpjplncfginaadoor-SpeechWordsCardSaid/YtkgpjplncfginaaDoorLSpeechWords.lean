/- SpeechWords: the statement on data, and the card. -/
import Derived.Test.YtkgpjplncfginaaDoorQ125
import Derived.Test.YtkgpjplncfginaaDoorRSpeechWords
namespace Go.Proofs.YtkgpjplncfginaaDoor.Sy
open Go
set_option linter.unusedVariables false
set_option linter.unusedSimpArgs false

theorem speechWords_pure : SpeechWordsPure := by
  intro v hv w hw
  refine ⟨300000, ?_⟩
  generalize hk' : (300000 : Nat) = k
  have hk : 200000 < k := by omega
  clear hk'
  unfold trailheadlaw08_SpeechWords.f trailheadlaw08_SpeechWords.tree
  rw [show gv2 = H8 from rfl, show gv3 = K64 from rfl, alive08 k hk, Option.bind_some, sword_eq, Option.bind_some, rword8_eq, Option.bind_some, dt rfl, skind_eq k w (by omega), Option.bind_some, rkind_eq k w (by omega), Option.bind_some, beqt rfl]
  simp only [Bool.not_true, cond_false, cond_true]
  by_cases h : wordOf v = []
  · rw [dt h]; rfl
  · rw [df h, cond_false, skind_eq k _ (by omega), Option.bind_some, kind_word v h, beqt rfl]

theorem speechWords_said : Rows.SpeechWordsCardSaid := speechWords_card speechWords_pure

end Go.Proofs.YtkgpjplncfginaaDoor.Sy
