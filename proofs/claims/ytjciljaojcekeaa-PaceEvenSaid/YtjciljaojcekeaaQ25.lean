
/- PaceEven. -/
import Derived.Test.YtjciljaojcekeaaQ24
namespace Go.Proofs.Ytjciljaojcekeaa.Sx
open Go
set_option linter.unusedVariables false
set_option linter.unusedSimpArgs false
set_option maxRecDepth 100000

theorem tgt_ok {b l : Int} {o : Nat} (h : tgt b l = (o, true)) : o = (dAll b).1 := by
  unfold tgt at h
  generalize dAll b = p at *
  generalize dAll l = q at *
  split at h
  · exact (congrArg Prod.fst h).symm
  · exact absurd (congrArg Prod.snd h) (by simp)

end Go.Proofs.Ytjciljaojcekeaa.Sx
