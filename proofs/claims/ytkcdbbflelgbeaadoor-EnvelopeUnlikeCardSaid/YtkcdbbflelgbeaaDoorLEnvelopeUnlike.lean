/- EnvelopeUnlike: the statement on data, and the card. -/
import Derived.Test.YtkcdbbflelgbeaaDoorQ102
import Derived.Test.YtkcdbbflelgbeaaDoorREnvelopeUnlike
namespace Go.Proofs.YtkcdbbflelgbeaaDoor.Sy
open Go
set_option linter.unusedVariables false
set_option linter.unusedSimpArgs false

theorem no_prefix {a b : Env7} (ha : gB a = true) (hb : gB b = true) (h : a ≠ b) : ¬ ((envB a).take (envB b).length = envB b) := by
  intro e
  apply h
  refine env_inj ha hb ((envB a).drop (envB b).length) ?_
  have := List.take_append_drop (envB b).length (envB a)
  rw [e] at this
  exact this.symm

theorem envelopeUnlike_pure : EnvelopeUnlikePure := by
  intro a ha b hb'
  refine ⟨300000, ?_⟩
  have b2 : byteL a.2 := ha.2.1
  have c2 : byteL b.2 := hb'.2.1
  have r1 : a.2.length ≤ reachBytes := ha.2.2
  have r2 : b.2.length ≤ reachBytes := hb'.2.2
  have rr : reachBytes ≤ 140737488355328 := by decide
  have hk : 200000 < 300000 := by omega
  generalize 300000 = k at hk
  have e0 : gv1 = H8 := rfl
  have e1 : gv2 = K64 := rfl
  rw [e0, e1]
  unfold trailheadlaw07_EnvelopeUnlike.f trailheadlaw07_EnvelopeUnlike.tree
  rw [alive07 k hk, Option.bind_some, Bool.not_true, cond_false, add_id (by omega) (by omega)]
  by_cases hl : (a.2.length : Int) + (b.2.length : Int) > 4096
  · rw [dt hl]; rfl
  rw [df hl, cond_false, rgood7_eq k a (by omega), Option.bind_some]
  cases ga : gB a
  · rfl
  rw [Bool.not_true, cond_false, rgood7_eq k b (by omega), Option.bind_some]
  cases gb : gB b
  · rfl
  rw [Bool.not_true, cond_false, bytes7_eq k a ga b2 (by omega), Option.bind_some, bytes7_eq k b gb c2 (by omega), Option.bind_some, eqDen7]
  by_cases h : a = b
  · subst h
    rw [dt rfl, cond_true, dt rfl]
  · rw [df h, cond_false]
    simp only [Int.toNat_natCast]
    by_cases hlt : ((envB a).length : Int) > ((envB b).length : Int)
    · rw [dt hlt, cond_true, dt (by omega), cond_true, dt (by omega), cond_true, df (no_prefix ga gb h)]
      rfl
    · rw [df hlt, cond_false]
      repeat rw [dt (by omega), cond_true]
      rw [df (no_prefix gb ga (fun e => h e.symm))]
      rfl

theorem envelopeUnlike_said : Rows.EnvelopeUnlikeCardSaid := envelopeUnlike_card envelopeUnlike_pure

end Go.Proofs.YtkcdbbflelgbeaaDoor.Sy
