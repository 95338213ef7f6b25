/- EnvelopeBytes: the statement on data, and the card. -/
import Derived.Test.YtkcdbbflelgbeaaDoorQ102
import Derived.Test.YtkcdbbflelgbeaaDoorREnvelopeBytes
namespace Go.Proofs.YtkcdbbflelgbeaaDoor.Sy
open Go
set_option linter.unusedVariables false
set_option linter.unusedSimpArgs false

theorem envelopeBytes_pure : EnvelopeBytesPure := by
  intro v hv q hq cut _
  refine ⟨300000, ?_⟩
  have b1 : byteL v.1 := hv.1.1
  have b2 : byteL v.2 := hv.2.1
  obtain ⟨bq, _⟩ : byteL q ∧ q.length ≤ reachBytes := hq
  have hk : 200000 < 300000 := by omega
  generalize 300000 = k at hk
  have e0 : gv1 = H8 := rfl
  have e1 : gv2 = K64 := rfl
  rw [e0, e1]
  unfold trailheadlaw07_EnvelopeBytes.f trailheadlaw07_EnvelopeBytes.tree
  rw [alive07 k hk, Option.bind_some, Bool.not_true, cond_false]
  by_cases g1 : (v.2.length : Int) > 32768
  · rw [dt g1]; rfl
  rw [df g1, cond_false]
  by_cases g2 : (v.1.length : Int) > 100
  · rw [dt g2]; rfl
  rw [df g2, cond_false]
  by_cases g3 : (q.length : Int) > 100
  · rw [dt g3]; rfl
  rw [df g3, cond_false]
  have b3 (x : Bool) : (x == x) = true := by cases x <;> rfl
  have z0 : ((0 : Int) == (0 : Int)) = true := rfl
  have z1 : ((1 : Int) == (1 : Int)) = true := rfl
  have z7 : ((7 : Int) == (7 : Int)) = true := rfl
  cases hg : gB v
  · rw [bytes7_bad k v hg, Option.bind_some, good7_eq, Option.bind_some, rgood7_eq k v (by omega), Option.bind_some, hg, b3, Bool.not_true, cond_false, Option.bind_some]
    simp only [z1, Bool.not_false, cond_true]
    rfl
  · rw [bytes7_eq k v hg b2 (by omega), Option.bind_some, good7_eq, Option.bind_some, rgood7_eq k v (by omega), Option.bind_some, hg, b3, Bool.not_true, cond_false, Option.bind_some, Bool.not_true, cond_false]
    obtain ⟨hw, hp⟩ := gB_of hg
    have hlen := envB_length (wB_of hw).2.1
    have hbb := envB_byteL b1 b2
    simp only []
    have eu : IntKind.wrap .u64 ((envB v).length : Int) = ((envB v).length : Int) := by rw [w_u64]; omega
    rw [fits_ok (by omega), cond_true, take_eq7 k _ (byteL_app7 hbb bq) (by rw [List.length_append]; omega) (by omega), tk_env v hg q, Option.bind_some, eu, df (by omega), cond_false, w_u64 cut]
    have hr0 : 0 ≤ cut % 18446744073709551616 := by omega
    have er : remI (cut % 18446744073709551616) ((envB v).length : Int) = cut % 18446744073709551616 % ((envB v).length : Int) := by
      unfold remI; rw [Int.tmod_eq_emod_of_nonneg hr0]
    have c0 := Int.emod_nonneg (cut % 18446744073709551616) (show ((envB v).length : Int) ≠ 0 by omega)
    have c1 := Int.emod_lt_of_pos (cut % 18446744073709551616) (show 0 < ((envB v).length : Int) by omega)
    rw [er]
    generalize cut % 18446744073709551616 % ((envB v).length : Int) = c at c0 c1
    rw [i64_id (by omega) (by omega)]
    have d1 : decide ((0 : Int) ≤ c) = true := dt c0
    have d2 : decide (c ≤ ((envB v).length : Int)) = true := dt (by omega)
    simp only [d1, d2, cond_true]
    rw [take_eq7 k _ (byteL_take _ hbb) (by rw [List.length_take]; omega) (by omega), tk_cut v hg _ (by omega), Option.bind_some]
    simp only [z0, cond_true]
    rw [rbytes7_eq k v.1 v.2 (wB_of hw).2.1 b2 (by omega) hk, Option.bind_some, dt rfl, cond_true, eqDen7, dt rfl, cond_true, beqt rfl, cond_true]
    rfl

theorem envelopeBytes_said : Rows.EnvelopeBytesCardSaid := envelopeBytes_card envelopeBytes_pure

end Go.Proofs.YtkcdbbflelgbeaaDoor.Sy
