/- HeaderBytes: the statement on data, and the card. -/
import Derived.Test.YtnnajeoeeefjaaaDoorQ71
import Derived.Test.YtnnajeoeeefjaaaDoorRHeaderBytes
namespace Go.Proofs.YtnnajeoeeefjaaaDoor.Sy
open Go
set_option linter.unusedVariables false
set_option linter.unusedSimpArgs false

theorem headerBytes_pure : HeaderBytesPure := by
  intro a ha s hs
  refine ⟨30000, ?_⟩
  have na : hN a := hN_of ha
  obtain ⟨hb', _⟩ : byteL s ∧ s.length ≤ reachBytes := hs
  have hk : 20000 < 30000 := by omega
  generalize 30000 = k at hk
  have e0 : gv0 = H8 := rfl
  have e1 : gv1 = K64 := rfl
  rw [e0, e1]
  unfold trailheadlaw06_HeaderBytes.f trailheadlaw06_HeaderBytes.tree
  rw [alive06 k hk, Option.bind_some, Bool.not_true, cond_false]
  by_cases hl : (s.length : Int) > 100
  · rw [dt hl]; rfl
  rw [df hl, cond_false, rgood_eq, Option.bind_some, hbytes_eq k a na (by omega), Option.bind_some, hwrite_eq k a na (by omega), Option.bind_some, hgood_eq, Option.bind_some]
  have b1 : ((1 : Int) == (1 : Int)) = true := rfl
  have b2 : ((0 : Int) == (0 : Int)) = true := rfl
  have b3 (x : Bool) : (x == x) = true := by cases x <;> rfl
  rw [b3, Bool.not_true, cond_false, hid_eq k a na hk, Option.bind_some, rid_eq k a na hk, Option.bind_some, dt rfl, Bool.not_true, cond_false]
  cases ga : hgood a
  · simp only [Bool.not_false, cond_true, cond_false, b1]
    rw [show decide True = true from rfl, cond_true, text_eq k _ (hb_byteL hN_zero), Option.bind_some, rbytes_eq k zeroH hN_zero (by omega), Option.bind_some, dt rfl]
  · simp only [Bool.not_true, cond_true, cond_false, b2]
    have h80 := hb_length na
    have hbb := hb_byteL na
    rw [hof_eq k _ (by omega) hbb, if_pos h80, Option.bind_some, fits_ok (by omega), cond_true]
    have e1 : scroll_On.f k (hb a ++ s) = some (hb a ++ s, false) := rfl
    rw [e1, Option.bind_some, hread_ok k _ (by omega) (byteL_append hbb hb') (by rw [List.length_append]; omega), Option.bind_some, rbytes_eq k a na (by omega), Option.bind_some, dt rfl, cond_true, text_eq k _ hbb, Option.bind_some, dt rfl, cond_true]
    rw [eqDen_hdr, rd_hb0 a na ga, dt rfl, eqDen_hdr, rd_hb a s na ga, dt rfl]
    simp only [b2, cond_true]
    rw [drop_app h80]
    have e2 : scroll_Eye_Left.f k (s, false) = some (s.length : Int) := rfl
    rw [e2, Option.bind_some]
    simp

theorem headerBytes_said : Rows.HeaderBytesCardSaid := headerBytes_card headerBytes_pure

end Go.Proofs.YtnnajeoeeefjaaaDoor.Sy
