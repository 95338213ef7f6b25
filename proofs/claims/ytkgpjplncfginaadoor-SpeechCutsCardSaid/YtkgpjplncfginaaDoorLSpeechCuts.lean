/- SpeechCuts: the statement on data, and the card. -/
import Derived.Test.YtkgpjplncfginaaDoorQ125
import Derived.Test.YtkgpjplncfginaaDoorRSpeechCuts
namespace Go.Proofs.YtkgpjplncfginaaDoor.Sy
open Go
set_option linter.unusedVariables false
set_option linter.unusedSimpArgs false

theorem mN_of {m : Msg} (hg : goodS (.data (.pair (.int .i64) (.pair (.int .i64) (.pair (.int .i64) (.pair (.int .i64) (.pair (.int .i64) (.pair (.row 28 (.arr .u8 32)) (.pair (.arr .u8 32) (.row 52 (.pair (.int .i64) (.pair (.arr .u8 32) (.pair (.arr .u8 32) (.pair (.int .i64) (.pair (.int .i64) (.int .i64))))))))))))))) m) : mN m :=
  ⟨fun h hh => name_of (hg.2.2.2.2.2.1.1 h hh), name_of hg.2.2.2.2.2.2.1, fun h hh => hN_of (hg.2.2.2.2.2.2.2.1 h hh)⟩

theorem cut_none {m : Msg} (gm : mgood m = true) (nm : mN m) (p : List Int) (hb : byteL p) (h : (∃ s, s ≠ [] ∧ p = mpay m ++ s) ∨ ∃ s, s ≠ [] ∧ mpay m = p ++ s) : (rR m.1 p).2 = 4 := by
  have kd := good_kind gm
  unfold rR
  rw [if_neg (by omega)]
  cases hr : rM m.1 p with
  | none => rfl
  | some x =>
    exfalso
    obtain ⟨e1, e2, e3, e4, e5⟩ := read_sound m.1 p x kd hb hr
    rcases h with ⟨s, hs, e⟩ | ⟨s, hs, e⟩
    · exact hs (pay_prefix e2 e3 gm nm e1 s (by rw [e4, e]))
    · exact hs (pay_prefix gm nm e2 e3 e1.symm s (by rw [e4, e]))

theorem speechCuts_pure : SpeechCutsPure := by
  intro m hm at_ ha s hs
  refine ⟨300000, ?_⟩
  generalize hk' : (300000 : Nat) = k
  have hk : 200000 < k := by omega
  clear hk'
  have nm := mN_of hm
  have sb : byteL s := hs.1
  unfold trailheadlaw08_SpeechCuts.f trailheadlaw08_SpeechCuts.tree
  rw [show gv2 = H8 from rfl, show gv3 = K64 from rfl, alive08 k hk, Option.bind_some, great_eq, Option.bind_some, Bool.not_true, cond_false]
  by_cases g1 : 200 < m.2.2.2.2.2.1.length ∨ 100 < m.2.2.2.2.2.2.2.length
  · rw [dt g1]; rfl
  rw [df g1, cond_false, rmgood_eq k m (by omega) (by omega), Option.bind_some]
  cases gm : mgood m
  · rfl
  rw [Bool.not_true, cond_false]
  by_cases h0 : s = []
  · rw [dt h0]; rfl
  rw [df h0, cond_false]
  by_cases g2 : (s.length : Int) > 100
  · rw [dt g2]; rfl
  have kd := good_kind gm
  have pl := pay_le gm nm
  have pb := pay_byteL gm nm
  have kw : kindOf (wordOf m.1) = m.1 := kind_word m.1 (fun e => by have := (wB_of (word_good kd.1 kd.2)).1; rw [e] at this; simp at this)
  rw [df g2, cond_false, rpay_eq k m gm nm (by omega), Option.bind_some, rword8_eq, Option.bind_some, fits_ok (by omega), cond_true, read_eq k _ _ (byteL_app7 pb sb) (by omega), Option.bind_some, kw]
  have c1 := cut_none gm nm _ (byteL_app7 pb sb) (.inl ⟨s, h0, rfl⟩)
  rw [c1]
  by_cases z : (mpay m).length = 0
  · rw [beqt (by omega)]; rfl
  rw [beqf (by omega), cond_false]
  have w1 : IntKind.wrap .u64 ((mpay m).length : Int) = ((mpay m).length : Int) := by rw [w_u64]; omega
  rw [w1, df (by omega), cond_false]
  obtain ⟨x, hx, x0⟩ : ∃ x, IntKind.wrap .u64 at_ = x ∧ 0 ≤ x := ⟨_, rfl, by rw [w_u64]; omega⟩
  rw [hx]
  have rm : IntKind.wrap .i64 (remI x ((mpay m).length : Int)) = x % ((mpay m).length : Int) := by
    have h1 := Int.emod_nonneg x (b := ((mpay m).length : Int)) (by omega)
    have h2 := Int.emod_lt_of_pos x (b := ((mpay m).length : Int)) (by omega)
    unfold remI
    rw [Int.tmod_eq_emod_of_nonneg x0, i64_id (by omega) (by omega)]
  have h1 := Int.emod_nonneg x (b := ((mpay m).length : Int)) (by omega)
  have h2 := Int.emod_lt_of_pos x (b := ((mpay m).length : Int)) (by omega)
  rw [rm]
  generalize x % ((mpay m).length : Int) = j at h1 h2
  rw [dt h1, dt (by omega), cond_true, cond_true, read_eq k _ _ (byteL_take _ pb) (by omega), Option.bind_some, kw]
  have c2 := cut_none gm nm ((mpay m).take j.toNat) (byteL_take _ pb) (.inr ⟨(mpay m).drop j.toNat, fun e => by have := congrArg List.length e; rw [List.length_drop] at this; simp at this; omega, (List.take_append_drop _ _).symm⟩)
  rw [c2]
  rfl

theorem speechCuts_said : Rows.SpeechCutsCardSaid := speechCuts_card speechCuts_pure

end Go.Proofs.YtkgpjplncfginaaDoor.Sy
