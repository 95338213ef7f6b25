/- Seeking a header whose name meets its target. -/
import Derived.Test.YtnnajeoeeefjaaaDoorQ71
import Derived.Test.YtnnajeoeeefjaaaDoorQ80
namespace Go.Proofs.YtnnajeoeeefjaaaDoor.Sy
open Go
set_option linter.unusedVariables false
set_option linter.unusedSimpArgs false

/-- A name's number. -/
theorem name_num {h : List Int} (hn : name h) : ∃ x : Nat, x < 2 ^ 256 ∧ h = O.bytesOf 32 x :=
  O.hash_of ⟨hn.1, fun y hy => wf_u8.2 (hn.2 y hy)⟩

theorem name_nums (h : List Int) : ∃ x : Nat, x < 2 ^ 256 ∧ (name h → h = O.bytesOf 32 x) := by
  by_cases hn : name h
  · obtain ⟨x, hx, e⟩ := name_num hn
    exact ⟨x, hx, fun _ => e⟩
  · exact ⟨0, by decide, fun h => absurd h hn⟩

noncomputable def nOf (h : List Int) : Nat := (name_nums h).choose
theorem nOf_lt (h : List Int) : nOf h < 2 ^ 256 := (name_nums h).choose_spec.1
theorem nOf_eq {h : List Int} (hn : name h) : h = O.bytesOf 32 (nOf h) := (name_nums h).choose_spec.2 hn

noncomputable def met (T : Nat) (h : Hdr) : Bool := !decide (T < nOf (hid h))

theorem and_max32 (n : Int) (h0 : 0 ≤ n) (h1 : n < 4294967296) : andI .i64 (addI .i64 n 1) 4294967295 = (n + 1) % 4294967296 := by
  rw [add_id (by omega) (by omega)]
  obtain ⟨m, rfl⟩ : ∃ m : Nat, n = m := ⟨n.toNat, by omega⟩
  unfold andI
  have hb : IntKind.bits .i64 = 64 := rfl
  rw [hb, BitVec.toNat_and]
  have t (z : Nat) (hz : z < 2 ^ 63) : (BitVec.ofInt 64 (z : Int)).toNat = z := by
    rw [BitVec.toNat_ofInt]; omega
  have e : ((m : Int) + 1) = ((m + 1 : Nat) : Int) := by omega
  have e2 : (BitVec.ofInt 64 (4294967295 : Int)).toNat = 2 ^ 32 - 1 := by decide
  rw [e, t _ (by omega), e2, Nat.and_two_pow_sub_one_eq_mod, i64_id (by omega) (by omega)]
  omega

theorem rem_32 (n : Int) (h0 : 0 ≤ n) (h1 : n < 4294967296) : remI (addI .i64 n 1) 4294967296 = (n + 1) % 4294967296 := by
  rw [add_id (by omega) (by omega)]
  unfold remI
  rw [Int.tmod_eq_emod_of_nonneg (by omega)]

/-- The next header. -/
def nxt (h : Hdr) : Hdr := (h.1, h.2.1, h.2.2.1, h.2.2.2.1, h.2.2.2.2.1, (h.2.2.2.2.2 + 1) % 4294967296)
theorem nxt_hN {h : Hdr} (hn : hN h) : hN (nxt h) := hn
theorem nxt_good {h : Hdr} (hg : hgood h = true) : hgood (nxt h) = true := by
  obtain ⟨a, b, c, d⟩ := of_decide_eq_true hg
  refine dt ⟨a, b, c, ?_⟩
  show 0 ≤ (h.2.2.2.2.2 + 1) % 4294967296 ∧ (h.2.2.2.2.2 + 1) % 4294967296 < 4294967296
  omega

noncomputable def seekN (T : Nat) : Nat → Hdr → Hdr × Bool
  | 0, h => (h, false)
  | n + 1, h => bif met T h then (h, true) else seekN T n (nxt h)

theorem meets_b {T : Nat} (hT : T < 2 ^ 256) (h : Hdr) : ∃ b, ∀ k, b ≤ k → compact_Meets.f k (hid h) (O.toNum T) = some (met T h) := by
  obtain ⟨b, hb⟩ := O.meets_ev (nOf_lt (hid h)) hT
  refine ⟨b, fun k hk => ?_⟩
  have := hb k hk
  rw [← nOf_eq (hid_name h)] at this
  exact this

theorem less_b {T : Nat} (hT : T < 2 ^ 256) (h : Hdr) : ∃ b, ∀ k, b ≤ k → trailheadref03_Number.f k (hid h) = some (O.toNum (nOf (hid h))) ∧ trailheadref02_Less.f k (O.toNum T) (O.toNum (nOf (hid h))) = some (!met T h) := by
  obtain ⟨b, hb⟩ := O.number_ev (nOf_lt (hid h))
  obtain ⟨c, hc⟩ := O.refless_num hT (nOf_lt (hid h))
  refine ⟨max b c, fun k hk => ⟨?_, ?_⟩⟩
  · have := hb k (by omega)
    simp only at this
    rw [← nOf_eq (hid_name h)] at this
    exact this
  · have := hc k (by omega)
    simp only at this
    rw [this]; unfold met; rw [Bool.not_not]

theorem seek_l0 (T : Nat) (hT : T < 2 ^ 256) (y3 : Hdr) (x27 : Int) (hx : x27 ≤ 1000) : ∀ (d i : Nat) (h : Hdr), d = (x27 - (i : Int)).toNat → hN h → hgood h = true →
    ∃ b, ∀ k, b ≤ k → ∀ n, d < n → header_Seek.l0.f k x27 H8 K64 y3 (O.toNum T) n (i : Int) h = some (bif (seekN T d h).2 then .inr (true, (seekN T d h).1) else .inl (((i + d : Nat) : Int), (seekN T d h).1)) := by
  intro d
  induction d with
  | zero =>
    intro i h hd hn hg
    refine ⟨0, fun k _ n hk => ?_⟩
    obtain ⟨n, rfl⟩ : ∃ q, n = q + 1 := ⟨n - 1, by omega⟩
    unfold header_Seek.l0.f header_Seek.l0.go header_Seek.l0.step
    rw [df (by omega)]
    rfl
  | succ d ih =>
    intro i h hd hn hg
    obtain ⟨b, hb⟩ := ih (i + 1) (nxt h) (by omega) (nxt_hN hn) (nxt_good hg)
    obtain ⟨c, hc⟩ := meets_b hT h
    refine ⟨max b (max c 20001), fun k hk n hkn => ?_⟩
    obtain ⟨n, rfl⟩ : ∃ q, n = q + 1 := ⟨n - 1, by omega⟩
    have ih' := hb k (by omega) n (by omega)
    have e1 : addI .i64 (i : Int) 1 = ((i + 1 : Nat) : Int) := add_id (by omega) (by omega)
    obtain ⟨_, _, _, g7, g8⟩ := of_decide_eq_true hg
    unfold header_Seek.l0.f at ih' ⊢
    unfold header_Seek.l0.go header_Seek.l0.step
    rw [dt (by omega), cond_true, hid_eq k h hn (by omega), Option.bind_some, hc k (by omega), Option.bind_some, and_max32 _ g7 g8, e1]
    unfold seekN
    cases met T h
    · rw [cond_false, cond_false]
      have e2 : i + (d + 1) = i + 1 + d := by omega
      rw [e2]
      exact ih'
    · rfl

theorem law_l0 (T : Nat) (hT : T < 2 ^ 256) (y3 : Hdr) (x6 : Bool) (x27 : Int) (hx : x27 ≤ 1000) : ∀ (d i : Nat) (h : Hdr), d = (x27 - (i : Int)).toNat → hN h → hgood h = true →
    ∃ b, ∀ k, b ≤ k → ∀ n, d < n → trailheadlaw06_HeaderSeeks.l0.f k x27 x6 H8 K64 y3 (O.toNum T) n (i : Int) h = some (bif (seekN T d h).2 then .inr (bif x6 then decide (y3 = (seekN T d h).1) else false) else .inl (((i + d : Nat) : Int), (seekN T d h).1)) := by
  intro d
  induction d with
  | zero =>
    intro i h hd hn hg
    refine ⟨0, fun k _ n hk => ?_⟩
    obtain ⟨n, rfl⟩ : ∃ q, n = q + 1 := ⟨n - 1, by omega⟩
    unfold trailheadlaw06_HeaderSeeks.l0.f trailheadlaw06_HeaderSeeks.l0.go trailheadlaw06_HeaderSeeks.l0.step
    rw [df (by omega)]
    rfl
  | succ d ih =>
    intro i h hd hn hg
    obtain ⟨b, hb⟩ := ih (i + 1) (nxt h) (by omega) (nxt_hN hn) (nxt_good hg)
    obtain ⟨c, hc⟩ := less_b hT h
    refine ⟨max b (max c 20001), fun k hk n hkn => ?_⟩
    obtain ⟨n, rfl⟩ : ∃ q, n = q + 1 := ⟨n - 1, by omega⟩
    have ih' := hb k (by omega) n (by omega)
    have e1 : addI .i64 (i : Int) 1 = ((i + 1 : Nat) : Int) := add_id (by omega) (by omega)
    obtain ⟨_, _, _, g7, g8⟩ := of_decide_eq_true hg
    unfold trailheadlaw06_HeaderSeeks.l0.f at ih' ⊢
    unfold trailheadlaw06_HeaderSeeks.l0.go trailheadlaw06_HeaderSeeks.l0.step
    rw [dt (by omega), cond_true, rid_eq k h hn (by omega), Option.bind_some, (hc k (by omega)).1, Option.bind_some, (hc k (by omega)).2, Option.bind_some, rem_32 _ g7 g8, e1, eqDen_hdr]
    unfold seekN
    cases met T h
    · have e2 : i + (d + 1) = i + 1 + d := by omega
      rw [e2]
      exact ih'
    · cases x6 <;> rfl

theorem mxI_toNat (a : Int) : mxI a 0 = (a.toNat : Int) := by unfold mxI; split <;> omega

/-- May it be sought? -/
def seekable (h : Hdr) : Bool := hgood h && (!(O.dAll h.2.2.2.2.1).2.1 && !(O.dAll h.2.2.2.2.1).2.2)
noncomputable def seekV (h : Hdr) (a : Int) : Hdr × Bool := bif seekable h then seekN (O.dAll h.2.2.2.2.1).1 a.toNat h else (h, false)

theorem seek_eq (h : Hdr) (a : Int) (ha : a ≤ 100) (hn : hN h) : ∃ b, ∀ k, b ≤ k → header_Seek.f k h a H8 K64 = some (seekV h a) := by
  obtain ⟨c, hc⟩ := O.decA h.2.2.2.2.1
  simp only at hc
  cases hg : hgood h
  · refine ⟨c, fun k hk => ?_⟩
    unfold header_Seek.f header_Seek.tree
    rw [hc k hk, Option.bind_some, hgood_eq, hg, Option.bind_some]
    unfold seekV seekable
    rw [hg]; rfl
  · obtain ⟨b, hb⟩ := seek_l0 (O.dAll h.2.2.2.2.1).1 (O.dAll_lt _) zeroH (a.toNat : Int) (by omega) a.toNat 0 h (by omega) hn hg
    refine ⟨max (max b c) 1000, fun k hk => ?_⟩
    have hs := hb k (by omega) k (by omega)
    rw [show ((0 : Nat) : Int) = 0 from rfl] at hs
    unfold header_Seek.f header_Seek.tree
    rw [hc k (by omega), Option.bind_some, hgood_eq, hg, Option.bind_some, mxI_toNat]
    unfold seekV seekable
    rw [hg]
    cases h1 : (O.dAll h.2.2.2.2.1).2.1
    · cases h2 : (O.dAll h.2.2.2.2.1).2.2
      · simp only [Bool.not_true, Bool.not_false, cond_false, cond_true, Bool.true_and, h1, h2]
        rw [hs, Option.bind_some]
        cases h3 : (seekN (O.dAll h.2.2.2.2.1).1 a.toNat h).2
        · exact congrArg some (Prod.ext rfl h3.symm)
        · exact congrArg some (Prod.ext rfl h3.symm)
      · rfl
    · rfl

theorem seekN_more (T : Nat) : ∀ (n m : Nat) (h : Hdr), (seekN T n h).2 = true → seekN T (n + m) h = seekN T n h := by
  intro n
  induction n with
  | zero => intro m h hh; cases hh
  | succ n ih =>
    intro m h hh
    rw [Nat.succ_add]
    unfold seekN at hh ⊢
    cases hm : met T h
    · rw [hm, cond_false] at hh
      rw [cond_false, cond_false]
      exact ih m (nxt h) hh
    · rfl

theorem seekN_fix (T : Nat) : ∀ (n : Nat) (h : Hdr) (v : Int), ((seekN T n h).1.1, (seekN T n h).1.2.1, (seekN T n h).1.2.2.1, (seekN T n h).1.2.2.2.1, (seekN T n h).1.2.2.2.2.1, v) = (h.1, h.2.1, h.2.2.1, h.2.2.2.1, h.2.2.2.2.1, v) := by
  intro n
  induction n with
  | zero => intro h v; rfl
  | succ n ih =>
    intro h v
    unfold seekN
    cases met T h
    · exact ih (nxt h) v
    · rfl

theorem seekN_met (T : Nat) : ∀ (n : Nat) (h : Hdr), (seekN T n h).2 = true → met T (seekN T n h).1 = true := by
  intro n
  induction n with
  | zero => intro h hh; cases hh
  | succ n ih =>
    intro h hh
    unfold seekN at hh ⊢
    cases hm : met T h
    · rw [hm, cond_false] at hh
      rw [cond_false]
      exact ih (nxt h) hh
    · exact hm

theorem seekN_hN (T : Nat) : ∀ (n : Nat) (h : Hdr), hN h → hN (seekN T n h).1 := by
  intro n
  induction n with
  | zero => intro h hh; exact hh
  | succ n ih =>
    intro h hh
    unfold seekN
    cases met T h
    · exact ih (nxt h) (nxt_hN hh)
    · exact hh

theorem wf_i64 {y : Int} : (Lit.int .i64 y).wf = true ↔ -9223372036854775808 ≤ y ∧ y ≤ 9223372036854775807 := by
  simp only [Lit.wf, Bool.and_eq_true, decide_eq_true_eq]
  show (-9223372036854775808 : Int) ≤ y ∧ y ≤ 9223372036854775807 ↔ _
  omega

end Go.Proofs.YtnnajeoeeefjaaaDoor.Sy
