/- SyncDoes, on data alone: in every script the program's watch and the reference's answer the same. -/
import Derived.Test.YtjciljaojcekeaaQ7
import Derived.Test.YtjciljaojcekeaaRSyncDoes
namespace Go.Proofs.Ytjciljaojcekeaa.Sx
open Go
set_option linter.unusedVariables false
set_option linter.unusedSimpArgs false
set_option maxRecDepth 100000

abbrev Rw : Type := Bool × (Int × (Int × ((List Int) × (Int × Int))))
abbrev Cl : Type := Int × (Int × ((List Int) × Bool))
abbrev clT : Ty := .pair (.int .i64) (.pair (.int .i64) (.pair (.arr .u64 4) .bool))

structure Rl (n : Nat) (y : Wt) (m : Rw) : Prop where
  out : m.1 = y.1
  at_ : m.2.1 = y.2.1
  lo : 0 ≤ y.2.2.1 ∧ y.2.2.1 ≤ n
  row : m.2.2.1 = y.2.2.1 % 10
  work : m.2.2.2.1 = y.2.2.2.2.2.1
  good : goodT numT y.2.2.2.2.2.1
  st : (y.2.2.2.1 = false ∧ m.2.2.2.2.1 = 0) ∨ (y.2.2.2.1 = true ∧ y.2.2.2.2.2.2.1 = false ∧ m.2.2.2.2.1 = 1 ∧ m.2.2.2.2.2 = y.2.2.2.2.1) ∨
    (y.2.2.2.1 = true ∧ y.2.2.2.2.2.2.1 = true ∧ m.2.2.2.2.1 = 2 ∧ m.2.2.2.2.2 = y.2.2.2.2.2.2.2)

theorem Rl.up {n : Nat} {y : Wt} {m : Rw} (h : Rl n y m) : Rl (n + 1) y m := ⟨h.out, h.at_, by have := h.lo; omega, h.row, h.work, h.good, h.st⟩

/-- What is asked behind each call. -/
theorem does_tail {X : Type} {n : Nat} {y : Wt} {m : Rw} (h : Rl n y m) (k : Nat) (x1 : Int) (Q : Bool → Option X) (g : Option X) :
    (Option.bind (sync_Watch_Work.f k y) (fun r4 => (bif (!(decide (r4 = m.2.2.2.1))) then (Q false) else (Option.bind (sync_Watch_Waits.f k x1 y) (fun r5 => (bif m.1 then (bif (!(r5 == (decide ((subI .i64 x1 m.2.1) ≤ (120 : Int))))) then (Q false) else g) else (bif (!(r5 == false)) then (Q false) else g)))))) ) = g := by
  have e : sync_Watch_Work.f k y = some y.2.2.2.2.2.1 := rfl
  rw [e]
  simp only [Option.bind_some]
  rw [h.work, decide_eq_true rfl]
  simp only [Bool.not_true, cond_false]
  rw [h.out, h.at_]
  unfold sync_Watch_Waits.f sync_Watch_Waits.tree
  cases y.1
  · rfl
  · simp

theorem asks_both {n : Nat} {y : Wt} {m : Rw} (h : Rl n y m) (now : Int) : ∃ b y' m', Rl (n + 1) y' m' ∧ ∀ k, sync_Watch_Asks.f k now y = some (b, y') ∧ trailheadref22_Watch_Asks.f k now m = some (b, m') := by
  unfold sync_Watch_Asks.f sync_Watch_Asks.tree trailheadref22_Watch_Asks.f trailheadref22_Watch_Asks.tree
  rw [h.out, h.at_]
  have h2 : Rl (n + 1) (true, (now, y.2.2)) (true, (now, m.2.2)) := ⟨rfl, rfl, by have := h.lo; simp only; omega, h.row, h.work, h.good, h.st⟩
  cases y.1
  · exact ⟨true, _, _, h2, fun k => ⟨rfl, rfl⟩⟩
  · cases hd : decide (subI .i64 now y.2.1 ≤ 120)
    · exact ⟨true, _, _, h2, fun k => ⟨rfl, rfl⟩⟩
    · exact ⟨false, y, m, h.up, fun k => ⟨rfl, rfl⟩⟩

theorem got_both {n : Nat} {y : Wt} {m : Rw} (h : Rl n y m) : ∃ y', Rl (n + 1) y' (false, m.2) ∧ ∀ k, sync_Watch_Got.f k y = some (m.1, y') := by
  obtain ⟨out, y2⟩ := y
  obtain ⟨mo, m2⟩ := m
  have ho : mo = out := h.out
  subst ho
  cases mo
  · exact ⟨(false, y2), h.up, fun k => rfl⟩
  · exact ⟨(false, y2), ⟨rfl, h.at_, by have := h.lo; simp only at this ⊢; omega, h.row, h.work, h.good, h.st⟩, fun k => rfl⟩

theorem loose_both {n : Nat} (hn : n < 1000) {y : Wt} {m : Rw} (h : Rl n y m) : ∃ b y' m', Rl (n + 1) y' m' ∧ ∀ k, sync_Watch_Loose.f k y = some (b, y') ∧ trailheadref22_Watch_Loose.f k m = some (b, m') := by
  have hl := h.lo
  have hr := h.row
  have e1 : addI .i64 y.2.2.1 1 = y.2.2.1 + 1 := addI_one (by omega) (by omega)
  have e2 : addI .i64 m.2.2.1 1 = m.2.2.1 + 1 := addI_one (by omega) (by omega)
  have e3 : remI (y.2.2.1 + 1) 10 = (y.2.2.1 + 1) % 10 := by unfold remI; rw [Int.tmod_eq_emod_of_nonneg (by omega)]
  unfold sync_Watch_Loose.f sync_Watch_Loose.tree trailheadref22_Watch_Loose.f trailheadref22_Watch_Loose.tree
  rw [e1, e2, e3]
  by_cases hc : (y.2.2.1 + 1) % 10 = 0
  · have c1 : ((y.2.2.1 + 1) % 10 == (0 : Int)) = true := by simpa using hc
    have c2 : (m.2.2.1 + 1 == (10 : Int)) = true := by simp only [beq_iff_eq]; omega
    rw [c1, c2]
    exact ⟨4, (y.1, (y.2.1, (y.2.2.1 + 1, y.2.2.2))), (m.1, (m.2.1, (0, m.2.2.2))), ⟨h.out, h.at_, by simp only; omega, by simp only; omega, h.work, h.good, h.st⟩, fun k => ⟨rfl, rfl⟩⟩
  · have c1 : ((y.2.2.1 + 1) % 10 == (0 : Int)) = false := by simpa using hc
    have c2 : (m.2.2.1 + 1 == (10 : Int)) = false := by simp only [beq_eq_false_iff_ne]; omega
    rw [c1, c2]
    exact ⟨0, (y.1, (y.2.1, (y.2.2.1 + 1, y.2.2.2))), (m.1, (m.2.1, (m.2.2.1 + 1, m.2.2.2))), ⟨h.out, h.at_, by simp only; omega, by simp only; omega, h.work, h.good, h.st⟩, fun k => ⟨rfl, rfl⟩⟩

theorem tied_both {n : Nat} {y : Wt} {m : Rw} (h : Rl n y m) : ∃ y', Rl (n + 1) y' (m.1, (m.2.1, (0, m.2.2.2))) ∧ ∀ k, sync_Watch_Tied.f k y = some y' :=
  ⟨(y.1, (y.2.1, (0, y.2.2.2))), ⟨h.out, h.at_, by simp only; omega, rfl, h.work, h.good, h.st⟩, fun k => rfl⟩

theorem zero_not_lt (a : List Int) : ¬ vN a < vN [0, 0, 0, 0] := by
  have : vN [0, 0, 0, 0] = 0 := rfl
  omega

theorem knows_both {n : Nat} {y : Wt} {m : Rw} (h : Rl n y m) {w : List Int} (hw : goodT numT w) : ∃ y' m', Rl (n + 1) y' m' ∧ Ev (fun k => sync_Watch_Knows_v1.f k y [w, [0, 0, 0, 0]]) y' ∧ Ev (fun k => trailheadref22_Watch_Knows.f k w m) m' := by
  have hk := knows_v1_ev (ws := [w, [0, 0, 0, 0]]) (y0 := y) (fun x hx => by
    simp only [List.mem_cons, List.not_mem_nil, or_false] at hx
    rcases hx with rfl | rfl
    · exact hw
    · exact zero_good) h.good (by simp)
  have hb : best y.2.2.2.2.2.1 [w, [0, 0, 0, 0]] = if vN y.2.2.2.2.2.1 < vN w then w else y.2.2.2.2.2.1 := by
    simp only [best]; rw [if_neg (zero_not_lt _)]
  rw [hb] at hk
  refine ⟨_, (if vN y.2.2.2.2.2.1 < vN w then (m.1, (m.2.1, (m.2.2.1, (w, m.2.2.2.2)))) else m), ?_, hk, ?_⟩
  · have hl := h.lo
    split
    · exact ⟨h.out, h.at_, by simp only [setW]; omega, h.row, rfl, hw, h.st⟩
    · exact ⟨h.out, h.at_, by simp only [setW]; omega, h.row, h.work, h.good, h.st⟩
  · unfold trailheadref22_Watch_Knows.f trailheadref22_Watch_Knows.tree
    rw [h.work]
    refine Ev.bind (refless_ev h.good hw) (Ev.const fun k => ?_)
    by_cases hc : vN y.2.2.2.2.2.1 < vN w
    · rw [decide_eq_true hc, if_pos hc]; rfl
    · rw [decide_eq_false hc, if_neg hc]; rfl

/-- The reference's second. -/
def tickR (lt : Bool) (now : Int) (m : Rw) : Int × Rw :=
  bif !lt then (0, (m.1, (m.2.1, (m.2.2.1, (m.2.2.2.1, (0, m.2.2.2.2.2))))))
  else bif m.2.2.2.2.1 == 0 then (0, (m.1, (m.2.1, (m.2.2.1, (m.2.2.2.1, (1, now))))))
  else bif m.2.2.2.2.1 == 1 && decide (subI .i64 now m.2.2.2.2.2 > 1200) then (1, (m.1, (m.2.1, (m.2.2.1, (m.2.2.2.1, (2, now))))))
  else bif m.2.2.2.2.1 == 2 && decide (subI .i64 now m.2.2.2.2.2 > 120) then (2, m) else (0, m)

theorem reftick_ev {now : Int} {ours : List Int} {from' : Bool} {m : Rw} (hm : goodT numT m.2.2.2.1) (ho : goodT numT ours) :
    Ev (fun k => trailheadref22_Watch_Tick.f k now ours from' m) (bif from' && m.1 && decide (subI .i64 now m.2.1 > 120) then (2, m) else tickR (decide (vN m.2.2.2.1 < vN ours)) now m) := by
  obtain ⟨k0, h⟩ := refless_ev hm ho
  refine ⟨k0, fun k hk => ?_⟩
  simp only [trailheadref22_Watch_Tick.f, trailheadref22_Watch_Tick.tree, h k hk, Option.bind_some, tickR]
  generalize decide (vN m.2.2.2.1 < vN ours) = lt
  generalize decide (subI .i64 now m.2.1 > 120) = c1
  generalize decide (subI .i64 now m.2.2.2.2.2 > 1200) = c2
  generalize decide (subI .i64 now m.2.2.2.2.2 > 120) = c3
  generalize (m.2.2.2.2.1 == 0) = d0
  generalize (m.2.2.2.2.1 == 1) = d1
  generalize (m.2.2.2.2.1 == 2) = d2
  generalize m.1 = o
  cases from' <;> cases o <;> cases lt <;> cases c1 <;> cases c2 <;> cases c3 <;> cases d0 <;> cases d1 <;> cases d2 <;> rfl

theorem tick_both {n : Nat} {y : Wt} {m : Rw} (h : Rl n y m) {now : Int} {ours : List Int} {from' : Bool} (ho : goodT numT ours) :
    ∃ b y' m', Rl (n + 1) y' m' ∧ Ev (fun k => sync_Watch_Tick.f k now ours from' y) (b, y') ∧ Ev (fun k => trailheadref22_Watch_Tick.f k now ours from' m) (b, m') := by
  have h1 := tick_ev (now := now) (from' := from') h.good ho
  have h2 := reftick_ev (now := now) (from' := from') (m := m) (by rw [h.work]; exact h.good) ho
  rw [h.out, h.at_, h.work] at h2
  unfold tickV at h1
  have hl := h.lo
  cases hc : (from' && y.1 && decide (subI .i64 now y.2.1 > 120))
  · rw [hc] at h1 h2
    simp only [cond_false] at h1 h2
    generalize decide (vN y.2.2.2.2.2.1 < vN ours) = lt at h1 h2
    unfold tickW at h1
    unfold tickR at h2
    cases lt
    · exact ⟨0, (y.1, (y.2.1, (y.2.2.1, (false, (y.2.2.2.2.1, (y.2.2.2.2.2.1, (false, y.2.2.2.2.2.2.2))))))), (m.1, (m.2.1, (m.2.2.1, (m.2.2.2.1, (0, m.2.2.2.2.2))))), ⟨h.out, h.at_, by simp only; omega, h.row, h.work, h.good, .inl ⟨rfl, rfl⟩⟩, h1, h2⟩
    · simp only [Bool.not_true, cond_false] at h1 h2
      rcases h.st with ⟨s1, s2⟩ | ⟨s1, s2, s3, s4⟩ | ⟨s1, s2, s3, s4⟩
      · rw [s1] at h1; rw [s2] at h2
        exact ⟨0, (y.1, (y.2.1, (y.2.2.1, (true, (now, (y.2.2.2.2.2.1, (false, y.2.2.2.2.2.2.2))))))), (m.1, (m.2.1, (m.2.2.1, (m.2.2.2.1, (1, now))))), ⟨h.out, h.at_, by simp only; omega, h.row, h.work, h.good, .inr (.inl ⟨rfl, rfl, rfl, rfl⟩)⟩, h1, h2⟩
      · rw [s1, s2] at h1; rw [s3, s4] at h2
        cases hd : decide (subI .i64 now y.2.2.2.2.1 > 1200)
        · rw [hd] at h1 h2
          exact ⟨0, y, m, h.up, h1, h2⟩
        · rw [hd] at h1 h2
          exact ⟨1, (y.1, (y.2.1, (y.2.2.1, (true, (y.2.2.2.2.1, (y.2.2.2.2.2.1, (true, now))))))), (m.1, (m.2.1, (m.2.2.1, (m.2.2.2.1, (2, now))))), ⟨h.out, h.at_, by simp only; omega, h.row, h.work, h.good, .inr (.inr ⟨rfl, rfl, rfl, rfl⟩)⟩, h1, h2⟩
      · rw [s1, s2] at h1; rw [s3, s4] at h2
        cases hd : decide (subI .i64 now y.2.2.2.2.2.2.2 > 120)
        · rw [hd] at h1 h2
          exact ⟨0, y, m, h.up, h1, h2⟩
        · rw [hd] at h1 h2
          exact ⟨2, y, m, h.up, h1, h2⟩
  · rw [hc] at h1 h2
    exact ⟨2, y, m, h.up, h1, h2⟩

theorem ne_beq {a b : Int} (h : a ≠ b) : (a == b) = false := by simpa using h

theorem does_step {n : Nat} (hn : n < 1000) {y : Wt} {m : Rw} (h : Rl n y m) (c : Cl) (hc : goodT numT c.2.2.1) : ∃ y' m', Rl (n + 1) y' m' ∧ ∃ k0, ∀ k, k0 ≤ k →
    ∀ {X : Type} (K : Int → Wt → Rw → Option X) (Q : Bool → Option X) (G : Int → Wt → Rw → Option X) (x1 : Int) (x4 : Bool) (L : Nat) (ys : List Cl) (i : Nat), i < L → ys.length = L → L < 2 ^ 40 → List.getD ys i (Ty.dflt clT : Cl) = c →
      trailheadlaw22_SyncDoes.l0.step K Q G k x1 x4 (L : Int) ys (i : Int) y m = G ((i : Int) + 1) y' m' := by
  obtain ⟨kind, now, w, fr⟩ := c
  simp only at hc
  have start : ∀ {X : Type} (K : Int → Wt → Rw → Option X) (Q : Bool → Option X) (G : Int → Wt → Rw → Option X) (x1 : Int) (x4 : Bool) (L : Nat) (ys : List Cl) (i : Nat), i < L → ys.length = L → L < 2 ^ 40 →
      decide ((i : Int) < (L : Int)) = true ∧ decide ((i : Int) < ((List.length ys : Nat) : Int)) = true ∧ decide ((Int.toNat (i : Int)) < List.length ys) = true ∧ decide ((0 : Int) ≤ (i : Int)) = true ∧ addI .i64 (i : Int) 1 = (i : Int) + 1 :=
    fun K Q G x1 x4 L ys i h1 h2 h3 => ⟨decide_eq_true (by omega), decide_eq_true (by omega), decide_eq_true (by rw [Int.toNat_natCast]; omega), decide_eq_true (by omega), addI_one (by omega) (by omega)⟩
  by_cases k0 : kind = 0
  · subst k0
    obtain ⟨b, y', m', hr, hk⟩ := asks_both h now
    refine ⟨y', m', hr, 0, fun k _ X K Q G x1 x4 L ys i h1 h2 h3 h4 => ?_⟩
    obtain ⟨s1, s2, s3, s4, s5⟩ := start K Q G x1 x4 L ys i h1 h2 h3
    obtain ⟨e1, e2⟩ := hk k
    unfold trailheadlaw22_SyncDoes.l0.step
    rw [s1, s2, s3, s4, s5]
    rw [Int.toNat_natCast, h4]
    simp only [cond_true, beq_self_eq_true, e1, e2, Option.bind_some, Bool.not_true, cond_false]
    exact does_tail hr k x1 Q _
  by_cases k1 : kind = 1
  · subst k1
    obtain ⟨y', hr, hk⟩ := got_both h
    refine ⟨y', _, hr, 0, fun k _ X K Q G x1 x4 L ys i h1 h2 h3 h4 => ?_⟩
    obtain ⟨s1, s2, s3, s4, s5⟩ := start K Q G x1 x4 L ys i h1 h2 h3
    unfold trailheadlaw22_SyncDoes.l0.step
    rw [s1, s2, s3, s4, s5]
    rw [Int.toNat_natCast, h4]
    simp only [cond_true, ne_beq k0, beq_self_eq_true, hk k, Option.bind_some, Bool.not_true, cond_false]
    exact does_tail hr k x1 Q _
  by_cases k2 : kind = 2
  · subst k2
    obtain ⟨b, y', m', hr, hk⟩ := loose_both hn h
    refine ⟨y', m', hr, 0, fun k _ X K Q G x1 x4 L ys i h1 h2 h3 h4 => ?_⟩
    obtain ⟨s1, s2, s3, s4, s5⟩ := start K Q G x1 x4 L ys i h1 h2 h3
    obtain ⟨e1, e2⟩ := hk k
    unfold trailheadlaw22_SyncDoes.l0.step
    rw [s1, s2, s3, s4, s5]
    rw [Int.toNat_natCast, h4]
    simp only [cond_true, ne_beq k0, ne_beq k1, beq_self_eq_true, e1, e2, Option.bind_some, Bool.not_true, cond_false]
    exact does_tail hr k x1 Q _
  by_cases k3 : kind = 3
  · subst k3
    obtain ⟨y', hr, hk⟩ := tied_both h
    refine ⟨y', _, hr, 0, fun k _ X K Q G x1 x4 L ys i h1 h2 h3 h4 => ?_⟩
    obtain ⟨s1, s2, s3, s4, s5⟩ := start K Q G x1 x4 L ys i h1 h2 h3
    unfold trailheadlaw22_SyncDoes.l0.step
    rw [s1, s2, s3, s4, s5]
    rw [Int.toNat_natCast, h4]
    simp only [cond_true, ne_beq k0, ne_beq k1, ne_beq k2, beq_self_eq_true, hk k, Option.bind_some, Bool.not_true, cond_false]
    exact does_tail hr k x1 Q _
  by_cases k4 : kind = 4
  · subst k4
    obtain ⟨y', m', hr, ⟨j1, hk1⟩, ⟨j2, hk2⟩⟩ := knows_both h hc
    refine ⟨y', m', hr, max j1 j2, fun k hk X K Q G x1 x4 L ys i h1 h2 h3 h4 => ?_⟩
    obtain ⟨s1, s2, s3, s4, s5⟩ := start K Q G x1 x4 L ys i h1 h2 h3
    unfold trailheadlaw22_SyncDoes.l0.step
    rw [s1, s2, s3, s4, s5]
    rw [Int.toNat_natCast, h4]
    simp only [cond_true, ne_beq k0, ne_beq k1, ne_beq k2, ne_beq k3, beq_self_eq_true, hk1 k (by omega), hk2 k (by omega), Option.bind_some, Bool.not_true, cond_false]
    exact does_tail hr k x1 Q _
  by_cases k5 : kind = 5
  · subst k5
    obtain ⟨b, y', m', hr, ⟨j1, hk1⟩, ⟨j2, hk2⟩⟩ := tick_both (now := now) (from' := fr) h hc
    refine ⟨y', m', hr, max j1 j2, fun k hk X K Q G x1 x4 L ys i h1 h2 h3 h4 => ?_⟩
    obtain ⟨s1, s2, s3, s4, s5⟩ := start K Q G x1 x4 L ys i h1 h2 h3
    unfold trailheadlaw22_SyncDoes.l0.step
    rw [s1, s2, s3, s4, s5]
    rw [Int.toNat_natCast, h4]
    simp only [cond_true, ne_beq k0, ne_beq k1, ne_beq k2, ne_beq k3, ne_beq k4, beq_self_eq_true, hk1 k (by omega), hk2 k (by omega), Option.bind_some, Bool.not_true, cond_false]
    exact does_tail hr k x1 Q _
  · refine ⟨y, m, h.up, 0, fun k _ X K Q G x1 x4 L ys i h1 h2 h3 h4 => ?_⟩
    obtain ⟨s1, s2, s3, s4, s5⟩ := start K Q G x1 x4 L ys i h1 h2 h3
    unfold trailheadlaw22_SyncDoes.l0.step
    rw [s1, s2, s3, s4, s5]
    rw [Int.toNat_natCast, h4]
    simp only [cond_true, ne_beq k0, ne_beq k1, ne_beq k2, ne_beq k3, ne_beq k4, ne_beq k5, Option.bind_some, Bool.not_true, cond_false]
    exact does_tail h k x1 Q _

theorem does_loop (x1 : Int) (x4 : Bool) (cs : List Cl) (hcs : ∀ c ∈ cs, goodT numT c.2.2.1) (hl : cs.length ≤ 200) : ∀ (rest pre : List Cl), pre ++ rest = cs → ∀ (y : Wt) (m : Rw), Rl pre.length y m →
    ∃ v, Ev2 (fun k n => trailheadlaw22_SyncDoes.l0.f k x1 x4 (cs.length : Int) cs n (pre.length : Int) y m) (.inl v)
  | [], pre, e, y, m, h => by
    refine ⟨((pre.length : Int), y, m), Ev2.succ (G := fun k n => some (.inl ((pre.length : Int), y, m))) (fun k n => ?_) (Ev2.const fun _ _ => rfl)⟩
    have : pre.length = cs.length := by rw [← e]; simp
    simp only [trailheadlaw22_SyncDoes.l0.f, trailheadlaw22_SyncDoes.l0.go, trailheadlaw22_SyncDoes.l0.step]
    rw [decide_eq_false (by omega)]; rfl
  | c :: rest, pre, e, y, m, h => by
    have hlen : pre.length < cs.length := by rw [← e]; simp
    obtain ⟨y', m', hr, k0, hk⟩ := does_step (by omega) h c (hcs c (by rw [← e]; simp))
    obtain ⟨v, k1, hv⟩ := does_loop x1 x4 cs hcs hl rest (pre ++ [c]) (by rw [← e]; simp) y' m' (by simpa using hr)
    refine ⟨v, max k0 k1 + 1, fun k n hk1 hn => ?_⟩
    obtain ⟨n, rfl⟩ : ∃ q, n = q + 1 := ⟨n - 1, by omega⟩
    have hstep := hk k (by omega) (fun x22 y1017 y1019 => some (Sum.inl (x22, y1017, y1019))) (fun q0 => some (Sum.inr q0)) (trailheadlaw22_SyncDoes.l0.go (fun x22 y1017 y1019 => some (Sum.inl (x22, y1017, y1019))) (fun q0 => some (Sum.inr q0)) k x1 x4 (cs.length : Int) cs n)
      x1 x4 cs.length cs pre.length hlen rfl (by omega) (by rw [← e]; exact getD_mid pre c rest _)
    have := hv k n (by omega) (by omega)
    simp only [trailheadlaw22_SyncDoes.l0.f] at this ⊢
    rw [trailheadlaw22_SyncDoes.l0.go, hstep]
    simpa using this

theorem syncDoes_pure : SyncDoesPure := by
  intro cs hcs hlm now hnow
  refine Ev.get ?_
  unfold trailheadlaw22_SyncDoes.f trailheadlaw22_SyncDoes.tree
  refine Ev.bind sync_alive ?_
  simp only [Bool.not_true, cond_false]
  by_cases hl : ((cs.length : Nat) : Int) > 200
  · rw [decide_eq_true hl]; exact Ev.const fun _ => rfl
  rw [decide_eq_false hl]
  simp only [cond_false]
  obtain ⟨v, hv⟩ := does_loop now false cs (fun c hc => (hcs c hc).2.2.1) (by omega) cs [] rfl w0 (false, (0, (0, ([0, 0, 0, 0], (0, 0))))) ⟨rfl, rfl, by simp [w0], rfl, rfl, zero_good, .inl ⟨rfl, rfl⟩⟩
  refine Ev.bind hv.ev ?_
  simp only [sel]
  exact Ev.of 10 fun k => by kernel_rfl

theorem syncDoes_said : Rows.SyncDoesSaid := syncDoes_row syncDoes_pure

end Go.Proofs.Ytjciljaojcekeaa.Sx
