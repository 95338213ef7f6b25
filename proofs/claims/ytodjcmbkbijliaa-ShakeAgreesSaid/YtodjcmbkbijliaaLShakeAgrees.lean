/- ShakeAgrees: the statement on data. -/
import Derived.Test.YtodjcmbkbijliaaQ33
import Derived.Test.YtodjcmbkbijliaaRShakeAgrees
namespace Go.Proofs.Ytodjcmbkbijliaa.Sy
open Go Go.Proofs
set_option linter.unusedVariables false
set_option linter.unusedSimpArgs false

abbrev MsgT := Int × (Int × (Int × (Int × (Int × (Value × ((List Int) × Value))))))
abbrev OwnT := Int × (Int × (Int × Int))

def inM (k : Nat) (m : MsgT) (h : HandT) : Option (Int × (HandT × List MsgT)) :=
  shake_Hand_In_v1.f k m.1 m.2.1 m.2.2.1 m.2.2.2.1 m.2.2.2.2.1 m.2.2.2.2.2.1 m.2.2.2.2.2.2.1 m.2.2.2.2.2.2.2 h

section
variable {X : Type} (Q : Bool → Option X) (G : Int → HandT → List MsgT → HandT → List MsgT → Option X) (k : Nat) (i : Int)

def dY (x : HandT) (m : MsgT) (r : List MsgT) (y : HandT) (tX : List MsgT) : Option X :=
  Option.bind (inM k m y) (fun o => bif o.1 != (0 : Int) then Q false else bif fits ((tX.length + o.2.2.length) * 120) then G i x r o.2.1 (tX ++ o.2.2) else none)

def dX (x : HandT) (tY : List MsgT) (y : HandT) (m : MsgT) (r : List MsgT) : Option X :=
  Option.bind (inM k m x) (fun o => bif o.1 != (0 : Int) then Q false else bif fits ((tY.length + o.2.2.length) * 120) then G i o.2.1 (tY ++ o.2.2) y r else none)

def agS (c : Bool) (x : HandT) (tY : List MsgT) (y : HandT) (tX : List MsgT) : Option X :=
  match tY, tX with
  | [], [] => G i x [] y []
  | m :: r, [] => dY Q G k i x m r y []
  | [], m :: r => dX Q G k i x [] y m r
  | m :: r, m' :: r' => bif c then dY Q G k i x m r y (m' :: r') else dX Q G k i x (m :: r) y m' r'
end

theorem len_pos {α : Type} (m : α) (r : List α) : decide (((List.length (m :: r)) : Int) > 0) = true := decide_eq_true (by rw [List.length_cons]; omega)
theorem len_pos2 {α : Type} (m : α) (r : List α) : decide (0 < ((List.length (m :: r)) : Int)) = true := decide_eq_true (by rw [List.length_cons]; omega)
theorem len_pos3 {α : Type} (m : α) (r : List α) : decide (0 < (List.length (m :: r))) = true := decide_eq_true (by rw [List.length_cons]; omega)
theorem len_pos4 {α : Type} (m : α) (r : List α) : decide (1 ≤ ((List.length (m :: r)) : Int)) = true := decide_eq_true (by rw [List.length_cons]; omega)
theorem len_ne {α : Type} (m : α) (r : List α) : (((List.length (m :: r)) : Int) == 0) = false := by
  rw [List.length_cons]; apply beq_false_of_ne; omega
theorem nil_pos {α : Type} : decide (((List.length ([] : List α)) : Int) > 0) = false := rfl
theorem nil_eq {α : Type} : (((List.length ([] : List α)) : Int) == 0) = true := rfl

theorem agrees_round {X : Type} (K : Int → HandT → List MsgT → HandT → List MsgT → Option X) (Q : Bool → Option X) (G : Int → HandT → List MsgT → HandT → List MsgT → Option X) (k : Nat) (x3 : Int) (y0 : List Bool) (a b : OwnT) (i : Nat) (hi : i < 30) (hl : y0.length ≤ 40) (x : HandT) (tY : List MsgT) (y : HandT) (tX : List MsgT) :
    ∃ c : Bool, trailheadlaw21_ShakeAgrees.l0.step K Q G k x3 false y0 a b (i : Int) x tY y tX = agS Q G k ((i + 1 : Nat) : Int) c x tY y tX := by
  have e1 : addI .i64 (i : Int) 1 = ((i + 1 : Nat) : Int) := i64_ok (by omega) (by omega)
  have c0 : decide ((i : Int) < (30 : Int)) = true := decide_eq_true (by omega)
  unfold trailheadlaw21_ShakeAgrees.l0.step
  simp only [c0, e1, cond_true]
  by_cases hc : (i : Int) ≥ (y0.length : Int)
  · refine ⟨true, ?_⟩
    simp only [decide_eq_true hc, cond_true]
    cases tY with
    | nil =>
      simp only [nil_pos, cond_false]
      cases tX with
      | nil => simp only [nil_eq, nil_pos, cond_true, cond_false, agS]
      | cons m r =>
        simp only [len_ne, len_pos, len_pos2, len_pos3, len_pos4, nil_pos, cond_true, cond_false, agS, dX, inM, List.getD_cons_zero, List.drop_succ_cons, List.drop_zero]
    | cons m r =>
      simp only [len_pos, len_pos2, len_pos3, len_pos4, cond_true]
      cases tX with
      | nil => simp only [agS, dY, inM, List.getD_cons_zero, List.drop_succ_cons, List.drop_zero]
      | cons m' r' => simp only [agS, dY, inM, List.getD_cons_zero, List.drop_succ_cons, List.drop_zero, cond_true]
  · have h0 : decide ((0 : Int) ≤ (i : Int)) = true := decide_eq_true (by omega)
    have h1 : decide ((i : Int) < (y0.length : Int)) = true := decide_eq_true (by omega)
    have h2 : decide (i < y0.length) = true := decide_eq_true (by omega)
    simp only [decide_eq_false hc, h0, h1, h2, cond_true, cond_false, Int.toNat_natCast]
    refine ⟨y0.getD i false, ?_⟩
    cases y0.getD i false
    · simp only [cond_false]
      cases tY with
      | nil =>
        cases tX with
        | nil => simp only [nil_eq, nil_pos, cond_true, cond_false, agS]
        | cons m r =>
          simp only [len_ne, len_pos, len_pos2, len_pos3, len_pos4, nil_pos, cond_true, cond_false, agS, dX, inM, List.getD_cons_zero, List.drop_succ_cons, List.drop_zero]
      | cons m r =>
        cases tX with
        | nil => simp only [nil_eq, len_pos, len_pos2, len_pos3, len_pos4, cond_true, agS, dY, inM, List.getD_cons_zero, List.drop_succ_cons, List.drop_zero]
        | cons m' r' => simp only [len_ne, len_pos, len_pos2, len_pos3, len_pos4, agS, dX, inM, List.getD_cons_zero, List.drop_succ_cons, List.drop_zero, cond_true, cond_false]
    · simp only [cond_true]
      cases tY with
      | nil =>
        simp only [nil_pos, cond_false]
        cases tX with
        | nil => simp only [nil_eq, nil_pos, cond_true, cond_false, agS]
        | cons m r =>
          simp only [len_ne, len_pos, len_pos2, len_pos3, len_pos4, nil_pos, cond_true, cond_false, agS, dX, inM, List.getD_cons_zero, List.drop_succ_cons, List.drop_zero]
      | cons m r =>
        simp only [len_pos, len_pos2, len_pos3, len_pos4, cond_true]
        cases tX with
        | nil => simp only [agS, dY, inM, List.getD_cons_zero, List.drop_succ_cons, List.drop_zero]
        | cons m' r' => simp only [agS, dY, inM, List.getD_cons_zero, List.drop_succ_cons, List.drop_zero, cond_true]

/-! ### The nine states -/

abbrev nilV : Value := Value.slice none 0 0
abbrev zeros : List Int := [0, 0, 0, 0, 0, 0, 0, 0, 0, 0, 0, 0, 0, 0, 0, 0, 0, 0, 0, 0, 0, 0, 0, 0, 0, 0, 0, 0, 0, 0, 0, 0]
abbrev mH (o : OwnT) : MsgT := (1, o.1, o.2.1, o.2.2.1, o.2.2.2, nilV, zeros, nilV)
abbrev mV : MsgT := (2, 0, 0, 0, 0, nilV, zeros, nilV)
abbrev mS : MsgT := (8, 0, 0, 0, 0, nilV, zeros, nilV)

abbrev hx (a b : OwnT) : Nat → HandT
  | 0 => (a, false, 0, false, false, false, false, 0, 0, 0)
  | 1 => (a, false, 0, true, false, false, false, b.2.2.1, 0, 0)
  | 2 => (a, false, 0, true, true, false, false, b.2.2.1, 0, 0)
  | _ => (a, false, 0, true, true, false, true, b.2.2.1, 0, 0)
abbrev hy (a b : OwnT) : Nat → HandT
  | 0 => (b, true, 0, false, false, false, false, 0, 0, 0)
  | 1 => (b, true, 0, true, false, false, false, a.2.2.1, 0, 0)
  | 2 => (b, true, 0, true, true, false, false, a.2.2.1, 0, 0)
  | _ => (b, true, 0, true, true, false, true, a.2.2.1, 0, 0)
abbrev avY (a : OwnT) : Nat → List MsgT
  | 0 => [mH a]
  | 1 => [mH a, mV]
  | _ => [mH a, mV, mS]
abbrev avX (b : OwnT) : Nat → List MsgT
  | 0 => []
  | 1 => [mH b, mV]
  | _ => [mH b, mV, mS]

theorem inY0 (k : Nat) (a b : OwnT) (hn : a.2.2.2 ≠ b.2.2.2) (hv : 31800 ≤ a.1) : inM k (mH a) (hy a b 0) = some (0, hy a b 1, [mH b, mV]) := by
  have e1 : (a.2.2.2 == b.2.2.2) = false := beq_false_of_ne hn
  have e2 : decide (a.1 < (31800 : Int)) = false := decide_eq_false (by omega)
  simp only [inM, shake_Hand_In_v1.f, shake_Hand_In_v1.tree, shake_Hand_version_v1.f, shake_Hand_version_v1.tree, shake_Own_hello.f, shake_Own_hello.tree, hy, mH, e1, e2, cond_true, cond_false, Option.bind_some]
  rfl
theorem inY1 (k : Nat) (a b : OwnT) : inM k mV (hy a b 1) = some (0, hy a b 2, [mS]) := rfl
theorem inY2 (k : Nat) (a b : OwnT) : inM k mS (hy a b 2) = some (0, hy a b 3, []) := rfl
theorem inX0 (k : Nat) (a b : OwnT) (hn : a.2.2.2 ≠ b.2.2.2) (hv : 31800 ≤ b.1) : inM k (mH b) (hx a b 0) = some (0, hx a b 1, [mV]) := by
  have e1 : (b.2.2.2 == a.2.2.2) = false := beq_false_of_ne (fun h => hn h.symm)
  have e2 : decide (b.1 < (31800 : Int)) = false := decide_eq_false (by omega)
  simp only [inM, shake_Hand_In_v1.f, shake_Hand_In_v1.tree, shake_Hand_version_v1.f, shake_Hand_version_v1.tree, hx, mH, e1, e2, cond_true, cond_false, Option.bind_some]
  rfl
theorem inX1 (k : Nat) (a b : OwnT) : inM k mV (hx a b 1) = some (0, hx a b 2, [mS]) := rfl
theorem inX2 (k : Nat) (a b : OwnT) : inM k mS (hx a b 2) = some (0, hx a b 3, []) := rfl

def reach : Nat → Nat → Bool
  | 0, 0 | 1, 0 | 1, 1 | 1, 2 | 2, 1 | 2, 2 | 3, 2 | 2, 3 | 3, 3 => true
  | _, _ => false

/-- One round more. -/
theorem ag_step {X : Type} (Q : Bool → Option X) (G : Int → HandT → List MsgT → HandT → List MsgT → Option X) (k : Nat) (i : Int) (c : Bool) (a b : OwnT) (hn : a.2.2.2 ≠ b.2.2.2) (ha : 31800 ≤ a.1) (hb : 31800 ≤ b.1) (p q : Nat) (hr : reach p q = true) :
    ∃ p' q', reach p' q' = true ∧ 6 - (p' + q') ≤ 5 - (p + q) ∧ agS Q G k i c (hx a b q) ((avY a q).drop p) (hy a b p) ((avX b p).drop q) = G i (hx a b q') ((avY a q').drop p') (hy a b p') ((avX b p').drop q') := by
  match p, q, hr with
  | 0, 0, _ => exact ⟨1, 0, rfl, by omega, by
      show dY Q G k i (hx a b 0) (mH a) [] (hy a b 0) [] = _
      unfold dY; rw [inY0 k a b hn ha]; rfl⟩
  | 1, 0, _ => exact ⟨1, 1, rfl, by omega, by
      show dX Q G k i (hx a b 0) [] (hy a b 1) (mH b) [mV] = _
      unfold dX; rw [inX0 k a b hn hb]; rfl⟩
  | 1, 1, _ =>
    cases c
    · exact ⟨1, 2, rfl, by omega, by
        show dX Q G k i (hx a b 1) [mV] (hy a b 1) mV [] = _
        unfold dX; rw [inX1 k a b]; rfl⟩
    · exact ⟨2, 1, rfl, by omega, by
        show dY Q G k i (hx a b 1) mV [] (hy a b 1) [mV] = _
        unfold dY; rw [inY1 k a b]; rfl⟩
  | 1, 2, _ => exact ⟨2, 2, rfl, by omega, by
      show dY Q G k i (hx a b 2) mV [mS] (hy a b 1) [] = _
      unfold dY; rw [inY1 k a b]; rfl⟩
  | 2, 1, _ => exact ⟨2, 2, rfl, by omega, by
      show dX Q G k i (hx a b 1) [] (hy a b 2) mV [mS] = _
      unfold dX; rw [inX1 k a b]; rfl⟩
  | 2, 2, _ =>
    cases c
    · exact ⟨2, 3, rfl, by omega, by
        show dX Q G k i (hx a b 2) [mS] (hy a b 2) mS [] = _
        unfold dX; rw [inX2 k a b]; rfl⟩
    · exact ⟨3, 2, rfl, by omega, by
        show dY Q G k i (hx a b 2) mS [] (hy a b 2) [mS] = _
        unfold dY; rw [inY2 k a b]; rfl⟩
  | 3, 2, _ => exact ⟨3, 3, rfl, by omega, by
      show dX Q G k i (hx a b 2) [] (hy a b 3) mS [] = _
      unfold dX; rw [inX2 k a b]; rfl⟩
  | 2, 3, _ => exact ⟨3, 3, rfl, by omega, by
      show dY Q G k i (hx a b 3) mS [] (hy a b 2) [] = _
      unfold dY; rw [inY2 k a b]; rfl⟩
  | 3, 3, _ => exact ⟨3, 3, rfl, by omega, rfl⟩

theorem ag_go {X : Type} (K : Int → HandT → List MsgT → HandT → List MsgT → Option X) (Q : Bool → Option X) (k : Nat) (x3 : Int) (y0 : List Bool) (a b : OwnT) (hn : a.2.2.2 ≠ b.2.2.2) (ha : 31800 ≤ a.1) (hb : 31800 ≤ b.1) (hl : y0.length ≤ 40) : ∀ (d n i p q : Nat), i + d = 30 → d < n → reach p q = true → 6 - (p + q) ≤ d →
    trailheadlaw21_ShakeAgrees.l0.go K Q k x3 false y0 a b n (i : Int) (hx a b q) ((avY a q).drop p) (hy a b p) ((avX b p).drop q) = K 30 (hx a b 3) [] (hy a b 3) [] := by
  intro d
  induction d with
  | zero =>
    intro n i p q hi hd hr h6
    obtain ⟨n, rfl⟩ : ∃ z, n = z + 1 := ⟨n - 1, by omega⟩
    have e : i = 30 := by omega
    subst e
    have : p = 3 ∧ q = 3 := by
      unfold reach at hr
      split at hr <;> first | omega | cases hr
    obtain ⟨rfl, rfl⟩ := this
    rfl
  | succ d ih =>
    intro n i p q hi hd hr h6
    obtain ⟨n, rfl⟩ : ∃ z, n = z + 1 := ⟨n - 1, by omega⟩
    have go := fun p q hr h => ih n (i + 1) p q (by omega) (by omega) hr h
    unfold trailheadlaw21_ShakeAgrees.l0.go
    obtain ⟨c, hc⟩ := agrees_round K Q (trailheadlaw21_ShakeAgrees.l0.go K Q k x3 false y0 a b n) k x3 y0 a b i (by omega) hl (hx a b q) ((avY a q).drop p) (hy a b p) ((avX b p).drop q)
    rw [hc]
    obtain ⟨p', q', h1, h2, h3⟩ := ag_step Q (trailheadlaw21_ShakeAgrees.l0.go K Q k x3 false y0 a b n) k ((i + 1 : Nat) : Int) c a b hn ha hb p q hr
    rw [h3]
    exact go p' q' h1 (by omega)

theorem ag_loop (k : Nat) (x3 : Int) (y0 : List Bool) (a b : OwnT) (hn : a.2.2.2 ≠ b.2.2.2) (ha : 31800 ≤ a.1) (hb : 31800 ≤ b.1) (hl : y0.length ≤ 40) (d n i p q : Nat) (hi : i + d = 30) (hd : d < n) (hr : reach p q = true) (h6 : 6 - (p + q) ≤ d) :
    trailheadlaw21_ShakeAgrees.l0.f k x3 false y0 a b n (i : Int) (hx a b q) ((avY a q).drop p) (hy a b p) ((avX b p).drop q) = some (.inl (30, hx a b 3, [], hy a b 3, [])) :=
  ag_go _ _ k x3 y0 a b hn ha hb hl d n i p q hi hd hr h6

theorem shakeAgrees_pure : ShakeAgreesPure := by
  intro a _ b _ y0 _ _ num _
  refine ⟨100, ?_⟩
  have hk : 90 < 100 := by omega
  generalize 100 = k at hk
  unfold trailheadlaw21_ShakeAgrees.f trailheadlaw21_ShakeAgrees.tree
  rw [alive21]
  simp only [Option.bind_some, Bool.not_true, cond_false]
  by_cases h1 : (y0.length : Int) > 40
  · rw [decide_eq_true h1]; rfl
  rw [decide_eq_false h1, cond_false]
  by_cases h2 : a.2.2.2 = b.2.2.2
  · rw [beq_iff_eq.2 h2]; rfl
  rw [beq_false_of_ne h2, cond_false]
  by_cases h3 : a.1 < 31800
  · rw [decide_eq_true h3]; rfl
  rw [decide_eq_false h3, cond_false]
  by_cases h4 : b.1 < 31800
  · rw [decide_eq_true h4]; rfl
  rw [decide_eq_false h4, cond_false]
  by_cases h5 : num < 1
  · rw [decide_eq_true h5]; rfl
  rw [decide_eq_false h5, cond_false]
  by_cases h6 : num ≥ 72057594037927936
  · rw [decide_eq_true h6]; rfl
  rw [decide_eq_false h6, cond_false]
  have e1 : shake_Open.f k a false 0 = some (hx a b 0, [mH a]) := rfl
  have e2 : shake_Open.f k b true 0 = some (hy a b 0, []) := rfl
  rw [e1]
  simp only [Option.bind_some]
  rw [e2]
  simp only [Option.bind_some]
  have := ag_loop k num y0 a b h2 (by omega) (by omega) (by omega) 30 k 0 0 0 (by omega) (by omega) rfl (by omega)
  rw [show ((0 : Nat) : Int) = 0 from rfl] at this
  have e3 : (avY a 0).drop 0 = [mH a] := rfl
  have e4 : (avX b 0).drop 0 = [] := rfl
  rw [e3, e4] at this
  rw [this]
  simp only [Option.bind_some, sel]
  have r1 : shake_Hand_Ready.f k (hx a b 3) = some true := rfl
  have r2 : shake_Hand_Ready.f k (hy a b 3) = some true := rfl
  have r3 : shake_Hand_Direct.f k (hx a b 3) = some true := rfl
  have r4 : shake_Hand_Direct.f k (hy a b 3) = some true := rfl
  have r5 : shake_Hand_Height.f k (hx a b 3) = some b.2.2.1 := rfl
  have r6 : shake_Hand_Height.f k (hy a b 3) = some a.2.2.1 := rfl
  have b1 : (b.2.2.1 != b.2.2.1) = false := by simp
  have b2 : (a.2.2.1 != a.2.2.1) = false := by simp
  rw [r1]
  simp only [Option.bind_some, Bool.not_true, cond_false]
  rw [r2]
  simp only [Option.bind_some, Bool.not_true, cond_false]
  rw [r3]
  simp only [Option.bind_some, Bool.not_true, cond_false]
  rw [r4]
  simp only [Option.bind_some, Bool.not_true, cond_false]
  rw [r5]
  simp only [Option.bind_some, b1, cond_false]
  rw [r6]
  simp only [Option.bind_some, b2, cond_false]
  have p1 : shake_Hand_Ping.f k num 1 (hx a b 3) = some ((a, false, 0, true, true, false, true, b.2.2.1, num, 1), [(6, 0, 0, 0, num, nilV, zeros, nilV)]) := by
    simp only [shake_Hand_Ping.f, shake_Hand_Ping.tree]
    rw [r1, decide_eq_false h5, decide_eq_false h6]
    rfl
  rw [p1]
  simp only [Option.bind_some]
  have n0 : (num == 0) = false := beq_false_of_ne (by omega)
  have n1 : (num != num) = false := by simp
  have p2 : inM k (6, 0, 0, 0, num, nilV, zeros, nilV) (hy a b 3) = some (0, hy a b 3, [(7, 0, 0, 0, num, nilV, zeros, nilV)]) := rfl
  have p3 : inM k (7, 0, 0, 0, num, nilV, zeros, nilV) (a, false, 0, true, true, false, true, b.2.2.1, num, 1) = some (0, (a, false, 0, true, true, false, true, b.2.2.1, 0, 1), []) := by
    simp only [inM, shake_Hand_In_v1.f, shake_Hand_In_v1.tree, shake_Hand_pong_v1.f, shake_Hand_pong_v1.tree, n0, n1, cond_false]
    rfl
  unfold inM at p2 p3
  simp only [len_pos2, len_pos3, cond_true, List.getD_cons_zero]
  have l1 : ((([(6, 0, 0, 0, num, nilV, zeros, nilV)] : List MsgT).length : Int) != 1) = false := rfl
  have l2 : ((([(7, 0, 0, 0, num, nilV, zeros, nilV)] : List MsgT).length : Int) != 1) = false := rfl
  rw [l1, cond_false, p2]
  simp only [Option.bind_some]
  have z : ((0 : Int) != 0) = false := rfl
  rw [z, l2]
  simp only [cond_false, len_pos2, len_pos3, cond_true, List.getD_cons_zero]
  rw [p3]
  rfl

theorem shakeAgrees_said : Rows.ShakeAgreesSaid := shakeAgrees_row shakeAgrees_pure

end Go.Proofs.Ytodjcmbkbijliaa.Sy
