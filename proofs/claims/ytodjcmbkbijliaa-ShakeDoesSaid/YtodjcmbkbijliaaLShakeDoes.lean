/- ShakeDoes: the law. -/
import Derived.Test.YtodjcmbkbijliaaQ35
import Derived.Test.YtodjcmbkbijliaaRShakeDoes
namespace Go.Proofs.Ytodjcmbkbijliaa.Sy
open Go
set_option linter.unusedVariables false
set_option linter.unusedSimpArgs false

abbrev EvN := T_4272cd

theorem getD_evN {l : List EvN} {i : Nat} (h : i < l.length) (d : EvN) : l.getD i d = l[i] := by
  rw [List.getD_eq_getElem?_getD, List.getElem?_eq_getElem h]; rfl
theorem getD_msgN {l : List MsgN} {i : Nat} (h : i < l.length) (d : MsgN) : l.getD i d = l[i] := by
  rw [List.getD_eq_getElem?_getD, List.getElem?_eq_getElem h]; rfl

/-- The messages said are the document's. -/
theorem does_l3 (k : Nat) (hk : 0 < k) (x67 x68 : Int) (y0 : List EvN) (o : OwnN) (h : HandN) (m : RefN) (e0 e1 e2 e3 e4 e5 : Int) (e6 : Value) (e7 : List Int) (e8 : Value) (e9 : Int × Int) (ms : List MsgN) (hg : goodMs o e5 ms) : ∀ (d n i : Nat), i + d = ms.length → d < n →
    trailheadlaw21_ShakeDoes.l3.f k x67 x68 (ms.length : Int) y0 o h m e0 e1 e2 e3 e4 e5 e6 e7 e8 e9 (ms.map (·.1)) ms n (i : Int) = some (.inl (ms.length : Int)) := by
  obtain ⟨hl, hg⟩ := hg
  intro d
  induction d with
  | zero =>
    intro n i hi hn
    obtain ⟨n, rfl⟩ : ∃ q, n = q + 1 := ⟨n - 1, by omega⟩
    have e : i = ms.length := by omega
    subst e
    unfold trailheadlaw21_ShakeDoes.l3.f trailheadlaw21_ShakeDoes.l3.go trailheadlaw21_ShakeDoes.l3.step
    rw [decide_eq_false (Int.lt_irrefl _)]
    rfl
  | succ d ih =>
    intro n i hi hn
    obtain ⟨n, rfl⟩ : ∃ q, n = q + 1 := ⟨n - 1, by omega⟩
    have hlt : i < ms.length := by omega
    have e1' : addI .i64 (i : Int) 1 = ((i + 1 : Nat) : Int) := (add_id (by omega) (by omega)).trans (by omega)
    have go := ih n (i + 1) (by omega) (by omega)
    unfold trailheadlaw21_ShakeDoes.l3.f at go ⊢
    unfold trailheadlaw21_ShakeDoes.l3.go trailheadlaw21_ShakeDoes.l3.step
    have c1 : decide ((i : Int) < (ms.length : Int)) = true := decide_eq_true (by omega)
    have c2 : decide ((0 : Int) ≤ (i : Int)) = true := decide_eq_true (by omega)
    have c3 : decide (i < ms.length) = true := decide_eq_true hlt
    have hx := hg ms[i] (List.getElem_mem hlt)
    have hm : (ms.map (·.1)).getD i (0 : Int) = ms[i].1 := by
      rw [List.getD_eq_getElem?_getD, List.getElem?_eq_getElem (by simpa using hlt)]; simp
    have hm2 : (ms.map (·.1)).length = ms.length := by simp
    simp only [c1, c2, c3, e1', cond_true, Int.toNat_natCast, getD_msgN hlt, hm, hm2]
    generalize ms[i] = x at hx ⊢
    obtain ⟨hx1, hx7⟩ := hx
    have b0 : (x.1 != x.1) = false := by simp
    simp only [b0, cond_false]
    by_cases h1 : x.1 = 1
    · rw [beqt h1, cond_true, hx1 h1, hello_eq k hk o, Option.bind_some]
      simp only [Bool.not_true, cond_false]
      exact go
    · rw [beqf h1, cond_false]
      by_cases h7 : x.1 = 7
      · rw [beqt h7, cond_true, hx7 h7]
        have b1 : (e5 != e5) = false := by simp
        rw [b1, cond_false]
        exact go
      · rw [beqf h7, cond_false]
        exact go

theorem sel_inl' {α β γ : Type} (a : α) (f : α → γ) (g : β → γ) : sel (.inl a) f g = f a := rfl

theorem chkH {X : Type} (z : Option X) (k : Nat) (h : HandN) (hi : Inv h) (Y : Option X) :
    Option.bind (shake_Hand_Ready.f k h) (fun r10 => bif (!(r10 == ((mOf h).2.2.2.1 == (2 : Int)))) then z else Option.bind (shake_Hand_Gone.f k h) (fun r11 => bif (!(r11 == ((mOf h).2.2.2.1 == (3 : Int)))) then z else Option.bind (shake_Hand_Direct.f k h) (fun r12 => bif ((mOf h).2.2.2.1 == (2 : Int)) then (bif (!(r12 == (mOf h).2.2.2.2.1)) then z else Option.bind (shake_Hand_Height.f k h) (fun r13 => bif (r13 != (mOf h).2.2.2.2.2.1) then z else Y)) else (bif (!(r12 == false)) then z else Option.bind (shake_Hand_Height.f k h) (fun r14 => bif (r14 != (mOf h).2.2.2.2.2.1) then z else Y))))) = Y := by
  obtain ⟨q1, q2, q3, q4⟩ := asks k h hi
  rw [q1, q2, q3, q4]
  generalize mOf h = m
  have b0 : (m.2.2.2.2.2.1 != m.2.2.2.2.2.1) = false := by simp
  cases hs : (m.2.2.2.1 == (2 : Int)) <;> simp only [Option.bind_some, hs, beq_self_eq_true, Bool.not_true, cond_false, cond_true, b0]

/-- The calls: the hand and the document's hand answer alike. -/
theorem does_l0 (k : Nat) (hk : 2 < k) (y0 : List EvN) (hl : y0.length ≤ 60) (o : OwnN) : ∀ (d n i : Nat) (h : HandN), i + d = y0.length → d < n → Inv h → h.1 = o →
    ∃ r, trailheadlaw21_ShakeDoes.l0.f k (y0.length : Int) y0 o n (i : Int) h (mOf h) = some (.inl r) := by
  intro d
  induction d with
  | zero =>
    intro n i h hi hn _ _
    obtain ⟨n, rfl⟩ : ∃ q, n = q + 1 := ⟨n - 1, by omega⟩
    have e : i = y0.length := by omega
    subst e
    unfold trailheadlaw21_ShakeDoes.l0.f trailheadlaw21_ShakeDoes.l0.go trailheadlaw21_ShakeDoes.l0.step
    rw [decide_eq_false (Int.lt_irrefl _)]
    exact ⟨_, rfl⟩
  | succ d ih =>
    intro n i h hi hn hv ho
    obtain ⟨n, rfl⟩ : ∃ q, n = q + 1 := ⟨n - 1, by omega⟩
    have hlt : i < y0.length := by omega
    have e1 : addI .i64 (i : Int) 1 = ((i + 1 : Nat) : Int) := (add_id (by omega) (by omega)).trans (by omega)
    have go := fun h hv ho => ih n (i + 1) h (by omega) (by omega) hv ho
    unfold trailheadlaw21_ShakeDoes.l0.f at go ⊢
    unfold trailheadlaw21_ShakeDoes.l0.go trailheadlaw21_ShakeDoes.l0.step
    have c1 : decide ((i : Int) < (y0.length : Int)) = true := decide_eq_true (by omega)
    have c2 : decide ((0 : Int) ≤ (i : Int)) = true := decide_eq_true (by omega)
    have c3 : decide (i < y0.length) = true := decide_eq_true hlt
    simp only [c1, c2, c3, e1, cond_true, Int.toNat_natCast, getD_evN hlt]
    generalize y0[i] = ev
    cases k0 : (ev.1 == (0 : Int))
    · rw [cond_false]
      cases k1 : (ev.1 == (1 : Int))
      · rw [cond_false]
        cases k2 : (ev.1 == (2 : Int))
        · rw [cond_false]
          cases k3 : (ev.1 == (3 : Int))
          · rw [cond_false]
            obtain ⟨r, hr⟩ := go h hv ho
            exact ⟨r, (chkH _ k h hv _).trans hr⟩
          · rw [cond_true]
            obtain ⟨h', hA, hB, hv', ho', hg'⟩ := end_does k h hv
            obtain ⟨r, hr⟩ := go h' hv' (ho'.trans ho)
            refine ⟨r, ?_⟩
            obtain ⟨q1, q2, q3, q4⟩ := asks k h' hv'
            rw [← hB] at q1 q2 q3 q4
            have b0 : ((mOf h).2.2.2.2.2.1 != (mOf h).2.2.2.2.2.1) = false := by simp
            rw [hA]
            simp only [Option.bind_some, q1, q2, q3, q4]
            rw [hB]
            simp only [b0]
            exact hr
        · rw [cond_true]
          obtain ⟨h', b, hA, hB, hv', ho'⟩ := tick_does k ev.2.2.2 h hv
          obtain ⟨r, hr⟩ := go h' hv' (ho'.trans ho)
          rw [hA, hB]
          simp only [Option.bind_some, beq_self_eq_true, Bool.not_true, cond_false]
          exact ⟨r, (chkH _ k h' hv' _).trans hr⟩
      · rw [cond_true]
        obtain ⟨h', ms, b, hA, hB, hv', ho', hb⟩ := ping_does k ev.2.2.1 ev.2.2.2 h hv
        obtain ⟨r, hr⟩ := go h' hv' (ho'.trans ho)
        rw [hA, hB]
        refine ⟨r, ?_⟩
        have b0 : (ev.2.2.1 != ev.2.2.1) = false := by simp
        rcases hb with ⟨rfl, rfl⟩ | ⟨rfl, rfl⟩
        · exact (chkH _ k h' hv' _).trans hr
        · refine Eq.trans (b := bif (ev.2.2.1 != ev.2.2.1) then _ else _) rfl ?_
          rw [b0, cond_false]
          exact (chkH _ k h' hv' _).trans hr
    · rw [cond_true]
      obtain ⟨f, h', ms, hA, hB, hv', ho', hg⟩ := in_does k ev.2.1.1 ev.2.1.2.1 ev.2.1.2.2.1 ev.2.1.2.2.2.1 ev.2.1.2.2.2.2.1 ev.2.1.2.2.2.2.2.1 ev.2.1.2.2.2.2.2.2.1 ev.2.1.2.2.2.2.2.2.2 h hv
      obtain ⟨r, hr⟩ := go h' hv' (ho'.trans ho)
      rw [hA, hB]
      have b0 : (f != f) = false := by simp
      have b1 : ((ms.length : Int) != ((ms.map (·.1)).length : Int)) = false := by simp
      rw [ho] at hg
      simp only [Option.bind_some, b0, b1, cond_false]
      have hm := does_l3 k (by omega) (y0.length : Int) (i : Int) y0 o h' (mOf h') ev.1 ev.2.1.1 ev.2.1.2.1 ev.2.1.2.2.1 ev.2.1.2.2.2.1 ev.2.1.2.2.2.2.1 ev.2.1.2.2.2.2.2.1 ev.2.1.2.2.2.2.2.2.1 ev.2.1.2.2.2.2.2.2.2 ev.2.2 ms hg ms.length k 0 (by omega) (by have := hg.1; omega)
      rw [show ((0 : Nat) : Int) = 0 from rfl] at hm
      rw [hm, Option.bind_some, sel_inl']
      exact ⟨r, (chkH _ k h' hv' _).trans hr⟩

theorem alive21N (k : Nat) : trailheadlaw21_alive.f k = some true := by kernel_rfl

theorem shakeDoes_pure : ShakeDoesPure := by
  intro a0 _ a1 _ a2 _ m0 _ _
  refine ⟨100, ?_⟩
  unfold trailheadlaw21_ShakeDoes.f trailheadlaw21_ShakeDoes.tree
  rw [alive21N, Option.bind_some]
  simp only [Bool.not_true, cond_false]
  by_cases hl : m0.length ≤ 60
  · rw [df (by omega), cond_false]
    cases a1
    · obtain ⟨r, hr⟩ := does_l0 100 (by decide) m0 hl a0 m0.length 100 0 (a0, false, a2, false, false, false, false, 0, 0, 0) (by omega) (by omega) (fun h => h) rfl
      have e1 : shake_Open.f 100 a0 false a2 = some ((a0, false, a2, false, false, false, false, 0, 0, 0), [mHN a0]) := rfl
      rw [e1, Option.bind_some]
      refine (Eq.trans (b := Option.bind (trailheadlaw21_hello.f 100 (mHN a0).1 (mHN a0).2.1 (mHN a0).2.2.1 (mHN a0).2.2.2.1 (mHN a0).2.2.2.2.1 (mHN a0).2.2.2.2.2.1 (mHN a0).2.2.2.2.2.2.1 (mHN a0).2.2.2.2.2.2.2 a0) _) rfl ?_)
      rw [hello_eq 100 (by decide) a0, Option.bind_some]
      exact (congrArg (fun t => Option.bind t _) hr).trans (by rfl)
    · obtain ⟨r, hr⟩ := does_l0 100 (by decide) m0 hl a0 m0.length 100 0 (a0, true, a2, false, false, false, false, 0, 0, 0) (by omega) (by omega) (fun h => h) rfl
      have e1 : shake_Open.f 100 a0 true a2 = some ((a0, true, a2, false, false, false, false, 0, 0, 0), []) := rfl
      rw [e1, Option.bind_some]
      exact (congrArg (fun t => Option.bind t _) hr).trans (by rfl)
  · rw [dt (by omega), cond_true]

theorem shakeDoes_said : Rows.ShakeDoesSaid := shakeDoes_row shakeDoes_pure

end Go.Proofs.Ytodjcmbkbijliaa.Sy
