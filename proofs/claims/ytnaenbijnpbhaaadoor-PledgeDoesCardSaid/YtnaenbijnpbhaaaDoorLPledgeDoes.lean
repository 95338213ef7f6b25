/- PledgeDoes: the statement on data, and the card. -/
import Derived.Test.YtnaenbijnpbhaaaDoorQ110
import Derived.Test.YtnaenbijnpbhaaaDoorRPledgeDoes
namespace Go.Proofs.YtnaenbijnpbhaaaDoor.Sy
open Go
set_option linter.unusedVariables false
set_option linter.unusedSimpArgs false

/-- What is to be answered to a name that is shown. -/
def wantB (p : Plan) (h : Int) (bits : List Bool) (m : Nat) (id : List Int) : Bool := !due p h || (decide (m < bits.length) && (bits.getD m false == bitB p.1 id))

theorem meet_gen (k : Nat) (hk : 20000 < k) (p : Plan) (h : Int) (id : List Int) (hn : name id) (bits : List Bool) (ws : List Int) (ho : okB ws bits) (hl : bits.length ≤ 10000) (m : Nat) (hm : m ≤ bits.length) :
    pledge_Book_Meet.f k h id p ((bits.length : Int), (m : Int)) H8 K64 ws = some (wantB p h bits m id, p, ((bits.length : Int), bif due p h && wantB p h bits m id then ((m + 1 : Nat) : Int) else (m : Int))) := by
  cases hd : due p h
  · rw [meet_free k p h id _ ws hd]
    unfold wantB
    rw [hd]
    rfl
  · by_cases hlt : m < bits.length
    · rw [meet_due k hk p h id hn bits ws ho hl m hlt hd]
      unfold wantB
      rw [hd, dt hlt]
      rfl
    · have : m = bits.length := by omega
      subst this
      unfold pledge_Book_Meet.f pledge_Book_Meet.tree wantB
      rw [due_eq, hd, Option.bind_some, Bool.not_true, cond_false, dt (by omega), df (Nat.lt_irrefl _)]
      rfl

theorem b3 (x : Bool) : (x == x) = true := by cases x <;> rfl

theorem does_l0 (k : Nat) (x28 : Int) (l : List (Int × (Int × List (List Int)))) (y1 y2 : List Int) (y3 : Plan) (hl : x28 = (l.length : Int)) (hll : l.length ≤ 1000) : ∀ (d n i : Nat), i + d = l.length → d < n →
    trailheadlaw18_PledgeDoes.l0.f k x28 l y1 y2 y3 n (i : Int) = some (.inr true) ∨
    (∃ r, trailheadlaw18_PledgeDoes.l0.f k x28 l y1 y2 y3 n (i : Int) = some (.inl r) ∧ ∀ j (h : j < l.length), i ≤ j → (l[j].2.2.length : Int) ≤ 10 ∧ -1099511627776 ≤ l[j].2.1 ∧ l[j].2.1 ≤ 1099511627776) := by
  subst hl
  intro d
  induction d with
  | zero =>
    intro n i hi hd
    obtain ⟨n, rfl⟩ : ∃ q, n = q + 1 := ⟨n - 1, by omega⟩
    have : i = l.length := by omega
    subst this
    unfold trailheadlaw18_PledgeDoes.l0.f trailheadlaw18_PledgeDoes.l0.go trailheadlaw18_PledgeDoes.l0.step
    rw [df (Int.lt_irrefl _), cond_false]
    exact .inr ⟨_, rfl, fun j h1 h2 => by omega⟩
  | succ d ih =>
    intro n i hi hd
    obtain ⟨n, rfl⟩ : ∃ q, n = q + 1 := ⟨n - 1, by omega⟩
    have hlt : i < l.length := by omega
    have e1 : addI .i64 (i : Int) 1 = ((i + 1 : Nat) : Int) := add_id (by omega) (by omega)
    have e4 : l.getD i dfl_6a0b32 = l[i] := by rw [List.getD_eq_getElem?_getD, List.getElem?_eq_getElem hlt]; rfl
    have ih' := ih n (i + 1) (by omega) (by omega)
    unfold trailheadlaw18_PledgeDoes.l0.f at ih' ⊢
    unfold trailheadlaw18_PledgeDoes.l0.go trailheadlaw18_PledgeDoes.l0.step
    simp only [e1, Int.toNat_natCast, e4]
    rw [dt (show (i : Int) < (l.length : Int) by omega), cond_true, dt (show (0 : Int) ≤ (i : Int) by omega), cond_true, cond_true, dt hlt, cond_true]
    by_cases g1 : (l[i].2.2.length : Int) > 10
    · rw [dt g1]; exact .inl rfl
    rw [df g1, cond_false]
    by_cases g2 : l[i].2.1 > 1099511627776
    · rw [dt g2]; exact .inl rfl
    rw [df g2, cond_false]
    by_cases g3 : l[i].2.1 < -1099511627776
    · rw [dt g3]; exact .inl rfl
    rw [df g3, cond_false]
    rcases ih' with h | ⟨r, h1, h2⟩
    · exact .inl h
    · refine .inr ⟨r, h1, fun j hj hij => ?_⟩
      by_cases hji : j = i
      · subst hji; exact ⟨by omega, by omega, by omega⟩
      · exact h2 j hj (by omega)

/-- Names that are given: their bits, where they are due. -/
theorem does_give (k : Nat) (hk : 20000 < k) (x56 x57 : Int) (p : Plan) (ht : Int) (hx : -9000000000000 ≤ ht ∧ ht ≤ 9000000000000) (l : List (List Int)) (hn : ∀ y ∈ l, name y) (hll : l.length ≤ 1000)
    (y0 : List (Int × (Int × List (List Int)))) (ws : List Int) (met : Int) (gm : Int × Int) : ∀ (d n i : Nat) (c : Nat) (bits : List Bool), i + d = l.length → d < n → bits.length + d ≤ 10000 → c + d ≤ 10000 →
    trailheadlaw18_PledgeDoes.l4.f k x56 x57 (l.length : Int) y0 H8 K64 p (0, (ht, l)) l ws n met (c : Int) (i : Int) p gm bits =
      some (.inl (met, ((c + (gb p (ht + i) (l.drop i)).length : Nat) : Int), (l.length : Int), p, gm, bits ++ gb p (ht + i) (l.drop i))) := by
  intro d
  induction d with
  | zero =>
    intro n i c bits hi hd hb hc
    obtain ⟨n, rfl⟩ : ∃ q, n = q + 1 := ⟨n - 1, by omega⟩
    have : i = l.length := by omega
    subst this
    unfold trailheadlaw18_PledgeDoes.l4.f trailheadlaw18_PledgeDoes.l4.go trailheadlaw18_PledgeDoes.l4.step
    rw [df (Int.lt_irrefl _), cond_false, List.drop_length]
    simp [gb]
  | succ d ih =>
    intro n i c bits hi hd hb hc
    obtain ⟨n, rfl⟩ : ∃ q, n = q + 1 := ⟨n - 1, by omega⟩
    have hlt : i < l.length := by omega
    have e1 : addI .i64 (i : Int) 1 = ((i + 1 : Nat) : Int) := add_id (by omega) (by omega)
    have e2 : addI .i64 (c : Int) 1 = ((c + 1 : Nat) : Int) := add_id (by omega) (by omega)
    have e3 : addI .i64 ht (i : Int) = ht + i := add_id (by omega) (by omega)
    have e4 : l.getD i (List.replicate 32 0 : List Int) = l[i] := by rw [List.getD_eq_getElem?_getD, List.getElem?_eq_getElem hlt]; rfl
    have hname := hn l[i] (List.getElem_mem hlt)
    have e5 : ht + ((i + 1 : Nat) : Int) = ht + i + 1 := by omega
    rw [List.drop_eq_getElem_cons hlt, gb_cons]
    have z0 : ((0 : Int) == 0) = true := rfl
    have z1 : ((0 : Int) != 0) = false := rfl
    cases hdue : due p (ht + i)
    · have ih' := ih n (i + 1) c bits (by omega) (by omega) (by omega) (by omega)
      rw [e5] at ih'
      rw [cond_false, List.nil_append]
      unfold trailheadlaw18_PledgeDoes.l4.f at ih' ⊢
      unfold trailheadlaw18_PledgeDoes.l4.go trailheadlaw18_PledgeDoes.l4.step
      simp only [e1, e3, Int.toNat_natCast, e4, z0, z1]
      rw [dt (show (i : Int) < (l.length : Int) by omega), cond_true, dt (show (0 : Int) ≤ (i : Int) by omega), cond_true, cond_true, dt hlt, cond_true, rdue_eq, hdue, Option.bind_some, rbit_eq k _ _ hname hk, Option.bind_some, cond_true, cond_false, cond_false]
      exact ih'
    · have ih' := ih n (i + 1) (c + 1) (bits ++ [bitB p.1 l[i]]) (by omega) (by omega) (by simp; omega) (by omega)
      rw [e5] at ih'
      rw [cond_true]
      have e6 : c + ([bitB p.1 l[i]] ++ gb p (ht + i + 1) (l.drop (i + 1))).length = c + 1 + (gb p (ht + i + 1) (l.drop (i + 1))).length := by simp; omega
      rw [e6, ← List.append_assoc]
      unfold trailheadlaw18_PledgeDoes.l4.f at ih' ⊢
      unfold trailheadlaw18_PledgeDoes.l4.go trailheadlaw18_PledgeDoes.l4.step
      simp only [e1, e2, e3, Int.toNat_natCast, e4, z0, z1]
      rw [dt (show (i : Int) < (l.length : Int) by omega), cond_true, dt (show (0 : Int) ≤ (i : Int) by omega), cond_true, cond_true, dt hlt, cond_true, rdue_eq, hdue, Option.bind_some, rbit_eq k _ _ hname hk, Option.bind_some, cond_true, cond_true, fits_ok (by omega), cond_true, cond_false]
      exact ih'

/-- How many are met by names that are shown. -/
def metN (p : Plan) (bits : List Bool) : Int → List (List Int) → Nat → Nat
  | _, [], m => m
  | h, id :: r, m => metN p bits (h + 1) r (bif due p h && wantB p h bits m id then m + 1 else m)

theorem want_lt {p : Plan} {h : Int} {bits : List Bool} {m : Nat} {id : List Int} (hd : due p h = true) (hw : wantB p h bits m id = true) : m < bits.length := by
  unfold wantB at hw
  rw [hd] at hw
  simp at hw
  exact hw.1

theorem metN_le (p : Plan) (bits : List Bool) : ∀ (l : List (List Int)) (h : Int) (m : Nat), m ≤ bits.length → metN p bits h l m ≤ bits.length
  | [], _, m, hm => hm
  | id :: r, h, m, hm => by
    simp only [metN]
    cases hc : (due p h && wantB p h bits m id)
    · exact metN_le p bits r (h + 1) m hm
    · simp only [Bool.and_eq_true] at hc
      exact metN_le p bits r (h + 1) (m + 1) (want_lt hc.1 hc.2)

theorem does_meet (k : Nat) (hk : 20000 < k) (x56 x57 : Int) (p : Plan) (kd ht : Int) (hkd : kd ≠ 0) (hx : -9000000000000 ≤ ht ∧ ht ≤ 9000000000000) (l : List (List Int)) (hn : ∀ y ∈ l, name y) (hll : l.length ≤ 1000)
    (y0 : List (Int × (Int × List (List Int)))) (bits : List Bool) (ws : List Int) (ho : okB ws bits) (hbl : bits.length ≤ 10000) (x13 : Int) : ∀ (d n i m : Nat), i + d = l.length → d < n → m ≤ bits.length →
    trailheadlaw18_PledgeDoes.l4.f k x56 x57 (l.length : Int) y0 H8 K64 p (kd, (ht, l)) l ws n (m : Int) x13 (i : Int) p ((bits.length : Int), (m : Int)) bits =
      some (.inl ((metN p bits (ht + i) (l.drop i) m : Int), x13, (l.length : Int), p, ((bits.length : Int), (metN p bits (ht + i) (l.drop i) m : Int)), bits)) := by
  intro d
  induction d with
  | zero =>
    intro n i m hi hd hm
    obtain ⟨n, rfl⟩ : ∃ q, n = q + 1 := ⟨n - 1, by omega⟩
    have : i = l.length := by omega
    subst this
    unfold trailheadlaw18_PledgeDoes.l4.f trailheadlaw18_PledgeDoes.l4.go trailheadlaw18_PledgeDoes.l4.step
    rw [df (Int.lt_irrefl _), cond_false, List.drop_length]
    rfl
  | succ d ih =>
    intro n i m hi hd hm
    obtain ⟨n, rfl⟩ : ∃ q, n = q + 1 := ⟨n - 1, by omega⟩
    have hlt : i < l.length := by omega
    have e1 : addI .i64 (i : Int) 1 = ((i + 1 : Nat) : Int) := add_id (by omega) (by omega)
    have e2 : addI .i64 (m : Int) 1 = ((m + 1 : Nat) : Int) := add_id (by omega) (by omega)
    have e3 : addI .i64 ht (i : Int) = ht + i := add_id (by omega) (by omega)
    have e4 : l.getD i (List.replicate 32 0 : List Int) = l[i] := by rw [List.getD_eq_getElem?_getD, List.getElem?_eq_getElem hlt]; rfl
    have hname := hn l[i] (List.getElem_mem hlt)
    have e5 : ht + ((i + 1 : Nat) : Int) = ht + i + 1 := by omega
    have z0 : (kd == 0) = false := beqf hkd
    have z1 : (kd != 0) = true := by simp [hkd]
    have hg := meet_gen k hk p (ht + i) l[i] hname bits ws ho hbl m hm
    rw [List.drop_eq_getElem_cons hlt]
    simp only [metN]
    have ih0 := ih n (i + 1) m (by omega) (by omega) hm
    rw [e5] at ih0
    unfold trailheadlaw18_PledgeDoes.l4.f at ih0 ⊢
    unfold trailheadlaw18_PledgeDoes.l4.go trailheadlaw18_PledgeDoes.l4.step
    simp only [e1, e2, e3, Int.toNat_natCast, e4, z0, z1]
    rw [dt (show (i : Int) < (l.length : Int) by omega), cond_true, dt (show (0 : Int) ≤ (i : Int) by omega), cond_true, cond_true, dt hlt, cond_true, rdue_eq, Option.bind_some, rbit_eq k _ _ hname hk, Option.bind_some, cond_false, cond_true]
    cases hdue : due p (ht + i)
    · have hw : wantB p (ht + i) bits m l[i] = true := by unfold wantB; rw [hdue]; rfl
      rw [hw, hdue] at hg
      rw [Bool.not_false, cond_true, hg, Option.bind_some]
      simp only [b3, Bool.not_true, cond_false, Bool.false_and]
      exact ih0
    · by_cases hmb : m < bits.length
      · have hwe : wantB p (ht + i) bits m l[i] = (bits.getD m false == bitB p.1 l[i]) := by unfold wantB; rw [hdue, dt hmb]; rfl
        rw [hwe, hdue] at hg
        rw [Bool.not_true, cond_false, dt (show (m : Int) < (bits.length : Int) by omega), cond_true, dt (show (0 : Int) ≤ (m : Int) by omega), cond_true, cond_true, dt hmb, cond_true, hg, Option.bind_some, hwe]
        simp only [b3, Bool.not_true, cond_false, cond_true, Bool.true_and]
        cases hb : (bits.getD m false == bitB p.1 l[i])
        · simp only [cond_false]
          exact ih0
        · simp only [cond_true]
          have ih1 := ih n (i + 1) (m + 1) (by omega) (by omega) (by omega)
          rw [e5] at ih1
          exact ih1
      · have hwe : wantB p (ht + i) bits m l[i] = false := by unfold wantB; rw [hdue, df hmb]; rfl
        rw [hwe, hdue] at hg
        rw [Bool.not_true, cond_false, df (show ¬ (m : Int) < (bits.length : Int) by omega), cond_false, hg, Option.bind_some, hwe]
        simp only [b3, Bool.not_true, cond_false, cond_true, Bool.and_false]
        exact ih0

theorem does_l2 (k : Nat) (hk : 20000 < k) (p : Plan) (l : List (Int × (Int × List (List Int)))) (hll : l.length ≤ 30) (hb : ∀ j (h : j < l.length), (l[j].2.2.length : Int) ≤ 10 ∧ -1099511627776 ≤ l[j].2.1 ∧ l[j].2.1 ≤ 1099511627776)
    (hn : ∀ c ∈ l, ∀ y ∈ c.2.2, name y) : ∀ (d n i m : Nat) (bits : List Bool) (ws : List Int), i + d = l.length → d < n → m ≤ bits.length → bits.length ≤ 10 * i → okB ws bits →
    ∃ (m' : Nat) (bits' : List Bool) (ws' : List Int), m' ≤ bits'.length ∧ bits'.length ≤ 1000 ∧ okB ws' bits' ∧
      trailheadlaw18_PledgeDoes.l2.f k (l.length : Int) l H8 K64 p n (m : Int) (i : Int) p ((bits.length : Int), (m : Int)) bits ws = some (.inl ((m' : Int), (l.length : Int), p, ((bits'.length : Int), (m' : Int)), bits', ws')) := by
  intro d
  induction d with
  | zero =>
    intro n i m bits ws hi hd hm hbl ho
    obtain ⟨n, rfl⟩ : ∃ q, n = q + 1 := ⟨n - 1, by omega⟩
    have : i = l.length := by omega
    subst this
    refine ⟨m, bits, ws, hm, by omega, ho, ?_⟩
    unfold trailheadlaw18_PledgeDoes.l2.f trailheadlaw18_PledgeDoes.l2.go trailheadlaw18_PledgeDoes.l2.step
    rw [df (Int.lt_irrefl _), cond_false]
  | succ d ih =>
    intro n i m bits ws hi hd hm hbl ho
    obtain ⟨n, rfl⟩ : ∃ q, n = q + 1 := ⟨n - 1, by omega⟩
    have hlt : i < l.length := by omega
    have e1 : addI .i64 (i : Int) 1 = ((i + 1 : Nat) : Int) := add_id (by omega) (by omega)
    have e4 : l.getD i dfl_6a0b32 = l[i] := by rw [List.getD_eq_getElem?_getD, List.getElem?_eq_getElem hlt]; rfl
    have hbi := hb i hlt
    have hni := hn l[i] (List.getElem_mem hlt)
    obtain ⟨kd, ht, ns, hce⟩ : ∃ kd ht ns, l[i] = (kd, (ht, ns)) := ⟨l[i].1, l[i].2.1, l[i].2.2, rfl⟩
    rw [hce] at hbi hni
    simp only at hbi hni
    have el (g m : Int) (ws : List Int) : pledge_Book_Left.f k p (g, m) ws = some (subI .i64 g m) := rfl
    have eg (g m : Int) (ws : List Int) : pledge_Book_Given.f k p (g, m) ws = some g := rfl
    have bn (x : Int) : (x != x) = false := by simp
    by_cases hkd : kd = 0
    · subst hkd
      have hgl := does_give k hk (l.length : Int) (i : Int) p ht (by omega) ns hni (by omega) l ws (m : Int) ((bits.length : Int), (m : Int)) ns.length k 0 0 bits (by omega) (by omega) (by omega) (by omega)
      simp only [List.drop_zero, show ((0 : Nat) : Int) = 0 from rfl, Int.add_zero, Nat.zero_add] at hgl
      obtain ⟨ws', hr, ho'⟩ := give3_eq k hk p ht (by omega) ns hni (by omega) (m : Int) bits ws ho (by omega)
      have hgb := gb_len p ns ht
      obtain ⟨m', bits', ws2, q1, q2, q3, q4⟩ := ih n (i + 1) m (bits ++ gb p ht ns) ws' (by omega) (by omega) (by simp; omega) (by simp; omega) ho'
      refine ⟨m', bits', ws2, q1, q2, q3, ?_⟩
      unfold trailheadlaw18_PledgeDoes.l2.f at q4 ⊢
      unfold trailheadlaw18_PledgeDoes.l2.go trailheadlaw18_PledgeDoes.l2.step
      simp only [e1, Int.toNat_natCast, e4, hce]
      rw [dt (show (i : Int) < (l.length : Int) by omega), cond_true, dt (show (0 : Int) ≤ (i : Int) by omega), cond_true, cond_true, dt hlt, cond_true, hgl, Option.bind_some]
      simp only [Sy.sel, hr, Option.bind_some, el, eg, bn, cond_false, beqt rfl, cond_true]
      exact q4
    · have hmt := does_meet k hk (l.length : Int) (i : Int) p kd ht hkd (by omega) ns hni (by omega) l bits ws ho (by omega) 0 ns.length k 0 m (by omega) (by omega) hm
      simp only [List.drop_zero, show ((0 : Nat) : Int) = 0 from rfl, Int.add_zero] at hmt
      have hle := metN_le p bits ns ht m hm
      generalize metN p bits ht ns m = m2 at hmt hle
      obtain ⟨m', bits', ws2, q1, q2, q3, q4⟩ := ih n (i + 1) m2 bits ws (by omega) (by omega) hle (by omega) ho
      refine ⟨m', bits', ws2, q1, q2, q3, ?_⟩
      unfold trailheadlaw18_PledgeDoes.l2.f at q4 ⊢
      unfold trailheadlaw18_PledgeDoes.l2.go trailheadlaw18_PledgeDoes.l2.step
      simp only [e1, Int.toNat_natCast, e4, hce]
      rw [dt (show (i : Int) < (l.length : Int) by omega), cond_true, dt (show (0 : Int) ≤ (i : Int) by omega), cond_true, cond_true, dt hlt, cond_true, hmt, Option.bind_some]
      simp only [Sy.sel, Option.bind_some, el, eg, bn, cond_false, beqf hkd]
      exact q4

theorem does_l6 (k : Nat) (y0 : List (Int × (Int × List (List Int)))) (y1 y2 : List Int) (bits : List Bool) (hl : bits.length ≤ 100000) : ∀ (d n i : Nat), i + d = bits.length → d < n →
    trailheadlaw18_PledgeDoes.l6.f k (bits.length : Int) y0 y1 y2 bits bits n (i : Int) = some (.inl (bits.length : Int)) := by
  intro d
  induction d with
  | zero =>
    intro n i hi hd
    obtain ⟨n, rfl⟩ : ∃ q, n = q + 1 := ⟨n - 1, by omega⟩
    have : i = bits.length := by omega
    subst this
    unfold trailheadlaw18_PledgeDoes.l6.f trailheadlaw18_PledgeDoes.l6.go trailheadlaw18_PledgeDoes.l6.step
    rw [df (Int.lt_irrefl _), cond_false]
  | succ d ih =>
    intro n i hi hd
    obtain ⟨n, rfl⟩ : ∃ q, n = q + 1 := ⟨n - 1, by omega⟩
    have hlt : i < bits.length := by omega
    have e1 : addI .i64 (i : Int) 1 = ((i + 1 : Nat) : Int) := add_id (by omega) (by omega)
    have ih' := ih n (i + 1) (by omega) (by omega)
    unfold trailheadlaw18_PledgeDoes.l6.f at ih' ⊢
    unfold trailheadlaw18_PledgeDoes.l6.go trailheadlaw18_PledgeDoes.l6.step
    simp only [e1, Int.toNat_natCast]
    rw [dt (show (i : Int) < (bits.length : Int) by omega), cond_true, df (show ¬ (i : Int) ≥ (bits.length : Int) by omega), cond_false, dt (show (0 : Int) ≤ (i : Int) by omega), cond_true, cond_true, dt hlt, cond_true, cond_true, cond_true, cond_true, b3, Bool.not_true, cond_false]
    exact ih'

theorem pledgeDoes_pure : PledgeDoesPure := by
  intro p _ l hg _
  refine ⟨30000, ?_⟩
  have hk : 20000 < 30000 := by omega
  generalize 30000 = k at hk
  have e0 : gv0 = H8 := rfl
  have e1 : gv1 = K64 := rfl
  rw [e0, e1]
  have hn : ∀ c ∈ l, ∀ y ∈ c.2.2, name y := fun c hc y hy => name_of ((hg c hc).2.2.1 y hy)
  unfold trailheadlaw18_PledgeDoes.f trailheadlaw18_PledgeDoes.tree
  rw [alive18 k hk, Option.bind_some, Bool.not_true, cond_false]
  by_cases g1 : (l.length : Int) > 30
  · rw [dt g1]; rfl
  rw [df g1, cond_false]
  rcases does_l0 k (l.length : Int) l H8 K64 p rfl (by omega) l.length k 0 (by omega) (by omega) with h0 | ⟨r, h0, hb⟩
  · rw [show ((0 : Nat) : Int) = 0 from rfl] at h0
    rw [h0]; rfl
  · rw [show ((0 : Nat) : Int) = 0 from rfl] at h0
    rw [h0, Option.bind_some]
    simp only [Sy.sel]
    rw [pnew_eq]
    by_cases hp : pP p
    · rw [if_pos hp, Option.bind_some]
      simp only [Sy.sel]
      obtain ⟨m', bits', ws', q1, q2, q3, q4⟩ := does_l2 k hk p l (by omega) (fun j h => hb j h (Nat.zero_le _)) hn l.length k 0 0 [] [] (by omega) (by omega) (Nat.le_refl _) (Nat.le_refl _) okB_nil
      simp only [List.length_nil, show ((0 : Nat) : Int) = 0 from rfl] at q4
      rw [q4, Option.bind_some]
      simp only
      rw [bits_eq k p (m' : Int) bits' ws' q3 (by omega) hk, Option.bind_some]
      have h6 := does_l6 k l H8 K64 bits' (by omega) bits'.length k 0 (by omega) (by omega)
      rw [show ((0 : Nat) : Int) = 0 from rfl] at h6
      rw [h6, Option.bind_some]
      simp only [beqt rfl, cond_true]
      rfl
    · rw [if_neg hp]; rfl

theorem pledgeDoes_said : Rows.PledgeDoesCardSaid := pledgeDoes_card pledgeDoes_pure

end Go.Proofs.YtnaenbijnpbhaaaDoor.Sy
