/- Pledges: books. -/
import Derived.Test.YtnnajeoeeefjaaaDoorQ90
namespace Go.Proofs.YtnnajeoeeefjaaaDoor.Sy
open Go
set_option linter.unusedVariables false
set_option linter.unusedSimpArgs false

theorem give2_l0 (k : Nat) (hk : 20000 < k) (p : Plan) (x1 : Int) (hx : -9000000000000 ≤ x1 ∧ x1 ≤ 9000000000000) (l : List (List Int)) (hn : ∀ y ∈ l, name y) (hll : l.length ≤ 100000) (met : Int) : ∀ (d n i : Nat) (c : Int) (bits : List Bool) (ws : List Int), i + d = l.length → d < n → okB ws bits → bits.length + d ≤ 1000000 → 0 ≤ c → c + d ≤ 10000000 →
    ∃ ws', pledge_Book_Give_v2.l0.f k x1 (l.length : Int) p l H8 K64 n c (i : Int) ((bits.length : Int), met) ws = some (c + ((gb p (x1 + i) (l.drop i)).length : Int), (l.length : Int), (((bits ++ gb p (x1 + i) (l.drop i)).length : Int), met), ws') ∧ okB ws' (bits ++ gb p (x1 + i) (l.drop i)) := by
  intro d
  induction d with
  | zero =>
    intro n i c bits ws hi hd ho hb hc hc'
    obtain ⟨n, rfl⟩ : ∃ q, n = q + 1 := ⟨n - 1, by omega⟩
    have : i = l.length := by omega
    subst this
    rw [List.drop_length]
    unfold gb
    refine ⟨ws, ?_, by rw [List.append_nil]; exact ho⟩
    unfold pledge_Book_Give_v2.l0.f pledge_Book_Give_v2.l0.go pledge_Book_Give_v2.l0.step
    rw [df (Int.lt_irrefl _), List.append_nil]
    simp
  | succ d ih =>
    intro n i c bits ws hi hd ho hb hc hc'
    obtain ⟨n, rfl⟩ : ∃ q, n = q + 1 := ⟨n - 1, by omega⟩
    have hlt : i < l.length := by omega
    have e1 : addI .i64 (i : Int) 1 = ((i + 1 : Nat) : Int) := add_id (by omega) (by omega)
    have e3 : addI .i64 x1 (i : Int) = x1 + i := add_id (by omega) (by omega)
    have e4 : l.getD i (List.replicate 32 0 : List Int) = l[i] := by rw [List.getD_eq_getElem?_getD, List.getElem?_eq_getElem hlt]; rfl
    have eg : gb p (x1 + i) (l.drop i) = (bif due p (x1 + i) then [bitB p.1 l[i]] else []) ++ gb p (x1 + ((i + 1 : Nat) : Int)) (l.drop (i + 1)) := by
      rw [List.drop_eq_getElem_cons hlt, gb]
      congr 2
      omega
    have hname := hn l[i] (List.getElem_mem hlt)
    rw [eg]
    unfold pledge_Book_Give_v2.l0.f at ih ⊢
    unfold pledge_Book_Give_v2.l0.go pledge_Book_Give_v2.l0.step
    simp only [e1, e3, Int.toNat_natCast, e4]
    rw [dt (by omega), cond_true, dt (by omega), cond_true]
    repeat rw [dt (by omega), cond_true]
    rw [due_eq, Option.bind_some]
    cases hdue : due p (x1 + i)
    · rw [Bool.not_false, cond_true, cond_false, List.nil_append]
      exact ih n (i + 1) c bits ws (by omega) (by omega) ho (by omega) hc (by omega)
    · rw [Bool.not_true, cond_false, cond_true]
      obtain ⟨ws', hr, hok⟩ := ih n (i + 1) (c + 1) (bits ++ [bitB p.1 l[i]]) (given1 ws bits.length (bitB p.1 l[i])) (by omega) (by omega) (given1_ok ho _) (by rw [List.length_append, List.length_singleton]; omega) (by omega) (by omega)
      have ea : bits ++ [bitB p.1 l[i]] ++ gb p (x1 + ((i + 1 : Nat) : Int)) (l.drop (i + 1)) = bits ++ ([bitB p.1 l[i]] ++ gb p (x1 + ((i + 1 : Nat) : Int)) (l.drop (i + 1))) := List.append_assoc _ _ _
      have el : c + 1 + ((gb p (x1 + ((i + 1 : Nat) : Int)) (l.drop (i + 1))).length : Int) = c + ((([bitB p.1 l[i]] ++ gb p (x1 + ((i + 1 : Nat) : Int)) (l.drop (i + 1))).length : Nat) : Int) := by
        rw [List.length_append, List.length_singleton]; omega
      rw [ea, el] at hr
      rw [ea] at hok
      refine ⟨ws', ?_, hok⟩
      have hlen : ((bits ++ [bitB p.1 l[i]]).length : Int) = (bits.length : Int) + 1 := by rw [List.length_append, List.length_singleton]; omega
      rw [hlen] at hr
      have ex7 : addI .i64 c 1 = c + 1 := add_id (by omega) (by omega)
      have exg : addI .i64 (bits.length : Int) 1 = (bits.length : Int) + 1 := add_id (by omega) (by omega)
      have eq1 : quoI .i64 (bits.length : Int) 64 = ((bits.length / 64 : Nat) : Int) := by
        unfold quoI; rw [Int.tdiv_eq_ediv_of_nonneg (by omega), i64_id (by omega) (by omega)]; omega
      have eq2 : remI (bits.length : Int) 64 = ((bits.length % 64 : Nat) : Int) := by rw [rem_pos _ _ (by omega)]; omega
      have hgl := grown_len ho
      have hgw := getD_w (grown_w ho) (bits.length / 64)
      simp only [ex7, exg, eq1, eq2, Int.toNat_natCast]
      have h1 := ho.1
      by_cases h0 : bits.length % 64 = 0
      · have eg0 : grown ws bits.length = ws ++ [0] := if_pos h0
        rw [beqt (by omega : ((bits.length % 64 : Nat) : Int) = 0), cond_true, fits_ok (by omega), cond_true, bit_eq k p _ hname hk, Option.bind_some]
        rw [eg0] at hgl hgw
        unfold given1 at hr
        rw [eg0] at hr
        cases hb : bitB p.1 l[i]
        · rw [hb] at hr
          exact hr
        · rw [hb, cond_true] at hr
          rw [cond_true, ← or_bit _ _ hgw.1 hgw.2 (by omega)] at *
          repeat rw [dt (by omega), cond_true]
          rw [df (by omega), cond_false]
          repeat rw [dt (by omega), cond_true]
          exact hr
      · have eg0 : grown ws bits.length = ws := if_neg h0
        rw [beqf (by omega : ((bits.length % 64 : Nat) : Int) ≠ 0), cond_false, bit_eq k p _ hname hk, Option.bind_some]
        rw [eg0] at hgl hgw
        unfold given1 at hr
        rw [eg0] at hr
        cases hb : bitB p.1 l[i]
        · rw [hb] at hr
          exact hr
        · rw [hb, cond_true] at hr
          rw [cond_true, ← or_bit _ _ hgw.1 hgw.2 (by omega)] at *
          repeat rw [dt (by omega), cond_true]
          rw [df (by omega), cond_false]
          repeat rw [dt (by omega), cond_true]
          exact hr

theorem give3_l0 (k : Nat) (hk : 20000 < k) (p : Plan) (x1 : Int) (hx : -9000000000000 ≤ x1 ∧ x1 ≤ 9000000000000) (l : List (List Int)) (hn : ∀ y ∈ l, name y) (hll : l.length ≤ 100000) (met : Int) : ∀ (d n i : Nat) (c : Int) (bits : List Bool) (ws : List Int), i + d = l.length → d < n → okB ws bits → bits.length + d ≤ 1000000 → 0 ≤ c → c + d ≤ 10000000 →
    ∃ ws', pledge_Book_Give_v3.l0.f k x1 (l.length : Int) p l H8 K64 n c (i : Int) ((bits.length : Int), met) ws = some (c + ((gb p (x1 + i) (l.drop i)).length : Int), (l.length : Int), (((bits ++ gb p (x1 + i) (l.drop i)).length : Int), met), ws') ∧ okB ws' (bits ++ gb p (x1 + i) (l.drop i)) := by
  intro d
  induction d with
  | zero =>
    intro n i c bits ws hi hd ho hb hc hc'
    obtain ⟨n, rfl⟩ : ∃ q, n = q + 1 := ⟨n - 1, by omega⟩
    have : i = l.length := by omega
    subst this
    rw [List.drop_length]
    unfold gb
    refine ⟨ws, ?_, by rw [List.append_nil]; exact ho⟩
    unfold pledge_Book_Give_v3.l0.f pledge_Book_Give_v3.l0.go pledge_Book_Give_v3.l0.step
    rw [df (Int.lt_irrefl _), List.append_nil]
    simp
  | succ d ih =>
    intro n i c bits ws hi hd ho hb hc hc'
    obtain ⟨n, rfl⟩ : ∃ q, n = q + 1 := ⟨n - 1, by omega⟩
    have hlt : i < l.length := by omega
    have e1 : addI .i64 (i : Int) 1 = ((i + 1 : Nat) : Int) := add_id (by omega) (by omega)
    have e3 : addI .i64 x1 (i : Int) = x1 + i := add_id (by omega) (by omega)
    have e4 : l.getD i (List.replicate 32 0 : List Int) = l[i] := by rw [List.getD_eq_getElem?_getD, List.getElem?_eq_getElem hlt]; rfl
    have eg : gb p (x1 + i) (l.drop i) = (bif due p (x1 + i) then [bitB p.1 l[i]] else []) ++ gb p (x1 + ((i + 1 : Nat) : Int)) (l.drop (i + 1)) := by
      rw [List.drop_eq_getElem_cons hlt, gb]
      congr 2
      omega
    have hname := hn l[i] (List.getElem_mem hlt)
    rw [eg]
    unfold pledge_Book_Give_v3.l0.f at ih ⊢
    unfold pledge_Book_Give_v3.l0.go pledge_Book_Give_v3.l0.step
    simp only [e1, e3, Int.toNat_natCast, e4]
    rw [dt (by omega), cond_true, dt (by omega), cond_true]
    repeat rw [dt (by omega), cond_true]
    rw [due_eq, Option.bind_some]
    cases hdue : due p (x1 + i)
    · rw [Bool.not_false, cond_true, cond_false, List.nil_append]
      exact ih n (i + 1) c bits ws (by omega) (by omega) ho (by omega) hc (by omega)
    · rw [Bool.not_true, cond_false, cond_true]
      obtain ⟨ws', hr, hok⟩ := ih n (i + 1) (c + 1) (bits ++ [bitB p.1 l[i]]) (given1 ws bits.length (bitB p.1 l[i])) (by omega) (by omega) (given1_ok ho _) (by rw [List.length_append, List.length_singleton]; omega) (by omega) (by omega)
      have ea : bits ++ [bitB p.1 l[i]] ++ gb p (x1 + ((i + 1 : Nat) : Int)) (l.drop (i + 1)) = bits ++ ([bitB p.1 l[i]] ++ gb p (x1 + ((i + 1 : Nat) : Int)) (l.drop (i + 1))) := List.append_assoc _ _ _
      have el : c + 1 + ((gb p (x1 + ((i + 1 : Nat) : Int)) (l.drop (i + 1))).length : Int) = c + ((([bitB p.1 l[i]] ++ gb p (x1 + ((i + 1 : Nat) : Int)) (l.drop (i + 1))).length : Nat) : Int) := by
        rw [List.length_append, List.length_singleton]; omega
      rw [ea, el] at hr
      rw [ea] at hok
      refine ⟨ws', ?_, hok⟩
      have hlen : ((bits ++ [bitB p.1 l[i]]).length : Int) = (bits.length : Int) + 1 := by rw [List.length_append, List.length_singleton]; omega
      rw [hlen] at hr
      have ex7 : addI .i64 c 1 = c + 1 := add_id (by omega) (by omega)
      have exg : addI .i64 (bits.length : Int) 1 = (bits.length : Int) + 1 := add_id (by omega) (by omega)
      have eq1 : quoI .i64 (bits.length : Int) 64 = ((bits.length / 64 : Nat) : Int) := by
        unfold quoI; rw [Int.tdiv_eq_ediv_of_nonneg (by omega), i64_id (by omega) (by omega)]; omega
      have eq2 : remI (bits.length : Int) 64 = ((bits.length % 64 : Nat) : Int) := by rw [rem_pos _ _ (by omega)]; omega
      have hgl := grown_len ho
      have hgw := getD_w (grown_w ho) (bits.length / 64)
      simp only [ex7, exg, eq1, eq2, Int.toNat_natCast]
      have h1 := ho.1
      by_cases h0 : bits.length % 64 = 0
      · have eg0 : grown ws bits.length = ws ++ [0] := if_pos h0
        rw [beqt (by omega : ((bits.length % 64 : Nat) : Int) = 0), cond_true, fits_ok (by omega), cond_true, bit_eq k p _ hname hk, Option.bind_some]
        rw [eg0] at hgl hgw
        unfold given1 at hr
        rw [eg0] at hr
        cases hb : bitB p.1 l[i]
        · rw [hb] at hr
          exact hr
        · rw [hb, cond_true] at hr
          rw [cond_true, ← or_bit _ _ hgw.1 hgw.2 (by omega)] at *
          repeat rw [dt (by omega), cond_true]
          rw [df (by omega), cond_false]
          repeat rw [dt (by omega), cond_true]
          exact hr
      · have eg0 : grown ws bits.length = ws := if_neg h0
        rw [beqf (by omega : ((bits.length % 64 : Nat) : Int) ≠ 0), cond_false, bit_eq k p _ hname hk, Option.bind_some]
        rw [eg0] at hgl hgw
        unfold given1 at hr
        rw [eg0] at hr
        cases hb : bitB p.1 l[i]
        · rw [hb] at hr
          exact hr
        · rw [hb, cond_true] at hr
          rw [cond_true, ← or_bit _ _ hgw.1 hgw.2 (by omega)] at *
          repeat rw [dt (by omega), cond_true]
          rw [df (by omega), cond_false]
          repeat rw [dt (by omega), cond_true]
          exact hr

theorem give_eq (k : Nat) (hk : 20000 < k) (p : Plan) (x1 : Int) (hx : -9000000000000 ≤ x1 ∧ x1 ≤ 9000000000000) (l : List (List Int)) (hn : ∀ y ∈ l, name y) (hl : l.length ≤ 10000) (met : Int) :
    ∃ ws, pledge_Book_Give.f k x1 p (0, met) l H8 K64 = some (((gb p x1 l).length : Int), p, (((gb p x1 l).length : Int), met), ws) ∧ okB ws (gb p x1 l) := by
  obtain ⟨ws, hr, ho⟩ := give_l0 k hk p x1 hx l hn (by omega) met l.length k 0 0 [] [] (by omega) (by omega) okB_nil (by simp; omega) (by omega) (by omega)
  simp only [List.length_nil, List.nil_append, List.drop_zero, show ((0 : Nat) : Int) = 0 from rfl, Int.add_zero, Int.zero_add] at hr ho
  refine ⟨ws, ?_, ho⟩
  unfold pledge_Book_Give.f pledge_Book_Give.tree
  simp only [hr, Option.bind_some]

theorem give2_eq (k : Nat) (hk : 20000 < k) (p : Plan) (x1 : Int) (hx : -9000000000000 ≤ x1 ∧ x1 ≤ 9000000000000) (l : List (List Int)) (hn : ∀ y ∈ l, name y) (hl : l.length ≤ 10000) (met : Int) :
    ∃ ws, pledge_Book_Give_v2.f k x1 p (0, met) l H8 K64 = some (((gb p x1 l).length : Int), p, (((gb p x1 l).length : Int), met), ws) ∧ okB ws (gb p x1 l) := by
  obtain ⟨ws, hr, ho⟩ := give2_l0 k hk p x1 hx l hn (by omega) met l.length k 0 0 [] [] (by omega) (by omega) okB_nil (by simp; omega) (by omega) (by omega)
  simp only [List.length_nil, List.nil_append, List.drop_zero, show ((0 : Nat) : Int) = 0 from rfl, Int.add_zero, Int.zero_add] at hr ho
  refine ⟨ws, ?_, ho⟩
  unfold pledge_Book_Give_v2.f pledge_Book_Give_v2.tree
  simp only [hr, Option.bind_some]

theorem give3_eq (k : Nat) (hk : 20000 < k) (p : Plan) (x1 : Int) (hx : -9000000000000 ≤ x1 ∧ x1 ≤ 9000000000000) (l : List (List Int)) (hn : ∀ y ∈ l, name y) (hl : l.length ≤ 10000) (met : Int) (bits : List Bool) (ws : List Int) (ho : okB ws bits) (hb : bits.length ≤ 10000) :
    ∃ ws', pledge_Book_Give_v3.f k x1 p ((bits.length : Int), met) l H8 K64 ws = some (((gb p x1 l).length : Int), p, (((bits ++ gb p x1 l).length : Int), met), ws') ∧ okB ws' (bits ++ gb p x1 l) := by
  obtain ⟨ws', hr, ho'⟩ := give3_l0 k hk p x1 hx l hn (by omega) met l.length k 0 0 bits ws (by omega) (by omega) ho (by omega) (by omega) (by omega)
  simp only [List.drop_zero, show ((0 : Nat) : Int) = 0 from rfl, Int.add_zero, Int.zero_add] at hr ho'
  refine ⟨ws', ?_, ho'⟩
  unfold pledge_Book_Give_v3.f pledge_Book_Give_v3.tree
  simp only [hr, Option.bind_some]

theorem alive18 (k : Nat) (hk : 20000 < k) : trailheadlaw18_alive.f k H8 K64 = some true := by
  unfold trailheadlaw18_alive.f trailheadlaw18_alive.tree
  have hz : name [0, 0, 0, 0, 0, 0, 0, 0, 0, 0, 0, 0, 0, 0, 0, 0, 0, 0, 0, 0, 0, 0, 0, 0, 0, 0, 0, 0, 0, 0, 0, 0] := ⟨rfl, by intro y hy; have : y = 0 := by simpa using hy
                                                                                                                              omega⟩
  have hp : pP ((0, (4, 1)) : Plan) := by decide
  obtain ⟨ws, hr, ho⟩ := give_eq k hk (0, (4, 1)) 0 (by omega) [[0, 0, 0, 0, 0, 0, 0, 0, 0, 0, 0, 0, 0, 0, 0, 0, 0, 0, 0, 0, 0, 0, 0, 0, 0, 0, 0, 0, 0, 0, 0, 0], [0, 0, 0, 0, 0, 0, 0, 0, 0, 0, 0, 0, 0, 0, 0, 0, 0, 0, 0, 0, 0, 0, 0, 0, 0, 0, 0, 0, 0, 0, 0, 0]] (by intro y hy; simp at hy; rw [hy]; exact hz) (by simp) 0
  have hg : (gb (0, (4, 1)) 0 [[0, 0, 0, 0, 0, 0, 0, 0, 0, 0, 0, 0, 0, 0, 0, 0, 0, 0, 0, 0, 0, 0, 0, 0, 0, 0, 0, 0, 0, 0, 0, 0], [0, 0, 0, 0, 0, 0, 0, 0, 0, 0, 0, 0, 0, 0, 0, 0, 0, 0, 0, 0, 0, 0, 0, 0, 0, 0, 0, 0, 0, 0, 0, 0]]).length = 1 := by
    have d0 : due (0, (4, 1)) 0 = false := by decide
    have d1 : due (0, (4, 1)) (0 + 1) = true := by decide
    rw [gb_cons, gb_cons, d0, d1]
    rfl
  rw [hg] at hr
  rw [pnew_eq, if_pos hp, Option.bind_some]
  simp only [Sy.sel]
  rw [hr]
  rfl

theorem bits_l0 (k : Nat) (p : Plan) (gm : Int × Int) (bits : List Bool) (ws : List Int) (ho : okB ws bits) (hb : bits.length ≤ 100000) : ∀ (d n i : Nat), i + d = bits.length → d < n →
    pledge_Book_Bits_v1.l0.f k (bits.length : Int) p gm ws n (i : Int) (bits.take i) = some ((bits.length : Int), bits) := by
  intro d
  induction d with
  | zero =>
    intro n i hi hn
    obtain ⟨n, rfl⟩ : ∃ q, n = q + 1 := ⟨n - 1, by omega⟩
    have : i = bits.length := by omega
    subst this
    unfold pledge_Book_Bits_v1.l0.f pledge_Book_Bits_v1.l0.go pledge_Book_Bits_v1.l0.step
    rw [df (Int.lt_irrefl _), List.take_length]
    rfl
  | succ d ih =>
    intro n i hi hn
    obtain ⟨n, rfl⟩ : ∃ q, n = q + 1 := ⟨n - 1, by omega⟩
    have hlt : i < bits.length := by omega
    have e1 : addI .i64 (i : Int) 1 = ((i + 1 : Nat) : Int) := add_id (by omega) (by omega)
    have ih' := ih n (i + 1) (by omega) (by omega)
    have e2 : bits.take (i + 1) = bits.take i ++ [bits.getD i false] := by
      rw [List.take_succ_eq_append_getElem hlt, List.getD_eq_getElem?_getD, List.getElem?_eq_getElem hlt]; rfl
    rw [e2] at ih'
    unfold pledge_Book_Bits_v1.l0.f at ih' ⊢
    unfold pledge_Book_Bits_v1.l0.go pledge_Book_Bits_v1.l0.step
    rw [dt (by omega), cond_true, at_eq k p gm ho i hlt (by omega), Option.bind_some, e1, fits_ok (by rw [List.length_take]; omega), cond_true]
    exact ih'

theorem bits_eq (k : Nat) (p : Plan) (m : Int) (bits : List Bool) (ws : List Int) (ho : okB ws bits) (hb : bits.length ≤ 10000) (hk : 20000 < k) : pledge_Book_Bits_v1.f k p ((bits.length : Int), m) ws = some bits := by
  unfold pledge_Book_Bits_v1.f pledge_Book_Bits_v1.tree
  have := bits_l0 k p ((bits.length : Int), m) bits ws ho (by omega) bits.length k 0 (by omega) (by omega)
  rw [show ((0 : Nat) : Int) = 0 from rfl, List.take_zero] at this
  simp only [this, Option.bind_some]

/-! ### How many -/

theorem div_of {P a r : Int} (h0 : 0 ≤ r) (h : r < P) : (P * a + r) / P = a := by
  rw [Int.add_comm, Int.add_mul_ediv_left _ _ (by omega), Int.ediv_eq_zero_of_lt h0 h, Int.zero_add]

theorem div_two {P a r : Int} (h0 : 0 ≤ r) (h : r < 2 * P) : (P * a + r) / P = if r < P then a else a + 1 := by
  split
  · rename_i h1; exact div_of h0 h1
  · have e : P * a + r = P * (a + 1) + (r - P) := by rw [Int.mul_add, Int.mul_one]; omega
    rw [e]; exact div_of (by omega) (by omega)

/-- The due heights ahead of one. -/
def cN (p : Plan) (x : Int) : Int := (x - p.2.2 + (p.2.1 - 1)) / p.2.1

theorem cN_succ (p : Plan) (hp : pP p) (h : Int) (h0 : 0 ≤ h) : cN p (h + 1) = cN p h + (bif due p h then 1 else 0) := by
  obtain ⟨h1, h2, h3, h4⟩ := hp
  unfold cN due
  have eh := Int.mul_ediv_add_emod h p.2.1
  have r0 := Int.emod_nonneg h (show p.2.1 ≠ 0 by omega)
  have r1 := Int.emod_lt_of_pos h (show 0 < p.2.1 by omega)
  generalize h / p.2.1 = q at eh
  generalize h % p.2.1 = r at eh r0 r1
  have ea : h - p.2.2 + (p.2.1 - 1) = p.2.1 * q + (r - p.2.2 + (p.2.1 - 1)) := by omega
  have eb : h + 1 - p.2.2 + (p.2.1 - 1) = p.2.1 * q + (r - p.2.2 + p.2.1) := by omega
  rw [ea, eb, div_two (by omega) (by omega), div_two (by omega) (by omega)]
  by_cases e : r = p.2.2
  · rw [dt ⟨⟨h1, h2, h3, h4⟩, h0, e⟩, if_neg (by omega), if_pos (by omega)]
    rfl
  · rw [df (fun x : pP p ∧ 0 ≤ h ∧ r = p.2.2 => e x.2.2)]
    by_cases hlt : r < p.2.2
    · rw [if_pos (by omega), if_pos (by omega)]; simp
    · rw [if_neg (by omega), if_neg (by omega)]; simp

theorem gb_count (p : Plan) (hp : pP p) : ∀ (l : List (List Int)) (h : Int), 0 ≤ h → ((gb p h l).length : Int) = cN p (h + l.length) - cN p h
  | [], h, _ => by simp [gb]
  | x :: r, h, h0 => by
    have ih := gb_count p hp r (h + 1) (by omega)
    have hs := cN_succ p hp h h0
    have e : h + ((x :: r).length : Int) = h + 1 + (r.length : Int) := by rw [List.length_cons]; omega
    rw [gb_cons, List.length_append, e]
    cases hd : due p h
    · rw [hd, cond_false] at hs
      rw [cond_false, List.length_nil]; omega
    · rw [hd, cond_true] at hs
      rw [cond_true, List.length_singleton]; omega

theorem gb_span (p : Plan) (hp : pP p) (l : List (List Int)) (h : Int) (h0 : 0 ≤ h) : (l.length : Int) / p.2.1 ≤ ((gb p h l).length : Int) ∧ ((gb p h l).length : Int) ≤ (l.length : Int) / p.2.1 + 1 := by
  rw [gb_count p hp l h h0]
  have hp' := hp
  obtain ⟨h1, h2, h3, h4⟩ := hp
  unfold cN
  have eA := Int.mul_ediv_add_emod (h - p.2.2 + (p.2.1 - 1)) p.2.1
  have a0 := Int.emod_nonneg (h - p.2.2 + (p.2.1 - 1)) (show p.2.1 ≠ 0 by omega)
  have a1 := Int.emod_lt_of_pos (h - p.2.2 + (p.2.1 - 1)) (show 0 < p.2.1 by omega)
  have eL := Int.mul_ediv_add_emod (l.length : Int) p.2.1
  have l0 := Int.emod_nonneg (l.length : Int) (show p.2.1 ≠ 0 by omega)
  have l1 := Int.emod_lt_of_pos (l.length : Int) (show 0 < p.2.1 by omega)
  generalize (h - p.2.2 + (p.2.1 - 1)) / p.2.1 = a at eA
  generalize (h - p.2.2 + (p.2.1 - 1)) % p.2.1 = r at eA a0 a1
  generalize (l.length : Int) / p.2.1 = b at eL
  generalize (l.length : Int) % p.2.1 = s at eL l0 l1
  have e : h + (l.length : Int) - p.2.2 + (p.2.1 - 1) = p.2.1 * (a + b) + (r + s) := by rw [Int.mul_add]; omega
  rw [e, div_two (by omega) (by omega)]
  split <;> omega

end Go.Proofs.YtnnajeoeeefjaaaDoor.Sy
