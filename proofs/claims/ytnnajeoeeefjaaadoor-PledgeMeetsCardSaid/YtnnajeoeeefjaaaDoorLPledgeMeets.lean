/- PledgeMeets: the statement on data, and the card. -/
import Derived.Test.YtnnajeoeeefjaaaDoorQ91
import Derived.Test.YtnnajeoeeefjaaaDoorRPledgeMeets
namespace Go.Proofs.YtnnajeoeeefjaaaDoor.Sy
open Go
set_option linter.unusedVariables false
set_option linter.unusedSimpArgs false

theorem meet_due (k : Nat) (hk : 20000 < k) (p : Plan) (h : Int) (id : List Int) (hn : name id) (bits : List Bool) (ws : List Int) (ho : okB ws bits) (hl : bits.length ≤ 10000) (m : Nat) (hm : m < bits.length) (hd : due p h = true) :
    pledge_Book_Meet.f k h id p ((bits.length : Int), (m : Int)) H8 K64 ws = some (bits.getD m false == bitB p.1 id, p, ((bits.length : Int), bif bits.getD m false == bitB p.1 id then ((m + 1 : Nat) : Int) else (m : Int))) := by
  unfold pledge_Book_Meet.f pledge_Book_Meet.tree
  have e1 : addI .i64 (m : Int) 1 = ((m + 1 : Nat) : Int) := add_id (by omega) (by omega)
  rw [due_eq, hd, Option.bind_some, Bool.not_true, cond_false, df (by omega), cond_false, at_eq k p _ ho m hm (by omega), Option.bind_some, bit_eq k p id hn hk, Option.bind_some, e1]
  cases hb : (bits.getD m false == bitB p.1 id) <;> rfl

theorem meet_free (k : Nat) (p : Plan) (h : Int) (id : List Int) (gm : Int × Int) (ws : List Int) (hd : due p h = false) :
    pledge_Book_Meet.f k h id p gm H8 K64 ws = some (true, p, gm) := by
  unfold pledge_Book_Meet.f pledge_Book_Meet.tree
  rw [due_eq, hd]
  rfl

theorem meets_l0 (k : Nat) (hk : 20000 < k) (p : Plan) (x1 x5 : Int) (hx : -9000000000000 ≤ x1 ∧ x1 ≤ 9000000000000) (l : List (List Int)) (hn : ∀ y ∈ l, name y) (hll : l.length ≤ 1000) (other : List Int) (hno : name other) (ws : List Int) (ho : okB ws (gb p x1 l)) : ∀ (d n i : Nat), i + d = l.length → d < n →
    trailheadlaw18_PledgeMeets.l0.f k x1 x5 (l.length : Int) l H8 K64 p other ws n (i : Int) p (((gb p x1 l).length : Int), ((gb p x1 (l.take i)).length : Int)) = some (.inl ((l.length : Int), p, (((gb p x1 l).length : Int), ((gb p x1 l).length : Int)))) := by
  intro d
  induction d with
  | zero =>
    intro n i hi hd
    obtain ⟨n, rfl⟩ : ∃ q, n = q + 1 := ⟨n - 1, by omega⟩
    have : i = l.length := by omega
    subst this
    unfold trailheadlaw18_PledgeMeets.l0.f trailheadlaw18_PledgeMeets.l0.go trailheadlaw18_PledgeMeets.l0.step
    rw [df (Int.lt_irrefl _), List.take_length]
    rfl
  | succ d ih =>
    intro n i hi hd
    obtain ⟨n, rfl⟩ : ∃ q, n = q + 1 := ⟨n - 1, by omega⟩
    have hlt : i < l.length := by omega
    have e1 : addI .i64 (i : Int) 1 = ((i + 1 : Nat) : Int) := add_id (by omega) (by omega)
    have e3 : addI .i64 x1 (i : Int) = x1 + i := add_id (by omega) (by omega)
    have e4 : l.getD i (List.replicate 32 0 : List Int) = l[i] := by rw [List.getD_eq_getElem?_getD, List.getElem?_eq_getElem hlt]; rfl
    have hname := hn l[i] (List.getElem_mem hlt)
    have ht : (l.take i).length = i := List.length_take_of_le (by omega)
    have hsplit : gb p x1 l = gb p x1 (l.take i) ++ ((bif due p (x1 + i) then [bitB p.1 l[i]] else []) ++ gb p (x1 + i + 1) (l.drop (i + 1))) := by
      have := gb_append p (l.take i) (l.drop i) x1
      rw [List.take_append_drop, ht, List.drop_eq_getElem_cons hlt, gb_cons] at this
      exact this
    have hnext : gb p x1 (l.take (i + 1)) = gb p x1 (l.take i) ++ (bif due p (x1 + i) then [bitB p.1 l[i]] else []) := by
      have := gb_append p (l.take i) [l[i]] x1
      rw [← List.take_succ_eq_append_getElem hlt, ht, gb_cons, show gb p (x1 + i + 1) [] = [] from rfl, List.append_nil] at this
      exact this
    have hlen := gb_len p l x1
    have ih' := ih n (i + 1) (by omega) (by omega)
    rw [hnext] at ih'
    unfold trailheadlaw18_PledgeMeets.l0.f at ih' ⊢
    unfold trailheadlaw18_PledgeMeets.l0.go trailheadlaw18_PledgeMeets.l0.step
    simp only [e1, e3, Int.toNat_natCast, e4]
    repeat rw [dt (by omega), cond_true]
    cases hdue : due p (x1 + i)
    · rw [hdue, cond_false, List.append_nil] at ih'
      have mf (id : List Int) := meet_free k p (x1 + i) id (((gb p x1 l).length : Int), ((gb p x1 (l.take i)).length : Int)) ws hdue
      cases h5 : ((i : Int) == x5)
      · rw [cond_false, mf, Option.bind_some]
        exact ih'
      · rw [cond_true, rdue_eq, hdue, Option.bind_some, cond_false, mf, Option.bind_some]
        exact ih'
    · rw [hdue, cond_true] at ih' hsplit
      have hm : (gb p x1 (l.take i)).length < (gb p x1 l).length := by
        have := congrArg List.length hsplit
        rw [List.length_append, List.length_append, List.length_singleton] at this
        omega
      have hat : (gb p x1 l).getD (gb p x1 (l.take i)).length false = bitB p.1 l[i] := by
        rw [hsplit, List.getD_eq_getElem?_getD, List.getElem?_append_right (by omega), Nat.sub_self]
        rfl
      rw [List.length_append, List.length_singleton] at ih'
      have b3 (x : Bool) : (x == x) = true := by cases x <;> rfl
      have md (id : List Int) (hid : name id) := meet_due k hk p (x1 + i) id hid (gb p x1 l) ws ho (by omega) _ hm hdue
      rw [hat] at md
      have m1 := md l[i] hname
      rw [b3, cond_true] at m1
      cases h5 : ((i : Int) == x5)
      · rw [cond_false, m1, Option.bind_some]
        exact ih'
      · rw [cond_true, rdue_eq, hdue, Option.bind_some, cond_true, rbit_eq k _ _ hno hk, Option.bind_some, rbit_eq k _ _ hname hk, Option.bind_some]
        cases hb : (bitB p.1 other == bitB p.1 l[i])
        · have m2 := md other hno
          have hb' : (bitB p.1 l[i] == bitB p.1 other) = false := by
            cases h1 : bitB p.1 l[i] <;> cases h2 : bitB p.1 other <;> rw [h1, h2] at hb <;> first | rfl | cases hb
          rw [hb', cond_false] at m2
          have el (g m : Int) : pledge_Book_Left.f k p (g, m) ws = some (subI .i64 g m) := rfl
          have b0 (x : Int) : (x != x) = false := by simp
          rw [Bool.not_false, cond_true, el, Option.bind_some, m2, Option.bind_some]
          simp only [cond_false]
          rw [el, Option.bind_some, b0, cond_false, m1, Option.bind_some]
          exact ih'
        · rw [Bool.not_true, cond_false, m1, Option.bind_some]
          exact ih'

theorem pledgeMeets_pure : PledgeMeetsPure := by
  intro p _ h _ l hl _ cut _ other hot at_ _
  refine ⟨30000, ?_⟩
  have hn : ∀ y ∈ l, name y := fun y hy => name_of (hl y hy)
  have hno : name other := name_of hot
  have hk : 20000 < 30000 := by omega
  generalize 30000 = k at hk
  have e0 : gv0 = H8 := rfl
  have e1 : gv1 = K64 := rfl
  rw [e0, e1]
  unfold trailheadlaw18_PledgeMeets.f trailheadlaw18_PledgeMeets.tree
  rw [alive18 k hk, Option.bind_some, Bool.not_true, cond_false]
  by_cases g1 : (l.length : Int) > 100
  · rw [dt g1]; rfl
  rw [df g1, cond_false]
  by_cases g2 : cut < 0
  · rw [dt g2]; rfl
  rw [df g2, cond_false]
  by_cases g3 : cut > (l.length : Int)
  · rw [dt g3]; rfl
  rw [df g3, cond_false]
  by_cases g4 : h < 0
  · rw [dt g4]; rfl
  rw [df g4, cond_false]
  by_cases g5 : h > 1099511627776
  · rw [dt g5]; rfl
  rw [df g5, cond_false, pnew_eq]
  by_cases hp : pP p
  · rw [if_pos hp, Option.bind_some]
    simp only [Sy.sel]
    have ec : ((cut.toNat : Nat) : Int) = cut := by omega
    have ht : (l.take cut.toNat).length = cut.toNat := List.length_take_of_le (by omega)
    have hd : (l.drop cut.toNat).length = l.length - cut.toNat := List.length_drop
    obtain ⟨w2, r2, o2⟩ := give2_eq k hk p h (by omega) (l.take cut.toNat) (fun y hy => hn y (List.mem_of_mem_take hy)) (by omega) 0
    have ga : addI .i64 h cut = h + cut := add_id (by omega) (by omega)
    have hl2 := gb_len p (l.take cut.toNat) h
    obtain ⟨w3, r3, o3⟩ := give3_eq k hk p (h + cut) (by omega) (l.drop cut.toNat) (fun y hy => hn y (List.mem_of_mem_drop hy)) (by omega) 0 (gb p h (l.take cut.toNat)) w2 o2 (by omega)
    have hall : gb p h (l.take cut.toNat) ++ gb p (h + cut) (l.drop cut.toNat) = gb p h l := by
      have := gb_append p (l.take cut.toNat) (l.drop cut.toNat) h
      rw [List.take_append_drop, ht, ec] at this
      exact this.symm
    rw [hall] at r3 o3
    have hspan := gb_span p hp l h (by omega)
    have hlen := gb_len p l h
    have c1 : decide (0 ≤ cut) = true := dt (by omega)
    have c2 : decide (cut ≤ (l.length : Int)) = true := dt (by omega)
    have c3 : decide (p.2.1 = 0) = false := df (by have := hp.1; omega)
    simp only [c1, c2, c3, cond_true, cond_false, ga, r2, r3, Option.bind_some]
    have hl0 := meets_l0 k hk p h at_ (by omega) l hn (by omega) other hno w3 o3 l.length k 0 (by omega) (by omega)
    rw [show ((0 : Nat) : Int) = 0 from rfl, List.take_zero, show ((gb p h []).length : Int) = 0 from rfl] at hl0
    rw [hl0, Option.bind_some]
    have hq0 : (l.length : Int) / p.2.1 ≤ (l.length : Int) := Int.ediv_le_self _ (by omega)
    have hq1 : 0 ≤ (l.length : Int) / p.2.1 := Int.ediv_nonneg (by omega) (by have := hp.1; omega)
    have eq : quoI .i64 (l.length : Int) p.2.1 = (l.length : Int) / p.2.1 := by
      unfold quoI; rw [Int.tdiv_eq_ediv_of_nonneg (by omega), i64_id (by omega) (by omega)]
    have e1' : addI .i64 ((l.length : Int) / p.2.1) 1 = (l.length : Int) / p.2.1 + 1 := add_id (by omega) (by omega)
    have el : pledge_Book_Left.f k p (((gb p h l).length : Int), ((gb p h l).length : Int)) w3 = some (0 : Int) := by
      show some (subI .i64 ((gb p h l).length : Int) ((gb p h l).length : Int)) = _
      rw [sub_id (by omega) (by omega), Int.sub_self]
    have eg : pledge_Book_Given.f k p (((gb p h l).length : Int), ((gb p h l).length : Int)) w3 = some ((gb p h l).length : Int) := rfl
    simp only [el, Option.bind_some, beqt rfl, cond_true, eg]
    rw [eq, e1', dt (by omega)]
  · rw [if_neg hp]; rfl

theorem pledgeMeets_said : Rows.PledgeMeetsCardSaid := pledgeMeets_card pledgeMeets_pure

end Go.Proofs.YtnnajeoeeefjaaaDoor.Sy
