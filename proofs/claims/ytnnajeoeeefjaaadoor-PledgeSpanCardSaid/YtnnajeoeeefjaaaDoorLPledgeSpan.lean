/- PledgeSpan: the statement on data, and the card. -/
import Derived.Test.YtnnajeoeeefjaaaDoorQ91
import Derived.Test.YtnnajeoeeefjaaaDoorRPledgeSpan
namespace Go.Proofs.YtnnajeoeeefjaaaDoor.Sy
open Go
set_option linter.unusedVariables false
set_option linter.unusedSimpArgs false

theorem span_l0 (k : Nat) (y0 : List (List Int)) (y1 y2 : List Int) (b : List Bool) (hb : b.length ≤ 100000) : ∀ (d n i : Nat), i + d = b.length → d < n →
    trailheadlaw18_PledgeSpan.l0.f k (b.length : Int) y0 y1 y2 b b n (i : Int) = some (.inl (b.length : Int)) := by
  intro d
  induction d with
  | zero =>
    intro n i hi hn
    obtain ⟨n, rfl⟩ : ∃ q, n = q + 1 := ⟨n - 1, by omega⟩
    have : i = b.length := by omega
    subst this
    unfold trailheadlaw18_PledgeSpan.l0.f trailheadlaw18_PledgeSpan.l0.go trailheadlaw18_PledgeSpan.l0.step
    rw [df (Int.lt_irrefl _)]
    rfl
  | succ d ih =>
    intro n i hi hn
    obtain ⟨n, rfl⟩ : ∃ q, n = q + 1 := ⟨n - 1, by omega⟩
    have e1 : addI .i64 (i : Int) 1 = ((i + 1 : Nat) : Int) := add_id (by omega) (by omega)
    have ih' := ih n (i + 1) (by omega) (by omega)
    unfold trailheadlaw18_PledgeSpan.l0.f at ih' ⊢
    unfold trailheadlaw18_PledgeSpan.l0.go trailheadlaw18_PledgeSpan.l0.step
    have b3 (x : Bool) : (x == x) = true := by cases x <;> rfl
    simp only [e1, Int.toNat_natCast, b3, Bool.not_true]
    repeat rw [dt (by omega), cond_true]
    exact ih'

theorem pledgeSpan_pure : PledgeSpanPure := by
  intro p _ h _ l hl _ cut _
  refine ⟨30000, ?_⟩
  have hn : ∀ y ∈ l, name y := fun y hy => name_of (hl y hy)
  have hk : 20000 < 30000 := by omega
  generalize 30000 = k at hk
  have e0 : gv0 = H8 := rfl
  have e1 : gv1 = K64 := rfl
  rw [e0, e1]
  unfold trailheadlaw18_PledgeSpan.f trailheadlaw18_PledgeSpan.tree
  rw [alive18 k hk, Option.bind_some, Bool.not_true, cond_false]
  by_cases g1 : (l.length : Int) > 100
  · rw [dt g1]; rfl
  rw [df g1, cond_false]
  by_cases g2 : cut < 0
  · rw [dt g2]; rfl
  rw [df g2, cond_false]
  by_cases g3 : cut > (l.length : Int)
  · rw [dt g3]; rfl
  rw [df g3, cond_false]
  by_cases g4 : h < 0
  · rw [dt g4]; rfl
  rw [df g4, cond_false]
  by_cases g5 : h > 1099511627776
  · rw [dt g5]; rfl
  rw [df g5, cond_false, pgood_eq, Option.bind_some]
  by_cases hp : pP p
  · rw [dt hp, Bool.not_true, cond_false, pnew_eq, if_pos hp, Option.bind_some]
    simp only [Sy.sel, Option.bind_some]
    have ec : ((cut.toNat : Nat) : Int) = cut := by omega
    have ht : (l.take cut.toNat).length = cut.toNat := List.length_take_of_le (by omega)
    have hd : (l.drop cut.toNat).length = l.length - cut.toNat := List.length_drop
    obtain ⟨w1, r1, o1⟩ := give2_eq k hk p h (by omega) l hn (by omega) 0
    obtain ⟨w2, r2, o2⟩ := give2_eq k hk p h (by omega) (l.take cut.toNat) (fun y hy => hn y (List.mem_of_mem_take hy)) (by omega) 0
    have ga : addI .i64 h cut = h + cut := add_id (by omega) (by omega)
    have hl2 := gb_len p (l.take cut.toNat) h
    obtain ⟨w3, r3, o3⟩ := give3_eq k hk p (h + cut) (by omega) (l.drop cut.toNat) (fun y hy => hn y (List.mem_of_mem_drop hy)) (by omega) 0 (gb p h (l.take cut.toNat)) w2 o2 (by omega)
    have hall : gb p h (l.take cut.toNat) ++ gb p (h + cut) (l.drop cut.toNat) = gb p h l := by
      have := gb_append p (l.take cut.toNat) (l.drop cut.toNat) h
      rw [List.take_append_drop, ht, ec] at this
      exact this.symm
    rw [hall] at r3 o3
    have hsum := congrArg List.length hall
    rw [List.length_append] at hsum
    have hspan := gb_span p hp l h (by omega)
    have hlen := gb_len p l h
    have c1 : decide (0 ≤ cut) = true := dt (by omega)
    have c2 : decide (cut ≤ (l.length : Int)) = true := dt (by omega)
    have c3 : decide (p.2.1 = 0) = false := df (by have := hp.1; omega)
    simp only [c1, c2, c3, cond_true, cond_false, ga, r1, r2, r3, Option.bind_some]
    rw [bits_eq k p 0 _ w1 o1 (by omega) hk, Option.bind_some, bits_eq k p 0 _ w3 o3 (by omega) hk, Option.bind_some]
    have hq0 : (l.length : Int) / p.2.1 ≤ (l.length : Int) := Int.ediv_le_self _ (by omega)
    have hq1 : 0 ≤ (l.length : Int) / p.2.1 := Int.ediv_nonneg (by omega) (by have := hp.1; omega)
    have eq : quoI .i64 (l.length : Int) p.2.1 = (l.length : Int) / p.2.1 := by
      unfold quoI; rw [Int.tdiv_eq_ediv_of_nonneg (by omega), i64_id (by omega) (by omega)]
    have es : addI .i64 ((gb p h (l.take cut.toNat)).length : Int) ((gb p (h + cut) (l.drop cut.toNat)).length : Int) = ((gb p h l).length : Int) := (add_id (by omega) (by omega)).trans (by omega)
    have e1' : addI .i64 ((l.length : Int) / p.2.1) 1 = (l.length : Int) / p.2.1 + 1 := add_id (by omega) (by omega)
    have b0 (x : Int) : (x != x) = false := by simp
    rw [eq, es, e1', b0, cond_false, df (by omega), cond_false, df (by omega), cond_false]
    simp only [b0, cond_false]
    have hl0 := span_l0 k l H8 K64 (gb p h l) (by omega) (gb p h l).length k 0 (by omega) (by omega)
    rw [show ((0 : Nat) : Int) = 0 from rfl] at hl0
    rw [hl0, Option.bind_some]
  · rw [df hp]; rfl

theorem pledgeSpan_said : Rows.PledgeSpanCardSaid := pledgeSpan_card pledgeSpan_pure

end Go.Proofs.YtnnajeoeeefjaaaDoor.Sy
