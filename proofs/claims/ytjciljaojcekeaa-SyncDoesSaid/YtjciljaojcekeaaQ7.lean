/- SyncFair, on data alone: who answers within 120 seconds, and whose work is not less than ours for long, is never dropped, nor asked a last time. -/
import Derived.Test.YtjciljaojcekeaaQ6
import Derived.Test.YtjciljaojcekeaaRSyncFair
namespace Go.Proofs.Ytjciljaojcekeaa.Sx
open Go
set_option linter.unusedVariables false
set_option linter.unusedSimpArgs false

def fairBody {X : Type} (k : Nat) (from' : Bool) (now : Int) (n : List Int) (y : Wt) (Q : Bool → Option X) (G : Wt → Option X) : Option X :=
  Option.bind (sync_Watch_Tick.f k now n from' y) (fun r3 => bif (r3.1 != (0 : Int)) then Q false else Option.bind (sync_Watch_Got.f k r3.2) (fun r4 => Option.bind (sync_Watch_Knows_v1.f k r4.2 [n]) (fun r5 =>
    Option.bind (sync_Watch_Tick.f k now n from' r5) (fun r6 => bif (r6.1 != (0 : Int)) then Q false else Option.bind (sync_Watch_Work.f k r6.2) (fun r7 => Option.bind (trailheadref02_Less.f k r7 n) (fun r8 => bif r8 then Q false else G r6.2))))))

/-- What holds at the head of each round. -/
def FairInv (y : Wt) : Prop := y.1 = false ∧ y.2.2.2.1 = false ∧ y.2.2.2.2.2.2.1 = false ∧ goodT numT y.2.2.2.2.2.1

theorem best_one (w n : List Int) : ¬ vN (best w [n]) < vN n := by
  show ¬ vN (if vN w < vN n then n else w) < vN n
  split <;> omega

theorem fair_body {X : Type} (from' : Bool) (now g : Int) (n : List Int) (y : Wt) (hn : goodT numT n) (hy : FairInv y) (h0 : 0 ≤ now) (h1 : now < 2 ^ 40) (g0 : 0 ≤ g) (g1 : g ≤ 120) (Q : Bool → Option X) :
    ∃ y' : Wt, FairInv y' ∧ ∀ (F : Nat → Nat → Wt → Option X) (r : X), Ev2 (fun k m => F k m y') r → Ev2 (fun k m => fairBody k from' (now + g) n ((true, (now, y.2.2)) : Wt) Q (F k m)) r := by
  obtain ⟨out, asked, loose, slow, since, work, last, warned⟩ := y
  obtain ⟨hout, hslow, hlast, hwork⟩ := hy
  simp only at hout hslow hlast hwork
  subst hout hslow hlast
  have sb : subI .i64 (now + g) now = g := by unfold subI; rw [wrap_i64 (by omega) (by omega)]; omega
  have hbest : goodT numT (best work [n]) := best_good _ _ hwork (fun w hw => by rw [List.mem_singleton.1 hw]; exact hn)
  have t1 : ∃ b s, tickV (now + g) n from' ((true, (now, (loose, (false, (since, (work, (false, warned))))))) : Wt) = (0, ((true, (now, (loose, (b, (s, (work, (false, warned))))))) : Wt)) := by
    unfold tickV tickW
    simp only [sb]
    rw [decide_eq_false (show ¬ g > 120 by omega)]
    cases decide (vN work < vN n) with
    | true => exact ⟨true, now + g, by cases from' <;> rfl⟩
    | false => exact ⟨false, since, by cases from' <;> rfl⟩
  obtain ⟨b, s, t1⟩ := t1
  have t2 : tickV (now + g) n from' ((false, (now, (loose, (b, (s, (best work [n], (false, warned))))))) : Wt) = (0, ((false, (now, (loose, (false, (s, (best work [n], (false, warned))))))) : Wt)) := by
    unfold tickV tickW
    simp only
    rw [decide_eq_false (best_one work n)]
    cases from' <;> rfl
  refine ⟨((false, (now, (loose, (false, (s, (best work [n], (false, warned))))))) : Wt), ⟨rfl, rfl, rfl, hbest⟩, fun F r hF => ?_⟩
  unfold fairBody
  refine Ev2.bind (v := (0, ((true, (now, (loose, (b, (s, (work, (false, warned))))))) : Wt))) (t1 ▸ tick_ev (y := ((true, (now, (loose, (false, (since, (work, (false, warned))))))) : Wt)) hwork hn) ?_
  simp only [bne_self_eq_false, cond_false]
  refine Ev2.bind (v := (true, ((false, (now, (loose, (b, (s, (work, (false, warned))))))) : Wt))) (Ev.const fun k => rfl) ?_
  refine Ev2.bind (v := ((false, (now, (loose, (b, (s, (best work [n], (false, warned))))))) : Wt)) (knows_v1_ev (ws := [n]) (y0 := ((false, (now, (loose, (b, (s, (work, (false, warned))))))) : Wt)) (fun w hw => by rw [List.mem_singleton.1 hw]; exact hn) hwork (by simp)) ?_
  refine Ev2.bind (v := (0, ((false, (now, (loose, (false, (s, (best work [n], (false, warned))))))) : Wt))) (t2 ▸ tick_ev (y := ((false, (now, (loose, (b, (s, (best work [n], (false, warned))))))) : Wt)) hbest hn) ?_
  simp only [bne_self_eq_false, cond_false]
  refine Ev2.bind (v := best work [n]) (Ev.const fun k => rfl) ?_
  refine Ev2.bind (v := false) (by have := refless_ev hbest hn; rw [decide_eq_false (best_one work n)] at this; exact this) ?_
  exact hF

theorem fair_loop (from' x6 : Bool) (gs : List Int) (ws : List (List Int)) (hw : ∀ x ∈ ws, goodT numT x) (hl1 : gs.length ≤ 100) (hl2 : ws.length ≤ 100) : ∀ (rest pre : List Int) (now : Int) (y : Wt),
    pre ++ rest = gs → FairInv y → 0 ≤ now → now ≤ 120 * (pre.length : Int) →
    ∃ r, Ev2 (fun k n => trailheadlaw22_SyncFair.l0.f k from' x6 (gs.length : Int) gs ws n now (pre.length : Int) y) r ∧ sel r (fun _ => true) (fun q => q) = true
  | [], pre, now, y, hl, hy, h0, h1 => by
    have hp : pre.length = gs.length := by rw [← hl]; simp
    refine ⟨.inl (now, ((gs.length : Int), y)), Ev2.succ (G := fun k n => some (.inl (now, ((gs.length : Int), y)))) (fun k n => ?_) (Ev2.const fun _ _ => rfl), rfl⟩
    simp only [trailheadlaw22_SyncFair.l0.f, trailheadlaw22_SyncFair.l0.go, trailheadlaw22_SyncFair.l0.step, hp]
    rw [decide_eq_false (by omega)]; rfl
  | g :: rest, pre, now, y, hl, hy, h0, h1 => by
    have hlen : pre.length < gs.length := by rw [← hl]; simp
    have hget : List.getD gs pre.length (Ty.dflt (.int .i64) : Int) = g := by rw [← hl]; exact getD_mid pre g rest _
    have hd1 : decide ((pre.length : Int) < (gs.length : Int)) = true := decide_eq_true (by omega)
    have hd2 : decide ((0 : Int) ≤ (pre.length : Int)) = true := decide_eq_true (by omega)
    by_cases g0 : g < 0
    · refine ⟨.inr true, Ev2.succ (G := fun k n => some (.inr true)) (fun k n => ?_) (Ev2.const fun _ _ => rfl), rfl⟩
      simp only [trailheadlaw22_SyncFair.l0.f, trailheadlaw22_SyncFair.l0.go, trailheadlaw22_SyncFair.l0.step]
      rw [hd1, hd2, Int.toNat_natCast, hget, decide_eq_true hlen, decide_eq_true g0]; rfl
    by_cases g1 : g > 120
    · refine ⟨.inr true, Ev2.succ (G := fun k n => some (.inr true)) (fun k n => ?_) (Ev2.const fun _ _ => rfl), rfl⟩
      simp only [trailheadlaw22_SyncFair.l0.f, trailheadlaw22_SyncFair.l0.go, trailheadlaw22_SyncFair.l0.step]
      rw [hd1, hd2, Int.toNat_natCast, hget, decide_eq_true hlen, decide_eq_false g0, decide_eq_true g1]; rfl
    have ad : addI .i64 now g = now + g := by unfold addI; exact wrap_i64 (by omega) (by omega)
    have e2 : (pre.length : Int) + 1 = ((pre ++ [g]).length : Int) := by simp
    let n : List Int := if 0 < ws.length then List.getD ws (pre.length % ws.length) [0, 0, 0, 0] else [0, 0, 0, 0]
    have hn : goodT numT n := by
      by_cases hpos : 0 < ws.length
      · have e : n = List.getD ws (pre.length % ws.length) [0, 0, 0, 0] := if_pos hpos
        have hlt := Nat.mod_lt pre.length hpos
        rw [e, List.getD_eq_getElem?_getD, List.getElem?_eq_getElem hlt]
        exact hw _ (List.getElem_mem hlt)
      · have e : n = [0, 0, 0, 0] := if_neg hpos
        rw [e]; exact zero_good
    obtain ⟨y', hy', hF⟩ := fair_body (X := (Int × Int × Wt) ⊕ Bool) from' now g n y hn hy h0 (by omega) (by omega) (by omega) (fun q => some (.inr q))
    obtain ⟨r, hr, hsel⟩ := fair_loop from' x6 gs ws hw hl1 hl2 rest (pre ++ [g]) (now + g) y' (by simpa using hl) hy' (by omega) (by simp; omega)
    refine ⟨r, Ev2.succ (G := fun k m => fairBody k from' (now + g) n ((true, (now, y.2.2)) : Wt) (fun q => some (.inr q)) (fun z => trailheadlaw22_SyncFair.l0.f k from' x6 (gs.length : Int) gs ws m (now + g) ((pre ++ [g]).length : Int) z)) (fun k m => ?_) (hF (fun k m z => trailheadlaw22_SyncFair.l0.f k from' x6 (gs.length : Int) gs ws m (now + g) ((pre ++ [g]).length : Int) z) r hr), hsel⟩
    have hasks : sync_Watch_Asks.f k now y = some (true, ((true, (now, y.2.2)) : Wt)) := by
      simp only [sync_Watch_Asks.f, sync_Watch_Asks.tree, hy.1]; rfl
    simp only [trailheadlaw22_SyncFair.l0.f, trailheadlaw22_SyncFair.l0.go, trailheadlaw22_SyncFair.l0.step]
    rw [hd1, hd2, Int.toNat_natCast, hget, decide_eq_true hlen, decide_eq_false g0, decide_eq_false g1, hasks, ad, addI_one (by omega) (by omega), e2]
    simp only [cond_true, cond_false, Option.bind_some]
    by_cases hpos : 0 < ws.length
    · have hrem : remI (pre.length : Int) (ws.length : Int) = ((pre.length % ws.length : Nat) : Int) := by
        unfold remI; rw [Int.tmod_eq_emod_of_nonneg (by omega)]; rfl
      have hlt := Nat.mod_lt pre.length hpos
      have hgn : List.getD ws (pre.length % ws.length) (Ty.dflt (.arr .u64 4) : List Int) = n := by
        have e : n = List.getD ws (pre.length % ws.length) [0, 0, 0, 0] := if_pos hpos
        exact e.symm
      rw [hrem, Int.toNat_natCast, hgn, decide_eq_true (show (ws.length : Int) > 0 by omega), decide_eq_false (show ¬ (ws.length : Int) = 0 by omega), decide_eq_true (show (0 : Int) ≤ ((pre.length % ws.length : Nat) : Int) by omega),
        decide_eq_true (show ((pre.length % ws.length : Nat) : Int) < (ws.length : Int) by omega), decide_eq_true hlt]
      rfl
    · have hgn : n = [0, 0, 0, 0] := if_neg hpos
      rw [decide_eq_false (show ¬ (ws.length : Int) > 0 by omega), hgn]
      rfl

theorem syncFair_pure : SyncFairPure := by
  intro gs hg _ ws hw _ from' _
  refine Ev.get ?_
  unfold trailheadlaw22_SyncFair.f trailheadlaw22_SyncFair.tree
  refine Ev.bind sync_alive ?_
  simp only [Bool.not_true, cond_false]
  by_cases h1 : ((gs.length : Int) > 100)
  · rw [decide_eq_true h1]; exact Ev.const fun k => rfl
  rw [decide_eq_false h1]
  by_cases h2 : ((ws.length : Int) > 100)
  · rw [decide_eq_true h2]; exact Ev.const fun k => rfl
  rw [decide_eq_false h2]
  simp only [cond_false]
  obtain ⟨r, hr, hsel⟩ := fair_loop from' false gs ws hw (by omega) (by omega) gs [] 0 w0 rfl ⟨rfl, rfl, rfl, zero_good⟩ (by omega) (by simp)
  refine Ev.bind hr.ev (Ev.const fun k => ?_)
  cases r with
  | inl v => rfl
  | inr q => simp only [sel] at hsel ⊢; rw [hsel]

theorem syncFair_said : Rows.SyncFairSaid := syncFair_row syncFair_pure

end Go.Proofs.Ytjciljaojcekeaa.Sx
