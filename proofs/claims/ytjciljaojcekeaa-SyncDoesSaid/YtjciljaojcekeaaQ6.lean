/- SyncSlow, on data alone: who stays behind is asked a last time, then dropped, in just so much time. -/
import Derived.Test.YtjciljaojcekeaaQ3
import Derived.Test.YtjciljaojcekeaaRSyncSlow
namespace Go.Proofs.Ytjciljaojcekeaa.Sx
open Go
set_option linter.unusedVariables false
set_option linter.unusedSimpArgs false

/-- A second goes by, once the order of the works is known. -/
def tickW (lt : Bool) (now : Int) (y : Wt) : Int × Wt :=
  bif !lt then (0, (y.1, (y.2.1, (y.2.2.1, (false, (y.2.2.2.2.1, (y.2.2.2.2.2.1, (false, y.2.2.2.2.2.2.2))))))))
  else bif !y.2.2.2.1 then (0, (y.1, (y.2.1, (y.2.2.1, (true, (now, (y.2.2.2.2.2.1, (false, y.2.2.2.2.2.2.2))))))))
  else bif !y.2.2.2.2.2.2.1 then (bif decide (subI .i64 now y.2.2.2.2.1 > 1200) then (1, (y.1, (y.2.1, (y.2.2.1, (y.2.2.2.1, (y.2.2.2.2.1, (y.2.2.2.2.2.1, (true, now)))))))) else (0, y))
  else bif decide (subI .i64 now y.2.2.2.2.2.2.2 > 120) then (2, y) else (0, y)

def tickV (now : Int) (ours : List Int) (from' : Bool) (y : Wt) : Int × Wt :=
  bif from' && y.1 && decide (subI .i64 now y.2.1 > 120) then (2, y) else tickW (decide (vN y.2.2.2.2.2.1 < vN ours)) now y

theorem tick_ev {now : Int} {ours : List Int} {from' : Bool} {y : Wt} (hy : goodT numT y.2.2.2.2.2.1) (ho : goodT numT ours) : Ev (fun k => sync_Watch_Tick.f k now ours from' y) (tickV now ours from' y) := by
  obtain ⟨k0, h⟩ := less_ev hy ho
  refine ⟨k0, fun k hk => ?_⟩
  simp only [sync_Watch_Tick.f, sync_Watch_Tick.tree, h k hk, Option.bind_some, tickV, tickW]
  generalize decide (vN y.2.2.2.2.2.1 < vN ours) = lt
  obtain ⟨out, asked, loose, slow, since, work, last, warned⟩ := y
  simp only
  generalize decide (subI .i64 now asked > 120) = c1
  generalize decide (subI .i64 now since > 1200) = c2
  generalize decide (subI .i64 now warned > 120) = c3
  cases from' <;> cases out <;> cases lt <;> cases slow <;> cases last <;> cases c1 <;> cases c2 <;> cases c3 <;> rfl

theorem tickV_of {now : Int} {ours : List Int} {y : Wt} {b : Bool} (h : decide (vN y.2.2.2.2.2.1 < vN ours) = b) : tickV now ours false y = tickW b now y := by
  unfold tickV; rw [h]; rfl

theorem tick_to {now : Int} {ours : List Int} {y : Wt} {r : Int × Wt} (hy : goodT numT y.2.2.2.2.2.1) (ho : goodT numT ours) (t : tickV now ours false y = r) : Ev (fun k => sync_Watch_Tick.f k now ours false y) r := t ▸ tick_ev hy ho

theorem zero_lt {a : List Int} (ha : goodT numT a) (h : a ≠ [0, 0, 0, 0]) : vN [0, 0, 0, 0] < vN a := by
  rcases Nat.eq_zero_or_pos (vN a) with e | e
  · exact absurd (vN_inj ha zero_good (by rw [e]; rfl)) h
  · exact e

theorem syncSlow_pure : SyncSlowPure := by
  intro ours ho a ha b hb late _
  have ha' := wf_i64.1 ha
  have hb' := wf_i64.1 hb
  refine Ev.get ?_
  unfold trailheadlaw22_SyncSlow.f trailheadlaw22_SyncSlow.tree
  refine Ev.bind sync_alive ?_
  simp only [Bool.not_true, cond_false]
  by_cases h0 : ours = [0, 0, 0, 0]
  · rw [decide_eq_true h0]; exact Ev.const fun k => rfl
  rw [decide_eq_false h0]
  by_cases h2 : a < 0
  · rw [decide_eq_true h2]; exact Ev.const fun k => rfl
  rw [decide_eq_false h2]
  by_cases h3 : a > 1099511627776
  · rw [decide_eq_true h3]; exact Ev.const fun k => rfl
  rw [decide_eq_false h3]
  by_cases h4 : b < 1
  · rw [decide_eq_true h4]; exact Ev.const fun k => rfl
  rw [decide_eq_false h4]
  by_cases h5 : b > 1099511627776
  · rw [decide_eq_true h5]; exact Ev.const fun k => rfl
  rw [decide_eq_false h5]
  simp only [cond_false]
  have ad : ∀ x y : Int, 0 ≤ x → x < 2 ^ 60 → 0 ≤ y → y < 2 ^ 60 → addI .i64 x y = x + y := fun x y _ _ _ _ => wrap_i64 (by omega) (by omega)
  have sb : ∀ x y : Int, 0 ≤ x → x < 2 ^ 60 → 0 ≤ y → y < 2 ^ 60 → subI .i64 x y = x - y := fun x y _ _ _ _ => wrap_i64 (by omega) (by omega)
  have lt := decide_eq_true (zero_lt ho h0)
  have nlt : decide (vN ours < vN ours) = false := decide_eq_false (by omega)
  rw [ad a 1200 (by omega) (by omega) (by omega) (by omega), ad (a + 1200) b (by omega) (by omega) (by omega) (by omega), ad (a + 1200 + b) 120 (by omega) (by omega) (by omega) (by omega),
    ad (a + 1200 + b + 120) b (by omega) (by omega) (by omega) (by omega), ad (a + 1200 + b) 12000 (by omega) (by omega) (by omega) (by omega), ad (a + 1200 + b + 12000) b (by omega) (by omega) (by omega) (by omega)]
  have t1 : tickV a ours false w0 = (0, ((false, (0, (0, (true, (a, ([0, 0, 0, 0], (false, 0))))))) : Wt)) := by
    exact (tickV_of (b := true) (by exact lt)).trans rfl
  refine Ev.bind (tick_to zero_good ho t1) ?_
  have t2 : tickV (a + 1200) ours false ((false, (0, (0, (true, (a, ([0, 0, 0, 0], (false, 0))))))) : Wt) = (0, ((false, (0, (0, (true, (a, ([0, 0, 0, 0], (false, 0))))))) : Wt)) := by
    refine (tickV_of (b := true) (by exact lt)).trans ?_
    simp only [tickW]
    rw [sb (a + 1200) a (by omega) (by omega) (by omega) (by omega), decide_eq_false (show ¬ a + 1200 - a > 1200 by omega)]; rfl
  refine Ev.bind (tick_to zero_good ho t2) ?_
  have t3 : tickV (a + 1200 + b) ours false ((false, (0, (0, (true, (a, ([0, 0, 0, 0], (false, 0))))))) : Wt) = (1, ((false, (0, (0, (true, (a, ([0, 0, 0, 0], (true, a + 1200 + b))))))) : Wt)) := by
    refine (tickV_of (b := true) (by exact lt)).trans ?_
    simp only [tickW]
    rw [sb (a + 1200 + b) a (by omega) (by omega) (by omega) (by omega), decide_eq_true (show a + 1200 + b - a > 1200 by omega)]; rfl
  refine Ev.bind (tick_to zero_good ho t3) ?_
  have t4 : tickV (a + 1200 + b + 120) ours false ((false, (0, (0, (true, (a, ([0, 0, 0, 0], (true, a + 1200 + b))))))) : Wt) = (0, ((false, (0, (0, (true, (a, ([0, 0, 0, 0], (true, a + 1200 + b))))))) : Wt)) := by
    refine (tickV_of (b := true) (by exact lt)).trans ?_
    simp only [tickW]
    rw [sb (a + 1200 + b + 120) (a + 1200 + b) (by omega) (by omega) (by omega) (by omega), decide_eq_false (show ¬ a + 1200 + b + 120 - (a + 1200 + b) > 120 by omega)]; rfl
  refine Ev.bind (tick_to zero_good ho t4) ?_
  cases late with
  | false =>
    have t5 : tickV (a + 1200 + b + 120 + b) ours false ((false, (0, (0, (true, (a, ([0, 0, 0, 0], (true, a + 1200 + b))))))) : Wt) = (2, ((false, (0, (0, (true, (a, ([0, 0, 0, 0], (true, a + 1200 + b))))))) : Wt)) := by
      refine (tickV_of (b := true) (by exact lt)).trans ?_
      simp only [tickW]
      rw [sb (a + 1200 + b + 120 + b) (a + 1200 + b) (by omega) (by omega) (by omega) (by omega), decide_eq_true (show a + 1200 + b + 120 + b - (a + 1200 + b) > 120 by omega)]; rfl
    refine Ev.bind (tick_to zero_good ho t5) ?_
    exact Ev.const fun k => rfl
  | true =>
    have hb2 : best [0, 0, 0, 0] [ours] = ours := by
      show (if vN [0, 0, 0, 0] < vN ours then ours else [0, 0, 0, 0]) = ours
      rw [if_pos (zero_lt ho h0)]
    refine Ev.bind (v := ((false, (0, (0, (true, (a, (ours, (true, a + 1200 + b))))))) : Wt)) (by
      have := knows_v1_ev (ws := [ours]) (y0 := ((false, (0, (0, (true, (a, ([0, 0, 0, 0], (true, a + 1200 + b))))))) : Wt)) (fun w hw => by rw [List.mem_singleton.1 hw]; exact ho) zero_good (by simp)
      simp only [hb2, setW] at this
      exact this) ?_
    have t5 : tickV (a + 1200 + b + 120 + b) ours false ((false, (0, (0, (true, (a, (ours, (true, a + 1200 + b))))))) : Wt) = (0, ((false, (0, (0, (false, (a, (ours, (false, a + 1200 + b))))))) : Wt)) := by
      exact (tickV_of (b := false) (by exact nlt)).trans rfl
    refine Ev.bind (tick_to ho ho t5) ?_
    have t6 : tickV (a + 1200 + b + 12000 + b) ours false ((false, (0, (0, (false, (a, (ours, (false, a + 1200 + b))))))) : Wt) = (0, ((false, (0, (0, (false, (a, (ours, (false, a + 1200 + b))))))) : Wt)) := by
      exact (tickV_of (b := false) (by exact nlt)).trans rfl
    refine Ev.bind (tick_to ho ho t6) ?_
    exact Ev.const fun k => rfl

theorem syncSlow_said : Rows.SyncSlowSaid := syncSlow_row syncSlow_pure

end Go.Proofs.Ytjciljaojcekeaa.Sx
