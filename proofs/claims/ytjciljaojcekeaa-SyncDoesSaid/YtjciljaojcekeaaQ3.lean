/- SyncWork, on data alone: work is the most that was shown, in whatever order; who is asked, and does not answer, is not asked again within 120 seconds. -/
import Derived.Test.YtjciljaojcekeaaQ2
import Derived.Test.YtjciljaojcekeaaRSyncWork
namespace Go.Proofs.Ytjciljaojcekeaa.Sx
open Go
set_option linter.unusedVariables false
set_option linter.unusedSimpArgs false

theorem sync_alive : Ev (fun k => trailheadlaw22_alive.f k) true := Ev.const fun k => by kernel_rfl

theorem getD_rev (ws : List (List Int)) (i : Nat) (d : List Int) (h : i < ws.length) : List.getD ws (ws.length - 1 - i) d = List.getD ws.reverse i d := by
  simp only [List.getD_eq_getElem?_getD]
  rw [List.getElem?_reverse h]

theorem work_loop (x1 x2 : Int) (x6 : Bool) (y : Wt) (ws : List (List Int)) (hL : ws.length < 2 ^ 40) : ∀ (rest pre rest' pre' : List (List Int)) (most : List Int) (z : Wt),
    (∀ x ∈ rest, goodT numT x) → (∀ x ∈ rest', goodT numT x) → goodT numT most → goodT numT z.2.2.2.2.2.1 → pre ++ rest = ws → pre' ++ rest' = ws.reverse → pre.length = pre'.length →
    Ev2 (fun k n => trailheadlaw22_SyncWork.l0.f k x1 x2 x6 (ws.length : Int) ws y n (pre.length : Int) most z) ((ws.length : Int), (best most rest, setW z (best z.2.2.2.2.2.1 rest')))
  | [], pre, rest', pre', most, z, _, _, _, _, hl, hl', hp => by
    have h1 : pre.length = ws.length := by rw [← hl]; simp
    have h2 : rest' = [] := by
      have := congrArg List.length hl'
      simp at this
      exact List.eq_nil_of_length_eq_zero (by omega)
    subst h2
    refine Ev2.succ (G := fun k n => some ((ws.length : Int), (most, z))) (fun k n => ?_) (Ev2.const fun _ _ => rfl)
    simp only [trailheadlaw22_SyncWork.l0.f, trailheadlaw22_SyncWork.l0.go, trailheadlaw22_SyncWork.l0.step, h1]
    rw [decide_eq_false (by omega)]; rfl
  | x :: rest, pre, [], pre', most, z, _, _, _, _, hl, hl', hp => by
    have h1 := congrArg List.length hl
    have h2 := congrArg List.length hl'
    simp at h1 h2
    omega
  | x :: rest, pre, x' :: rest', pre', most, z, hg, hg', hm, hz, hl, hl', hp => by
    have gx := hg x (by simp)
    have gx' := hg' x' (by simp)
    have hlen : pre.length < ws.length := by rw [← hl]; simp
    have e2 : (pre.length : Int) + 1 = ((pre ++ [x]).length : Int) := by simp
    have hget : List.getD ws pre.length (Ty.dflt (.arr .u64 4) : List Int) = x := by rw [← hl]; exact getD_mid pre x rest _
    have hget' : List.getD ws (ws.length - 1 - pre.length) (Ty.dflt (.arr .u64 4) : List Int) = x' := (getD_rev ws _ _ hlen).trans (by rw [hp, ← hl']; exact getD_mid pre' x' rest' _)
    have hidx : subI .i64 (subI .i64 (ws.length : Int) 1) (pre.length : Int) = ((ws.length - 1 - pre.length : Nat) : Int) := by
      rw [subI_one (by omega) (by omega)]
      unfold subI
      rw [wrap_i64 (by omega) (by omega)]
      omega
    refine Ev2.succ (G := fun k n => Option.bind (sync_Watch_Knows_v1.f k z [x']) (fun r3 => Option.bind (trailheadref02_Less.f k most x) (fun r4 =>
      trailheadlaw22_SyncWork.l0.f k x1 x2 x6 (ws.length : Int) ws y n ((pre ++ [x]).length : Int) (bif r4 then x else most) r3))) (fun k n => ?_) ?_
    · simp only [trailheadlaw22_SyncWork.l0.f, trailheadlaw22_SyncWork.l0.go, trailheadlaw22_SyncWork.l0.step]
      rw [hidx, Int.toNat_natCast, Int.toNat_natCast, hget, hget', decide_eq_true (show (pre.length : Int) < (ws.length : Int) by omega), decide_eq_true (show (0 : Int) ≤ ((ws.length - 1 - pre.length : Nat) : Int) by omega),
        decide_eq_true (show ((ws.length - 1 - pre.length : Nat) : Int) < (ws.length : Int) by omega), decide_eq_true (show ws.length - 1 - pre.length < ws.length by omega), decide_eq_true (show (0 : Int) ≤ (pre.length : Int) by omega),
        decide_eq_true hlen, addI_one (by omega) (by omega), e2]
      simp only [cond_true]
      congr 1; funext r3; congr 1; funext r4
      cases r4 <;> rfl
    · refine Ev2.bind (knows_v1_ev (ws := [x']) (fun w hw => by rw [List.mem_singleton.1 hw]; exact gx') hz (by simp)) ?_
      refine Ev2.bind (refless_ev hm gx) ?_
      have ih := work_loop x1 x2 x6 y ws hL rest (pre ++ [x]) rest' (pre' ++ [x']) (bif decide (vN most < vN x) then x else most) (setW z (best z.2.2.2.2.2.1 [x'])) (fun w hw => hg w (by simp [hw])) (fun w hw => hg' w (by simp [hw]))
        (by cases decide (vN most < vN x) <;> first | exact gx | exact hm) (by exact best_good _ _ hz (fun w hw => by rw [List.mem_singleton.1 hw]; exact gx')) (by simpa using hl) (by simpa using hl') (by simp [hp])
      have e3 : best (bif decide (vN most < vN x) then x else most) rest = best most (x :: rest) := by
        rw [best_cons]
        cases hd : decide (vN most < vN x) with
        | true => rw [if_pos (of_decide_eq_true hd)]; rfl
        | false => rw [if_neg (of_decide_eq_false hd)]; rfl
      rw [← e3]
      exact ih

def w0 : Wt := (false, (0, (0, (false, (0, ([0, 0, 0, 0], (false, 0)))))))

theorem zero_good : goodT numT [0, 0, 0, 0] := good4 (n0 := 0) (n1 := 0) (n2 := 0) (n3 := 0) (by omega) (by omega) (by omega) (by omega)

theorem syncWork_pure : SyncWorkPure := by
  intro ws hg _ a ha b hb
  have ha' := wf_i64.1 ha
  have hb' := wf_i64.1 hb
  refine Ev.get ?_
  unfold trailheadlaw22_SyncWork.f trailheadlaw22_SyncWork.tree
  refine Ev.bind sync_alive ?_
  simp only [Bool.not_true, cond_false]
  by_cases h1 : ((ws.length : Int) > 40)
  · rw [decide_eq_true h1]; exact Ev.const fun k => rfl
  rw [decide_eq_false h1]
  by_cases h2 : a < 0
  · rw [decide_eq_true h2]; exact Ev.const fun k => rfl
  rw [decide_eq_false h2]
  by_cases h3 : a > 1099511627776
  · rw [decide_eq_true h3]; exact Ev.const fun k => rfl
  rw [decide_eq_false h3]
  by_cases h4 : b < 0
  · rw [decide_eq_true h4]; exact Ev.const fun k => rfl
  rw [decide_eq_false h4]
  by_cases h5 : b > 1099511627776
  · rw [decide_eq_true h5]; exact Ev.const fun k => rfl
  rw [decide_eq_false h5]
  simp only [cond_false]
  refine Ev.bind (knows_ev (y0 := w0) hg zero_good (by omega)) ?_
  refine Ev.bind (work_loop a b false (setW w0 (best w0.2.2.2.2.2.1 ws)) ws (by omega) ws [] ws.reverse [] [0, 0, 0, 0] w0 hg (fun x hx => hg x (by simpa using hx)) zero_good zero_good rfl rfl rfl).ev ?_
  have hW : best w0.2.2.2.2.2.1 ws.reverse = best [0, 0, 0, 0] ws := by
    apply vN_inj (best_good _ _ zero_good (fun x hx => hg x (by simpa using hx))) (best_good _ _ zero_good hg)
    rw [vN_best, vN_best, top_reverse]
  have hs : subI .i64 (addI .i64 a b) a = b := by
    unfold subI addI
    rw [wrap_i64 (n := a + b) (by omega) (by omega), wrap_i64 (by omega) (by omega)]; omega
  refine Ev.const fun k => ?_
  simp only [sync_Watch_Asks.f, sync_Watch_Asks.tree, sync_Watch_Work.f, sync_Watch_Work.tree, sync_Watch_Got.f, sync_Watch_Got.tree, setW, w0, cond_false, cond_true, Option.bind_some, hs] at hW ⊢
  rw [hW]
  by_cases h6 : b ≤ 120
  · rw [decide_eq_true h6, decide_eq_false (show ¬ b > 120 by omega)]
    simp
  · rw [decide_eq_false h6, decide_eq_true (show b > 120 by omega)]
    simp

theorem syncWork_said : Rows.SyncWorkSaid := syncWork_row syncWork_pure

end Go.Proofs.Ytjciljaojcekeaa.Sx
