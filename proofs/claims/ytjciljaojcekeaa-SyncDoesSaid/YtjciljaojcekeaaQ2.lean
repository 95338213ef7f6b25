/- What Knows comes to, in both its shapes: the greatest of what was shown. Printed in part by knows.py. -/
import Derived.Test.YtjciljaojcekeaaQ1
import Derived.Test.YtjciljaojcekeaaWC
namespace Go.Proofs.Ytjciljaojcekeaa.Sx
open Go
set_option linter.unusedVariables false
set_option linter.unusedSimpArgs false

abbrev Wt : Type := Bool × (Int × (Int × (Bool × (Int × ((List Int) × (Bool × Int))))))
def setW (y : Wt) (w : List Int) : Wt := (y.1, (y.2.1, (y.2.2.1, (y.2.2.2.1, (y.2.2.2.2.1, (w, y.2.2.2.2.2.2))))))

/-- The greatest of a number and a list of them: the first one of the greatest. -/
def best (w : List Int) : List (List Int) → List Int
  | [] => w
  | x :: r => best (if vN w < vN x then x else w) r

theorem best_cons (w x : List Int) (r : List (List Int)) : best w (x :: r) = best (if vN w < vN x then x else w) r := rfl

theorem getD_mid {α : Type} (pre : List α) (x : α) (rest : List α) (d : α) : List.getD (pre ++ x :: rest) pre.length d = x := by simp [List.getD_eq_getElem?_getD]

theorem best_good : ∀ (l : List (List Int)) (w : List Int), goodT numT w → (∀ x ∈ l, goodT numT x) → goodT numT (best w l)
  | [], w, hw, _ => hw
  | x :: r, w, hw, h => by
    unfold best
    refine best_good r _ ?_ (fun z hz => h z (by simp [hz]))
    split
    · exact h x (by simp)
    · exact hw

def top (l : List (List Int)) : Nat := l.foldr (fun x m => max (vN x) m) 0

theorem vN_best : ∀ (l : List (List Int)) (w : List Int), vN (best w l) = max (vN w) (top l)
  | [], w => by simp [best, top]
  | x :: r, w => by
    unfold best
    rw [vN_best r]
    simp only [top, List.foldr_cons]
    split <;> omega

theorem top_append (a b : List (List Int)) : top (a ++ b) = max (top a) (top b) := by
  induction a with
  | nil => simp [top]
  | cons x r ih => simp only [List.cons_append, top, List.foldr_cons] at ih ⊢; rw [ih]; omega

theorem top_reverse (l : List (List Int)) : top l.reverse = top l := by
  induction l with
  | nil => rfl
  | cons x r ih => rw [List.reverse_cons, top_append, ih]; simp only [top, List.foldr_cons, List.foldr_nil]; omega


theorem knows_loop (L : Nat) (hL : L < 2 ^ 40) (k0 : Nat) : ∀ (rest pre : List (List Int)) (y0 : Wt), (∀ x ∈ rest, goodT numT x) → goodT numT y0.2.2.2.2.2.1 → (pre ++ rest).length = L →
    Ev2 (fun k n => sync_Watch_Knows.l0.f k (L : Int) (pre ++ rest) n (pre.length : Int) y0) ((L : Int), setW y0 (best y0.2.2.2.2.2.1 rest))
  | [], pre, y0, _, _, hl => by
    refine Ev2.succ (G := fun k n => some ((L : Int), y0)) (fun k n => ?_) (Ev2.const fun _ _ => rfl)
    simp at hl
    simp only [sync_Watch_Knows.l0.f, sync_Watch_Knows.l0.go, sync_Watch_Knows.l0.step, hl]
    rw [decide_eq_false (by omega)]; rfl
  | x :: rest, pre, y0, hg, hy, hl => by
    have gx := hg x (by simp)
    have gr : ∀ z ∈ rest, goodT numT z := fun z hz => hg z (by simp [hz])
    have e1 : pre ++ x :: rest = (pre ++ [x]) ++ rest := by simp
    have e2 : (pre.length : Int) + 1 = ((pre ++ [x]).length : Int) := by simp
    have hlt : pre.length < (pre ++ x :: rest).length := by simp
    have hget : List.getD (pre ++ x :: rest) pre.length (Ty.dflt (.arr .u64 4) : List Int) = x := getD_mid pre x rest _
    refine Ev2.succ (G := fun k n => Option.bind (whole_Less.f k y0.2.2.2.2.2.1 x) (fun r1 => sync_Watch_Knows.l0.f k (L : Int) ((pre ++ [x]) ++ rest) n ((pre ++ [x]).length : Int) (bif r1 then setW y0 x else y0))) (fun k n => ?_) ?_
    · simp only [sync_Watch_Knows.l0.f, sync_Watch_Knows.l0.go, sync_Watch_Knows.l0.step]
      rw [decide_eq_true (by omega), decide_eq_true (by omega), Int.toNat_natCast, hget, decide_eq_true hlt, addI_one (by omega) (by omega), e2, decide_eq_true (by omega)]
      simp only [cond_true]
      rw [e1]
      congr 1; funext r1
      cases r1 <;> rfl
    · refine Ev2.bind (less_ev hy gx) ?_
      have ih := knows_loop L hL k0 rest (pre ++ [x]) (bif decide (vN y0.2.2.2.2.2.1 < vN x) then setW y0 x else y0) gr (by cases decide (vN y0.2.2.2.2.2.1 < vN x) <;> first | exact gx | exact hy) (by rw [← e1]; exact hl)
      have e3 : setW (bif decide (vN y0.2.2.2.2.2.1 < vN x) then setW y0 x else y0) (best (bif decide (vN y0.2.2.2.2.2.1 < vN x) then setW y0 x else y0).2.2.2.2.2.1 rest) = setW y0 (best y0.2.2.2.2.2.1 (x :: rest)) := by
        rw [best_cons]
        cases hd : decide (vN y0.2.2.2.2.2.1 < vN x) with
        | true => rw [if_pos (of_decide_eq_true hd)]; rfl
        | false => rw [if_neg (of_decide_eq_false hd)]; rfl
      rw [← e3]; exact ih

theorem knows_ev {ws : List (List Int)} {y0 : Wt} (hg : ∀ x ∈ ws, goodT numT x) (hy : goodT numT y0.2.2.2.2.2.1) (hl : ws.length < 2 ^ 40) : Ev (fun k => sync_Watch_Knows.f k y0 ws) (setW y0 (best y0.2.2.2.2.2.1 ws)) := by
  have h := (knows_loop ws.length hl 0 ws [] y0 hg hy rfl).ev
  unfold sync_Watch_Knows.f sync_Watch_Knows.tree
  exact Ev.bind h (Ev.const fun k => rfl)


theorem knows_loop_v1 (L : Nat) (hL : L < 2 ^ 40) (k0 : Nat) : ∀ (rest pre : List (List Int)) (y0 : Wt), (∀ x ∈ rest, goodT numT x) → goodT numT y0.2.2.2.2.2.1 → (pre ++ rest).length = L →
    Ev2 (fun k n => sync_Watch_Knows_v1.l0.f k (L : Int) (pre ++ rest) n (pre.length : Int) y0) ((L : Int), setW y0 (best y0.2.2.2.2.2.1 rest))
  | [], pre, y0, _, _, hl => by
    refine Ev2.succ (G := fun k n => some ((L : Int), y0)) (fun k n => ?_) (Ev2.const fun _ _ => rfl)
    simp at hl
    simp only [sync_Watch_Knows_v1.l0.f, sync_Watch_Knows_v1.l0.go, sync_Watch_Knows_v1.l0.step, hl]
    rw [decide_eq_false (by omega)]; rfl
  | x :: rest, pre, y0, hg, hy, hl => by
    have gx := hg x (by simp)
    have gr : ∀ z ∈ rest, goodT numT z := fun z hz => hg z (by simp [hz])
    have e1 : pre ++ x :: rest = (pre ++ [x]) ++ rest := by simp
    have e2 : (pre.length : Int) + 1 = ((pre ++ [x]).length : Int) := by simp
    have hlt : pre.length < (pre ++ x :: rest).length := by simp
    have hget : List.getD (pre ++ x :: rest) pre.length (Ty.dflt (.arr .u64 4) : List Int) = x := getD_mid pre x rest _
    refine Ev2.succ (G := fun k n => Option.bind (whole_Less.f k y0.2.2.2.2.2.1 x) (fun r1 => sync_Watch_Knows_v1.l0.f k (L : Int) ((pre ++ [x]) ++ rest) n ((pre ++ [x]).length : Int) (bif r1 then setW y0 x else y0))) (fun k n => ?_) ?_
    · simp only [sync_Watch_Knows_v1.l0.f, sync_Watch_Knows_v1.l0.go, sync_Watch_Knows_v1.l0.step]
      rw [decide_eq_true (by omega), decide_eq_true (by omega), Int.toNat_natCast, hget, decide_eq_true hlt, addI_one (by omega) (by omega), e2, decide_eq_true (by omega)]
      simp only [cond_true]
      rw [e1]
      congr 1; funext r1
      cases r1 <;> rfl
    · refine Ev2.bind (less_ev hy gx) ?_
      have ih := knows_loop_v1 L hL k0 rest (pre ++ [x]) (bif decide (vN y0.2.2.2.2.2.1 < vN x) then setW y0 x else y0) gr (by cases decide (vN y0.2.2.2.2.2.1 < vN x) <;> first | exact gx | exact hy) (by rw [← e1]; exact hl)
      have e3 : setW (bif decide (vN y0.2.2.2.2.2.1 < vN x) then setW y0 x else y0) (best (bif decide (vN y0.2.2.2.2.2.1 < vN x) then setW y0 x else y0).2.2.2.2.2.1 rest) = setW y0 (best y0.2.2.2.2.2.1 (x :: rest)) := by
        rw [best_cons]
        cases hd : decide (vN y0.2.2.2.2.2.1 < vN x) with
        | true => rw [if_pos (of_decide_eq_true hd)]; rfl
        | false => rw [if_neg (of_decide_eq_false hd)]; rfl
      rw [← e3]; exact ih

theorem knows_v1_ev {ws : List (List Int)} {y0 : Wt} (hg : ∀ x ∈ ws, goodT numT x) (hy : goodT numT y0.2.2.2.2.2.1) (hl : ws.length < 2 ^ 40) : Ev (fun k => sync_Watch_Knows_v1.f k y0 ws) (setW y0 (best y0.2.2.2.2.2.1 ws)) := by
  have h := (knows_loop_v1 ws.length hl 0 ws [] y0 hg hy rfl).ev
  unfold sync_Watch_Knows_v1.f sync_Watch_Knows_v1.tree
  exact Ev.bind h (Ev.const fun k => rfl)

end Go.Proofs.Ytjciljaojcekeaa.Sx
