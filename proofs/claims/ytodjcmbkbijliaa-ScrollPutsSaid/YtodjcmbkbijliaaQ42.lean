/- The document's counts; what the laws on the scroll begin with. -/
import Derived.Test.YtodjcmbkbijliaaQ41
namespace Go.Proofs.Ytodjcmbkbijliaa.Sy
open Go
set_option linter.unusedVariables false
set_option linter.unusedSimpArgs false

def cntPair : Option (Int × Nat) → Int × Int
  | some (v, u) => (v, (u : Int))
  | none => (0, 0)

theorem rc_tail (k : Nat) (b : Int) (r : List Int) (most W1 : Int) (w W : Nat) (least : Int) (hk : 8 < k) (hb : byteL r) (hw : w ≤ 8) (e1 : W1 = (w : Int) + 1) (e2 : W = w + 1)
    (hc : ∀ v, 0 ≤ v → v < 256 ^ w → v < 9223372036854775808 → (cntB v = b :: num w v ↔ least ≤ v)) :
    (bif (decide (((List.length (b :: r)) : Int) < W1)) then some ((0 : Int), (0 : Int)) else (bif (decide (W1 ≤ ((List.length (b :: r)) : Int))) then (Option.bind (trailheadref05_Back.f k (List.drop 1 (List.take W (b :: r)))) (fun r1 => (bif (!r1.2) then some ((0 : Int), (0 : Int)) else (bif (decide (r1.1 > most)) then some ((0 : Int), (0 : Int)) else (Option.bind (trailheadref05_Count.f k r1.1) (fun r2 => (bif (decide (W1 ≤ ((List.length (b :: r)) : Int))) then (bif (!(decide (r2 = (List.take W (b :: r))))) then some ((0 : Int), (0 : Int)) else some (r1.1, W1)) else none))))))) else none))
      = some (cntPair (cw r w least most)) := by
  subst e1 e2
  unfold cw
  rw [List.length_cons]
  by_cases hl : r.length < w
  · rw [dt (by omega), if_pos hl]; rfl
  rw [df (by omega), dt (by omega), if_neg hl, List.take_succ_cons, List.drop_succ_cons, List.drop_zero]
  simp only [cond_true, cond_false]
  have hlen : (r.take w).length = w := List.length_take_of_le (by omega)
  have hbt := byteL_take w hb
  rw [rback_eq k _ (by omega) hbt hk]
  have hlt := val_lt _ hbt
  have h0 := val_nonneg _ hbt
  have hnv := num_val _ hbt
  rw [hlen] at hlt hnv
  simp only [Option.bind_some]
  by_cases hv : val (r.take w) < 9223372036854775808
  · rw [dt hv, i64_id (by omega) (by omega)]
    simp only [Bool.not_true, cond_false]
    by_cases hm : val (r.take w) > most
    · rw [dt hm, if_pos (.inr (.inl hm))]; rfl
    · rw [df hm, cond_false, rcount_eq k _ hk]
      simp only [Option.bind_some]
      have := hc _ h0 hlt hv
      rw [hnv] at this
      by_cases hle : least ≤ val (r.take w)
      · rw [dt (this.2 hle), if_neg (by omega)]; rfl
      · rw [df (fun h => hle (this.1 h)), if_pos (by omega)]; rfl
  · rw [df hv, if_pos (by omega)]; rfl

theorem cnt_2 (v : Int) (h0 : 0 ≤ v) (h : v < 256 ^ 2) : cntB v = 253 :: num 2 v ↔ 253 ≤ v := by
  unfold cntB
  constructor
  · intro e
    by_cases h1 : v < 253
    · rw [if_neg (by omega), if_pos h1] at e
      have := congrArg List.length e
      simp at this
    · omega
  · intro h1; rw [if_neg (by omega), if_neg (by omega), if_pos (by omega)]

theorem cnt_4 (v : Int) (h0 : 0 ≤ v) (h : v < 256 ^ 4) : cntB v = 254 :: num 4 v ↔ 65536 ≤ v := by
  unfold cntB
  constructor
  · intro e
    by_cases h1 : v < 65536
    · rw [if_neg (by omega)] at e
      split at e
      · have := congrArg List.length e; simp at this
      · have := congrArg List.length e; simp [h1] at this
    · omega
  · intro h1; rw [if_neg (by omega), if_neg (by omega), if_neg (by omega), if_pos (by omega)]

theorem cnt_8 (v : Int) (h0 : 0 ≤ v) (h : v < 9223372036854775808) : cntB v = 255 :: num 8 v ↔ 4294967296 ≤ v := by
  unfold cntB
  constructor
  · intro e
    by_cases h1 : v < 4294967296
    · rw [if_neg (by omega)] at e
      split at e
      · have := congrArg List.length e; simp at this
      · split at e
        · have := congrArg List.length e; simp at this
        · have := congrArg List.length e; simp [h1] at this
    · omega
  · intro h1; rw [if_neg (by omega), if_neg (by omega), if_neg (by omega), if_neg (by omega)]

theorem rcounted_eq (k : Nat) (most : Int) (t : List Int) (hk : 8 < k) (hb : byteL t) : trailheadref05_Counted.f k t most = some (cntPair (counted t most)) := by
  cases t with
  | nil => rfl
  | cons b r =>
    have hb' := byteL_cons.1 hb
    have hne : ((List.length (b :: r) : Int) == 0) = false := beqf (by rw [List.length_cons]; omega)
    have hlt : decide (0 < (List.length (b :: r) : Int)) = true := dt (by rw [List.length_cons]; omega)
    unfold trailheadref05_Counted.f trailheadref05_Counted.tree
    simp only [hne, hlt, cond_true, cond_false, List.getD_cons_zero]
    by_cases h1 : b = 253
    · subst h1
      have c0 : ((253 : Int) == 253) = true := rfl
      have c1 : ((253 : Int) == 254) = false := rfl
      have c2 : ((253 : Int) == 255) = false := rfl
      simp only [c0, c1, c2, cond_true, cond_false]
      rw [rc_tail k 253 r most 3 2 3 253 hk hb'.2 (by omega) rfl rfl (fun v h0 h _ => cnt_2 v h0 h)]
      rfl
    have n1 : (b == 253) = false := beqf h1
    by_cases h2 : b = 254
    · subst h2
      have c0 : ((254 : Int) == 253) = false := rfl
      have c1 : ((254 : Int) == 254) = true := rfl
      have c2 : ((254 : Int) == 255) = false := rfl
      simp only [c0, c1, c2, cond_true, cond_false]
      rw [rc_tail k 254 r most 5 4 5 65536 hk hb'.2 (by omega) rfl rfl (fun v h0 h _ => cnt_4 v h0 h)]
      rfl
    have n2 : (b == 254) = false := beqf h2
    by_cases h3 : b = 255
    · subst h3
      have c0 : ((255 : Int) == 253) = false := rfl
      have c1 : ((255 : Int) == 254) = false := rfl
      have c2 : ((255 : Int) == 255) = true := rfl
      simp only [c0, c1, c2, cond_true, cond_false]
      rw [rc_tail k 255 r most 9 8 9 4294967296 hk hb'.2 (by omega) rfl rfl (fun v h0 _ h => cnt_8 v h0 h)]
      rfl
    have n3 : (b == 255) = false := beqf h3
    simp only [n1, n2, n3, cond_false]
    have hw : IntKind.wrap .i64 b = b := i64_id (by omega) (by omega)
    rw [hw]
    simp only [counted, if_neg h1, if_neg h2, if_neg h3]
    by_cases h4 : b > most
    · rw [dt h4, if_pos h4]; rfl
    rw [df h4, if_neg h4, cond_false, rcount_eq k b hk]
    simp only [Option.bind_some]
    have hc : cntB b = [b] := by
      unfold cntB; rw [if_neg (by omega), if_pos (by omega), num1_lit b (by omega) (by omega)]
    rw [hc, dt (by simp; omega), dt (by rfl)]
    rfl

theorem alive05 (k : Nat) (hk : 8 < k) : trailheadlaw05_alive.f k = some true := by
  unfold trailheadlaw05_alive.f trailheadlaw05_alive.tree
  rw [count0_eq k 253 hk]
  rfl

theorem done_eq (k : Nat) (t : List Int) : scroll_Eye_Done.f k (t, false) = some (decide (t = [])) := rfl
theorem done_bad (k : Nat) (t : List Int) : scroll_Eye_Done.f k (t, true) = some false := rfl

theorem cnt_byteL (n : Int) : byteL (cntB n) := by
  unfold cntB
  split
  · exact byteL_cons.2 ⟨by omega, byteL_nil⟩
  split
  · exact num_byteL _ _
  split
  · exact byteL_cons.2 ⟨by omega, num_byteL _ _⟩
  split <;> exact byteL_cons.2 ⟨by omega, num_byteL _ _⟩

theorem mxI_max (a b : Int) : mxI a b = max a b := by unfold mxI; split <;> omega

end Go.Proofs.Ytodjcmbkbijliaa.Sy
