
/- The statements of chapter 03. -/
import Derived.Test.YtjciljaojcekeaaQ21
namespace Go.Proofs.Ytjciljaojcekeaa.Sx
open Go
set_option linter.unusedVariables false
set_option linter.unusedSimpArgs false
set_option maxRecDepth 100000

/-! ### Targets -/

/-- Target: the target, and whether it may be. -/
def tgt (b l : Int) : Nat × Bool :=
  if (dAll b).2.1 = false ∧ (dAll b).2.2 = false ∧ (dAll l).2.1 = false ∧ (dAll l).2.2 = false ∧ (dAll b).1 ≠ 0 ∧ (dAll b).1 ≤ (dAll l).1 then ((dAll b).1, true) else (0, false)

theorem tgt_lt (b l : Int) : (tgt b l).1 < 2 ^ 256 := by
  unfold tgt; split
  · exact dAll_lt b
  · simp

theorem target_ev (b l : Int) : Ev (fun k => compact_Target.f k b l) (toNum (tgt b l).1, (tgt b l).2) := by
  unfold compact_Target.f compact_Target.tree
  refine Ev.bind (decA b) (Ev.bind (decA l) ?_)
  unfold tgt
  have hb := dAll_lt b
  have hl := dAll_lt l
  generalize dAll b = p at *
  generalize dAll l = q at *
  obtain ⟨x, xl, xh⟩ := p
  obtain ⟨y, yl, yh⟩ := q
  simp only at hb hl ⊢
  cases xl
  case true => exact Ev.const fun k => by simp [zeroNum]
  cases xh
  case true => exact Ev.const fun k => by simp [zeroNum]
  cases yl
  case true => exact Ev.const fun k => by simp [zeroNum]
  cases yh
  case true => exact Ev.const fun k => by simp [zeroNum]
  simp only [cond_false]
  refine Ev.bind (zero_ev hb) ?_
  by_cases h0 : x = 0
  · subst h0; exact Ev.const fun k => by simp [zeroNum]
  rw [decide_eq_false h0]
  simp only [cond_false]
  refine Ev.bind (less_num hl hb) (Ev.const fun k => ?_)
  by_cases hc : y < x
  · rw [decide_eq_true hc]
    simp only [cond_true]
    rw [if_neg (by omega), zeroNum]
  · rw [decide_eq_false hc]
    simp only [cond_false]
    rw [if_pos ⟨trivial, trivial, trivial, trivial, h0, by omega⟩]

theorem reftarget_ev (b l : Int) : Ev (fun k => trailheadref03_Target.f k b l) (toNum (tgt b l).1, (tgt b l).2) := by
  unfold trailheadref03_Target.f trailheadref03_Target.tree
  refine Ev.bind (refdecA b) (Ev.bind (refdecA l) ?_)
  unfold tgt
  have hb := dAll_lt b
  have hl := dAll_lt l
  generalize dAll b = p at *
  generalize dAll l = q at *
  obtain ⟨x, xl, xh⟩ := p
  obtain ⟨y, yl, yh⟩ := q
  simp only at hb hl ⊢
  cases xl
  case true => exact Ev.const fun k => by simp [zeroNum]
  cases xh
  case true => exact Ev.const fun k => by simp [zeroNum]
  cases yl
  case true => exact Ev.const fun k => by simp [zeroNum]
  cases yh
  case true => exact Ev.const fun k => by simp [zeroNum]
  simp only [cond_false]
  rw [zeroNum, toNum_eq hb (by omega)]
  by_cases h0 : x = 0
  · subst h0; exact Ev.const fun k => by simp [zeroNum]
  rw [decide_eq_false h0]
  simp only [cond_false]
  refine Ev.bind (refless_num hl hb) (Ev.const fun k => ?_)
  by_cases hc : y < x
  · rw [decide_eq_true hc]
    simp only [cond_true]
    rw [if_neg (by omega)]
  · rw [decide_eq_false hc]
    simp only [cond_false]
    rw [if_pos ⟨trivial, trivial, trivial, trivial, h0, by omega⟩]

/-! ### Names as numbers -/

theorem number_loop {x : Nat} (hx : x < 2 ^ 256) (z : List Int) : ∀ i : Nat, i ≤ 32 →
    Ev2 (fun k n => trailheadref03_Number.l0.f k (bytesOf 32 x) z n ((i : Int) - 1) (toNum (x / 256 ^ i))) (-1, toNum x)
  | 0, _ => by
    refine Ev2.succ (G := fun k n => some (-1, toNum x)) (fun k n => ?_) (Ev2.const fun _ _ => rfl)
    simp only [trailheadref03_Number.l0.f, trailheadref03_Number.l0.go, trailheadref03_Number.l0.step]
    rw [decide_eq_false (by omega), Nat.pow_zero, Nat.div_one]; rfl
  | i + 1, hi => by
    have ih := number_loop hx z i (by omega)
    have e1 : ((i + 1 : Nat) : Int) - 1 = (i : Int) := by omega
    refine Ev2.succ (G := fun k n => Option.bind (trailheadref02_Move.f k (toNum (x / 256 ^ (i + 1))) 8) (fun r1 =>
      trailheadref03_Number.l0.f k (bytesOf 32 x) z n ((i : Int) - 1) (List.set r1 0 (addI .u64 (List.getD r1 0 0) ((x / 256 ^ i % 256 : Nat) : Int))))) (fun k n => ?_) ?_
    · simp only [trailheadref03_Number.l0.f, trailheadref03_Number.l0.go, trailheadref03_Number.l0.step, e1]
      rw [decide_eq_true (show (i : Int) ≥ 0 by omega), decide_eq_true (show (i : Int) < 32 by omega), Int.toNat_natCast, decide_eq_true (show i < 32 by omega), subI_one (i := (i : Int)) (by omega) (by omega), bytesOf_getD 32 x i (by omega),
        wrap_u64 (n := ((x / 256 ^ i % 256 : Nat) : Int)) (by omega) (by omega)]
      rfl
    refine Ev2.bind (moveup_num _ 8) ?_
    have ex : x / 256 ^ (i + 1) * 2 ^ 8 + x / 256 ^ i % 256 = x / 256 ^ i := by
      rw [Nat.pow_succ, ← Nat.div_div_eq_div_mul]; omega
    have hle := Nat.div_le_self x (256 ^ i)
    have e2 : ∀ y b : Nat, b < 256 → List.set (toNum (y * 2 ^ 8)) 0 (addI .u64 (List.getD (toNum (y * 2 ^ 8)) 0 0) (b : Int)) = toNum (y * 2 ^ 8 + b) := fun y b hb' => by
      rw [getN0, add_u64 _ _ (by omega)]
      show [((y * 2 ^ 8 % 2 ^ 64 + b : Nat) : Int), ((y * 2 ^ 8 / 2 ^ 64 % 2 ^ 64 : Nat) : Int), ((y * 2 ^ 8 / 2 ^ 128 % 2 ^ 64 : Nat) : Int), ((y * 2 ^ 8 / 2 ^ 192 % 2 ^ 64 : Nat) : Int)] = _
      refine toNum_of (good4 (by omega) (Nat.mod_lt _ (by omega)) (Nat.mod_lt _ (by omega)) (Nat.mod_lt _ (by omega))) ?_
      rw [vN4]; omega
    rw [e2 _ _ (Nat.mod_lt _ (by omega)), ex]
    exact ih

theorem number_ev {x : Nat} (hx : x < 2 ^ 256) : Ev (fun k => trailheadref03_Number.f k (bytesOf 32 x)) (toNum x) := by
  unfold trailheadref03_Number.f trailheadref03_Number.tree
  have h := (number_loop hx [0, 0, 0, 0] 32 (by omega)).ev
  rw [Nat.div_eq_of_lt (by omega)] at h
  exact Ev.bind h (Ev.const fun k => rfl)

theorem meets_ev {x a : Nat} (hx : x < 2 ^ 256) (ha : a < 2 ^ 256) : Ev (fun k => compact_Meets.f k (bytesOf 32 x) (toNum a)) (!decide (a < x)) := by
  unfold compact_Meets.f compact_Meets.tree
  exact Ev.bind (from_ev hx) (Ev.bind (less_num ha hx) (Ev.const fun k => rfl))

/-! ### There and back -/

end Go.Proofs.Ytjciljaojcekeaa.Sx
