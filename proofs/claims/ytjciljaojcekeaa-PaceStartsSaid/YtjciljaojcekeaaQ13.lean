
/- The reference's Move; WholeMoves. -/
import Derived.Test.YtjciljaojcekeaaQ12
namespace Go.Proofs.Ytjciljaojcekeaa.Sx
open Go
set_option linter.unusedVariables false
set_option linter.unusedSimpArgs false
set_option maxRecDepth 100000

theorem words_up (s n0 n1 n2 n3 : Nat) (hs : s < 64) (h0 : n0 < 2 ^ 64) (h1 : n1 < 2 ^ 64) (h2 : n2 < 2 ^ 64) (h3 : n3 < 2 ^ 64) :
    [((loW s n0 : Nat) : Int), ((loW s n1 + hiW s n0 : Nat) : Int), ((loW s n2 + hiW s n1 : Nat) : Int), ((loW s n3 + hiW s n2 : Nat) : Int)] = toNum (vN [(n0 : Int), (n1 : Int), (n2 : Int), (n3 : Int)] * 2 ^ s) := by
  have l0 := loW_le s n0 hs
  have l1 := loW_le s n1 hs
  have l2 := loW_le s n2 hs
  have l3 := loW_le s n3 hs
  have g0 := hiW_lt s n0 hs h0
  have g1 := hiW_lt s n1 hs h1
  have g2 := hiW_lt s n2 hs h2
  have t0 := split_up s n0 hs
  have t1 := split_up s n1 hs
  have t2 := split_up s n2 hs
  have t3 := split_up s n3 hs
  have hpp := Nat.two_pow_pos s
  rw [vN4, mulp]
  refine toNum_of (good4 (by omega) (by omega) (by omega) (by omega)) ?_
  rw [vN4]; omega

theorem words_down (s n0 n1 n2 n3 : Nat) (hs : s < 64) (h0 : n0 < 2 ^ 64) (h1 : n1 < 2 ^ 64) (h2 : n2 < 2 ^ 64) (h3 : n3 < 2 ^ 64) :
    [((dnW s n0 n1 : Nat) : Int), ((dnW s n1 n2 : Nat) : Int), ((dnW s n2 n3 : Nat) : Int), ((dnW s n3 0 : Nat) : Int)] = toNum (vN [(n0 : Int), (n1 : Int), (n2 : Int), (n3 : Int)] / 2 ^ s) := by
  have c0 := dnW_lt s n0 n1 hs h0
  have c1 := dnW_lt s n1 n2 hs h1
  have c2 := dnW_lt s n2 n3 hs h2
  have c3 := dnW_lt s n3 0 hs h3
  refine toNum_of (good4 c0 c1 c2 c3) ?_
  rw [vN4, vN4, downV s n0 n1 n2 n3 hs]; omega

theorem add_u64 (x y : Nat) (h : x + y < 2 ^ 64) : addI .u64 (x : Int) (y : Int) = ((x + y : Nat) : Int) := by
  unfold addI; rw [wrap_u64 (by omega) (by omega)]; omega

theorem getN0 (x : Nat) : List.getD (toNum x) 0 0 = ((x % 2 ^ 64 : Nat) : Int) := rfl
theorem getN1 (x : Nat) : List.getD (toNum x) 1 0 = ((x / 2 ^ 64 % 2 ^ 64 : Nat) : Int) := rfl
theorem getN2 (x : Nat) : List.getD (toNum x) 2 0 = ((x / 2 ^ 128 % 2 ^ 64 : Nat) : Int) := rfl
theorem getN3 (x : Nat) : List.getD (toNum x) 3 0 = ((x / 2 ^ 192 % 2 ^ 64 : Nat) : Int) := rfl

theorem word_upN (x : Nat) : [0, List.getD (toNum x) 0 0, List.getD (toNum x) 1 0, List.getD (toNum x) 2 0] = toNum (x * 2 ^ 64) := by
  rw [getN0, getN1, getN2, show (0 : Int) = ((0 : Nat) : Int) from rfl]
  refine toNum_of (good4 (by omega) (Nat.mod_lt _ (by omega)) (Nat.mod_lt _ (by omega)) (Nat.mod_lt _ (by omega))) ?_
  rw [vN4]; omega

theorem word_downN (x : Nat) (hx : x < 2 ^ 256) : [List.getD (toNum x) 1 0, List.getD (toNum x) 2 0, List.getD (toNum x) 3 0, 0] = toNum (x / 2 ^ 64) := by
  rw [getN1, getN2, getN3, show (0 : Int) = ((0 : Nat) : Int) from rfl]
  refine toNum_of (good4 (Nat.mod_lt _ (by omega)) (Nat.mod_lt _ (by omega)) (Nat.mod_lt _ (by omega)) (by omega)) ?_
  rw [vN4]; omega

theorem move_l0 (y y' : List Int) (s : Nat) (hs : s < 64) : ∀ w x : Nat, w < 4 → Ev2 (fun k n => trailheadref02_Move.l0.f k y y' n ((64 * w + s : Nat) : Int) (toNum x)) ((s : Int), toNum (x * 2 ^ (64 * w)))
  | 0, x, _ => by
    refine Ev2.succ (G := fun k n => some ((s : Int), toNum (x * 2 ^ (64 * 0)))) (fun k n => ?_) (Ev2.const fun _ _ => rfl)
    simp only [trailheadref02_Move.l0.f, trailheadref02_Move.l0.go, trailheadref02_Move.l0.step]
    rw [decide_eq_false (by omega), show 64 * 0 + s = s by omega, show x * 2 ^ (64 * 0) = x by simp]; rfl
  | w + 1, x, hw => by
    have ih := move_l0 y y' s hs w (x * 2 ^ 64) (by omega)
    rw [show x * 2 ^ 64 * 2 ^ (64 * w) = x * 2 ^ (64 * (w + 1)) by rw [Nat.mul_assoc, ← Nat.pow_add]; congr 2; omega] at ih
    refine Ev2.succ (G := fun k n => trailheadref02_Move.l0.f k y y' n ((64 * w + s : Nat) : Int) (toNum (x * 2 ^ 64))) (fun k n => ?_) ih
    simp only [trailheadref02_Move.l0.f, trailheadref02_Move.l0.go, trailheadref02_Move.l0.step]
    have e : subI .i64 ((64 * (w + 1) + s : Nat) : Int) 64 = ((64 * w + s : Nat) : Int) := by
      unfold subI; rw [wrap_i64 (by omega) (by omega)]; omega
    rw [decide_eq_true (by omega), e, word_upN]; rfl

theorem move_l0_skip (y y' a : List Int) (x : Int) (hx : x < 64) : Ev2 (fun k n => trailheadref02_Move.l0.f k y y' n x a) (x, a) := by
  refine Ev2.succ (G := fun k n => some (x, a)) (fun k n => ?_) (Ev2.const fun _ _ => rfl)
  simp only [trailheadref02_Move.l0.f, trailheadref02_Move.l0.go, trailheadref02_Move.l0.step]
  rw [decide_eq_false (by omega)]; rfl

theorem move_l2_skip (y y' a : List Int) (x : Int) (hx : -64 < x) : Ev2 (fun k n => trailheadref02_Move.l2.f k y y' n x a) (x, a) := by
  refine Ev2.succ (G := fun k n => some (x, a)) (fun k n => ?_) (Ev2.const fun _ _ => rfl)
  simp only [trailheadref02_Move.l2.f, trailheadref02_Move.l2.go, trailheadref02_Move.l2.step]
  rw [decide_eq_false (by omega)]; rfl

theorem move_l2 (y y' : List Int) (s : Nat) (hs : s < 64) : ∀ w x : Nat, w < 4 → x < 2 ^ 256 → Ev2 (fun k n => trailheadref02_Move.l2.f k y y' n (-((64 * w + s : Nat) : Int)) (toNum x)) (-(s : Int), toNum (x / 2 ^ (64 * w)))
  | 0, x, _, _ => by
    refine Ev2.succ (G := fun k n => some (-(s : Int), toNum (x / 2 ^ (64 * 0)))) (fun k n => ?_) (Ev2.const fun _ _ => rfl)
    simp only [trailheadref02_Move.l2.f, trailheadref02_Move.l2.go, trailheadref02_Move.l2.step]
    rw [decide_eq_false (by omega), show 64 * 0 + s = s by omega, show x / 2 ^ (64 * 0) = x by simp]; rfl
  | w + 1, x, hw, hx => by
    have ih := move_l2 y y' s hs w (x / 2 ^ 64) (by omega) (by omega)
    rw [show x / 2 ^ 64 / 2 ^ (64 * w) = x / 2 ^ (64 * (w + 1)) by rw [Nat.div_div_eq_div_mul, ← Nat.pow_add]; congr 2; omega] at ih
    refine Ev2.succ (G := fun k n => trailheadref02_Move.l2.f k y y' n (-((64 * w + s : Nat) : Int)) (toNum (x / 2 ^ 64))) (fun k n => ?_) ih
    simp only [trailheadref02_Move.l2.f, trailheadref02_Move.l2.go, trailheadref02_Move.l2.step]
    have e : addI .i64 (-((64 * (w + 1) + s : Nat) : Int)) 64 = -((64 * w + s : Nat) : Int) := by
      unfold addI; rw [wrap_i64 (by omega) (by omega)]; omega
    rw [decide_eq_true (by omega), e, word_downN x hx]; rfl

section
variable {X : Type} (K G : Int → List Int → Option X) (k m : Nat) (s : Int) (a0 a1 a2 a3 z0 z1 z2 z3 : Int) (y : List Int)

section
variable (h : decide (s > 0) = true) (h' : decide (IntKind.wrap .u64 s < 0) = false) (h2 : decide (IntKind.wrap .u64 (subI .i64 64 s) < 0) = false)
include h h'
theorem mvP0 : trailheadref02_Move.l4.step K G k s [a0, a1, a2, a3] y 0 [z0, z1, z2, z3] = G 1 [shlI .u64 a0 (IntKind.wrap .u64 s), z1, z2, z3] := by
  simp only [trailheadref02_Move.l4.step, h, h', cond_true, cond_false]; kernel_rfl
include h2
theorem mvP1 : trailheadref02_Move.l4.step K G k s [a0, a1, a2, a3] y 1 [z0, z1, z2, z3] = G 2 [z0, addI .u64 (shlI .u64 a1 (IntKind.wrap .u64 s)) (shrI .u64 a0 (IntKind.wrap .u64 (subI .i64 64 s))), z2, z3] := by
  simp only [trailheadref02_Move.l4.step, h, h', h2, cond_true, cond_false]; kernel_rfl
theorem mvP2 : trailheadref02_Move.l4.step K G k s [a0, a1, a2, a3] y 2 [z0, z1, z2, z3] = G 3 [z0, z1, addI .u64 (shlI .u64 a2 (IntKind.wrap .u64 s)) (shrI .u64 a1 (IntKind.wrap .u64 (subI .i64 64 s))), z3] := by
  simp only [trailheadref02_Move.l4.step, h, h', h2, cond_true, cond_false]; kernel_rfl
theorem mvP3 : trailheadref02_Move.l4.step K G k s [a0, a1, a2, a3] y 3 [z0, z1, z2, z3] = G 4 [z0, z1, z2, addI .u64 (shlI .u64 a3 (IntKind.wrap .u64 s)) (shrI .u64 a2 (IntKind.wrap .u64 (subI .i64 64 s)))] := by
  simp only [trailheadref02_Move.l4.step, h, h', h2, cond_true, cond_false]; kernel_rfl
end
theorem mv4 (x : List Int) : trailheadref02_Move.l4.step K G k s x y 4 [z0, z1, z2, z3] = K 4 [z0, z1, z2, z3] := by kernel_rfl

section
variable (h : decide (s > 0) = false) (h' : decide (IntKind.wrap .u64 (subI .i64 0 s) < 0) = false) (h2 : decide (IntKind.wrap .u64 (addI .i64 64 s) < 0) = false)
include h h'
theorem mvN3 : trailheadref02_Move.l4.step K G k s [a0, a1, a2, a3] y 3 [z0, z1, z2, z3] = G 4 [z0, z1, z2, shrI .u64 a3 (IntKind.wrap .u64 (subI .i64 0 s))] := by
  simp only [trailheadref02_Move.l4.step, h, h', cond_true, cond_false]; kernel_rfl
include h2
theorem mvN0 : trailheadref02_Move.l4.step K G k s [a0, a1, a2, a3] y 0 [z0, z1, z2, z3] = G 1 [addI .u64 (shrI .u64 a0 (IntKind.wrap .u64 (subI .i64 0 s))) (shlI .u64 a1 (IntKind.wrap .u64 (addI .i64 64 s))), z1, z2, z3] := by
  simp only [trailheadref02_Move.l4.step, h, h', h2, cond_true, cond_false]; kernel_rfl
theorem mvN1 : trailheadref02_Move.l4.step K G k s [a0, a1, a2, a3] y 1 [z0, z1, z2, z3] = G 2 [z0, addI .u64 (shrI .u64 a1 (IntKind.wrap .u64 (subI .i64 0 s))) (shlI .u64 a2 (IntKind.wrap .u64 (addI .i64 64 s))), z2, z3] := by
  simp only [trailheadref02_Move.l4.step, h, h', h2, cond_true, cond_false]; kernel_rfl
theorem mvN2 : trailheadref02_Move.l4.step K G k s [a0, a1, a2, a3] y 2 [z0, z1, z2, z3] = G 3 [z0, z1, addI .u64 (shrI .u64 a2 (IntKind.wrap .u64 (subI .i64 0 s))) (shlI .u64 a3 (IntKind.wrap .u64 (addI .i64 64 s))), z3] := by
  simp only [trailheadref02_Move.l4.step, h, h', h2, cond_true, cond_false]; kernel_rfl
end
end

section
variable (k m : Nat) (s : Int) (a0 a1 a2 a3 : Int) (y : List Int)

theorem move_runP (h : decide (s > 0) = true) (h' : decide (IntKind.wrap .u64 s < 0) = false) (h2 : decide (IntKind.wrap .u64 (subI .i64 64 s) < 0) = false) :
    trailheadref02_Move.l4.f k s [a0, a1, a2, a3] y (m + 6) 0 [0, 0, 0, 0] = some (4, [shlI .u64 a0 (IntKind.wrap .u64 s), addI .u64 (shlI .u64 a1 (IntKind.wrap .u64 s)) (shrI .u64 a0 (IntKind.wrap .u64 (subI .i64 64 s))),
      addI .u64 (shlI .u64 a2 (IntKind.wrap .u64 s)) (shrI .u64 a1 (IntKind.wrap .u64 (subI .i64 64 s))), addI .u64 (shlI .u64 a3 (IntKind.wrap .u64 s)) (shrI .u64 a2 (IntKind.wrap .u64 (subI .i64 64 s)))]) := by
  rw [trailheadref02_Move.l4.f, trailheadref02_Move.l4.go, mvP0 _ _ _ _ _ _ _ _ _ _ _ _ _ h h', trailheadref02_Move.l4.go, mvP1 _ _ _ _ _ _ _ _ _ _ _ _ _ h h' h2, trailheadref02_Move.l4.go, mvP2 _ _ _ _ _ _ _ _ _ _ _ _ _ h h' h2,
    trailheadref02_Move.l4.go, mvP3 _ _ _ _ _ _ _ _ _ _ _ _ _ h h' h2, trailheadref02_Move.l4.go, mv4]

theorem move_runN (h : decide (s > 0) = false) (h' : decide (IntKind.wrap .u64 (subI .i64 0 s) < 0) = false) (h2 : decide (IntKind.wrap .u64 (addI .i64 64 s) < 0) = false) :
    trailheadref02_Move.l4.f k s [a0, a1, a2, a3] y (m + 6) 0 [0, 0, 0, 0] = some (4, [addI .u64 (shrI .u64 a0 (IntKind.wrap .u64 (subI .i64 0 s))) (shlI .u64 a1 (IntKind.wrap .u64 (addI .i64 64 s))),
      addI .u64 (shrI .u64 a1 (IntKind.wrap .u64 (subI .i64 0 s))) (shlI .u64 a2 (IntKind.wrap .u64 (addI .i64 64 s))), addI .u64 (shrI .u64 a2 (IntKind.wrap .u64 (subI .i64 0 s))) (shlI .u64 a3 (IntKind.wrap .u64 (addI .i64 64 s))),
      shrI .u64 a3 (IntKind.wrap .u64 (subI .i64 0 s))]) := by
  rw [trailheadref02_Move.l4.f, trailheadref02_Move.l4.go, mvN0 _ _ _ _ _ _ _ _ _ _ _ _ _ h h' h2, trailheadref02_Move.l4.go, mvN1 _ _ _ _ _ _ _ _ _ _ _ _ _ h h' h2, trailheadref02_Move.l4.go, mvN2 _ _ _ _ _ _ _ _ _ _ _ _ _ h h' h2,
    trailheadref02_Move.l4.go, mvN3 _ _ _ _ _ _ _ _ _ _ _ _ _ h h', trailheadref02_Move.l4.go, mv4]
end

theorem move_up_ev {a : List Int} (ha : goodT numT a) (n : Nat) : Ev (fun k => trailheadref02_Move.f k a (n : Int)) (toNum (vN a * 2 ^ n)) := by
  unfold trailheadref02_Move.f trailheadref02_Move.tree
  rw [decide_eq_false (show ¬ (n : Int) ≤ -256 by omega)]
  simp only [cond_false]
  by_cases hn : n < 256
  · rw [decide_eq_false (show ¬ (n : Int) ≥ 256 by omega)]
    simp only [cond_false]
    have hs : n % 64 < 64 := by omega
    have en : n = 64 * (n / 64) + n % 64 := by omega
    have e1 : vN a * 2 ^ n = vN a * 2 ^ (64 * (n / 64)) * 2 ^ (n % 64) := by
      conv => lhs; rw [en, pow_words]
      rw [Nat.mul_assoc]
    have m0 := (move_l0 [0, 0, 0, 0] [0, 0, 0, 0] (n % 64) hs (n / 64) (vN a) (by omega)).ev
    rw [← en, toNum_vN ha] at m0
    refine Ev.bind m0 ?_
    refine Ev.bind (move_l2_skip _ _ _ _ (by omega)).ev ?_
    rw [e1]
    obtain ⟨n0, n1, n2, n3, ex, h0, h1, h2, h3⟩ := num4 (toNum_good (vN a * 2 ^ (64 * (n / 64))))
    generalize hz : vN a * 2 ^ (64 * (n / 64)) = z at *
    by_cases hz0 : n % 64 = 0
    · rw [hz0]; refine Ev.const fun k => ?_
      simp
    · have b : (((n % 64 : Nat) : Int) == 0) = false := by simp; omega
      simp only [b, cond_false]
      refine Ev.bind (v := (4, toNum (z * 2 ^ (n % 64)))) (Ev.of 6 fun m => ?_) (Ev.const fun k => rfl)
      generalize n % 64 = s at *
      have w1 : IntKind.wrap .u64 (s : Int) = (s : Int) := wrap_u64 (by omega) (by omega)
      have w2 : IntKind.wrap .u64 (subI .i64 64 (s : Int)) = ((64 - s : Nat) : Int) := by rw [sub64s s (by omega)]; exact wrap_u64 (by omega) (by omega)
      rw [ex, move_runP _ _ _ _ _ _ _ _ (decide_eq_true (by omega)) (by rw [w1]; exact decide_eq_false (by omega)) (by rw [w2]; exact decide_eq_false (by omega)), w1, w2]
      have g0 := hiW_lt s n0 hs h0
      have g1 := hiW_lt s n1 hs h1
      have g2 := hiW_lt s n2 hs h2
      have l1 := loW_le s n1 hs
      have l2 := loW_le s n2 hs
      have l3 := loW_le s n3 hs
      rw [shl_lo s n0 hs, shl_lo s n1 hs, shl_lo s n2 hs, shl_lo s n3 hs, shr_u64' _ _ (by omega), shr_u64' _ _ (by omega), shr_u64' _ _ (by omega)]
      have f0 : n0 / 2 ^ (64 - s) = hiW s n0 := rfl
      have f1 : n1 / 2 ^ (64 - s) = hiW s n1 := rfl
      have f2 : n2 / 2 ^ (64 - s) = hiW s n2 := rfl
      rw [f0, f1, f2, add_u64 _ _ (by omega), add_u64 _ _ (by omega), add_u64 _ _ (by omega), words_up s n0 n1 n2 n3 hs h0 h1 h2 h3, ← ex]
      have hv := vN_toNum z
      refine congrArg some (Prod.ext rfl (toNum_congr ?_))
      rw [hv, Nat.mod_mul_mod]
  · rw [decide_eq_true (show (n : Int) ≥ 256 by omega)]
    simp only [cond_true]
    refine Ev.const fun k => ?_
    rw [← toNum_zero]
    refine congrArg some (toNum_congr ?_)
    rw [show n = 256 + (n - 256) by omega, Nat.pow_add, Nat.mul_left_comm, Nat.mul_mod_right]

theorem move_down_ev {a : List Int} (ha : goodT numT a) (n : Nat) : Ev (fun k => trailheadref02_Move.f k a (-(n : Int))) (toNum (vN a / 2 ^ n)) := by
  have la := vN_lt ha
  unfold trailheadref02_Move.f trailheadref02_Move.tree
  by_cases hn : n < 256
  · rw [decide_eq_false (show ¬ -(n : Int) ≤ -256 by omega), decide_eq_false (show ¬ -(n : Int) ≥ 256 by omega)]
    simp only [cond_false]
    have hs : n % 64 < 64 := by omega
    have en : n = 64 * (n / 64) + n % 64 := by omega
    have e1 : vN a / 2 ^ n = vN a / 2 ^ (64 * (n / 64)) / 2 ^ (n % 64) := by
      conv => lhs; rw [en, pow_words]
      rw [Nat.div_div_eq_div_mul]
    refine Ev.bind (move_l0_skip _ _ _ _ (by omega)).ev ?_
    have m0 := (move_l2 [0, 0, 0, 0] [0, 0, 0, 0] (n % 64) hs (n / 64) (vN a) (by omega) la).ev
    rw [← en, toNum_vN ha] at m0
    refine Ev.bind m0 ?_
    rw [e1]
    have hzl : vN a / 2 ^ (64 * (n / 64)) < 2 ^ 256 := Nat.lt_of_le_of_lt (Nat.div_le_self _ _) la
    obtain ⟨n0, n1, n2, n3, ex, h0, h1, h2, h3⟩ := num4 (toNum_good (vN a / 2 ^ (64 * (n / 64))))
    generalize hz : vN a / 2 ^ (64 * (n / 64)) = z at *
    by_cases hz0 : n % 64 = 0
    · rw [hz0]; refine Ev.const fun k => ?_
      simp
    · have b : (-((n % 64 : Nat) : Int) == 0) = false := by simp; omega
      simp only [b, cond_false]
      refine Ev.bind (v := (4, toNum (z / 2 ^ (n % 64)))) (Ev.of 6 fun m => ?_) (Ev.const fun k => rfl)
      generalize n % 64 = s at *
      have w1 : IntKind.wrap .u64 (subI .i64 0 (-(s : Int))) = (s : Int) := by
        unfold subI; rw [wrap_i64 (by omega) (by omega), wrap_u64 (by omega) (by omega)]; omega
      have w2 : IntKind.wrap .u64 (addI .i64 64 (-(s : Int))) = ((64 - s : Nat) : Int) := by
        unfold addI; rw [wrap_i64 (by omega) (by omega), wrap_u64 (by omega) (by omega)]; omega
      rw [ex, move_runN _ _ _ _ _ _ _ _ (decide_eq_false (by omega)) (by rw [w1]; exact decide_eq_false (by omega)) (by rw [w2]; exact decide_eq_false (by omega)), w1, w2]
      have wd : ∀ x y : Nat, x < 2 ^ 64 → addI .u64 (shrI .u64 (x : Int) (s : Int)) (shlI .u64 (y : Int) ((64 - s : Nat) : Int)) = ((dnW s x y : Nat) : Int) := fun x y hx => by
        have hlt := dnW_lt s x y hs hx
        rw [shr_u64' _ _ (by omega), shl_u64 _ _ (by omega)]
        have e : y * 2 ^ (64 - s) % 2 ^ 64 = 2 ^ (64 - s) * (y % 2 ^ s) := by rw [← pq' s hs, Nat.mul_comm y, Nat.mul_mod_mul_left]
        rw [e, add_u64 _ _ (by unfold dnW at hlt; exact hlt)]
        rfl
      rw [wd n0 n1 h0, wd n1 n2 h1, wd n2 n3 h2, shr_u64' _ _ (by omega), top_down s n3, words_down s n0 n1 n2 n3 hs h0 h1 h2 h3, ← ex]
      rw [vN_toNum_lt hzl]
  · rw [decide_eq_true (show -(n : Int) ≤ -256 by omega)]
    simp only [cond_true]
    refine Ev.const fun k => ?_
    rw [← toNum_zero]
    have : 2 ^ 256 ≤ 2 ^ n := Nat.pow_le_pow_right (by omega) (by omega)
    rw [Nat.div_eq_of_lt (by omega)]

end Go.Proofs.Ytjciljaojcekeaa.Sx
