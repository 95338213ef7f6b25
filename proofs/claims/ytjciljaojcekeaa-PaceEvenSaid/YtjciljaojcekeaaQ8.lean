/- Sums and differences of numbers of four words, and the reference's, bit by bit. -/
import Derived.Test.YtjciljaojcekeaaQ5
namespace Go.Proofs.Ytjciljaojcekeaa.Sx
open Go
set_option linter.unusedVariables false
set_option linter.unusedSimpArgs false
set_option maxRecDepth 100000

def toNum (x : Nat) : List Int := [((x % 2 ^ 64 : Nat) : Int), ((x / 2 ^ 64 % 2 ^ 64 : Nat) : Int), ((x / 2 ^ 128 % 2 ^ 64 : Nat) : Int), ((x / 2 ^ 192 % 2 ^ 64 : Nat) : Int)]

theorem toNum_good (x : Nat) : goodT numT (toNum x) := good4 (Nat.mod_lt _ (by omega)) (Nat.mod_lt _ (by omega)) (Nat.mod_lt _ (by omega)) (Nat.mod_lt _ (by omega))

theorem vN_toNum (x : Nat) : vN (toNum x) = x % 2 ^ 256 := by
  unfold toNum; rw [vN4]; omega

theorem vN_toNum_lt {x : Nat} (h : x < 2 ^ 256) : vN (toNum x) = x := by rw [vN_toNum, Nat.mod_eq_of_lt h]

theorem toNum_vN {a : List Int} (ha : goodT numT a) : toNum (vN a) = a := vN_inj (toNum_good _) ha (by rw [vN_toNum, Nat.mod_eq_of_lt (vN_lt ha)])

theorem toNum_of {a : List Int} (ha : goodT numT a) {x : Nat} (h : vN a = x % 2 ^ 256) : a = toNum x := vN_inj ha (toNum_good _) (by rw [vN_toNum, h])

theorem toNum_congr {x y : Nat} (h : x % 2 ^ 256 = y % 2 ^ 256) : toNum x = toNum y := vN_inj (toNum_good _) (toNum_good _) (by rw [vN_toNum, vN_toNum, h])

theorem toNum_zero : toNum 0 = [0, 0, 0, 0] := rfl
theorem toNum_one : toNum 1 = [1, 0, 0, 0] := rfl

/-! ### The program's -/

theorem add64_at (n m c : Nat) (hc : c ≤ 1) : add64 (n : Int) (m : Int) (c : Int) = some ((((n + m + c) % 2 ^ 64 : Nat) : Int), (((n + m + c) / 2 ^ 64 : Nat) : Int)) := by
  unfold add64
  have : (decide ((c : Int) = 0) || decide ((c : Int) = 1)) = true := by
    match c, hc with
    | 0, _ => rfl
    | 1, _ => rfl
  rw [this]
  simp only [cond_true, Int.toNat_natCast]
  rfl

theorem sub64_at (n m c : Nat) (hc : c ≤ 1) : sub64 (n : Int) (m : Int) (c : Int) = some ((((n + 2 ^ 64 - m - c) % 2 ^ 64 : Nat) : Int), ((if n < m + c then 1 else 0 : Nat) : Int)) := by
  unfold sub64
  have : (decide ((c : Int) = 0) || decide ((c : Int) = 1)) = true := by
    match c, hc with
    | 0, _ => rfl
    | 1, _ => rfl
  rw [this]
  simp only [cond_true, Int.toNat_natCast]
  rfl

theorem add_run (m : Nat) (a0 a1 a2 a3 b0 b1 b2 b3 : Int) : whole_Add.f (m + 5) [a0, a1, a2, a3] [b0, b1, b2, b3] =
    Option.bind (add64 a0 b0 0) (fun r0 => Option.bind (add64 a1 b1 r0.2) (fun r1 => Option.bind (add64 a2 b2 r1.2) (fun r2 => Option.bind (add64 a3 b3 r2.2) (fun r3 =>
      some ([r0.1, r1.1, r2.1, r3.1], (r3.2 != (0 : Int))))))) := by
  have key : whole_Add.l0.f (m + 5) false [b0, b1, b2, b3] [0, 0, 0, 0] (m + 5) 0 0 [a0, a1, a2, a3] = Option.bind (add64 a0 b0 0) (fun r0 => Option.bind (add64 a1 b1 r0.2) (fun r1 => Option.bind (add64 a2 b2 r1.2) (fun r2 => Option.bind (add64 a3 b3 r2.2) (fun r3 =>
      some (r3.2, (4, [r0.1, r1.1, r2.1, r3.1])))))) := by kernel_rfl
  unfold whole_Add.f whole_Add.tree
  rw [key]
  simp only [Option.bind_assoc, Option.bind_some]

theorem add_ev {a b : List Int} (ha : goodT numT a) (hb : goodT numT b) : Ev (fun k => whole_Add.f k a b) (toNum (vN a + vN b), decide (2 ^ 256 ≤ vN a + vN b)) := by
  obtain ⟨n0, n1, n2, n3, rfl, h0, h1, h2, h3⟩ := num4 ha
  obtain ⟨m0, m1, m2, m3, rfl, g0, g1, g2, g3⟩ := num4 hb
  refine Ev.of 5 fun m => ?_
  rw [add_run, show (0 : Int) = ((0 : Nat) : Int) from rfl, add64_at _ _ _ (by omega)]
  simp only [Option.bind_some]
  rw [add64_at _ _ _ (by omega)]
  simp only [Option.bind_some]
  rw [add64_at _ _ _ (by omega)]
  simp only [Option.bind_some]
  rw [add64_at _ _ _ (by omega)]
  simp only [Option.bind_some]
  congr 1
  refine Prod.ext ?_ ?_
  · refine toNum_of (good4 (Nat.mod_lt _ (by omega)) (Nat.mod_lt _ (by omega)) (Nat.mod_lt _ (by omega)) (Nat.mod_lt _ (by omega))) ?_
    rw [vN4, vN4, vN4]
    omega
  · rw [vN4, vN4]
    simp only
    generalize hc : (n3 + m3 + (n2 + m2 + (n1 + m1 + (n0 + m0 + 0) / 2 ^ 64) / 2 ^ 64) / 2 ^ 64) / 2 ^ 64 = c
    by_cases hz : c = 0
    · rw [decide_eq_false (by omega), hz]; rfl
    · rw [decide_eq_true (by omega), bne_iff_ne]; omega

theorem sub_run (m : Nat) (a0 a1 a2 a3 b0 b1 b2 b3 : Int) : whole_Sub.f (m + 5) [a0, a1, a2, a3] [b0, b1, b2, b3] =
    Option.bind (sub64 a0 b0 0) (fun r0 => Option.bind (sub64 a1 b1 r0.2) (fun r1 => Option.bind (sub64 a2 b2 r1.2) (fun r2 => Option.bind (sub64 a3 b3 r2.2) (fun r3 =>
      some ([r0.1, r1.1, r2.1, r3.1], (r3.2 != (0 : Int))))))) := by
  have key : whole_Sub.l0.f (m + 5) false [b0, b1, b2, b3] [0, 0, 0, 0] (m + 5) 0 0 [a0, a1, a2, a3] = Option.bind (sub64 a0 b0 0) (fun r0 => Option.bind (sub64 a1 b1 r0.2) (fun r1 => Option.bind (sub64 a2 b2 r1.2) (fun r2 => Option.bind (sub64 a3 b3 r2.2) (fun r3 =>
      some (r3.2, (4, [r0.1, r1.1, r2.1, r3.1])))))) := by kernel_rfl
  unfold whole_Sub.f whole_Sub.tree
  rw [key]
  simp only [Option.bind_assoc, Option.bind_some]

theorem sub_ev {a b : List Int} (ha : goodT numT a) (hb : goodT numT b) : Ev (fun k => whole_Sub.f k a b) (toNum (vN a + 2 ^ 256 - vN b), decide (vN a < vN b)) := by
  obtain ⟨n0, n1, n2, n3, rfl, h0, h1, h2, h3⟩ := num4 ha
  obtain ⟨m0, m1, m2, m3, rfl, g0, g1, g2, g3⟩ := num4 hb
  refine Ev.of 5 fun m => ?_
  rw [sub_run, show (0 : Int) = ((0 : Nat) : Int) from rfl, sub64_at _ _ _ (by omega)]
  simp only [Option.bind_some]
  generalize hc0 : (if n0 < m0 + 0 then 1 else 0 : Nat) = c0
  have k0 : c0 ≤ 1 := by rw [← hc0]; split <;> omega
  rw [sub64_at _ _ _ k0]
  simp only [Option.bind_some]
  generalize hc1 : (if n1 < m1 + c0 then 1 else 0 : Nat) = c1
  have k1 : c1 ≤ 1 := by rw [← hc1]; split <;> omega
  rw [sub64_at _ _ _ k1]
  simp only [Option.bind_some]
  generalize hc2 : (if n2 < m2 + c1 then 1 else 0 : Nat) = c2
  have k2 : c2 ≤ 1 := by rw [← hc2]; split <;> omega
  rw [sub64_at _ _ _ k2]
  simp only [Option.bind_some]
  generalize hc3 : (if n3 < m3 + c2 then 1 else 0 : Nat) = c3
  have k3 : c3 ≤ 1 := by rw [← hc3]; split <;> omega
  have e0 : (n0 + 2 ^ 64 - m0 - 0) % 2 ^ 64 + m0 = n0 + 2 ^ 64 * c0 := by rw [← hc0]; split <;> omega
  have e1 : (n1 + 2 ^ 64 - m1 - c0) % 2 ^ 64 + m1 + c0 = n1 + 2 ^ 64 * c1 := by rw [← hc1]; split <;> omega
  have e2 : (n2 + 2 ^ 64 - m2 - c1) % 2 ^ 64 + m2 + c1 = n2 + 2 ^ 64 * c2 := by rw [← hc2]; split <;> omega
  have e3 : (n3 + 2 ^ 64 - m3 - c2) % 2 ^ 64 + m3 + c2 = n3 + 2 ^ 64 * c3 := by rw [← hc3]; split <;> omega
  have l0 : (n0 + 2 ^ 64 - m0 - 0) % 2 ^ 64 < 2 ^ 64 := Nat.mod_lt _ (by omega)
  have l1 : (n1 + 2 ^ 64 - m1 - c0) % 2 ^ 64 < 2 ^ 64 := Nat.mod_lt _ (by omega)
  have l2 : (n2 + 2 ^ 64 - m2 - c1) % 2 ^ 64 < 2 ^ 64 := Nat.mod_lt _ (by omega)
  have l3 : (n3 + 2 ^ 64 - m3 - c2) % 2 ^ 64 < 2 ^ 64 := Nat.mod_lt _ (by omega)
  generalize (n0 + 2 ^ 64 - m0 - 0) % 2 ^ 64 = d0 at *
  generalize (n1 + 2 ^ 64 - m1 - c0) % 2 ^ 64 = d1 at *
  generalize (n2 + 2 ^ 64 - m2 - c1) % 2 ^ 64 = d2 at *
  generalize (n3 + 2 ^ 64 - m3 - c2) % 2 ^ 64 = d3 at *
  clear hc0 hc1 hc2 hc3
  congr 1
  refine Prod.ext ?_ ?_
  · refine toNum_of (good4 l0 l1 l2 l3) ?_
    rw [vN4, vN4, vN4]
    omega
  · rw [vN4, vN4]
    simp only
    by_cases hz : c3 = 0
    · rw [decide_eq_false (by omega), hz]; rfl
    · rw [decide_eq_true (by omega), bne_iff_ne]; omega

theorem not_u64 (n : Nat) (h : n < 2 ^ 64) : notI .u64 (n : Int) = ((2 ^ 64 - 1 - n : Nat) : Int) := by
  unfold notI xorI
  have e1 : BitVec.ofInt IntKind.u64.bits (if IntKind.u64.signed then -1 else IntKind.u64.max) = BitVec.allOnes 64 := by kernel_rfl
  rw [e1]
  have e2 : BitVec.ofInt IntKind.u64.bits (n : Int) = BitVec.ofNat 64 n := by
    show BitVec.ofInt 64 (n : Int) = _
    rw [BitVec.ofInt_natCast]
  rw [e2]
  have e3 : (BitVec.allOnes 64 ^^^ BitVec.ofNat 64 n).toNat = 2 ^ 64 - 1 - n := by
    rw [BitVec.allOnes_xor, BitVec.toNat_not, BitVec.toNat_ofNat, Nat.mod_eq_of_lt h]
  show IntKind.wrap .u64 (((BitVec.allOnes 64 ^^^ BitVec.ofNat 64 n).toNat : Nat) : Int) = _
  rw [e3]
  exact wrap_u64 (by omega) (by omega)

theorem not_run (m : Nat) (a0 a1 a2 a3 : Int) : whole_Not.f (m + 5) [a0, a1, a2, a3] = some [notI .u64 a0, notI .u64 a1, notI .u64 a2, notI .u64 a3] := by kernel_rfl

theorem not_ev {a : List Int} (ha : goodT numT a) : Ev (fun k => whole_Not.f k a) (toNum (2 ^ 256 - 1 - vN a)) := by
  obtain ⟨n0, n1, n2, n3, rfl, h0, h1, h2, h3⟩ := num4 ha
  refine Ev.of 5 fun m => ?_
  rw [not_run, not_u64 _ h0, not_u64 _ h1, not_u64 _ h2, not_u64 _ h3]
  congr 1
  refine toNum_of (good4 (by omega) (by omega) (by omega) (by omega)) ?_
  rw [vN4, vN4]
  omega

end Go.Proofs.Ytjciljaojcekeaa.Sx
