/- What the Go functions come to, on data: printed by sypr.py. -/
import Derived.Test.YtkcdbbflelgbeaaDoorWA0
namespace Go.Proofs.YtkcdbbflelgbeaaDoor.Sy
open Go Go.Proofs
set_option maxRecDepth 100000
set_option linter.unusedVariables false
set_option linter.unusedSimpArgs false
namespace trailheadref01_Of
namespace l4
def step {X : Type} (K : Int → (List Int) → Option X) (G : Int → (List Int) → Option X) (k : Nat) (x4 : (List Int)) (x5 : Int) (x7 : Int) (y800000 : (List Int)) (y800001 : (List Int)) (x8 : Int) (y800002 : (List Int)) : Option X :=
  (bif (decide (x8 < (4 : Int))) then (bif (decide (0 ≤ x7)) then (bif (decide (x7 < 64)) then (bif (decide ((Int.toNat x7) < 64)) then (bif (decide (0 ≤ (addI .i64 (addI .i64 x5 (mulI .i64 4 x7)) x8))) then (bif (decide ((addI .i64 (addI .i64 x5 (mulI .i64 4 x7)) x8) < ((List.length x4) : Int))) then (bif (decide (0 ≤ x7)) then (bif (decide (x7 < 64)) then (bif (decide ((Int.toNat x7) < 64)) then (G (addI .i64 x8 1) (List.set y800002 (Int.toNat x7) (addI .u32 (mulI .u32 (List.getD y800002 (Int.toNat x7) 0) 256) (IntKind.wrap .u32 (List.getD x4 (Int.toNat (addI .i64 (addI .i64 x5 (mulI .i64 4 x7)) x8)) 0))))) else none) else none) else none) else none) else none) else none) else none) else none) else (K x8 y800002))
def go {X : Type} (K : Int → (List Int) → Option X) (k : Nat) (x4 : (List Int)) (x5 : Int) (x7 : Int) (y800000 : (List Int)) (y800001 : (List Int)) : Nat → Int → (List Int) → Option X
  | 0, _, _ => none
  | n + 1, x8, y800002 => step K (go K k x4 x5 x7 y800000 y800001 n) k x4 x5 x7 y800000 y800001 x8 y800002
def f (k : Nat) (x4 : (List Int)) (x5 : Int) (x7 : Int) (y800000 : (List Int)) (y800001 : (List Int)) (n : Nat) (x8 : Int) (y800002 : (List Int)) : Option (Int × (List Int)) := go (fun x8 y800002 => some (x8, y800002)) k x4 x5 x7 y800000 y800001 n x8 y800002
theorem step_nat {X Y : Type} (h : X → Option Y) (K : Int → (List Int) → Option X) (G : Int → (List Int) → Option X) (k : Nat) (x4 : (List Int)) (x5 : Int) (x7 : Int) (y800000 : (List Int)) (y800001 : (List Int)) (x8 : Int) (y800002 : (List Int)) : Option.bind (step K G k x4 x5 x7 y800000 y800001 x8 y800002) h = step (fun x8 y800002 => Option.bind (K x8 y800002) h) (fun x8 y800002 => Option.bind (G x8 y800002) h) k x4 x5 x7 y800000 y800001 x8 y800002 := by
  simp only [step, bif_bind, sel_bind', Option.bind_assoc, Option.bind_none, Option.bind_some]
theorem go_nat {X Y : Type} (h : X → Option Y) (K : Int → (List Int) → Option X) (k : Nat) (x4 : (List Int)) (x5 : Int) (x7 : Int) (y800000 : (List Int)) (y800001 : (List Int)) (n : Nat) : ∀ (x8 : Int) (y800002 : (List Int)), Option.bind (go K k x4 x5 x7 y800000 y800001 n x8 y800002) h = go (fun x8 y800002 => Option.bind (K x8 y800002) h) k x4 x5 x7 y800000 y800001 n x8 y800002 := by
  induction n with
  | zero => intros; rfl
  | succ n ih => intro x8 y800002; show Option.bind (step K (go K k x4 x5 x7 y800000 y800001 n) k x4 x5 x7 y800000 y800001 x8 y800002) h = step (fun x8 y800002 => Option.bind (K x8 y800002) h) (go (fun x8 y800002 => Option.bind (K x8 y800002) h) k x4 x5 x7 y800000 y800001 n) k x4 x5 x7 y800000 y800001 x8 y800002; rw [step_nat h]; simp only [ih]
abbrev S : List (Nat × Sh) := [(2, .ptr 800000), (3, .ptr 800001), (4, .data .str), (5, .data (.int .i64)), (6, .ptr 800002), (7, .data (.int .i64)), (8, .data (.int .i64))]
abbrev H : List (Nat × ESh) := [(800000, .cell (.data (.arr .u8 32))), (800001, .cell (.data (.arr .u32 8))), (800002, .cell (.data (.arr .u32 64)))]
abbrev cl : List (Place × Nat × Hint) := []
abbrev hn : List (Nat × Hint) := [(2, .any), (3, .any), (4, .any), (5, .any), (6, .any), (7, .any), (8, .any)]
abbrev kp : List Nat := []
abbrev rc : List (Place × Nat × Hint) := []
abbrev rs : List (Nat × Hint) := []
abbrev ri : List Nat := []
def KX (d : (Unit × Unit × (List Int) × Int × Unit × Int × Int × Unit)) (e : ((List Int) × (List Int) × (List Int) × Unit)) (v : (Int × (List Int))) : St := ⟨mkS S ((), (), d.2.2.1, d.2.2.2.1, (), d.2.2.2.2.2.1, v.1, ()), mkH H (e.1, e.2.1, v.2, ())⟩
def sum (k : Nat) : LoopSum := sigLoopX S cl hn kp H 4 (fun (d : (Unit × Unit × (List Int) × Int × Unit × Int × Int × Unit)) (e : ((List Int) × (List Int) × (List Int) × Unit)) => f k d.2.2.1 d.2.2.2.1 d.2.2.2.2.2.1 e.1 e.2.1 k d.2.2.2.2.2.2.1 e.2.2.1) KX
end l4
namespace l2
def step {X : Type} (K : Int → (List Int) → Option X) (G : Int → (List Int) → Option X) (k : Nat) (x4 : (List Int)) (x5 : Int) (y800000 : (List Int)) (y800001 : (List Int)) (x7 : Int) (y800002 : (List Int)) : Option X :=
  (bif (decide (x7 < (16 : Int))) then (Option.bind (trailheadref01_Of.l4.f k x4 x5 x7 y800000 y800001 k (0 : Int) y800002) (fun r2 => (G (addI .i64 x7 1) r2.2))) else (K x7 y800002))
def go {X : Type} (K : Int → (List Int) → Option X) (k : Nat) (x4 : (List Int)) (x5 : Int) (y800000 : (List Int)) (y800001 : (List Int)) : Nat → Int → (List Int) → Option X
  | 0, _, _ => none
  | n + 1, x7, y800002 => step K (go K k x4 x5 y800000 y800001 n) k x4 x5 y800000 y800001 x7 y800002
def f (k : Nat) (x4 : (List Int)) (x5 : Int) (y800000 : (List Int)) (y800001 : (List Int)) (n : Nat) (x7 : Int) (y800002 : (List Int)) : Option (Int × (List Int)) := go (fun x7 y800002 => some (x7, y800002)) k x4 x5 y800000 y800001 n x7 y800002
theorem step_nat {X Y : Type} (h : X → Option Y) (K : Int → (List Int) → Option X) (G : Int → (List Int) → Option X) (k : Nat) (x4 : (List Int)) (x5 : Int) (y800000 : (List Int)) (y800001 : (List Int)) (x7 : Int) (y800002 : (List Int)) : Option.bind (step K G k x4 x5 y800000 y800001 x7 y800002) h = step (fun x7 y800002 => Option.bind (K x7 y800002) h) (fun x7 y800002 => Option.bind (G x7 y800002) h) k x4 x5 y800000 y800001 x7 y800002 := by
  simp only [step, bif_bind, sel_bind', Option.bind_assoc, Option.bind_none, Option.bind_some]
theorem go_nat {X Y : Type} (h : X → Option Y) (K : Int → (List Int) → Option X) (k : Nat) (x4 : (List Int)) (x5 : Int) (y800000 : (List Int)) (y800001 : (List Int)) (n : Nat) : ∀ (x7 : Int) (y800002 : (List Int)), Option.bind (go K k x4 x5 y800000 y800001 n x7 y800002) h = go (fun x7 y800002 => Option.bind (K x7 y800002) h) k x4 x5 y800000 y800001 n x7 y800002 := by
  induction n with
  | zero => intros; rfl
  | succ n ih => intro x7 y800002; show Option.bind (step K (go K k x4 x5 y800000 y800001 n) k x4 x5 y800000 y800001 x7 y800002) h = step (fun x7 y800002 => Option.bind (K x7 y800002) h) (go (fun x7 y800002 => Option.bind (K x7 y800002) h) k x4 x5 y800000 y800001 n) k x4 x5 y800000 y800001 x7 y800002; rw [step_nat h]; simp only [ih]
abbrev S : List (Nat × Sh) := [(2, .ptr 800000), (3, .ptr 800001), (4, .data .str), (5, .data (.int .i64)), (6, .ptr 800002), (7, .data (.int .i64))]
abbrev H : List (Nat × ESh) := [(800000, .cell (.data (.arr .u8 32))), (800001, .cell (.data (.arr .u32 8))), (800002, .cell (.data (.arr .u32 64)))]
abbrev cl : List (Place × Nat × Hint) := []
abbrev hn : List (Nat × Hint) := [(2, .any), (3, .any), (4, .any), (5, .any), (6, .any), (7, .any)]
abbrev kp : List Nat := []
abbrev rc : List (Place × Nat × Hint) := []
abbrev rs : List (Nat × Hint) := []
abbrev ri : List Nat := []
def KX (d : (Unit × Unit × (List Int) × Int × Unit × Int × Unit)) (e : ((List Int) × (List Int) × (List Int) × Unit)) (v : (Int × (List Int))) : St := ⟨mkS S ((), (), d.2.2.1, d.2.2.2.1, (), v.1, ()), mkH H (e.1, e.2.1, v.2, ())⟩
def sum (k : Nat) : LoopSum := sigLoopX S cl hn kp H 2 (fun (d : (Unit × Unit × (List Int) × Int × Unit × Int × Unit)) (e : ((List Int) × (List Int) × (List Int) × Unit)) => f k d.2.2.1 d.2.2.2.1 e.1 e.2.1 k d.2.2.2.2.2.1 e.2.2.1) KX
end l2
namespace l6
def step {X : Type} (K : Int → (List Int) → Option X) (G : Int → (List Int) → Option X) (k : Nat) (x4 : (List Int)) (x5 : Int) (y800000 : (List Int)) (y800001 : (List Int)) (x9 : Int) (y800002 : (List Int)) : Option X :=
  (bif (decide (x9 < (64 : Int))) then (bif (decide (0 ≤ (subI .i64 x9 15))) then (bif (decide ((subI .i64 x9 15) < 64)) then (bif (decide ((Int.toNat (subI .i64 x9 15)) < 64)) then (Option.bind (trailheadref01_right.f k (List.getD y800002 (Int.toNat (subI .i64 x9 15)) 0) (7 : Int)) (fun r4 => (bif (decide (0 ≤ (subI .i64 x9 15))) then (bif (decide ((subI .i64 x9 15) < 64)) then (bif (decide ((Int.toNat (subI .i64 x9 15)) < 64)) then (Option.bind (trailheadref01_right.f k (List.getD y800002 (Int.toNat (subI .i64 x9 15)) 0) (18 : Int)) (fun r5 => (bif (decide (0 ≤ (subI .i64 x9 15))) then (bif (decide ((subI .i64 x9 15) < 64)) then (bif (decide ((Int.toNat (subI .i64 x9 15)) < 64)) then (bif (decide (0 ≤ (subI .i64 x9 2))) then (bif (decide ((subI .i64 x9 2) < 64)) then (bif (decide ((Int.toNat (subI .i64 x9 2)) < 64)) then (Option.bind (trailheadref01_right.f k (List.getD y800002 (Int.toNat (subI .i64 x9 2)) 0) (17 : Int)) (fun r6 => (bif (decide (0 ≤ (subI .i64 x9 2))) then (bif (decide ((subI .i64 x9 2) < 64)) then (bif (decide ((Int.toNat (subI .i64 x9 2)) < 64)) then (Option.bind (trailheadref01_right.f k (List.getD y800002 (Int.toNat (subI .i64 x9 2)) 0) (19 : Int)) (fun r7 => (bif (decide (0 ≤ (subI .i64 x9 2))) then (bif (decide ((subI .i64 x9 2) < 64)) then (bif (decide ((Int.toNat (subI .i64 x9 2)) < 64)) then (bif (decide (0 ≤ (subI .i64 x9 16))) then (bif (decide ((subI .i64 x9 16) < 64)) then (bif (decide ((Int.toNat (subI .i64 x9 16)) < 64)) then (bif (decide (0 ≤ (subI .i64 x9 7))) then (bif (decide ((subI .i64 x9 7) < 64)) then (bif (decide ((Int.toNat (subI .i64 x9 7)) < 64)) then (bif (decide (0 ≤ x9)) then (bif (decide (x9 < 64)) then (bif (decide ((Int.toNat x9) < 64)) then (G (addI .i64 x9 1) (List.set y800002 (Int.toNat x9) (addI .u32 (addI .u32 (addI .u32 (List.getD y800002 (Int.toNat (subI .i64 x9 16)) 0) (xorI .u32 (xorI .u32 r4 r5) (quoI .u32 (List.getD y800002 (Int.toNat (subI .i64 x9 15)) 0) 8))) (List.getD y800002 (Int.toNat (subI .i64 x9 7)) 0)) (xorI .u32 (xorI .u32 r6 r7) (quoI .u32 (List.getD y800002 (Int.toNat (subI .i64 x9 2)) 0) 1024))))) else none) else none) else none) else none) else none) else none) else none) else none) else none) else none) else none) else none))) else none) else none) else none))) else none) else none) else none) else none) else none) else none))) else none) else none) else none))) else none) else none) else none) else (K x9 y800002))
def go {X : Type} (K : Int → (List Int) → Option X) (k : Nat) (x4 : (List Int)) (x5 : Int) (y800000 : (List Int)) (y800001 : (List Int)) : Nat → Int → (List Int) → Option X
  | 0, _, _ => none
  | n + 1, x9, y800002 => step K (go K k x4 x5 y800000 y800001 n) k x4 x5 y800000 y800001 x9 y800002
def f (k : Nat) (x4 : (List Int)) (x5 : Int) (y800000 : (List Int)) (y800001 : (List Int)) (n : Nat) (x9 : Int) (y800002 : (List Int)) : Option (Int × (List Int)) := go (fun x9 y800002 => some (x9, y800002)) k x4 x5 y800000 y800001 n x9 y800002
theorem step_nat {X Y : Type} (h : X → Option Y) (K : Int → (List Int) → Option X) (G : Int → (List Int) → Option X) (k : Nat) (x4 : (List Int)) (x5 : Int) (y800000 : (List Int)) (y800001 : (List Int)) (x9 : Int) (y800002 : (List Int)) : Option.bind (step K G k x4 x5 y800000 y800001 x9 y800002) h = step (fun x9 y800002 => Option.bind (K x9 y800002) h) (fun x9 y800002 => Option.bind (G x9 y800002) h) k x4 x5 y800000 y800001 x9 y800002 := by
  simp only [step, bif_bind, sel_bind', Option.bind_assoc, Option.bind_none, Option.bind_some]
theorem go_nat {X Y : Type} (h : X → Option Y) (K : Int → (List Int) → Option X) (k : Nat) (x4 : (List Int)) (x5 : Int) (y800000 : (List Int)) (y800001 : (List Int)) (n : Nat) : ∀ (x9 : Int) (y800002 : (List Int)), Option.bind (go K k x4 x5 y800000 y800001 n x9 y800002) h = go (fun x9 y800002 => Option.bind (K x9 y800002) h) k x4 x5 y800000 y800001 n x9 y800002 := by
  induction n with
  | zero => intros; rfl
  | succ n ih => intro x9 y800002; show Option.bind (step K (go K k x4 x5 y800000 y800001 n) k x4 x5 y800000 y800001 x9 y800002) h = step (fun x9 y800002 => Option.bind (K x9 y800002) h) (go (fun x9 y800002 => Option.bind (K x9 y800002) h) k x4 x5 y800000 y800001 n) k x4 x5 y800000 y800001 x9 y800002; rw [step_nat h]; simp only [ih]
abbrev S : List (Nat × Sh) := [(2, .ptr 800000), (3, .ptr 800001), (4, .data .str), (5, .data (.int .i64)), (6, .ptr 800002), (9, .data (.int .i64))]
abbrev H : List (Nat × ESh) := [(800000, .cell (.data (.arr .u8 32))), (800001, .cell (.data (.arr .u32 8))), (800002, .cell (.data (.arr .u32 64)))]
abbrev cl : List (Place × Nat × Hint) := []
abbrev hn : List (Nat × Hint) := [(2, .any), (3, .any), (4, .any), (5, .any), (6, .any), (9, .any)]
abbrev kp : List Nat := []
abbrev rc : List (Place × Nat × Hint) := []
abbrev rs : List (Nat × Hint) := []
abbrev ri : List Nat := []
def KX (d : (Unit × Unit × (List Int) × Int × Unit × Int × Unit)) (e : ((List Int) × (List Int) × (List Int) × Unit)) (v : (Int × (List Int))) : St := ⟨mkS S ((), (), d.2.2.1, d.2.2.2.1, (), v.1, ()), mkH H (e.1, e.2.1, v.2, ())⟩
def sum (k : Nat) : LoopSum := sigLoopX S cl hn kp H 6 (fun (d : (Unit × Unit × (List Int) × Int × Unit × Int × Unit)) (e : ((List Int) × (List Int) × (List Int) × Unit)) => f k d.2.2.1 d.2.2.2.1 e.1 e.2.1 k d.2.2.2.2.2.1 e.2.2.1) KX
end l6
namespace l8
def step {X : Type} (K : Int → (List Int) → Option X) (G : Int → (List Int) → Option X) (k : Nat) (x4 : (List Int)) (x5 : Int) (y800000 : (List Int)) (y800001 : (List Int)) (y800002 : (List Int)) (x13 : Int) (y800003 : (List Int)) : Option X :=
  (bif (decide (x13 < (64 : Int))) then (Option.bind (trailheadref01_right.f k (List.getD y800003 4 0) (6 : Int)) (fun r9 => (Option.bind (trailheadref01_right.f k (List.getD y800003 4 0) (11 : Int)) (fun r10 => (Option.bind (trailheadref01_right.f k (List.getD y800003 4 0) (25 : Int)) (fun r11 => (Option.bind (trailheadref01_k.f k x13) (fun r12 => (bif (decide (0 ≤ x13)) then (bif (decide (x13 < 64)) then (bif (decide ((Int.toNat x13) < 64)) then (Option.bind (trailheadref01_right.f k (List.getD y800003 0 0) (2 : Int)) (fun r13 => (Option.bind (trailheadref01_right.f k (List.getD y800003 0 0) (13 : Int)) (fun r14 => (Option.bind (trailheadref01_right.f k (List.getD y800003 0 0) (22 : Int)) (fun r15 => (G (addI .i64 x13 1) ([(addI .u32 (addI .u32 (addI .u32 (addI .u32 (addI .u32 (List.getD y800003 7 0) (xorI .u32 (xorI .u32 r9 r10) r11)) (orI .u32 (andI .u32 (List.getD y800003 4 0) (List.getD y800003 5 0)) (andI .u32 (subI .u32 4294967295 (List.getD y800003 4 0)) (List.getD y800003 6 0)))) r12) (List.getD y800002 (Int.toNat x13) 0)) (addI .u32 (xorI .u32 (xorI .u32 r13 r14) r15) (orI .u32 (orI .u32 (andI .u32 (List.getD y800003 0 0) (List.getD y800003 1 0)) (andI .u32 (List.getD y800003 0 0) (List.getD y800003 2 0))) (andI .u32 (List.getD y800003 1 0) (List.getD y800003 2 0))))), (List.getD y800003 0 0), (List.getD y800003 1 0), (List.getD y800003 2 0), (addI .u32 (List.getD y800003 3 0) (addI .u32 (addI .u32 (addI .u32 (addI .u32 (List.getD y800003 7 0) (xorI .u32 (xorI .u32 r9 r10) r11)) (orI .u32 (andI .u32 (List.getD y800003 4 0) (List.getD y800003 5 0)) (andI .u32 (subI .u32 4294967295 (List.getD y800003 4 0)) (List.getD y800003 6 0)))) r12) (List.getD y800002 (Int.toNat x13) 0))), (List.getD y800003 4 0), (List.getD y800003 5 0), (List.getD y800003 6 0)] : (List Int))))))))) else none) else none) else none))))))))) else (K x13 y800003))
def go {X : Type} (K : Int → (List Int) → Option X) (k : Nat) (x4 : (List Int)) (x5 : Int) (y800000 : (List Int)) (y800001 : (List Int)) (y800002 : (List Int)) : Nat → Int → (List Int) → Option X
  | 0, _, _ => none
  | n + 1, x13, y800003 => step K (go K k x4 x5 y800000 y800001 y800002 n) k x4 x5 y800000 y800001 y800002 x13 y800003
def f (k : Nat) (x4 : (List Int)) (x5 : Int) (y800000 : (List Int)) (y800001 : (List Int)) (y800002 : (List Int)) (n : Nat) (x13 : Int) (y800003 : (List Int)) : Option (Int × (List Int)) := go (fun x13 y800003 => some (x13, y800003)) k x4 x5 y800000 y800001 y800002 n x13 y800003
theorem step_nat {X Y : Type} (h : X → Option Y) (K : Int → (List Int) → Option X) (G : Int → (List Int) → Option X) (k : Nat) (x4 : (List Int)) (x5 : Int) (y800000 : (List Int)) (y800001 : (List Int)) (y800002 : (List Int)) (x13 : Int) (y800003 : (List Int)) : Option.bind (step K G k x4 x5 y800000 y800001 y800002 x13 y800003) h = step (fun x13 y800003 => Option.bind (K x13 y800003) h) (fun x13 y800003 => Option.bind (G x13 y800003) h) k x4 x5 y800000 y800001 y800002 x13 y800003 := by
  simp only [step, bif_bind, sel_bind', Option.bind_assoc, Option.bind_none, Option.bind_some]
theorem go_nat {X Y : Type} (h : X → Option Y) (K : Int → (List Int) → Option X) (k : Nat) (x4 : (List Int)) (x5 : Int) (y800000 : (List Int)) (y800001 : (List Int)) (y800002 : (List Int)) (n : Nat) : ∀ (x13 : Int) (y800003 : (List Int)), Option.bind (go K k x4 x5 y800000 y800001 y800002 n x13 y800003) h = go (fun x13 y800003 => Option.bind (K x13 y800003) h) k x4 x5 y800000 y800001 y800002 n x13 y800003 := by
  induction n with
  | zero => intros; rfl
  | succ n ih => intro x13 y800003; show Option.bind (step K (go K k x4 x5 y800000 y800001 y800002 n) k x4 x5 y800000 y800001 y800002 x13 y800003) h = step (fun x13 y800003 => Option.bind (K x13 y800003) h) (go (fun x13 y800003 => Option.bind (K x13 y800003) h) k x4 x5 y800000 y800001 y800002 n) k x4 x5 y800000 y800001 y800002 x13 y800003; rw [step_nat h]; simp only [ih]
abbrev S : List (Nat × Sh) := [(2, .ptr 800000), (3, .ptr 800001), (4, .data .str), (5, .data (.int .i64)), (6, .ptr 800002), (12, .ptr 800003), (13, .data (.int .i64))]
abbrev H : List (Nat × ESh) := [(800000, .cell (.data (.arr .u8 32))), (800001, .cell (.data (.arr .u32 8))), (800002, .cell (.data (.arr .u32 64))), (800003, .cell (.data (.arr .u32 8)))]
abbrev cl : List (Place × Nat × Hint) := []
abbrev hn : List (Nat × Hint) := [(2, .any), (3, .any), (4, .any), (5, .any), (6, .any), (12, .any), (13, .any)]
abbrev kp : List Nat := []
abbrev rc : List (Place × Nat × Hint) := []
abbrev rs : List (Nat × Hint) := []
abbrev ri : List Nat := []
def KX (d : (Unit × Unit × (List Int) × Int × Unit × Unit × Int × Unit)) (e : ((List Int) × (List Int) × (List Int) × (List Int) × Unit)) (v : (Int × (List Int))) : St := ⟨mkS S ((), (), d.2.2.1, d.2.2.2.1, (), (), v.1, ()), mkH H (e.1, e.2.1, e.2.2.1, v.2, ())⟩
def sum (k : Nat) : LoopSum := sigLoopX S cl hn kp H 8 (fun (d : (Unit × Unit × (List Int) × Int × Unit × Unit × Int × Unit)) (e : ((List Int) × (List Int) × (List Int) × (List Int) × Unit)) => f k d.2.2.1 d.2.2.2.1 e.1 e.2.1 e.2.2.1 k d.2.2.2.2.2.2.1 e.2.2.2.1) KX
end l8
namespace l10
def step {X : Type} (K : Int → (List Int) → Option X) (G : Int → (List Int) → Option X) (k : Nat) (x4 : (List Int)) (x5 : Int) (y800000 : (List Int)) (y800002 : (List Int)) (x16 : Int) (y800001 : (List Int)) : Option X :=
  (bif (decide (x16 < (8 : Int))) then (bif (decide (0 ≤ x16)) then (bif (decide (x16 < 8)) then (bif (decide ((Int.toNat x16) < 8)) then (bif (decide (0 ≤ x16)) then (bif (decide (x16 < 8)) then (bif (decide ((Int.toNat x16) < 8)) then (bif (decide (0 ≤ x16)) then (bif (decide (x16 < 8)) then (bif (decide ((Int.toNat x16) < 8)) then (G (addI .i64 x16 1) (List.set y800001 (Int.toNat x16) (addI .u32 (List.getD y800001 (Int.toNat x16) 0) (List.getD y800002 (Int.toNat x16) 0)))) else none) else none) else none) else none) else none) else none) else none) else none) else none) else (K x16 y800001))
def go {X : Type} (K : Int → (List Int) → Option X) (k : Nat) (x4 : (List Int)) (x5 : Int) (y800000 : (List Int)) (y800002 : (List Int)) : Nat → Int → (List Int) → Option X
  | 0, _, _ => none
  | n + 1, x16, y800001 => step K (go K k x4 x5 y800000 y800002 n) k x4 x5 y800000 y800002 x16 y800001
def f (k : Nat) (x4 : (List Int)) (x5 : Int) (y800000 : (List Int)) (y800002 : (List Int)) (n : Nat) (x16 : Int) (y800001 : (List Int)) : Option (Int × (List Int)) := go (fun x16 y800001 => some (x16, y800001)) k x4 x5 y800000 y800002 n x16 y800001
theorem step_nat {X Y : Type} (h : X → Option Y) (K : Int → (List Int) → Option X) (G : Int → (List Int) → Option X) (k : Nat) (x4 : (List Int)) (x5 : Int) (y800000 : (List Int)) (y800002 : (List Int)) (x16 : Int) (y800001 : (List Int)) : Option.bind (step K G k x4 x5 y800000 y800002 x16 y800001) h = step (fun x16 y800001 => Option.bind (K x16 y800001) h) (fun x16 y800001 => Option.bind (G x16 y800001) h) k x4 x5 y800000 y800002 x16 y800001 := by
  simp only [step, bif_bind, sel_bind', Option.bind_assoc, Option.bind_none, Option.bind_some]
theorem go_nat {X Y : Type} (h : X → Option Y) (K : Int → (List Int) → Option X) (k : Nat) (x4 : (List Int)) (x5 : Int) (y800000 : (List Int)) (y800002 : (List Int)) (n : Nat) : ∀ (x16 : Int) (y800001 : (List Int)), Option.bind (go K k x4 x5 y800000 y800002 n x16 y800001) h = go (fun x16 y800001 => Option.bind (K x16 y800001) h) k x4 x5 y800000 y800002 n x16 y800001 := by
  induction n with
  | zero => intros; rfl
  | succ n ih => intro x16 y800001; show Option.bind (step K (go K k x4 x5 y800000 y800002 n) k x4 x5 y800000 y800002 x16 y800001) h = step (fun x16 y800001 => Option.bind (K x16 y800001) h) (go (fun x16 y800001 => Option.bind (K x16 y800001) h) k x4 x5 y800000 y800002 n) k x4 x5 y800000 y800002 x16 y800001; rw [step_nat h]; simp only [ih]
abbrev S : List (Nat × Sh) := [(2, .ptr 800000), (3, .ptr 800001), (4, .data .str), (5, .data (.int .i64)), (12, .ptr 800002), (16, .data (.int .i64))]
abbrev H : List (Nat × ESh) := [(800000, .cell (.data (.arr .u8 32))), (800001, .cell (.data (.arr .u32 8))), (800002, .cell (.data (.arr .u32 8)))]
abbrev cl : List (Place × Nat × Hint) := []
abbrev hn : List (Nat × Hint) := [(2, .any), (3, .any), (4, .any), (5, .any), (12, .any), (16, .any)]
abbrev kp : List Nat := []
abbrev rc : List (Place × Nat × Hint) := []
abbrev rs : List (Nat × Hint) := []
abbrev ri : List Nat := []
def KX (d : (Unit × Unit × (List Int) × Int × Unit × Int × Unit)) (e : ((List Int) × (List Int) × (List Int) × Unit)) (v : (Int × (List Int))) : St := ⟨mkS S ((), (), d.2.2.1, d.2.2.2.1, (), v.1, ()), mkH H (e.1, v.2, e.2.2.1, ())⟩
def sum (k : Nat) : LoopSum := sigLoopX S cl hn kp H 10 (fun (d : (Unit × Unit × (List Int) × Int × Unit × Int × Unit)) (e : ((List Int) × (List Int) × (List Int) × Unit)) => f k d.2.2.1 d.2.2.2.1 e.1 e.2.2.1 k d.2.2.2.2.2.1 e.2.1) KX
end l10
namespace l0
def step {X : Type} (K : Int → (List Int) → Option X) (G : Int → (List Int) → Option X) (k : Nat) (x4 : (List Int)) (y800000 : (List Int)) (x5 : Int) (y800001 : (List Int)) : Option X :=
  (bif (decide (x5 < ((List.length x4) : Int))) then (Option.bind (trailheadref01_Of.l2.f k x4 x5 y800000 y800001 k (0 : Int) ([0, 0, 0, 0, 0, 0, 0, 0, 0, 0, 0, 0, 0, 0, 0, 0, 0, 0, 0, 0, 0, 0, 0, 0, 0, 0, 0, 0, 0, 0, 0, 0, 0, 0, 0, 0, 0, 0, 0, 0, 0, 0, 0, 0, 0, 0, 0, 0, 0, 0, 0, 0, 0, 0, 0, 0, 0, 0, 0, 0, 0, 0, 0, 0] : (List Int))) (fun r3 => (Option.bind (trailheadref01_Of.l6.f k x4 x5 y800000 y800001 k (16 : Int) r3.2) (fun r8 => (Option.bind (trailheadref01_Of.l8.f k x4 x5 y800000 y800001 r8.2 k (0 : Int) y800001) (fun r16 => (Option.bind (trailheadref01_Of.l10.f k x4 x5 y800000 r16.2 k (0 : Int) y800001) (fun r17 => (G (addI .i64 x5 64) r17.2))))))))) else (K x5 y800001))
def go {X : Type} (K : Int → (List Int) → Option X) (k : Nat) (x4 : (List Int)) (y800000 : (List Int)) : Nat → Int → (List Int) → Option X
  | 0, _, _ => none
  | n + 1, x5, y800001 => step K (go K k x4 y800000 n) k x4 y800000 x5 y800001
def f (k : Nat) (x4 : (List Int)) (y800000 : (List Int)) (n : Nat) (x5 : Int) (y800001 : (List Int)) : Option (Int × (List Int)) := go (fun x5 y800001 => some (x5, y800001)) k x4 y800000 n x5 y800001
theorem step_nat {X Y : Type} (h : X → Option Y) (K : Int → (List Int) → Option X) (G : Int → (List Int) → Option X) (k : Nat) (x4 : (List Int)) (y800000 : (List Int)) (x5 : Int) (y800001 : (List Int)) : Option.bind (step K G k x4 y800000 x5 y800001) h = step (fun x5 y800001 => Option.bind (K x5 y800001) h) (fun x5 y800001 => Option.bind (G x5 y800001) h) k x4 y800000 x5 y800001 := by
  simp only [step, bif_bind, sel_bind', Option.bind_assoc, Option.bind_none, Option.bind_some]
theorem go_nat {X Y : Type} (h : X → Option Y) (K : Int → (List Int) → Option X) (k : Nat) (x4 : (List Int)) (y800000 : (List Int)) (n : Nat) : ∀ (x5 : Int) (y800001 : (List Int)), Option.bind (go K k x4 y800000 n x5 y800001) h = go (fun x5 y800001 => Option.bind (K x5 y800001) h) k x4 y800000 n x5 y800001 := by
  induction n with
  | zero => intros; rfl
  | succ n ih => intro x5 y800001; show Option.bind (step K (go K k x4 y800000 n) k x4 y800000 x5 y800001) h = step (fun x5 y800001 => Option.bind (K x5 y800001) h) (go (fun x5 y800001 => Option.bind (K x5 y800001) h) k x4 y800000 n) k x4 y800000 x5 y800001; rw [step_nat h]; simp only [ih]
abbrev S : List (Nat × Sh) := [(2, .ptr 800000), (3, .ptr 800001), (4, .data .str), (5, .data (.int .i64))]
abbrev H : List (Nat × ESh) := [(800000, .cell (.data (.arr .u8 32))), (800001, .cell (.data (.arr .u32 8)))]
abbrev cl : List (Place × Nat × Hint) := []
abbrev hn : List (Nat × Hint) := [(2, .any), (3, .any), (4, .any), (5, .any)]
abbrev kp : List Nat := []
abbrev rc : List (Place × Nat × Hint) := []
abbrev rs : List (Nat × Hint) := []
abbrev ri : List Nat := []
def KX (d : (Unit × Unit × (List Int) × Int × Unit)) (e : ((List Int) × (List Int) × Unit)) (v : (Int × (List Int))) : St := ⟨mkS S ((), (), d.2.2.1, v.1, ()), mkH H (e.1, v.2, ())⟩
def sum (k : Nat) : LoopSum := sigLoopX S cl hn kp H 0 (fun (d : (Unit × Unit × (List Int) × Int × Unit)) (e : ((List Int) × (List Int) × Unit)) => f k d.2.2.1 e.1 k d.2.2.2.1 e.2.1) KX
end l0
namespace l12
def step {X : Type} (K : Int → (List Int) → Option X) (G : Int → (List Int) → Option X) (k : Nat) (y800000 : (List Int)) (y800001 : (List Int)) (x18 : Int) (y800002 : (List Int)) : Option X :=
  (bif (decide (x18 < (32 : Int))) then (bif (decide (0 ≤ (quoI .i64 x18 4))) then (bif (decide ((quoI .i64 x18 4) < 8)) then (bif (decide ((Int.toNat (quoI .i64 x18 4)) < 8)) then (bif (decide ((IntKind.wrap .u64 (subI .i64 24 (mulI .i64 8 (remI x18 4)))) < 0)) then none else (bif (decide (0 ≤ x18)) then (bif (decide (x18 < 32)) then (bif (decide ((Int.toNat x18) < 32)) then (G (addI .i64 x18 1) (List.set y800002 (Int.toNat x18) (IntKind.wrap .u8 (remI (shrI .u32 (List.getD y800001 (Int.toNat (quoI .i64 x18 4)) 0) (IntKind.wrap .u64 (subI .i64 24 (mulI .i64 8 (remI x18 4))))) 256)))) else none) else none) else none)) else none) else none) else none) else (K x18 y800002))
def go {X : Type} (K : Int → (List Int) → Option X) (k : Nat) (y800000 : (List Int)) (y800001 : (List Int)) : Nat → Int → (List Int) → Option X
  | 0, _, _ => none
  | n + 1, x18, y800002 => step K (go K k y800000 y800001 n) k y800000 y800001 x18 y800002
def f (k : Nat) (y800000 : (List Int)) (y800001 : (List Int)) (n : Nat) (x18 : Int) (y800002 : (List Int)) : Option (Int × (List Int)) := go (fun x18 y800002 => some (x18, y800002)) k y800000 y800001 n x18 y800002
theorem step_nat {X Y : Type} (h : X → Option Y) (K : Int → (List Int) → Option X) (G : Int → (List Int) → Option X) (k : Nat) (y800000 : (List Int)) (y800001 : (List Int)) (x18 : Int) (y800002 : (List Int)) : Option.bind (step K G k y800000 y800001 x18 y800002) h = step (fun x18 y800002 => Option.bind (K x18 y800002) h) (fun x18 y800002 => Option.bind (G x18 y800002) h) k y800000 y800001 x18 y800002 := by
  simp only [step, bif_bind, sel_bind', Option.bind_assoc, Option.bind_none, Option.bind_some]
theorem go_nat {X Y : Type} (h : X → Option Y) (K : Int → (List Int) → Option X) (k : Nat) (y800000 : (List Int)) (y800001 : (List Int)) (n : Nat) : ∀ (x18 : Int) (y800002 : (List Int)), Option.bind (go K k y800000 y800001 n x18 y800002) h = go (fun x18 y800002 => Option.bind (K x18 y800002) h) k y800000 y800001 n x18 y800002 := by
  induction n with
  | zero => intros; rfl
  | succ n ih => intro x18 y800002; show Option.bind (step K (go K k y800000 y800001 n) k y800000 y800001 x18 y800002) h = step (fun x18 y800002 => Option.bind (K x18 y800002) h) (go (fun x18 y800002 => Option.bind (K x18 y800002) h) k y800000 y800001 n) k y800000 y800001 x18 y800002; rw [step_nat h]; simp only [ih]
abbrev S : List (Nat × Sh) := [(2, .ptr 800000), (3, .ptr 800001), (17, .ptr 800002), (18, .data (.int .i64))]
abbrev H : List (Nat × ESh) := [(800000, .cell (.data (.arr .u8 32))), (800001, .cell (.data (.arr .u32 8))), (800002, .cell (.data (.arr .u8 32)))]
abbrev cl : List (Place × Nat × Hint) := []
abbrev hn : List (Nat × Hint) := [(2, .any), (3, .any), (17, .any), (18, .any)]
abbrev kp : List Nat := []
abbrev rc : List (Place × Nat × Hint) := []
abbrev rs : List (Nat × Hint) := []
abbrev ri : List Nat := []
def KX (d : (Unit × Unit × Unit × Int × Unit)) (e : ((List Int) × (List Int) × (List Int) × Unit)) (v : (Int × (List Int))) : St := ⟨mkS S ((), (), (), v.1, ()), mkH H (e.1, e.2.1, v.2, ())⟩
def sum (k : Nat) : LoopSum := sigLoopX S cl hn kp H 12 (fun (d : (Unit × Unit × Unit × Int × Unit)) (e : ((List Int) × (List Int) × (List Int) × Unit)) => f k e.1 e.2.1 k d.2.2.2.1 e.2.2.1) KX
end l12
def tree {X : Type} (K : (List Int) → Option X) (k : Nat) (a0 : (List Int)) : Option X :=
  (Option.bind (trailheadref01_padded.f k a0) (fun r1 => (Option.bind (trailheadref01_Of.l0.f k r1 ([0, 0, 0, 0, 0, 0, 0, 0, 0, 0, 0, 0, 0, 0, 0, 0, 0, 0, 0, 0, 0, 0, 0, 0, 0, 0, 0, 0, 0, 0, 0, 0] : (List Int)) k (0 : Int) ([1779033703, 3144134277, 1013904242, 2773480762, 1359893119, 2600822924, 528734635, 1541459225] : (List Int))) (fun r18 => (Option.bind (trailheadref01_Of.l12.f k ([0, 0, 0, 0, 0, 0, 0, 0, 0, 0, 0, 0, 0, 0, 0, 0, 0, 0, 0, 0, 0, 0, 0, 0, 0, 0, 0, 0, 0, 0, 0, 0] : (List Int)) r18.2 k (0 : Int) ([0, 0, 0, 0, 0, 0, 0, 0, 0, 0, 0, 0, 0, 0, 0, 0, 0, 0, 0, 0, 0, 0, 0, 0, 0, 0, 0, 0, 0, 0, 0, 0] : (List Int))) (fun r19 => (K r19.2)))))))
def f (k : Nat) (a0 : (List Int)) : Option (List Int) := tree (fun b0 => some b0) k a0
theorem tree_nat {X Y : Type} (h : X → Option Y) (K : (List Int) → Option X) (k : Nat) (a0 : (List Int)) : Option.bind (tree K k a0) h = tree (fun b0 => Option.bind (K b0) h) k a0 := by
  simp only [tree, bif_bind, sel_bind', Option.bind_assoc, Option.bind_none, Option.bind_some]
abbrev ps : List Sh := [.data .str]
abbrev hs : List (Nat × ESh) := []
abbrev hi : List Nat := hs.map (·.1)
abbrev fi : List Nat := []
abbrev cl : List (Place × Nat × Hint) := []
abbrev hn : List Hint := [.any]
def val (t : (List Int)) : AV := Sh.mk (.data (.arr .u8 32)) t
def wr (t : (List Int)) : Heap := []
def callee (k : Nat) : Callee := sigCallee ps hs (fun (d : ((List Int) × Unit)) (e : Unit) => f k d.1) val wr
def E (k : Nat) : Env := ⟨fnTab [(58, [trailheadref01_padded.callee k]), (59, [trailheadref01_right.callee k]), (60, [trailheadref01_k.callee k])], loopTab [(4, l4.sum k), (2, l2.sum k), (6, l6.sum k), (8, l8.sum k), (10, l10.sum k), (0, l0.sum k), (12, l12.sum k)], natsTab [], natTab []⟩
theorem fE (k : Nat) : ∀ f, ∀ c ∈ (E k).fn f, CalleeOK Tryd.prog f c := fnTab_ok ⟨⟨trailheadref01_padded.ok k, trivial⟩, ⟨trailheadref01_right.ok k, trivial⟩, ⟨trailheadref01_k.ok k, trivial⟩, trivial⟩
namespace l4
theorem round (k : Nat) (d : (Unit × Unit × (List Int) × Int × Unit × Int × Int × Unit)) (e : ((List Int) × (List Int) × (List Int) × Unit)) (G : St → Option (Ex × St)) : roundK Tryd.prog (E k) 225 4 (subC (bodyOf Tryd.f45) [1, 1, 1, 0, 1, 0, 0, 1, 0, 0, 1, 0, 1, 0, 0, 1, 0, 0, 1, 0, 0]) (recast cl hn kp) (finBy cl hn kp rc rs ri) G ⟨mkS S d, mkH H e⟩ =
    step (fun x8 y800002 => some (.exit 4, KX d e (x8, y800002))) (fun x8 y800002 => G ⟨mkS S ((), (), d.2.2.1, d.2.2.2.1, (), d.2.2.2.2.2.1, x8, ()), mkH H (e.1, e.2.1, y800002, ())⟩) k d.2.2.1 d.2.2.2.1 d.2.2.2.2.2.1 e.1 e.2.1 d.2.2.2.2.2.2.1 e.2.2.1 := by kernel_rfl
theorem it (k n : Nat) (d : (Unit × Unit × (List Int) × Int × Unit × Int × Int × Unit)) (e : ((List Int) × (List Int) × (List Int) × Unit)) : loopIt Tryd.prog (E k) 225 4 (subC (bodyOf Tryd.f45) [1, 1, 1, 0, 1, 0, 0, 1, 0, 0, 1, 0, 1, 0, 0, 1, 0, 0, 1, 0, 0]) (recast cl hn kp) (finBy cl hn kp rc rs ri) n ⟨mkS S d, mkH H e⟩ = go (fun x8 y800002 => some (.exit 4, KX d e (x8, y800002))) k d.2.2.1 d.2.2.2.1 d.2.2.2.2.2.1 e.1 e.2.1 n d.2.2.2.2.2.2.1 e.2.2.1 :=
  loopIt_eq (D := (Unit × Unit × (List Int) × Int × Unit × Int × Int × Unit) × ((List Int) × (List Int) × (List Int) × Unit)) (fun p => ⟨mkS S p.1, mkH H p.2⟩) (fun F p => step (fun x8 y800002 => some (.exit 4, KX p.1 p.2 (x8, y800002))) (fun x8 y800002 => F (((), (), p.1.2.2.1, p.1.2.2.2.1, (), p.1.2.2.2.2.2.1, x8, ()), (p.2.1, p.2.2.1, y800002, ()))) k p.1.2.2.1 p.1.2.2.2.1 p.1.2.2.2.2.2.1 p.2.1 p.2.2.1 p.1.2.2.2.2.2.2.1 p.2.2.2.1) (fun n p => go (fun x8 y800002 => some (.exit 4, KX p.1 p.2 (x8, y800002))) k p.1.2.2.1 p.1.2.2.2.1 p.1.2.2.2.2.2.1 p.2.1 p.2.2.1 n p.1.2.2.2.2.2.2.1 p.2.2.2.1) (fun _ => rfl) (fun _ _ => rfl) (fun G p => round k p.1 p.2 G) n (d, e)
theorem ok (k : Nat) : LoopOK Tryd.prog 225 (subC (bodyOf Tryd.f45) [1, 1, 1, 0, 1, 0, 0, 1, 0, 0, 1, 0, 1, 0, 0, 1, 0, 0, 1, 0, 0]) (sum k) :=
  loop_sigX hm (fE k) (loopsOK_of [] (by kernel_rfl) trivial) S cl hn kp H 4 (fun (d : (Unit × Unit × (List Int) × Int × Unit × Int × Int × Unit)) (e : ((List Int) × (List Int) × (List Int) × Unit)) => f k d.2.2.1 d.2.2.2.1 d.2.2.2.2.2.1 e.1 e.2.1 k d.2.2.2.2.2.2.1 e.2.2.1) KX cl hn kp rc rs ri k
    (fun d e => (it k k d e).trans (go_nat (fun v => some (Ex.exit 4, KX d e v)) (fun x8 y800002 => some (x8, y800002)) k d.2.2.1 d.2.2.2.1 d.2.2.2.2.2.1 e.1 e.2.1 k d.2.2.2.2.2.2.1 e.2.2.1).symm)
end l4
namespace l2
theorem round (k : Nat) (d : (Unit × Unit × (List Int) × Int × Unit × Int × Unit)) (e : ((List Int) × (List Int) × (List Int) × Unit)) (G : St → Option (Ex × St)) : roundK Tryd.prog (E k) 225 2 (subC (bodyOf Tryd.f45) [1, 1, 1, 0, 1, 0, 0, 1, 0, 0, 1, 0, 1, 0, 0]) (recast cl hn kp) (finBy cl hn kp rc rs ri) G ⟨mkS S d, mkH H e⟩ =
    step (fun x7 y800002 => some (.exit 2, KX d e (x7, y800002))) (fun x7 y800002 => G ⟨mkS S ((), (), d.2.2.1, d.2.2.2.1, (), x7, ()), mkH H (e.1, e.2.1, y800002, ())⟩) k d.2.2.1 d.2.2.2.1 e.1 e.2.1 d.2.2.2.2.2.1 e.2.2.1 := by kernel_rfl
theorem it (k n : Nat) (d : (Unit × Unit × (List Int) × Int × Unit × Int × Unit)) (e : ((List Int) × (List Int) × (List Int) × Unit)) : loopIt Tryd.prog (E k) 225 2 (subC (bodyOf Tryd.f45) [1, 1, 1, 0, 1, 0, 0, 1, 0, 0, 1, 0, 1, 0, 0]) (recast cl hn kp) (finBy cl hn kp rc rs ri) n ⟨mkS S d, mkH H e⟩ = go (fun x7 y800002 => some (.exit 2, KX d e (x7, y800002))) k d.2.2.1 d.2.2.2.1 e.1 e.2.1 n d.2.2.2.2.2.1 e.2.2.1 :=
  loopIt_eq (D := (Unit × Unit × (List Int) × Int × Unit × Int × Unit) × ((List Int) × (List Int) × (List Int) × Unit)) (fun p => ⟨mkS S p.1, mkH H p.2⟩) (fun F p => step (fun x7 y800002 => some (.exit 2, KX p.1 p.2 (x7, y800002))) (fun x7 y800002 => F (((), (), p.1.2.2.1, p.1.2.2.2.1, (), x7, ()), (p.2.1, p.2.2.1, y800002, ()))) k p.1.2.2.1 p.1.2.2.2.1 p.2.1 p.2.2.1 p.1.2.2.2.2.2.1 p.2.2.2.1) (fun n p => go (fun x7 y800002 => some (.exit 2, KX p.1 p.2 (x7, y800002))) k p.1.2.2.1 p.1.2.2.2.1 p.2.1 p.2.2.1 n p.1.2.2.2.2.2.1 p.2.2.2.1) (fun _ => rfl) (fun _ _ => rfl) (fun G p => round k p.1 p.2 G) n (d, e)
theorem ok (k : Nat) : LoopOK Tryd.prog 225 (subC (bodyOf Tryd.f45) [1, 1, 1, 0, 1, 0, 0, 1, 0, 0, 1, 0, 1, 0, 0]) (sum k) :=
  loop_sigX hm (fE k) (loopsOK_of [(4, subC (bodyOf Tryd.f45) [1, 1, 1, 0, 1, 0, 0, 1, 0, 0, 1, 0, 1, 0, 0, 1, 0, 0, 1, 0, 0])] (by kernel_rfl) ⟨of_loop (l4.sum k) rfl (l4.ok k), trivial⟩) S cl hn kp H 2 (fun (d : (Unit × Unit × (List Int) × Int × Unit × Int × Unit)) (e : ((List Int) × (List Int) × (List Int) × Unit)) => f k d.2.2.1 d.2.2.2.1 e.1 e.2.1 k d.2.2.2.2.2.1 e.2.2.1) KX cl hn kp rc rs ri k
    (fun d e => (it k k d e).trans (go_nat (fun v => some (Ex.exit 2, KX d e v)) (fun x7 y800002 => some (x7, y800002)) k d.2.2.1 d.2.2.2.1 e.1 e.2.1 k d.2.2.2.2.2.1 e.2.2.1).symm)
end l2
namespace l6
theorem round (k : Nat) (d : (Unit × Unit × (List Int) × Int × Unit × Int × Unit)) (e : ((List Int) × (List Int) × (List Int) × Unit)) (G : St → Option (Ex × St)) : roundK Tryd.prog (E k) 225 6 (subC (bodyOf Tryd.f45) [1, 1, 1, 0, 1, 0, 0, 1, 0, 0, 1, 1, 0, 1, 0, 0]) (recast cl hn kp) (finBy cl hn kp rc rs ri) G ⟨mkS S d, mkH H e⟩ =
    step (fun x9 y800002 => some (.exit 6, KX d e (x9, y800002))) (fun x9 y800002 => G ⟨mkS S ((), (), d.2.2.1, d.2.2.2.1, (), x9, ()), mkH H (e.1, e.2.1, y800002, ())⟩) k d.2.2.1 d.2.2.2.1 e.1 e.2.1 d.2.2.2.2.2.1 e.2.2.1 := by kernel_rfl
theorem it (k n : Nat) (d : (Unit × Unit × (List Int) × Int × Unit × Int × Unit)) (e : ((List Int) × (List Int) × (List Int) × Unit)) : loopIt Tryd.prog (E k) 225 6 (subC (bodyOf Tryd.f45) [1, 1, 1, 0, 1, 0, 0, 1, 0, 0, 1, 1, 0, 1, 0, 0]) (recast cl hn kp) (finBy cl hn kp rc rs ri) n ⟨mkS S d, mkH H e⟩ = go (fun x9 y800002 => some (.exit 6, KX d e (x9, y800002))) k d.2.2.1 d.2.2.2.1 e.1 e.2.1 n d.2.2.2.2.2.1 e.2.2.1 :=
  loopIt_eq (D := (Unit × Unit × (List Int) × Int × Unit × Int × Unit) × ((List Int) × (List Int) × (List Int) × Unit)) (fun p => ⟨mkS S p.1, mkH H p.2⟩) (fun F p => step (fun x9 y800002 => some (.exit 6, KX p.1 p.2 (x9, y800002))) (fun x9 y800002 => F (((), (), p.1.2.2.1, p.1.2.2.2.1, (), x9, ()), (p.2.1, p.2.2.1, y800002, ()))) k p.1.2.2.1 p.1.2.2.2.1 p.2.1 p.2.2.1 p.1.2.2.2.2.2.1 p.2.2.2.1) (fun n p => go (fun x9 y800002 => some (.exit 6, KX p.1 p.2 (x9, y800002))) k p.1.2.2.1 p.1.2.2.2.1 p.2.1 p.2.2.1 n p.1.2.2.2.2.2.1 p.2.2.2.1) (fun _ => rfl) (fun _ _ => rfl) (fun G p => round k p.1 p.2 G) n (d, e)
theorem ok (k : Nat) : LoopOK Tryd.prog 225 (subC (bodyOf Tryd.f45) [1, 1, 1, 0, 1, 0, 0, 1, 0, 0, 1, 1, 0, 1, 0, 0]) (sum k) :=
  loop_sigX hm (fE k) (loopsOK_of [] (by kernel_rfl) trivial) S cl hn kp H 6 (fun (d : (Unit × Unit × (List Int) × Int × Unit × Int × Unit)) (e : ((List Int) × (List Int) × (List Int) × Unit)) => f k d.2.2.1 d.2.2.2.1 e.1 e.2.1 k d.2.2.2.2.2.1 e.2.2.1) KX cl hn kp rc rs ri k
    (fun d e => (it k k d e).trans (go_nat (fun v => some (Ex.exit 6, KX d e v)) (fun x9 y800002 => some (x9, y800002)) k d.2.2.1 d.2.2.2.1 e.1 e.2.1 k d.2.2.2.2.2.1 e.2.2.1).symm)
end l6
namespace l8
theorem round (k : Nat) (d : (Unit × Unit × (List Int) × Int × Unit × Unit × Int × Unit)) (e : ((List Int) × (List Int) × (List Int) × (List Int) × Unit)) (G : St → Option (Ex × St)) : roundK Tryd.prog (E k) 225 8 (subC (bodyOf Tryd.f45) [1, 1, 1, 0, 1, 0, 0, 1, 0, 0, 1, 1, 1, 1, 0, 1, 0, 0]) (recast cl hn kp) (finBy cl hn kp rc rs ri) G ⟨mkS S d, mkH H e⟩ =
    step (fun x13 y800003 => some (.exit 8, KX d e (x13, y800003))) (fun x13 y800003 => G ⟨mkS S ((), (), d.2.2.1, d.2.2.2.1, (), (), x13, ()), mkH H (e.1, e.2.1, e.2.2.1, y800003, ())⟩) k d.2.2.1 d.2.2.2.1 e.1 e.2.1 e.2.2.1 d.2.2.2.2.2.2.1 e.2.2.2.1 := by kernel_rfl
theorem it (k n : Nat) (d : (Unit × Unit × (List Int) × Int × Unit × Unit × Int × Unit)) (e : ((List Int) × (List Int) × (List Int) × (List Int) × Unit)) : loopIt Tryd.prog (E k) 225 8 (subC (bodyOf Tryd.f45) [1, 1, 1, 0, 1, 0, 0, 1, 0, 0, 1, 1, 1, 1, 0, 1, 0, 0]) (recast cl hn kp) (finBy cl hn kp rc rs ri) n ⟨mkS S d, mkH H e⟩ = go (fun x13 y800003 => some (.exit 8, KX d e (x13, y800003))) k d.2.2.1 d.2.2.2.1 e.1 e.2.1 e.2.2.1 n d.2.2.2.2.2.2.1 e.2.2.2.1 :=
  loopIt_eq (D := (Unit × Unit × (List Int) × Int × Unit × Unit × Int × Unit) × ((List Int) × (List Int) × (List Int) × (List Int) × Unit)) (fun p => ⟨mkS S p.1, mkH H p.2⟩) (fun F p => step (fun x13 y800003 => some (.exit 8, KX p.1 p.2 (x13, y800003))) (fun x13 y800003 => F (((), (), p.1.2.2.1, p.1.2.2.2.1, (), (), x13, ()), (p.2.1, p.2.2.1, p.2.2.2.1, y800003, ()))) k p.1.2.2.1 p.1.2.2.2.1 p.2.1 p.2.2.1 p.2.2.2.1 p.1.2.2.2.2.2.2.1 p.2.2.2.2.1) (fun n p => go (fun x13 y800003 => some (.exit 8, KX p.1 p.2 (x13, y800003))) k p.1.2.2.1 p.1.2.2.2.1 p.2.1 p.2.2.1 p.2.2.2.1 n p.1.2.2.2.2.2.2.1 p.2.2.2.2.1) (fun _ => rfl) (fun _ _ => rfl) (fun G p => round k p.1 p.2 G) n (d, e)
theorem ok (k : Nat) : LoopOK Tryd.prog 225 (subC (bodyOf Tryd.f45) [1, 1, 1, 0, 1, 0, 0, 1, 0, 0, 1, 1, 1, 1, 0, 1, 0, 0]) (sum k) :=
  loop_sigX hm (fE k) (loopsOK_of [] (by kernel_rfl) trivial) S cl hn kp H 8 (fun (d : (Unit × Unit × (List Int) × Int × Unit × Unit × Int × Unit)) (e : ((List Int) × (List Int) × (List Int) × (List Int) × Unit)) => f k d.2.2.1 d.2.2.2.1 e.1 e.2.1 e.2.2.1 k d.2.2.2.2.2.2.1 e.2.2.2.1) KX cl hn kp rc rs ri k
    (fun d e => (it k k d e).trans (go_nat (fun v => some (Ex.exit 8, KX d e v)) (fun x13 y800003 => some (x13, y800003)) k d.2.2.1 d.2.2.2.1 e.1 e.2.1 e.2.2.1 k d.2.2.2.2.2.2.1 e.2.2.2.1).symm)
end l8
namespace l10
theorem round (k : Nat) (d : (Unit × Unit × (List Int) × Int × Unit × Int × Unit)) (e : ((List Int) × (List Int) × (List Int) × Unit)) (G : St → Option (Ex × St)) : roundK Tryd.prog (E k) 225 10 (subC (bodyOf Tryd.f45) [1, 1, 1, 0, 1, 0, 0, 1, 0, 0, 1, 1, 1, 1, 1, 1, 0, 0]) (recast cl hn kp) (finBy cl hn kp rc rs ri) G ⟨mkS S d, mkH H e⟩ =
    step (fun x16 y800001 => some (.exit 10, KX d e (x16, y800001))) (fun x16 y800001 => G ⟨mkS S ((), (), d.2.2.1, d.2.2.2.1, (), x16, ()), mkH H (e.1, y800001, e.2.2.1, ())⟩) k d.2.2.1 d.2.2.2.1 e.1 e.2.2.1 d.2.2.2.2.2.1 e.2.1 := by kernel_rfl
theorem it (k n : Nat) (d : (Unit × Unit × (List Int) × Int × Unit × Int × Unit)) (e : ((List Int) × (List Int) × (List Int) × Unit)) : loopIt Tryd.prog (E k) 225 10 (subC (bodyOf Tryd.f45) [1, 1, 1, 0, 1, 0, 0, 1, 0, 0, 1, 1, 1, 1, 1, 1, 0, 0]) (recast cl hn kp) (finBy cl hn kp rc rs ri) n ⟨mkS S d, mkH H e⟩ = go (fun x16 y800001 => some (.exit 10, KX d e (x16, y800001))) k d.2.2.1 d.2.2.2.1 e.1 e.2.2.1 n d.2.2.2.2.2.1 e.2.1 :=
  loopIt_eq (D := (Unit × Unit × (List Int) × Int × Unit × Int × Unit) × ((List Int) × (List Int) × (List Int) × Unit)) (fun p => ⟨mkS S p.1, mkH H p.2⟩) (fun F p => step (fun x16 y800001 => some (.exit 10, KX p.1 p.2 (x16, y800001))) (fun x16 y800001 => F (((), (), p.1.2.2.1, p.1.2.2.2.1, (), x16, ()), (p.2.1, y800001, p.2.2.2.1, ()))) k p.1.2.2.1 p.1.2.2.2.1 p.2.1 p.2.2.2.1 p.1.2.2.2.2.2.1 p.2.2.1) (fun n p => go (fun x16 y800001 => some (.exit 10, KX p.1 p.2 (x16, y800001))) k p.1.2.2.1 p.1.2.2.2.1 p.2.1 p.2.2.2.1 n p.1.2.2.2.2.2.1 p.2.2.1) (fun _ => rfl) (fun _ _ => rfl) (fun G p => round k p.1 p.2 G) n (d, e)
theorem ok (k : Nat) : LoopOK Tryd.prog 225 (subC (bodyOf Tryd.f45) [1, 1, 1, 0, 1, 0, 0, 1, 0, 0, 1, 1, 1, 1, 1, 1, 0, 0]) (sum k) :=
  loop_sigX hm (fE k) (loopsOK_of [] (by kernel_rfl) trivial) S cl hn kp H 10 (fun (d : (Unit × Unit × (List Int) × Int × Unit × Int × Unit)) (e : ((List Int) × (List Int) × (List Int) × Unit)) => f k d.2.2.1 d.2.2.2.1 e.1 e.2.2.1 k d.2.2.2.2.2.1 e.2.1) KX cl hn kp rc rs ri k
    (fun d e => (it k k d e).trans (go_nat (fun v => some (Ex.exit 10, KX d e v)) (fun x16 y800001 => some (x16, y800001)) k d.2.2.1 d.2.2.2.1 e.1 e.2.2.1 k d.2.2.2.2.2.1 e.2.1).symm)
end l10
namespace l0
theorem round (k : Nat) (d : (Unit × Unit × (List Int) × Int × Unit)) (e : ((List Int) × (List Int) × Unit)) (G : St → Option (Ex × St)) : roundK Tryd.prog (E k) 225 0 (subC (bodyOf Tryd.f45) [1, 1, 1, 0, 1, 0, 0]) (recast cl hn kp) (finBy cl hn kp rc rs ri) G ⟨mkS S d, mkH H e⟩ =
    step (fun x5 y800001 => some (.exit 0, KX d e (x5, y800001))) (fun x5 y800001 => G ⟨mkS S ((), (), d.2.2.1, x5, ()), mkH H (e.1, y800001, ())⟩) k d.2.2.1 e.1 d.2.2.2.1 e.2.1 := by kernel_rfl
theorem it (k n : Nat) (d : (Unit × Unit × (List Int) × Int × Unit)) (e : ((List Int) × (List Int) × Unit)) : loopIt Tryd.prog (E k) 225 0 (subC (bodyOf Tryd.f45) [1, 1, 1, 0, 1, 0, 0]) (recast cl hn kp) (finBy cl hn kp rc rs ri) n ⟨mkS S d, mkH H e⟩ = go (fun x5 y800001 => some (.exit 0, KX d e (x5, y800001))) k d.2.2.1 e.1 n d.2.2.2.1 e.2.1 :=
  loopIt_eq (D := (Unit × Unit × (List Int) × Int × Unit) × ((List Int) × (List Int) × Unit)) (fun p => ⟨mkS S p.1, mkH H p.2⟩) (fun F p => step (fun x5 y800001 => some (.exit 0, KX p.1 p.2 (x5, y800001))) (fun x5 y800001 => F (((), (), p.1.2.2.1, x5, ()), (p.2.1, y800001, ()))) k p.1.2.2.1 p.2.1 p.1.2.2.2.1 p.2.2.1) (fun n p => go (fun x5 y800001 => some (.exit 0, KX p.1 p.2 (x5, y800001))) k p.1.2.2.1 p.2.1 n p.1.2.2.2.1 p.2.2.1) (fun _ => rfl) (fun _ _ => rfl) (fun G p => round k p.1 p.2 G) n (d, e)
theorem ok (k : Nat) : LoopOK Tryd.prog 225 (subC (bodyOf Tryd.f45) [1, 1, 1, 0, 1, 0, 0]) (sum k) :=
  loop_sigX hm (fE k) (loopsOK_of [(2, subC (bodyOf Tryd.f45) [1, 1, 1, 0, 1, 0, 0, 1, 0, 0, 1, 0, 1, 0, 0]), (6, subC (bodyOf Tryd.f45) [1, 1, 1, 0, 1, 0, 0, 1, 0, 0, 1, 1, 0, 1, 0, 0]), (8, subC (bodyOf Tryd.f45) [1, 1, 1, 0, 1, 0, 0, 1, 0, 0, 1, 1, 1, 1, 0, 1, 0, 0]), (10, subC (bodyOf Tryd.f45) [1, 1, 1, 0, 1, 0, 0, 1, 0, 0, 1, 1, 1, 1, 1, 1, 0, 0])] (by kernel_rfl) ⟨of_loop (l2.sum k) rfl (l2.ok k), ⟨of_loop (l6.sum k) rfl (l6.ok k), ⟨of_loop (l8.sum k) rfl (l8.ok k), ⟨of_loop (l10.sum k) rfl (l10.ok k), trivial⟩⟩⟩⟩) S cl hn kp H 0 (fun (d : (Unit × Unit × (List Int) × Int × Unit)) (e : ((List Int) × (List Int) × Unit)) => f k d.2.2.1 e.1 k d.2.2.2.1 e.2.1) KX cl hn kp rc rs ri k
    (fun d e => (it k k d e).trans (go_nat (fun v => some (Ex.exit 0, KX d e v)) (fun x5 y800001 => some (x5, y800001)) k d.2.2.1 e.1 k d.2.2.2.1 e.2.1).symm)
end l0
namespace l12
theorem round (k : Nat) (d : (Unit × Unit × Unit × Int × Unit)) (e : ((List Int) × (List Int) × (List Int) × Unit)) (G : St → Option (Ex × St)) : roundK Tryd.prog (E k) 225 12 (subC (bodyOf Tryd.f45) [1, 1, 1, 1, 1, 0, 1, 0, 0]) (recast cl hn kp) (finBy cl hn kp rc rs ri) G ⟨mkS S d, mkH H e⟩ =
    step (fun x18 y800002 => some (.exit 12, KX d e (x18, y800002))) (fun x18 y800002 => G ⟨mkS S ((), (), (), x18, ()), mkH H (e.1, e.2.1, y800002, ())⟩) k e.1 e.2.1 d.2.2.2.1 e.2.2.1 := by kernel_rfl
theorem it (k n : Nat) (d : (Unit × Unit × Unit × Int × Unit)) (e : ((List Int) × (List Int) × (List Int) × Unit)) : loopIt Tryd.prog (E k) 225 12 (subC (bodyOf Tryd.f45) [1, 1, 1, 1, 1, 0, 1, 0, 0]) (recast cl hn kp) (finBy cl hn kp rc rs ri) n ⟨mkS S d, mkH H e⟩ = go (fun x18 y800002 => some (.exit 12, KX d e (x18, y800002))) k e.1 e.2.1 n d.2.2.2.1 e.2.2.1 :=
  loopIt_eq (D := (Unit × Unit × Unit × Int × Unit) × ((List Int) × (List Int) × (List Int) × Unit)) (fun p => ⟨mkS S p.1, mkH H p.2⟩) (fun F p => step (fun x18 y800002 => some (.exit 12, KX p.1 p.2 (x18, y800002))) (fun x18 y800002 => F (((), (), (), x18, ()), (p.2.1, p.2.2.1, y800002, ()))) k p.2.1 p.2.2.1 p.1.2.2.2.1 p.2.2.2.1) (fun n p => go (fun x18 y800002 => some (.exit 12, KX p.1 p.2 (x18, y800002))) k p.2.1 p.2.2.1 n p.1.2.2.2.1 p.2.2.2.1) (fun _ => rfl) (fun _ _ => rfl) (fun G p => round k p.1 p.2 G) n (d, e)
theorem ok (k : Nat) : LoopOK Tryd.prog 225 (subC (bodyOf Tryd.f45) [1, 1, 1, 1, 1, 0, 1, 0, 0]) (sum k) :=
  loop_sigX hm (fE k) (loopsOK_of [] (by kernel_rfl) trivial) S cl hn kp H 12 (fun (d : (Unit × Unit × Unit × Int × Unit)) (e : ((List Int) × (List Int) × (List Int) × Unit)) => f k e.1 e.2.1 k d.2.2.2.1 e.2.2.1) KX cl hn kp rc rs ri k
    (fun d e => (it k k d e).trans (go_nat (fun v => some (Ex.exit 12, KX d e v)) (fun x18 y800002 => some (x18, y800002)) k e.1 e.2.1 k d.2.2.2.1 e.2.2.1).symm)
end l12
theorem run (k : Nat) (d : ((List Int) × Unit)) (e : Unit) : runFn Tryd.prog (E k) 225 (bodyOf Tryd.f45) Tryd.f45.results.toList cl hn hi (mkL ps d) (mkH hs e) =
    tree (fun b0 => leafFn hs fi e val wr b0) k d.1 := by kernel_rfl
theorem run_f (k : Nat) (d : ((List Int) × Unit)) (e : Unit) : runFn Tryd.prog (E k) 225 (bodyOf Tryd.f45) Tryd.f45.results.toList cl hn hi (mkL ps d) (mkH hs e) = (f k d.1).bind (leafFn hs fi e val wr) :=
  (run k d e).trans (tree_nat (leafFn hs fi e val wr) (fun b0 => some b0) k d.1).symm
theorem fnIs : FnIs Tryd.prog 45 Tryd.f45 (bodyOf Tryd.f45) 225 := ⟨by kernel_rfl, by kernel_rfl, by kernel_rfl, by kernel_rfl⟩
theorem ok (k : Nat) : CalleeOK Tryd.prog 45 (callee k) :=
  callee_sig (T := (List Int)) fnIs hm (fE k) (loopsOK_of [(0, subC (bodyOf Tryd.f45) [1, 1, 1, 0, 1, 0, 0]), (12, subC (bodyOf Tryd.f45) [1, 1, 1, 1, 1, 0, 1, 0, 0])] (by kernel_rfl) ⟨of_loop (l0.sum k) rfl (l0.ok k), ⟨of_loop (l12.sum k) rfl (l12.ok k), trivial⟩⟩) ps hs cl hn fi (fun (d : ((List Int) × Unit)) (e : Unit) => f k d.1) val wr rfl (fun _ => rfl) (run_f k)
end trailheadref01_Of
namespace trailheadref01_Double
namespace l0
def step {X : Type} (K : (List Int) → Int → Option X) (G : (List Int) → Int → Option X) (k : Nat) (y800000 : (List Int)) (y800001 : (List Int)) (x4 : (List Int)) (x5 : Int) : Option X :=
  (bif (decide (x5 < (32 : Int))) then (bif (decide (0 ≤ x5)) then (bif (decide (x5 < 32)) then (bif (decide ((Int.toNat x5) < 32)) then (bif (fits ((List.length x4) + (List.length (toStr ([(List.getD y800001 (Int.toNat x5) 0)] : (List Int)))))) then (G (x4 ++ (toStr ([(List.getD y800001 (Int.toNat x5) 0)] : (List Int)))) (addI .i64 x5 1)) else none) else none) else none) else none) else (K x4 x5))
def go {X : Type} (K : (List Int) → Int → Option X) (k : Nat) (y800000 : (List Int)) (y800001 : (List Int)) : Nat → (List Int) → Int → Option X
  | 0, _, _ => none
  | n + 1, x4, x5 => step K (go K k y800000 y800001 n) k y800000 y800001 x4 x5
def f (k : Nat) (y800000 : (List Int)) (y800001 : (List Int)) (n : Nat) (x4 : (List Int)) (x5 : Int) : Option ((List Int) × Int) := go (fun x4 x5 => some (x4, x5)) k y800000 y800001 n x4 x5
theorem step_nat {X Y : Type} (h : X → Option Y) (K : (List Int) → Int → Option X) (G : (List Int) → Int → Option X) (k : Nat) (y800000 : (List Int)) (y800001 : (List Int)) (x4 : (List Int)) (x5 : Int) : Option.bind (step K G k y800000 y800001 x4 x5) h = step (fun x4 x5 => Option.bind (K x4 x5) h) (fun x4 x5 => Option.bind (G x4 x5) h) k y800000 y800001 x4 x5 := by
  simp only [step, bif_bind, sel_bind', Option.bind_assoc, Option.bind_none, Option.bind_some]
theorem go_nat {X Y : Type} (h : X → Option Y) (K : (List Int) → Int → Option X) (k : Nat) (y800000 : (List Int)) (y800001 : (List Int)) (n : Nat) : ∀ (x4 : (List Int)) (x5 : Int), Option.bind (go K k y800000 y800001 n x4 x5) h = go (fun x4 x5 => Option.bind (K x4 x5) h) k y800000 y800001 n x4 x5 := by
  induction n with
  | zero => intros; rfl
  | succ n ih => intro x4 x5; show Option.bind (step K (go K k y800000 y800001 n) k y800000 y800001 x4 x5) h = step (fun x4 x5 => Option.bind (K x4 x5) h) (go (fun x4 x5 => Option.bind (K x4 x5) h) k y800000 y800001 n) k y800000 y800001 x4 x5; rw [step_nat h]; simp only [ih]
abbrev S : List (Nat × Sh) := [(2, .ptr 800000), (3, .ptr 800001), (4, .data .str), (5, .data (.int .i64))]
abbrev H : List (Nat × ESh) := [(800000, .cell (.data (.arr .u8 32))), (800001, .cell (.data (.arr .u8 32)))]
abbrev cl : List (Place × Nat × Hint) := []
abbrev hn : List (Nat × Hint) := [(2, .any), (3, .any), (4, .any), (5, .any)]
abbrev kp : List Nat := []
abbrev rc : List (Place × Nat × Hint) := []
abbrev rs : List (Nat × Hint) := []
abbrev ri : List Nat := []
def KX (d : (Unit × Unit × (List Int) × Int × Unit)) (e : ((List Int) × (List Int) × Unit)) (v : ((List Int) × Int)) : St := ⟨mkS S ((), (), v.1, v.2, ()), mkH H (e.1, e.2.1, ())⟩
def sum (k : Nat) : LoopSum := sigLoopX S cl hn kp H 0 (fun (d : (Unit × Unit × (List Int) × Int × Unit)) (e : ((List Int) × (List Int) × Unit)) => f k e.1 e.2.1 k d.2.2.1 d.2.2.2.1) KX
end l0
def tree {X : Type} (K : (List Int) → Option X) (k : Nat) (a0 : (List Int)) : Option X :=
  (Option.bind (trailheadref01_Of.f k a0) (fun r1 => (Option.bind (trailheadref01_Double.l0.f k ([0, 0, 0, 0, 0, 0, 0, 0, 0, 0, 0, 0, 0, 0, 0, 0, 0, 0, 0, 0, 0, 0, 0, 0, 0, 0, 0, 0, 0, 0, 0, 0] : (List Int)) r1 k ([] : (List Int)) (0 : Int)) (fun r2 => (Option.bind (trailheadref01_Of.f k r2.1) (fun r3 => (K r3)))))))
def f (k : Nat) (a0 : (List Int)) : Option (List Int) := tree (fun b0 => some b0) k a0
theorem tree_nat {X Y : Type} (h : X → Option Y) (K : (List Int) → Option X) (k : Nat) (a0 : (List Int)) : Option.bind (tree K k a0) h = tree (fun b0 => Option.bind (K b0) h) k a0 := by
  simp only [tree, bif_bind, sel_bind', Option.bind_assoc, Option.bind_none, Option.bind_some]
abbrev ps : List Sh := [.data .str]
abbrev hs : List (Nat × ESh) := []
abbrev hi : List Nat := hs.map (·.1)
abbrev fi : List Nat := []
abbrev cl : List (Place × Nat × Hint) := []
abbrev hn : List Hint := [.any]
def val (t : (List Int)) : AV := Sh.mk (.data (.arr .u8 32)) t
def wr (t : (List Int)) : Heap := []
def callee (k : Nat) : Callee := sigCallee ps hs (fun (d : ((List Int) × Unit)) (e : Unit) => f k d.1) val wr
def E (k : Nat) : Env := ⟨fnTab [(45, [trailheadref01_Of.callee k])], loopTab [(0, l0.sum k)], natsTab [], natTab []⟩
theorem fE (k : Nat) : ∀ f, ∀ c ∈ (E k).fn f, CalleeOK Tryd.prog f c := fnTab_ok ⟨⟨trailheadref01_Of.ok k, trivial⟩, trivial⟩
namespace l0
theorem round (k : Nat) (d : (Unit × Unit × (List Int) × Int × Unit)) (e : ((List Int) × (List Int) × Unit)) (G : St → Option (Ex × St)) : roundK Tryd.prog (E k) 21 0 (subC (bodyOf Tryd.f29) [1, 1, 1, 0, 1, 0, 0]) (recast cl hn kp) (finBy cl hn kp rc rs ri) G ⟨mkS S d, mkH H e⟩ =
    step (fun x4 x5 => some (.exit 0, KX d e (x4, x5))) (fun x4 x5 => G ⟨mkS S ((), (), x4, x5, ()), mkH H (e.1, e.2.1, ())⟩) k e.1 e.2.1 d.2.2.1 d.2.2.2.1 := by kernel_rfl
theorem it (k n : Nat) (d : (Unit × Unit × (List Int) × Int × Unit)) (e : ((List Int) × (List Int) × Unit)) : loopIt Tryd.prog (E k) 21 0 (subC (bodyOf Tryd.f29) [1, 1, 1, 0, 1, 0, 0]) (recast cl hn kp) (finBy cl hn kp rc rs ri) n ⟨mkS S d, mkH H e⟩ = go (fun x4 x5 => some (.exit 0, KX d e (x4, x5))) k e.1 e.2.1 n d.2.2.1 d.2.2.2.1 :=
  loopIt_eq (D := (Unit × Unit × (List Int) × Int × Unit) × ((List Int) × (List Int) × Unit)) (fun p => ⟨mkS S p.1, mkH H p.2⟩) (fun F p => step (fun x4 x5 => some (.exit 0, KX p.1 p.2 (x4, x5))) (fun x4 x5 => F (((), (), x4, x5, ()), (p.2.1, p.2.2.1, ()))) k p.2.1 p.2.2.1 p.1.2.2.1 p.1.2.2.2.1) (fun n p => go (fun x4 x5 => some (.exit 0, KX p.1 p.2 (x4, x5))) k p.2.1 p.2.2.1 n p.1.2.2.1 p.1.2.2.2.1) (fun _ => rfl) (fun _ _ => rfl) (fun G p => round k p.1 p.2 G) n (d, e)
theorem ok (k : Nat) : LoopOK Tryd.prog 21 (subC (bodyOf Tryd.f29) [1, 1, 1, 0, 1, 0, 0]) (sum k) :=
  loop_sigX hm (fE k) (loopsOK_of [] (by kernel_rfl) trivial) S cl hn kp H 0 (fun (d : (Unit × Unit × (List Int) × Int × Unit)) (e : ((List Int) × (List Int) × Unit)) => f k e.1 e.2.1 k d.2.2.1 d.2.2.2.1) KX cl hn kp rc rs ri k
    (fun d e => (it k k d e).trans (go_nat (fun v => some (Ex.exit 0, KX d e v)) (fun x4 x5 => some (x4, x5)) k e.1 e.2.1 k d.2.2.1 d.2.2.2.1).symm)
end l0
theorem run (k : Nat) (d : ((List Int) × Unit)) (e : Unit) : runFn Tryd.prog (E k) 21 (bodyOf Tryd.f29) Tryd.f29.results.toList cl hn hi (mkL ps d) (mkH hs e) =
    tree (fun b0 => leafFn hs fi e val wr b0) k d.1 := by kernel_rfl
theorem run_f (k : Nat) (d : ((List Int) × Unit)) (e : Unit) : runFn Tryd.prog (E k) 21 (bodyOf Tryd.f29) Tryd.f29.results.toList cl hn hi (mkL ps d) (mkH hs e) = (f k d.1).bind (leafFn hs fi e val wr) :=
  (run k d e).trans (tree_nat (leafFn hs fi e val wr) (fun b0 => some b0) k d.1).symm
theorem fnIs : FnIs Tryd.prog 29 Tryd.f29 (bodyOf Tryd.f29) 21 := ⟨by kernel_rfl, by kernel_rfl, by kernel_rfl, by kernel_rfl⟩
theorem ok (k : Nat) : CalleeOK Tryd.prog 29 (callee k) :=
  callee_sig (T := (List Int)) fnIs hm (fE k) (loopsOK_of [(0, subC (bodyOf Tryd.f29) [1, 1, 1, 0, 1, 0, 0])] (by kernel_rfl) ⟨of_loop (l0.sum k) rfl (l0.ok k), trivial⟩) ps hs cl hn fi (fun (d : ((List Int) × Unit)) (e : Unit) => f k d.1) val wr rfl (fun _ => rfl) (run_f k)
end trailheadref01_Double
namespace trailheadref05_Name
namespace l0
def step {X : Type} (K : (List Int) → Int → Option X) (G : (List Int) → Int → Option X) (k : Nat) (y800000 : (List Int)) (x3 : (List Int)) (x4 : Int) : Option X :=
  (bif (decide (x4 < (32 : Int))) then (bif (decide (0 ≤ x4)) then (bif (decide (x4 < 32)) then (bif (decide ((Int.toNat x4) < 32)) then (bif (fits ((List.length x3) + (List.length (toStr ([(List.getD y800000 (Int.toNat x4) 0)] : (List Int)))))) then (G (x3 ++ (toStr ([(List.getD y800000 (Int.toNat x4) 0)] : (List Int)))) (addI .i64 x4 1)) else none) else none) else none) else none) else (K x3 x4))
def go {X : Type} (K : (List Int) → Int → Option X) (k : Nat) (y800000 : (List Int)) : Nat → (List Int) → Int → Option X
  | 0, _, _ => none
  | n + 1, x3, x4 => step K (go K k y800000 n) k y800000 x3 x4
def f (k : Nat) (y800000 : (List Int)) (n : Nat) (x3 : (List Int)) (x4 : Int) : Option ((List Int) × Int) := go (fun x3 x4 => some (x3, x4)) k y800000 n x3 x4
theorem step_nat {X Y : Type} (h : X → Option Y) (K : (List Int) → Int → Option X) (G : (List Int) → Int → Option X) (k : Nat) (y800000 : (List Int)) (x3 : (List Int)) (x4 : Int) : Option.bind (step K G k y800000 x3 x4) h = step (fun x3 x4 => Option.bind (K x3 x4) h) (fun x3 x4 => Option.bind (G x3 x4) h) k y800000 x3 x4 := by
  simp only [step, bif_bind, sel_bind', Option.bind_assoc, Option.bind_none, Option.bind_some]
theorem go_nat {X Y : Type} (h : X → Option Y) (K : (List Int) → Int → Option X) (k : Nat) (y800000 : (List Int)) (n : Nat) : ∀ (x3 : (List Int)) (x4 : Int), Option.bind (go K k y800000 n x3 x4) h = go (fun x3 x4 => Option.bind (K x3 x4) h) k y800000 n x3 x4 := by
  induction n with
  | zero => intros; rfl
  | succ n ih => intro x3 x4; show Option.bind (step K (go K k y800000 n) k y800000 x3 x4) h = step (fun x3 x4 => Option.bind (K x3 x4) h) (go (fun x3 x4 => Option.bind (K x3 x4) h) k y800000 n) k y800000 x3 x4; rw [step_nat h]; simp only [ih]
abbrev S : List (Nat × Sh) := [(1, .ptr 800000), (3, .data .str), (4, .data (.int .i64))]
abbrev H : List (Nat × ESh) := [(800000, .cell (.data (.arr .u8 32)))]
abbrev cl : List (Place × Nat × Hint) := []
abbrev hn : List (Nat × Hint) := [(1, .any), (3, .any), (4, .any)]
abbrev kp : List Nat := []
abbrev rc : List (Place × Nat × Hint) := []
abbrev rs : List (Nat × Hint) := []
abbrev ri : List Nat := []
def KX (d : (Unit × (List Int) × Int × Unit)) (e : ((List Int) × Unit)) (v : ((List Int) × Int)) : St := ⟨mkS S ((), v.1, v.2, ()), mkH H (e.1, ())⟩
def sum (k : Nat) : LoopSum := sigLoopX S cl hn kp H 0 (fun (d : (Unit × (List Int) × Int × Unit)) (e : ((List Int) × Unit)) => f k e.1 k d.2.1 d.2.2.1) KX
end l0
def tree {X : Type} (K : (List Int) → Option X) (k : Nat) (a0 : (List Int)) : Option X :=
  (Option.bind (trailheadref05_Name.l0.f k a0 k ([] : (List Int)) (0 : Int)) (fun r1 => (K r1.1)))
def f (k : Nat) (a0 : (List Int)) : Option (List Int) := tree (fun b0 => some b0) k a0
theorem tree_nat {X Y : Type} (h : X → Option Y) (K : (List Int) → Option X) (k : Nat) (a0 : (List Int)) : Option.bind (tree K k a0) h = tree (fun b0 => Option.bind (K b0) h) k a0 := by
  simp only [tree, bif_bind, sel_bind', Option.bind_assoc, Option.bind_none, Option.bind_some]
abbrev ps : List Sh := [.data (.arr .u8 32)]
abbrev hs : List (Nat × ESh) := []
abbrev hi : List Nat := hs.map (·.1)
abbrev fi : List Nat := []
abbrev cl : List (Place × Nat × Hint) := []
abbrev hn : List Hint := [.any]
def val (t : (List Int)) : AV := Sh.mk (.data .str) t
def wr (t : (List Int)) : Heap := []
def callee (k : Nat) : Callee := sigCallee ps hs (fun (d : ((List Int) × Unit)) (e : Unit) => f k d.1) val wr
def E (k : Nat) : Env := ⟨fnTab [], loopTab [(0, l0.sum k)], natsTab [], natTab []⟩
theorem fE (k : Nat) : ∀ f, ∀ c ∈ (E k).fn f, CalleeOK Tryd.prog f c := fnTab_ok trivial
namespace l0
theorem round (k : Nat) (d : (Unit × (List Int) × Int × Unit)) (e : ((List Int) × Unit)) (G : St → Option (Ex × St)) : roundK Tryd.prog (E k) 17 0 (subC (bodyOf Tryd.f28) [1, 1, 0, 1, 0, 0]) (recast cl hn kp) (finBy cl hn kp rc rs ri) G ⟨mkS S d, mkH H e⟩ =
    step (fun x3 x4 => some (.exit 0, KX d e (x3, x4))) (fun x3 x4 => G ⟨mkS S ((), x3, x4, ()), mkH H (e.1, ())⟩) k e.1 d.2.1 d.2.2.1 := by kernel_rfl
theorem it (k n : Nat) (d : (Unit × (List Int) × Int × Unit)) (e : ((List Int) × Unit)) : loopIt Tryd.prog (E k) 17 0 (subC (bodyOf Tryd.f28) [1, 1, 0, 1, 0, 0]) (recast cl hn kp) (finBy cl hn kp rc rs ri) n ⟨mkS S d, mkH H e⟩ = go (fun x3 x4 => some (.exit 0, KX d e (x3, x4))) k e.1 n d.2.1 d.2.2.1 :=
  loopIt_eq (D := (Unit × (List Int) × Int × Unit) × ((List Int) × Unit)) (fun p => ⟨mkS S p.1, mkH H p.2⟩) (fun F p => step (fun x3 x4 => some (.exit 0, KX p.1 p.2 (x3, x4))) (fun x3 x4 => F (((), x3, x4, ()), (p.2.1, ()))) k p.2.1 p.1.2.1 p.1.2.2.1) (fun n p => go (fun x3 x4 => some (.exit 0, KX p.1 p.2 (x3, x4))) k p.2.1 n p.1.2.1 p.1.2.2.1) (fun _ => rfl) (fun _ _ => rfl) (fun G p => round k p.1 p.2 G) n (d, e)
theorem ok (k : Nat) : LoopOK Tryd.prog 17 (subC (bodyOf Tryd.f28) [1, 1, 0, 1, 0, 0]) (sum k) :=
  loop_sigX hm (fE k) (loopsOK_of [] (by kernel_rfl) trivial) S cl hn kp H 0 (fun (d : (Unit × (List Int) × Int × Unit)) (e : ((List Int) × Unit)) => f k e.1 k d.2.1 d.2.2.1) KX cl hn kp rc rs ri k
    (fun d e => (it k k d e).trans (go_nat (fun v => some (Ex.exit 0, KX d e v)) (fun x3 x4 => some (x3, x4)) k e.1 k d.2.1 d.2.2.1).symm)
end l0
theorem run (k : Nat) (d : ((List Int) × Unit)) (e : Unit) : runFn Tryd.prog (E k) 17 (bodyOf Tryd.f28) Tryd.f28.results.toList cl hn hi (mkL ps d) (mkH hs e) =
    tree (fun b0 => leafFn hs fi e val wr b0) k d.1 := by kernel_rfl
theorem run_f (k : Nat) (d : ((List Int) × Unit)) (e : Unit) : runFn Tryd.prog (E k) 17 (bodyOf Tryd.f28) Tryd.f28.results.toList cl hn hi (mkL ps d) (mkH hs e) = (f k d.1).bind (leafFn hs fi e val wr) :=
  (run k d e).trans (tree_nat (leafFn hs fi e val wr) (fun b0 => some b0) k d.1).symm
theorem fnIs : FnIs Tryd.prog 28 Tryd.f28 (bodyOf Tryd.f28) 17 := ⟨by kernel_rfl, by kernel_rfl, by kernel_rfl, by kernel_rfl⟩
theorem ok (k : Nat) : CalleeOK Tryd.prog 28 (callee k) :=
  callee_sig (T := (List Int)) fnIs hm (fE k) (loopsOK_of [(0, subC (bodyOf Tryd.f28) [1, 1, 0, 1, 0, 0])] (by kernel_rfl) ⟨of_loop (l0.sum k) rfl (l0.ok k), trivial⟩) ps hs cl hn fi (fun (d : ((List Int) × Unit)) (e : Unit) => f k d.1) val wr rfl (fun _ => rfl) (run_f k)
end trailheadref05_Name
namespace trailheadref05_Number
namespace l0
def step {X : Type} (K : Int → (List Int) → Int → Option X) (G : Int → (List Int) → Int → Option X) (k : Nat) (x0 : Int) (x5 : Int) (x6 : (List Int)) (x7 : Int) : Option X :=
  (bif (decide (x7 < (mnI (mxI x0 1) 8))) then (bif (fits ((List.length x6) + (List.length (toStr ([(IntKind.wrap .u8 (remI x5 256))] : (List Int)))))) then (G (quoI .u64 x5 256) (x6 ++ (toStr ([(IntKind.wrap .u8 (remI x5 256))] : (List Int)))) (addI .i64 x7 1)) else none) else (K x5 x6 x7))
def go {X : Type} (K : Int → (List Int) → Int → Option X) (k : Nat) (x0 : Int) : Nat → Int → (List Int) → Int → Option X
  | 0, _, _, _ => none
  | n + 1, x5, x6, x7 => step K (go K k x0 n) k x0 x5 x6 x7
def f (k : Nat) (x0 : Int) (n : Nat) (x5 : Int) (x6 : (List Int)) (x7 : Int) : Option (Int × ((List Int) × Int)) := go (fun x5 x6 x7 => some (x5, x6, x7)) k x0 n x5 x6 x7
theorem step_nat {X Y : Type} (h : X → Option Y) (K : Int → (List Int) → Int → Option X) (G : Int → (List Int) → Int → Option X) (k : Nat) (x0 : Int) (x5 : Int) (x6 : (List Int)) (x7 : Int) : Option.bind (step K G k x0 x5 x6 x7) h = step (fun x5 x6 x7 => Option.bind (K x5 x6 x7) h) (fun x5 x6 x7 => Option.bind (G x5 x6 x7) h) k x0 x5 x6 x7 := by
  simp only [step, bif_bind, sel_bind', Option.bind_assoc, Option.bind_none, Option.bind_some]
theorem go_nat {X Y : Type} (h : X → Option Y) (K : Int → (List Int) → Int → Option X) (k : Nat) (x0 : Int) (n : Nat) : ∀ (x5 : Int) (x6 : (List Int)) (x7 : Int), Option.bind (go K k x0 n x5 x6 x7) h = go (fun x5 x6 x7 => Option.bind (K x5 x6 x7) h) k x0 n x5 x6 x7 := by
  induction n with
  | zero => intros; rfl
  | succ n ih => intro x5 x6 x7; show Option.bind (step K (go K k x0 n) k x0 x5 x6 x7) h = step (fun x5 x6 x7 => Option.bind (K x5 x6 x7) h) (go (fun x5 x6 x7 => Option.bind (K x5 x6 x7) h) k x0 n) k x0 x5 x6 x7; rw [step_nat h]; simp only [ih]
abbrev S : List (Nat × Sh) := [(0, .data (.int .i64)), (5, .data (.int .u64)), (6, .data .str), (7, .data (.int .i64))]
abbrev H : List (Nat × ESh) := []
abbrev cl : List (Place × Nat × Hint) := []
abbrev hn : List (Nat × Hint) := [(0, .any), (5, .any), (6, .any), (7, .any)]
abbrev kp : List Nat := []
abbrev rc : List (Place × Nat × Hint) := []
abbrev rs : List (Nat × Hint) := []
abbrev ri : List Nat := []
def KX (d : (Int × Int × (List Int) × Int × Unit)) (e : Unit) (v : (Int × ((List Int) × Int))) : St := ⟨mkS S (d.1, v.1, v.2.1, v.2.2, ()), mkH H (())⟩
def sum (k : Nat) : LoopSum := sigLoopX S cl hn kp H 0 (fun (d : (Int × Int × (List Int) × Int × Unit)) (e : Unit) => f k d.1 k d.2.1 d.2.2.1 d.2.2.2.1) KX
end l0
def tree {X : Type} (K : (List Int) → Option X) (k : Nat) (a0 : Int) (a1 : Int) : Option X :=
  (Option.bind (trailheadref05_Number.l0.f k a0 k (IntKind.wrap .u64 a1) ([] : (List Int)) (0 : Int)) (fun r1 => (K r1.2.1)))
def f (k : Nat) (a0 : Int) (a1 : Int) : Option (List Int) := tree (fun b0 => some b0) k a0 a1
theorem tree_nat {X Y : Type} (h : X → Option Y) (K : (List Int) → Option X) (k : Nat) (a0 : Int) (a1 : Int) : Option.bind (tree K k a0 a1) h = tree (fun b0 => Option.bind (K b0) h) k a0 a1 := by
  simp only [tree, bif_bind, sel_bind', Option.bind_assoc, Option.bind_none, Option.bind_some]
abbrev ps : List Sh := [.data (.int .i64), .data (.int .i64)]
abbrev hs : List (Nat × ESh) := []
abbrev hi : List Nat := hs.map (·.1)
abbrev fi : List Nat := []
abbrev cl : List (Place × Nat × Hint) := []
abbrev hn : List Hint := [.any]
def val (t : (List Int)) : AV := Sh.mk (.data .str) t
def wr (t : (List Int)) : Heap := []
def callee (k : Nat) : Callee := sigCallee ps hs (fun (d : (Int × Int × Unit)) (e : Unit) => f k d.1 d.2.1) val wr
def E (k : Nat) : Env := ⟨fnTab [], loopTab [(0, l0.sum k)], natsTab [], natTab []⟩
theorem fE (k : Nat) : ∀ f, ∀ c ∈ (E k).fn f, CalleeOK Tryd.prog f c := fnTab_ok trivial
namespace l0
theorem round (k : Nat) (d : (Int × Int × (List Int) × Int × Unit)) (e : Unit) (G : St → Option (Ex × St)) : roundK Tryd.prog (E k) 27 0 (subC (bodyOf Tryd.f30) [1, 1, 1, 0, 1, 0, 0]) (recast cl hn kp) (finBy cl hn kp rc rs ri) G ⟨mkS S d, mkH H e⟩ =
    step (fun x5 x6 x7 => some (.exit 0, KX d e (x5, x6, x7))) (fun x5 x6 x7 => G ⟨mkS S (d.1, x5, x6, x7, ()), mkH H (())⟩) k d.1 d.2.1 d.2.2.1 d.2.2.2.1 := by kernel_rfl
theorem it (k n : Nat) (d : (Int × Int × (List Int) × Int × Unit)) (e : Unit) : loopIt Tryd.prog (E k) 27 0 (subC (bodyOf Tryd.f30) [1, 1, 1, 0, 1, 0, 0]) (recast cl hn kp) (finBy cl hn kp rc rs ri) n ⟨mkS S d, mkH H e⟩ = go (fun x5 x6 x7 => some (.exit 0, KX d e (x5, x6, x7))) k d.1 n d.2.1 d.2.2.1 d.2.2.2.1 :=
  loopIt_eq (D := (Int × Int × (List Int) × Int × Unit) × Unit) (fun p => ⟨mkS S p.1, mkH H p.2⟩) (fun F p => step (fun x5 x6 x7 => some (.exit 0, KX p.1 p.2 (x5, x6, x7))) (fun x5 x6 x7 => F ((p.1.1, x5, x6, x7, ()), (()))) k p.1.1 p.1.2.1 p.1.2.2.1 p.1.2.2.2.1) (fun n p => go (fun x5 x6 x7 => some (.exit 0, KX p.1 p.2 (x5, x6, x7))) k p.1.1 n p.1.2.1 p.1.2.2.1 p.1.2.2.2.1) (fun _ => rfl) (fun _ _ => rfl) (fun G p => round k p.1 p.2 G) n (d, e)
theorem ok (k : Nat) : LoopOK Tryd.prog 27 (subC (bodyOf Tryd.f30) [1, 1, 1, 0, 1, 0, 0]) (sum k) :=
  loop_sigX hm (fE k) (loopsOK_of [] (by kernel_rfl) trivial) S cl hn kp H 0 (fun (d : (Int × Int × (List Int) × Int × Unit)) (e : Unit) => f k d.1 k d.2.1 d.2.2.1 d.2.2.2.1) KX cl hn kp rc rs ri k
    (fun d e => (it k k d e).trans (go_nat (fun v => some (Ex.exit 0, KX d e v)) (fun x5 x6 x7 => some (x5, x6, x7)) k d.1 k d.2.1 d.2.2.1 d.2.2.2.1).symm)
end l0
theorem run (k : Nat) (d : (Int × Int × Unit)) (e : Unit) : runFn Tryd.prog (E k) 27 (bodyOf Tryd.f30) Tryd.f30.results.toList cl hn hi (mkL ps d) (mkH hs e) =
    tree (fun b0 => leafFn hs fi e val wr b0) k d.1 d.2.1 := by kernel_rfl
theorem run_f (k : Nat) (d : (Int × Int × Unit)) (e : Unit) : runFn Tryd.prog (E k) 27 (bodyOf Tryd.f30) Tryd.f30.results.toList cl hn hi (mkL ps d) (mkH hs e) = (f k d.1 d.2.1).bind (leafFn hs fi e val wr) :=
  (run k d e).trans (tree_nat (leafFn hs fi e val wr) (fun b0 => some b0) k d.1 d.2.1).symm
theorem fnIs : FnIs Tryd.prog 30 Tryd.f30 (bodyOf Tryd.f30) 27 := ⟨by kernel_rfl, by kernel_rfl, by kernel_rfl, by kernel_rfl⟩
theorem ok (k : Nat) : CalleeOK Tryd.prog 30 (callee k) :=
  callee_sig (T := (List Int)) fnIs hm (fE k) (loopsOK_of [(0, subC (bodyOf Tryd.f30) [1, 1, 1, 0, 1, 0, 0])] (by kernel_rfl) ⟨of_loop (l0.sum k) rfl (l0.ok k), trivial⟩) ps hs cl hn fi (fun (d : (Int × Int × Unit)) (e : Unit) => f k d.1 d.2.1) val wr rfl (fun _ => rfl) (run_f k)
end trailheadref05_Number
namespace trailheadref07_Bytes
namespace l0
def step {X : Type} (K : (List Int) → Option X) (G : (List Int) → Option X) (k : Nat) (x1 : (List Int)) (x5 : (List Int)) : Option X :=
  (bif (decide (((List.length x5) : Int) < (12 : Int))) then (bif (fits ((List.length x5) + 1)) then (G (x5 ++ ([0] : (List Int)))) else none) else (K x5))
def go {X : Type} (K : (List Int) → Option X) (k : Nat) (x1 : (List Int)) : Nat → (List Int) → Option X
  | 0, _ => none
  | n + 1, x5 => step K (go K k x1 n) k x1 x5
def f (k : Nat) (x1 : (List Int)) (n : Nat) (x5 : (List Int)) : Option (List Int) := go (fun x5 => some x5) k x1 n x5
theorem step_nat {X Y : Type} (h : X → Option Y) (K : (List Int) → Option X) (G : (List Int) → Option X) (k : Nat) (x1 : (List Int)) (x5 : (List Int)) : Option.bind (step K G k x1 x5) h = step (fun x5 => Option.bind (K x5) h) (fun x5 => Option.bind (G x5) h) k x1 x5 := by
  simp only [step, bif_bind, sel_bind', Option.bind_assoc, Option.bind_none, Option.bind_some]
theorem go_nat {X Y : Type} (h : X → Option Y) (K : (List Int) → Option X) (k : Nat) (x1 : (List Int)) (n : Nat) : ∀ (x5 : (List Int)), Option.bind (go K k x1 n x5) h = go (fun x5 => Option.bind (K x5) h) k x1 n x5 := by
  induction n with
  | zero => intros; rfl
  | succ n ih => intro x5; show Option.bind (step K (go K k x1 n) k x1 x5) h = step (fun x5 => Option.bind (K x5) h) (go (fun x5 => Option.bind (K x5) h) k x1 n) k x1 x5; rw [step_nat h]; simp only [ih]
abbrev S : List (Nat × Sh) := [(1, .data .str), (5, .data .str)]
abbrev H : List (Nat × ESh) := []
abbrev cl : List (Place × Nat × Hint) := []
abbrev hn : List (Nat × Hint) := [(1, .any), (5, .any)]
abbrev kp : List Nat := []
abbrev rc : List (Place × Nat × Hint) := []
abbrev rs : List (Nat × Hint) := []
abbrev ri : List Nat := []
def KX (d : ((List Int) × (List Int) × Unit)) (e : Unit) (v : (List Int)) : St := ⟨mkS S (d.1, v, ()), mkH H (())⟩
def sum (k : Nat) : LoopSum := sigLoopX S cl hn kp H 0 (fun (d : ((List Int) × (List Int) × Unit)) (e : Unit) => f k d.1 k d.2.1) KX
end l0
def tree {X : Type} (K : (List Int) → Option X) (k : Nat) (a0 : (List Int)) (a1 : (List Int)) : Option X :=
  (Option.bind (trailheadref07_Bytes.l0.f k a1 k a0) (fun r1 => (Option.bind (trailheadref01_Double.f k a1) (fun r2 => (Option.bind (trailheadref05_Name.f k r2) (fun r3 => (bif (fits (4 + (List.length r1))) then (Option.bind (trailheadref05_Number.f k (4 : Int) ((List.length a1) : Int)) (fun r4 => (bif (fits ((List.length (([84, 65, 73, 76] : (List Int)) ++ r1)) + (List.length r4))) then (bif (decide (4 ≤ ((List.length r3) : Int))) then (bif (fits ((List.length ((([84, 65, 73, 76] : (List Int)) ++ r1) ++ r4)) + (List.length (List.take 4 r3)))) then (bif (fits ((List.length (((([84, 65, 73, 76] : (List Int)) ++ r1) ++ r4) ++ (List.take 4 r3))) + (List.length a1))) then (K ((((([84, 65, 73, 76] : (List Int)) ++ r1) ++ r4) ++ (List.take 4 r3)) ++ a1)) else none) else none) else none) else none))) else none)))))))
def f (k : Nat) (a0 : (List Int)) (a1 : (List Int)) : Option (List Int) := tree (fun b0 => some b0) k a0 a1
theorem tree_nat {X Y : Type} (h : X → Option Y) (K : (List Int) → Option X) (k : Nat) (a0 : (List Int)) (a1 : (List Int)) : Option.bind (tree K k a0 a1) h = tree (fun b0 => Option.bind (K b0) h) k a0 a1 := by
  simp only [tree, bif_bind, sel_bind', Option.bind_assoc, Option.bind_none, Option.bind_some]
abbrev ps : List Sh := [.data .str, .data .str]
abbrev hs : List (Nat × ESh) := []
abbrev hi : List Nat := hs.map (·.1)
abbrev fi : List Nat := []
abbrev cl : List (Place × Nat × Hint) := []
abbrev hn : List Hint := [.any]
def val (t : (List Int)) : AV := Sh.mk (.data .str) t
def wr (t : (List Int)) : Heap := []
def callee (k : Nat) : Callee := sigCallee ps hs (fun (d : ((List Int) × (List Int) × Unit)) (e : Unit) => f k d.1 d.2.1) val wr
def E (k : Nat) : Env := ⟨fnTab [(29, [trailheadref01_Double.callee k]), (28, [trailheadref05_Name.callee k]), (30, [trailheadref05_Number.callee k])], loopTab [(0, l0.sum k)], natsTab [], natTab []⟩
theorem fE (k : Nat) : ∀ f, ∀ c ∈ (E k).fn f, CalleeOK Tryd.prog f c := fnTab_ok ⟨⟨trailheadref01_Double.ok k, trivial⟩, ⟨trailheadref05_Name.ok k, trivial⟩, ⟨trailheadref05_Number.ok k, trivial⟩, trivial⟩
namespace l0
theorem round (k : Nat) (d : ((List Int) × (List Int) × Unit)) (e : Unit) (G : St → Option (Ex × St)) : roundK Tryd.prog (E k) 27 0 (subC (bodyOf Tryd.f13) [1, 1, 0, 0, 0]) (recast cl hn kp) (finBy cl hn kp rc rs ri) G ⟨mkS S d, mkH H e⟩ =
    step (fun x5 => some (.exit 0, KX d e x5)) (fun x5 => G ⟨mkS S (d.1, x5, ()), mkH H (())⟩) k d.1 d.2.1 := by kernel_rfl
theorem it (k n : Nat) (d : ((List Int) × (List Int) × Unit)) (e : Unit) : loopIt Tryd.prog (E k) 27 0 (subC (bodyOf Tryd.f13) [1, 1, 0, 0, 0]) (recast cl hn kp) (finBy cl hn kp rc rs ri) n ⟨mkS S d, mkH H e⟩ = go (fun x5 => some (.exit 0, KX d e x5)) k d.1 n d.2.1 :=
  loopIt_eq (D := ((List Int) × (List Int) × Unit) × Unit) (fun p => ⟨mkS S p.1, mkH H p.2⟩) (fun F p => step (fun x5 => some (.exit 0, KX p.1 p.2 x5)) (fun x5 => F ((p.1.1, x5, ()), (()))) k p.1.1 p.1.2.1) (fun n p => go (fun x5 => some (.exit 0, KX p.1 p.2 x5)) k p.1.1 n p.1.2.1) (fun _ => rfl) (fun _ _ => rfl) (fun G p => round k p.1 p.2 G) n (d, e)
theorem ok (k : Nat) : LoopOK Tryd.prog 27 (subC (bodyOf Tryd.f13) [1, 1, 0, 0, 0]) (sum k) :=
  loop_sigX hm (fE k) (loopsOK_of [] (by kernel_rfl) trivial) S cl hn kp H 0 (fun (d : ((List Int) × (List Int) × Unit)) (e : Unit) => f k d.1 k d.2.1) KX cl hn kp rc rs ri k
    (fun d e => (it k k d e).trans (go_nat (fun v => some (Ex.exit 0, KX d e v)) (fun x5 => some x5) k d.1 k d.2.1).symm)
end l0
theorem run (k : Nat) (d : ((List Int) × (List Int) × Unit)) (e : Unit) : runFn Tryd.prog (E k) 27 (bodyOf Tryd.f13) Tryd.f13.results.toList cl hn hi (mkL ps d) (mkH hs e) =
    tree (fun b0 => leafFn hs fi e val wr b0) k d.1 d.2.1 := by kernel_rfl
theorem run_f (k : Nat) (d : ((List Int) × (List Int) × Unit)) (e : Unit) : runFn Tryd.prog (E k) 27 (bodyOf Tryd.f13) Tryd.f13.results.toList cl hn hi (mkL ps d) (mkH hs e) = (f k d.1 d.2.1).bind (leafFn hs fi e val wr) :=
  (run k d e).trans (tree_nat (leafFn hs fi e val wr) (fun b0 => some b0) k d.1 d.2.1).symm
theorem fnIs : FnIs Tryd.prog 13 Tryd.f13 (bodyOf Tryd.f13) 27 := ⟨by kernel_rfl, by kernel_rfl, by kernel_rfl, by kernel_rfl⟩
theorem ok (k : Nat) : CalleeOK Tryd.prog 13 (callee k) :=
  callee_sig (T := (List Int)) fnIs hm (fE k) (loopsOK_of [(0, subC (bodyOf Tryd.f13) [1, 1, 0, 0, 0])] (by kernel_rfl) ⟨of_loop (l0.sum k) rfl (l0.ok k), trivial⟩) ps hs cl hn fi (fun (d : ((List Int) × (List Int) × Unit)) (e : Unit) => f k d.1 d.2.1) val wr rfl (fun _ => rfl) (run_f k)
end trailheadref07_Bytes
namespace trailheadlaw07_alive
def tree {X : Type} (K : Bool → Option X) (k : Nat) (m0 : (List Int)) (m1 : (List Int)) : Option X :=
  (Option.bind (envelope_Bytes.f k (([112, 105, 110, 103], []) : ((List Int) × (List Int))) m0 m1) (fun r1 => (Option.bind (envelope_Take.f k ([] : (List Int)) m0 m1) (fun r2 => (bif (r1.2 == (0 : Int)) then (Option.bind (trailheadref07_Bytes.f k ([112, 105, 110, 103] : (List Int)) ([] : (List Int))) (fun r3 => (bif (decide (r1.1 = r3)) then (bif (r2.2.2 == (7 : Int)) then (K true) else (K false)) else (K false)))) else (K false))))))
def f (k : Nat) (m0 : (List Int)) (m1 : (List Int)) : Option Bool := tree (fun b0 => some b0) k m0 m1
theorem tree_nat {X Y : Type} (h : X → Option Y) (K : Bool → Option X) (k : Nat) (m0 : (List Int)) (m1 : (List Int)) : Option.bind (tree K k m0 m1) h = tree (fun b0 => Option.bind (K b0) h) k m0 m1 := by
  simp only [tree, bif_bind, sel_bind', Option.bind_assoc, Option.bind_none, Option.bind_some]
abbrev ps : List Sh := []
abbrev hs : List (Nat × ESh) := [(0, .glob 1 (.arr .u32 8)), (1, .glob 2 (.arr .u32 64))]
abbrev hi : List Nat := hs.map (·.1)
abbrev fi : List Nat := [0, 1]
abbrev cl : List (Place × Nat × Hint) := []
abbrev hn : List Hint := [.any]
def val (t : Bool) : AV := Sh.mk (.data .bool) t
def wr (t : Bool) : Heap := []
def callee (k : Nat) : Callee := sigCallee ps hs (fun (d : Unit) (e : ((List Int) × (List Int) × Unit)) => f k e.1 e.2.1) val wr
def E (k : Nat) : Env := ⟨fnTab [(9, [envelope_Bytes.callee k]), (12, [envelope_Take.callee k]), (13, [trailheadref07_Bytes.callee k])], loopTab [], natsTab [(9, [0, 1]), (12, [0, 1])], natTab [(1, 0), (2, 1)]⟩
theorem fE (k : Nat) : ∀ f, ∀ c ∈ (E k).fn f, CalleeOK Tryd.prog f c := fnTab_ok ⟨⟨envelope_Bytes.ok k, trivial⟩, ⟨envelope_Take.ok k, trivial⟩, ⟨trailheadref07_Bytes.ok k, trivial⟩, trivial⟩
theorem run (k : Nat) (d : Unit) (e : ((List Int) × (List Int) × Unit)) : runFn Tryd.prog (E k) 29 (bodyOf Tryd.f8) Tryd.f8.results.toList cl hn hi (mkL ps d) (mkH hs e) =
    tree (fun b0 => leafFn hs fi e val wr b0) k e.1 e.2.1 := by kernel_rfl
theorem run_f (k : Nat) (d : Unit) (e : ((List Int) × (List Int) × Unit)) : runFn Tryd.prog (E k) 29 (bodyOf Tryd.f8) Tryd.f8.results.toList cl hn hi (mkL ps d) (mkH hs e) = (f k e.1 e.2.1).bind (leafFn hs fi e val wr) :=
  (run k d e).trans (tree_nat (leafFn hs fi e val wr) (fun b0 => some b0) k e.1 e.2.1).symm
theorem fnIs : FnIs Tryd.prog 8 Tryd.f8 (bodyOf Tryd.f8) 29 := ⟨by kernel_rfl, by kernel_rfl, by kernel_rfl, by kernel_rfl⟩
theorem ok (k : Nat) : CalleeOK Tryd.prog 8 (callee k) :=
  callee_sig (T := Bool) fnIs hm (fE k) (loopsOK_of [] (by kernel_rfl) trivial) ps hs cl hn fi (fun (d : Unit) (e : ((List Int) × (List Int) × Unit)) => f k e.1 e.2.1) val wr rfl (fun _ => rfl) (run_f k)
end trailheadlaw07_alive
namespace trailheadref07_Word
namespace l0
def step {X : Type} (K : Int → Option X) (Q : Bool → Option X) (G : Int → Option X) (k : Nat) (x0 : (List Int)) (x3 : Int) : Option X :=
  (bif (decide (x3 < ((List.length x0) : Int))) then (bif (decide (0 ≤ x3)) then (bif (decide (x3 < ((List.length x0) : Int))) then (bif (decide ((List.getD x0 (Int.toNat x3) 0) ≥ (97 : Int))) then (bif (decide (0 ≤ x3)) then (bif (decide (x3 < ((List.length x0) : Int))) then (bif (decide ((List.getD x0 (Int.toNat x3) 0) ≤ (122 : Int))) then (G (addI .i64 x3 1)) else (bif (decide (0 ≤ x3)) then (bif (decide (x3 < ((List.length x0) : Int))) then (bif (decide ((List.getD x0 (Int.toNat x3) 0) ≥ (48 : Int))) then (bif (decide (0 ≤ x3)) then (bif (decide (x3 < ((List.length x0) : Int))) then (bif (!(decide ((List.getD x0 (Int.toNat x3) 0) ≤ (57 : Int)))) then (Q false) else (G (addI .i64 x3 1))) else none) else none) else (Q false)) else none) else none)) else none) else none) else (bif (decide (0 ≤ x3)) then (bif (decide (x3 < ((List.length x0) : Int))) then (bif (decide ((List.getD x0 (Int.toNat x3) 0) ≥ (48 : Int))) then (bif (decide (0 ≤ x3)) then (bif (decide (x3 < ((List.length x0) : Int))) then (bif (!(decide ((List.getD x0 (Int.toNat x3) 0) ≤ (57 : Int)))) then (Q false) else (G (addI .i64 x3 1))) else none) else none) else (Q false)) else none) else none)) else none) else none) else (K x3))
def go {X : Type} (K : Int → Option X) (Q : Bool → Option X) (k : Nat) (x0 : (List Int)) : Nat → Int → Option X
  | 0, _ => none
  | n + 1, x3 => step K Q (go K Q k x0 n) k x0 x3
def f (k : Nat) (x0 : (List Int)) (n : Nat) (x3 : Int) : Option (Int ⊕ Bool) := go (fun x3 => some (.inl x3)) (fun q0 => some (.inr q0)) k x0 n x3
theorem step_nat {X Y : Type} (h : X → Option Y) (K : Int → Option X) (Q : Bool → Option X) (G : Int → Option X) (k : Nat) (x0 : (List Int)) (x3 : Int) : Option.bind (step K Q G k x0 x3) h = step (fun x3 => Option.bind (K x3) h) (fun q0 => Option.bind (Q q0) h) (fun x3 => Option.bind (G x3) h) k x0 x3 := by
  simp only [step, bif_bind, sel_bind', Option.bind_assoc, Option.bind_none, Option.bind_some]
theorem go_nat {X Y : Type} (h : X → Option Y) (K : Int → Option X) (Q : Bool → Option X) (k : Nat) (x0 : (List Int)) (n : Nat) : ∀ (x3 : Int), Option.bind (go K Q k x0 n x3) h = go (fun x3 => Option.bind (K x3) h) (fun q0 => Option.bind (Q q0) h) k x0 n x3 := by
  induction n with
  | zero => intros; rfl
  | succ n ih => intro x3; show Option.bind (step K Q (go K Q k x0 n) k x0 x3) h = step (fun x3 => Option.bind (K x3) h) (fun q0 => Option.bind (Q q0) h) (go (fun x3 => Option.bind (K x3) h) (fun q0 => Option.bind (Q q0) h) k x0 n) k x0 x3; rw [step_nat h]; simp only [ih]
abbrev S : List (Nat × Sh) := [(0, .data .str), (3, .data (.int .i64))]
abbrev H : List (Nat × ESh) := []
abbrev cl : List (Place × Nat × Hint) := []
abbrev hn : List (Nat × Hint) := [(0, .any), (3, .any)]
abbrev kp : List Nat := []
abbrev rc : List (Place × Nat × Hint) := []
abbrev rs : List (Nat × Hint) := [(2, .any)]
abbrev ri : List Nat := []
def KX (d : ((List Int) × Int × Unit)) (e : Unit) (v : Int) : St := ⟨mkS S (d.1, v, ()), mkH H (())⟩
abbrev RS : List (Nat × Sh) := [(2, .data .bool)]
abbrev RH : List (Nat × ESh) := []
def RX (d : ((List Int) × Int × Unit)) (e : Unit) (v : Bool) : St := ⟨mkS RS (v, ()), mkH RH (())⟩
def sum (k : Nat) : LoopSum := sigLoop S cl hn kp H 0 (fun (d : ((List Int) × Int × Unit)) (e : Unit) => f k d.1 k d.2.1) KX RX
end l0
def tree {X : Type} (K : Bool → Option X) (k : Nat) (a0 : (List Int)) : Option X :=
  (bif (decide (((List.length a0) : Int) < (1 : Int))) then (K false) else (bif (decide (((List.length a0) : Int) > (12 : Int))) then (K false) else (Option.bind (trailheadref07_Word.l0.f k a0 k (0 : Int)) (fun r1 => sel r1 (fun v2 => (K true)) (fun q3 => (K q3))))))
def f (k : Nat) (a0 : (List Int)) : Option Bool := tree (fun b0 => some b0) k a0
theorem tree_nat {X Y : Type} (h : X → Option Y) (K : Bool → Option X) (k : Nat) (a0 : (List Int)) : Option.bind (tree K k a0) h = tree (fun b0 => Option.bind (K b0) h) k a0 := by
  simp only [tree, bif_bind, sel_bind', Option.bind_assoc, Option.bind_none, Option.bind_some]
abbrev ps : List Sh := [.data .str]
abbrev hs : List (Nat × ESh) := []
abbrev hi : List Nat := hs.map (·.1)
abbrev fi : List Nat := []
abbrev cl : List (Place × Nat × Hint) := []
abbrev hn : List Hint := [.any]
def val (t : Bool) : AV := Sh.mk (.data .bool) t
def wr (t : Bool) : Heap := []
def callee (k : Nat) : Callee := sigCallee ps hs (fun (d : ((List Int) × Unit)) (e : Unit) => f k d.1) val wr
def E (k : Nat) : Env := ⟨fnTab [], loopTab [(0, l0.sum k)], natsTab [], natTab []⟩
theorem fE (k : Nat) : ∀ f, ∀ c ∈ (E k).fn f, CalleeOK Tryd.prog f c := fnTab_ok trivial
namespace l0
theorem round (k : Nat) (d : ((List Int) × Int × Unit)) (e : Unit) (G : St → Option (Ex × St)) : roundK Tryd.prog (E k) 41 0 (subC (bodyOf Tryd.f22) [1, 1, 0, 1, 0, 0]) (recast cl hn kp) (finBy cl hn kp rc rs ri) G ⟨mkS S d, mkH H e⟩ =
    step (fun x3 => some (.exit 0, KX d e x3)) (fun q0 => some (.ret, RX d e q0)) (fun x3 => G ⟨mkS S (d.1, x3, ()), mkH H (())⟩) k d.1 d.2.1 := by kernel_rfl
theorem it (k n : Nat) (d : ((List Int) × Int × Unit)) (e : Unit) : loopIt Tryd.prog (E k) 41 0 (subC (bodyOf Tryd.f22) [1, 1, 0, 1, 0, 0]) (recast cl hn kp) (finBy cl hn kp rc rs ri) n ⟨mkS S d, mkH H e⟩ = go (fun x3 => some (.exit 0, KX d e x3)) (fun q0 => some (.ret, RX d e q0)) k d.1 n d.2.1 :=
  loopIt_eq (D := ((List Int) × Int × Unit) × Unit) (fun p => ⟨mkS S p.1, mkH H p.2⟩) (fun F p => step (fun x3 => some (.exit 0, KX p.1 p.2 x3)) (fun q0 => some (.ret, RX p.1 p.2 q0)) (fun x3 => F ((p.1.1, x3, ()), (()))) k p.1.1 p.1.2.1) (fun n p => go (fun x3 => some (.exit 0, KX p.1 p.2 x3)) (fun q0 => some (.ret, RX p.1 p.2 q0)) k p.1.1 n p.1.2.1) (fun _ => rfl) (fun _ _ => rfl) (fun G p => round k p.1 p.2 G) n (d, e)
theorem ok (k : Nat) : LoopOK Tryd.prog 41 (subC (bodyOf Tryd.f22) [1, 1, 0, 1, 0, 0]) (sum k) :=
  loop_sig hm (fE k) (loopsOK_of [] (by kernel_rfl) trivial) S cl hn kp H 0 (fun (d : ((List Int) × Int × Unit)) (e : Unit) => f k d.1 k d.2.1) KX RX cl hn kp rc rs ri k
    (fun d e => (it k k d e).trans (go_nat (exitOf 0 (KX d e) (RX d e)) (fun x3 => some (.inl x3)) (fun q0 => some (.inr q0)) k d.1 k d.2.1).symm)
end l0
theorem run (k : Nat) (d : ((List Int) × Unit)) (e : Unit) : runFn Tryd.prog (E k) 41 (bodyOf Tryd.f22) Tryd.f22.results.toList cl hn hi (mkL ps d) (mkH hs e) =
    tree (fun b0 => leafFn hs fi e val wr b0) k d.1 := by kernel_rfl
theorem run_f (k : Nat) (d : ((List Int) × Unit)) (e : Unit) : runFn Tryd.prog (E k) 41 (bodyOf Tryd.f22) Tryd.f22.results.toList cl hn hi (mkL ps d) (mkH hs e) = (f k d.1).bind (leafFn hs fi e val wr) :=
  (run k d e).trans (tree_nat (leafFn hs fi e val wr) (fun b0 => some b0) k d.1).symm
theorem fnIs : FnIs Tryd.prog 22 Tryd.f22 (bodyOf Tryd.f22) 41 := ⟨by kernel_rfl, by kernel_rfl, by kernel_rfl, by kernel_rfl⟩
theorem ok (k : Nat) : CalleeOK Tryd.prog 22 (callee k) :=
  callee_sig (T := Bool) fnIs hm (fE k) (loopsOK_of [(0, subC (bodyOf Tryd.f22) [1, 1, 0, 1, 0, 0])] (by kernel_rfl) ⟨of_loop (l0.sum k) rfl (l0.ok k), trivial⟩) ps hs cl hn fi (fun (d : ((List Int) × Unit)) (e : Unit) => f k d.1) val wr rfl (fun _ => rfl) (run_f k)
end trailheadref07_Word
namespace trailheadlaw07_good
def tree {X : Type} (K : Bool → Option X) (k : Nat) (a0 : ((List Int) × (List Int))) : Option X :=
  (Option.bind (trailheadref07_Word.f k a0.1) (fun r1 => (bif r1 then (K (decide (((List.length a0.2) : Int) ≤ (16384 : Int)))) else (K false))))
def f (k : Nat) (a0 : ((List Int) × (List Int))) : Option Bool := tree (fun b0 => some b0) k a0
theorem tree_nat {X Y : Type} (h : X → Option Y) (K : Bool → Option X) (k : Nat) (a0 : ((List Int) × (List Int))) : Option.bind (tree K k a0) h = tree (fun b0 => Option.bind (K b0) h) k a0 := by
  simp only [tree, bif_bind, sel_bind', Option.bind_assoc, Option.bind_none, Option.bind_some]
abbrev ps : List Sh := [.data (.pair .str .str)]
abbrev hs : List (Nat × ESh) := []
abbrev hi : List Nat := hs.map (·.1)
abbrev fi : List Nat := []
abbrev cl : List (Place × Nat × Hint) := []
abbrev hn : List Hint := [.any]
def val (t : Bool) : AV := Sh.mk (.data .bool) t
def wr (t : Bool) : Heap := []
def callee (k : Nat) : Callee := sigCallee ps hs (fun (d : (((List Int) × (List Int)) × Unit)) (e : Unit) => f k d.1) val wr
def E (k : Nat) : Env := ⟨fnTab [(22, [trailheadref07_Word.callee k])], loopTab [], natsTab [], natTab []⟩
theorem fE (k : Nat) : ∀ f, ∀ c ∈ (E k).fn f, CalleeOK Tryd.prog f c := fnTab_ok ⟨⟨trailheadref07_Word.ok k, trivial⟩, trivial⟩
theorem run (k : Nat) (d : (((List Int) × (List Int)) × Unit)) (e : Unit) : runFn Tryd.prog (E k) 12 (bodyOf Tryd.f11) Tryd.f11.results.toList cl hn hi (mkL ps d) (mkH hs e) =
    tree (fun b0 => leafFn hs fi e val wr b0) k d.1 := by kernel_rfl
theorem run_f (k : Nat) (d : (((List Int) × (List Int)) × Unit)) (e : Unit) : runFn Tryd.prog (E k) 12 (bodyOf Tryd.f11) Tryd.f11.results.toList cl hn hi (mkL ps d) (mkH hs e) = (f k d.1).bind (leafFn hs fi e val wr) :=
  (run k d e).trans (tree_nat (leafFn hs fi e val wr) (fun b0 => some b0) k d.1).symm
theorem fnIs : FnIs Tryd.prog 11 Tryd.f11 (bodyOf Tryd.f11) 12 := ⟨by kernel_rfl, by kernel_rfl, by kernel_rfl, by kernel_rfl⟩
theorem ok (k : Nat) : CalleeOK Tryd.prog 11 (callee k) :=
  callee_sig (T := Bool) fnIs hm (fE k) (loopsOK_of [] (by kernel_rfl) trivial) ps hs cl hn fi (fun (d : (((List Int) × (List Int)) × Unit)) (e : Unit) => f k d.1) val wr rfl (fun _ => rfl) (run_f k)
end trailheadlaw07_good
namespace trailheadlaw07_EnvelopeBytes
def tree {X : Type} (K : Bool → Option X) (k : Nat) (a0 : ((List Int) × (List Int))) (a1 : (List Int)) (a2 : Int) (m0 : (List Int)) (m1 : (List Int)) : Option X :=
  (Option.bind (trailheadlaw07_alive.f k m0 m1) (fun r1 => (bif (!r1) then (K false) else (bif (decide (((List.length a0.2) : Int) > (32768 : Int))) then (K true) else (bif (decide (((List.length a0.1) : Int) > (100 : Int))) then (K true) else (bif (decide (((List.length a1) : Int) > (100 : Int))) then (K true) else (Option.bind (envelope_Bytes.f k a0 m0 m1) (fun r2 => (Option.bind (envelope_Good.f k a0) (fun r3 => (Option.bind (trailheadlaw07_good.f k a0) (fun r4 => (bif (!(r3 == r4)) then (K false) else (Option.bind (trailheadlaw07_good.f k a0) (fun r5 => (bif (!r5) then (bif (r2.2 == (1 : Int)) then (K (decide (r2.1 = ([] : (List Int))))) else (K false)) else (bif (fits ((List.length r2.1) + (List.length a1))) then (Option.bind (envelope_Take.f k (r2.1 ++ a1) m0 m1) (fun r6 => (bif (decide ((IntKind.wrap .u64 ((List.length r2.1) : Int)) = 0)) then none else (bif (decide (0 ≤ (IntKind.wrap .i64 (remI (IntKind.wrap .u64 a2) (IntKind.wrap .u64 ((List.length r2.1) : Int)))))) then (bif (decide ((IntKind.wrap .i64 (remI (IntKind.wrap .u64 a2) (IntKind.wrap .u64 ((List.length r2.1) : Int)))) ≤ ((List.length r2.1) : Int))) then (Option.bind (envelope_Take.f k (List.take (Int.toNat (IntKind.wrap .i64 (remI (IntKind.wrap .u64 a2) (IntKind.wrap .u64 ((List.length r2.1) : Int))))) r2.1) m0 m1) (fun r7 => (bif (r2.2 == (0 : Int)) then (Option.bind (trailheadref07_Bytes.f k a0.1 a0.2) (fun r8 => (bif (decide (r2.1 = r8)) then (bif (r6.2.2 == (0 : Int)) then (bif (eqDen (.pair .str .str) r6.1 a0) then (bif (r6.2.1 == ((List.length r2.1) : Int)) then (bif (r7.2.1 == (0 : Int)) then (K (r7.2.2 == (7 : Int))) else (K false)) else (K false)) else (K false)) else (K false)) else (K false)))) else (K false)))) else none) else none)))) else none)))))))))))))))))
def f (k : Nat) (a0 : ((List Int) × (List Int))) (a1 : (List Int)) (a2 : Int) (m0 : (List Int)) (m1 : (List Int)) : Option Bool := tree (fun b0 => some b0) k a0 a1 a2 m0 m1
theorem tree_nat {X Y : Type} (h : X → Option Y) (K : Bool → Option X) (k : Nat) (a0 : ((List Int) × (List Int))) (a1 : (List Int)) (a2 : Int) (m0 : (List Int)) (m1 : (List Int)) : Option.bind (tree K k a0 a1 a2 m0 m1) h = tree (fun b0 => Option.bind (K b0) h) k a0 a1 a2 m0 m1 := by
  simp only [tree, bif_bind, sel_bind', Option.bind_assoc, Option.bind_none, Option.bind_some]
abbrev ps : List Sh := [.data (.pair .str .str), .data .str, .data (.int .i64)]
abbrev hs : List (Nat × ESh) := [(0, .glob 1 (.arr .u32 8)), (1, .glob 2 (.arr .u32 64))]
abbrev hi : List Nat := hs.map (·.1)
abbrev fi : List Nat := [0, 1]
abbrev cl : List (Place × Nat × Hint) := []
abbrev hn : List Hint := [.any]
def val (t : Bool) : AV := Sh.mk (.data .bool) t
def wr (t : Bool) : Heap := []
def callee (k : Nat) : Callee := sigCallee ps hs (fun (d : (((List Int) × (List Int)) × (List Int) × Int × Unit)) (e : ((List Int) × (List Int) × Unit)) => f k d.1 d.2.1 d.2.2.1 e.1 e.2.1) val wr
def E (k : Nat) : Env := ⟨fnTab [(8, [trailheadlaw07_alive.callee k]), (9, [envelope_Bytes.callee k]), (10, [envelope_Good.callee k]), (11, [trailheadlaw07_good.callee k]), (12, [envelope_Take.callee k]), (13, [trailheadref07_Bytes.callee k])], loopTab [], natsTab [(8, [0, 1]), (9, [0, 1]), (12, [0, 1])], natTab [(1, 0), (2, 1)]⟩
theorem fE (k : Nat) : ∀ f, ∀ c ∈ (E k).fn f, CalleeOK Tryd.prog f c := fnTab_ok ⟨⟨trailheadlaw07_alive.ok k, trivial⟩, ⟨envelope_Bytes.ok k, trivial⟩, ⟨envelope_Good.ok k, trivial⟩, ⟨trailheadlaw07_good.ok k, trivial⟩, ⟨envelope_Take.ok k, trivial⟩, ⟨trailheadref07_Bytes.ok k, trivial⟩, trivial⟩
theorem run (k : Nat) (d : (((List Int) × (List Int)) × (List Int) × Int × Unit)) (e : ((List Int) × (List Int) × Unit)) : runFn Tryd.prog (E k) 107 (bodyOf Tryd.f3) Tryd.f3.results.toList cl hn hi (mkL ps d) (mkH hs e) =
    tree (fun b0 => leafFn hs fi e val wr b0) k d.1 d.2.1 d.2.2.1 e.1 e.2.1 := by kernel_rfl
theorem run_f (k : Nat) (d : (((List Int) × (List Int)) × (List Int) × Int × Unit)) (e : ((List Int) × (List Int) × Unit)) : runFn Tryd.prog (E k) 107 (bodyOf Tryd.f3) Tryd.f3.results.toList cl hn hi (mkL ps d) (mkH hs e) = (f k d.1 d.2.1 d.2.2.1 e.1 e.2.1).bind (leafFn hs fi e val wr) :=
  (run k d e).trans (tree_nat (leafFn hs fi e val wr) (fun b0 => some b0) k d.1 d.2.1 d.2.2.1 e.1 e.2.1).symm
theorem fnIs : FnIs Tryd.prog 3 Tryd.f3 (bodyOf Tryd.f3) 107 := ⟨by kernel_rfl, by kernel_rfl, by kernel_rfl, by kernel_rfl⟩
theorem ok (k : Nat) : CalleeOK Tryd.prog 3 (callee k) :=
  callee_sig (T := Bool) fnIs hm (fE k) (loopsOK_of [] (by kernel_rfl) trivial) ps hs cl hn fi (fun (d : (((List Int) × (List Int)) × (List Int) × Int × Unit)) (e : ((List Int) × (List Int) × Unit)) => f k d.1 d.2.1 d.2.2.1 e.1 e.2.1) val wr rfl (fun _ => rfl) (run_f k)
end trailheadlaw07_EnvelopeBytes
end Go.Proofs.YtkcdbbflelgbeaaDoor.Sy
