/- What the Go functions come to, on data: printed by sypr.py. -/
import Derived.Test.YtnaenbijnpbhaaaDoorWA0
namespace Go.Proofs.YtnaenbijnpbhaaaDoor.Sy
open Go Go.Proofs
set_option maxRecDepth 100000
set_option linter.unusedVariables false
set_option linter.unusedSimpArgs false
namespace trailheadref01_Of
namespace l4
def step {X : Type} (K : Int → (List Int) → Option X) (G : Int → (List Int) → Option X) (k : Nat) (x4 : (List Int)) (x5 : Int) (x7 : Int) (y800000 : (List Int)) (y800001 : (List Int)) (x8 : Int) (y800002 : (List Int)) : Option X :=
  (bif (decide (x8 < (4 : Int))) then (bif (decide (0 ≤ x7)) then (bif (decide (x7 < 64)) then (bif (decide ((Int.toNat x7) < 64)) then (bif (decide (0 ≤ (addI .i64 (addI .i64 x5 (mulI .i64 4 x7)) x8))) then (bif (decide ((addI .i64 (addI .i64 x5 (mulI .i64 4 x7)) x8) < ((List.length x4) : Int))) then (bif (decide (0 ≤ x7)) then (bif (decide (x7 < 64)) then (bif (decide ((Int.toNat x7) < 64)) then (G (addI .i64 x8 1) (List.set y800002 (Int.toNat x7) (addI .u32 (mulI .u32 (List.getD y800002 (Int.toNat x7) 0) 256) (IntKind.wrap .u32 (List.getD x4 (Int.toNat (addI .i64 (addI .i64 x5 (mulI .i64 4 x7)) x8)) 0))))) else none) else none) else none) else none) else none) else none) else none) else none) else (K x8 y800002))
def go {X : Type} (K : Int → (List Int) → Option X) (k : Nat) (x4 : (List Int)) (x5 : Int) (x7 : Int) (y800000 : (List Int)) (y800001 : (List Int)) : Nat → Int → (List Int) → Option X
  | 0, _, _ => none
  | n + 1, x8, y800002 => step K (go K k x4 x5 x7 y800000 y800001 n) k x4 x5 x7 y800000 y800001 x8 y800002
def f (k : Nat) (x4 : (List Int)) (x5 : Int) (x7 : Int) (y800000 : (List Int)) (y800001 : (List Int)) (n : Nat) (x8 : Int) (y800002 : (List Int)) : Option (Int × (List Int)) := go (fun x8 y800002 => some (x8, y800002)) k x4 x5 x7 y800000 y800001 n x8 y800002
theorem step_nat {X Y : Type} (h : X → Option Y) (K : Int → (List Int) → Option X) (G : Int → (List Int) → Option X) (k : Nat) (x4 : (List Int)) (x5 : Int) (x7 : Int) (y800000 : (List Int)) (y800001 : (List Int)) (x8 : Int) (y800002 : (List Int)) : Option.bind (step K G k x4 x5 x7 y800000 y800001 x8 y800002) h = step (fun x8 y800002 => Option.bind (K x8 y800002) h) (fun x8 y800002 => Option.bind (G x8 y800002) h) k x4 x5 x7 y800000 y800001 x8 y800002 := by
  simp only [step, bif_bind, sel_bind', Option.bind_assoc, Option.bind_none, Option.bind_some]
theorem go_nat {X Y : Type} (h : X → Option Y) (K : Int → (List Int) → Option X) (k : Nat) (x4 : (List Int)) (x5 : Int) (x7 : Int) (y800000 : (List Int)) (y800001 : (List Int)) (n : Nat) : ∀ (x8 : Int) (y800002 : (List Int)), Option.bind (go K k x4 x5 x7 y800000 y800001 n x8 y800002) h = go (fun x8 y800002 => Option.bind (K x8 y800002) h) k x4 x5 x7 y800000 y800001 n x8 y800002 := by
  induction n with
  | zero => intros; rfl
  | succ n ih => intro x8 y800002; show Option.bind (step K (go K k x4 x5 x7 y800000 y800001 n) k x4 x5 x7 y800000 y800001 x8 y800002) h = step (fun x8 y800002 => Option.bind (K x8 y800002) h) (go (fun x8 y800002 => Option.bind (K x8 y800002) h) k x4 x5 x7 y800000 y800001 n) k x4 x5 x7 y800000 y800001 x8 y800002; rw [step_nat h]; simp only [ih]
abbrev S : List (Nat × Sh) := [(2, .ptr 800000), (3, .ptr 800001), (4, .data .str), (5, .data (.int .i64)), (6, .ptr 800002), (7, .data (.int .i64)), (8, .data (.int .i64))]
abbrev H : List (Nat × ESh) := [(800000, .cell (.data (.arr .u8 32))), (800001, .cell (.data (.arr .u32 8))), (800002, .cell (.data (.arr .u32 64)))]
abbrev cl : List (Place × Nat × Hint) := []
abbrev hn : List (Nat × Hint) := [(2, .any), (3, .any), (4, .any), (5, .any), (6, .any), (7, .any), (8, .any)]
abbrev kp : List Nat := []
abbrev rc : List (Place × Nat × Hint) := []
abbrev rs : List (Nat × Hint) := []
abbrev ri : List Nat := []
def KX (d : (Unit × Unit × (List Int) × Int × Unit × Int × Int × Unit)) (e : ((List Int) × (List Int) × (List Int) × Unit)) (v : (Int × (List Int))) : St := ⟨mkS S ((), (), d.2.2.1, d.2.2.2.1, (), d.2.2.2.2.2.1, v.1, ()), mkH H (e.1, e.2.1, v.2, ())⟩
def sum (k : Nat) : LoopSum := sigLoopX S cl hn kp H 4 (fun (d : (Unit × Unit × (List Int) × Int × Unit × Int × Int × Unit)) (e : ((List Int) × (List Int) × (List Int) × Unit)) => f k d.2.2.1 d.2.2.2.1 d.2.2.2.2.2.1 e.1 e.2.1 k d.2.2.2.2.2.2.1 e.2.2.1) KX
end l4
namespace l2
def step {X : Type} (K : Int → (List Int) → Option X) (G : Int → (List Int) → Option X) (k : Nat) (x4 : (List Int)) (x5 : Int) (y800000 : (List Int)) (y800001 : (List Int)) (x7 : Int) (y800002 : (List Int)) : Option X :=
  (bif (decide (x7 < (16 : Int))) then (Option.bind (trailheadref01_Of.l4.f k x4 x5 x7 y800000 y800001 k (0 : Int) y800002) (fun r2 => (G (addI .i64 x7 1) r2.2))) else (K x7 y800002))
def go {X : Type} (K : Int → (List Int) → Option X) (k : Nat) (x4 : (List Int)) (x5 : Int) (y800000 : (List Int)) (y800001 : (List Int)) : Nat → Int → (List Int) → Option X
  | 0, _, _ => none
  | n + 1, x7, y800002 => step K (go K k x4 x5 y800000 y800001 n) k x4 x5 y800000 y800001 x7 y800002
def f (k : Nat) (x4 : (List Int)) (x5 : Int) (y800000 : (List Int)) (y800001 : (List Int)) (n : Nat) (x7 : Int) (y800002 : (List Int)) : Option (Int × (List Int)) := go (fun x7 y800002 => some (x7, y800002)) k x4 x5 y800000 y800001 n x7 y800002
theorem step_nat {X Y : Type} (h : X → Option Y) (K : Int → (List Int) → Option X) (G : Int → (List Int) → Option X) (k : Nat) (x4 : (List Int)) (x5 : Int) (y800000 : (List Int)) (y800001 : (List Int)) (x7 : Int) (y800002 : (List Int)) : Option.bind (step K G k x4 x5 y800000 y800001 x7 y800002) h = step (fun x7 y800002 => Option.bind (K x7 y800002) h) (fun x7 y800002 => Option.bind (G x7 y800002) h) k x4 x5 y800000 y800001 x7 y800002 := by
  simp only [step, bif_bind, sel_bind', Option.bind_assoc, Option.bind_none, Option.bind_some]
theorem go_nat {X Y : Type} (h : X → Option Y) (K : Int → (List Int) → Option X) (k : Nat) (x4 : (List Int)) (x5 : Int) (y800000 : (List Int)) (y800001 : (List Int)) (n : Nat) : ∀ (x7 : Int) (y800002 : (List Int)), Option.bind (go K k x4 x5 y800000 y800001 n x7 y800002) h = go (fun x7 y800002 => Option.bind (K x7 y800002) h) k x4 x5 y800000 y800001 n x7 y800002 := by
  induction n with
  | zero => intros; rfl
  | succ n ih => intro x7 y800002; show Option.bind (step K (go K k x4 x5 y800000 y800001 n) k x4 x5 y800000 y800001 x7 y800002) h = step (fun x7 y800002 => Option.bind (K x7 y800002) h) (go (fun x7 y800002 => Option.bind (K x7 y800002) h) k x4 x5 y800000 y800001 n) k x4 x5 y800000 y800001 x7 y800002; rw [step_nat h]; simp only [ih]
abbrev S : List (Nat × Sh) := [(2, .ptr 800000), (3, .ptr 800001), (4, .data .str), (5, .data (.int .i64)), (6, .ptr 800002), (7, .data (.int .i64))]
abbrev H : List (Nat × ESh) := [(800000, .cell (.data (.arr .u8 32))), (800001, .cell (.data (.arr .u32 8))), (800002, .cell (.data (.arr .u32 64)))]
abbrev cl : List (Place × Nat × Hint) := []
abbrev hn : List (Nat × Hint) := [(2, .any), (3, .any), (4, .any), (5, .any), (6, .any), (7, .any)]
abbrev kp : List Nat := []
abbrev rc : List (Place × Nat × Hint) := []
abbrev rs : List (Nat × Hint) := []
abbrev ri : List Nat := []
def KX (d : (Unit × Unit × (List Int) × Int × Unit × Int × Unit)) (e : ((List Int) × (List Int) × (List Int) × Unit)) (v : (Int × (List Int))) : St := ⟨mkS S ((), (), d.2.2.1, d.2.2.2.1, (), v.1, ()), mkH H (e.1, e.2.1, v.2, ())⟩
def sum (k : Nat) : LoopSum := sigLoopX S cl hn kp H 2 (fun (d : (Unit × Unit × (List Int) × Int × Unit × Int × Unit)) (e : ((List Int) × (List Int) × (List Int) × Unit)) => f k d.2.2.1 d.2.2.2.1 e.1 e.2.1 k d.2.2.2.2.2.1 e.2.2.1) KX
end l2
namespace l6
def step {X : Type} (K : Int → (List Int) → Option X) (G : Int → (List Int) → Option X) (k : Nat) (x4 : (List Int)) (x5 : Int) (y800000 : (List Int)) (y800001 : (List Int)) (x9 : Int) (y800002 : (List Int)) : Option X :=
  (bif (decide (x9 < (64 : Int))) then (bif (decide (0 ≤ (subI .i64 x9 15))) then (bif (decide ((subI .i64 x9 15) < 64)) then (bif (decide ((Int.toNat (subI .i64 x9 15)) < 64)) then (Option.bind (trailheadref01_right.f k (List.getD y800002 (Int.toNat (subI .i64 x9 15)) 0) (7 : Int)) (fun r4 => (bif (decide (0 ≤ (subI .i64 x9 15))) then (bif (decide ((subI .i64 x9 15) < 64)) then (bif (decide ((Int.toNat (subI .i64 x9 15)) < 64)) then (Option.bind (trailheadref01_right.f k (List.getD y800002 (Int.toNat (subI .i64 x9 15)) 0) (18 : Int)) (fun r5 => (bif (decide (0 ≤ (subI .i64 x9 15))) then (bif (decide ((subI .i64 x9 15) < 64)) then (bif (decide ((Int.toNat (subI .i64 x9 15)) < 64)) then (bif (decide (0 ≤ (subI .i64 x9 2))) then (bif (decide ((subI .i64 x9 2) < 64)) then (bif (decide ((Int.toNat (subI .i64 x9 2)) < 64)) then (Option.bind (trailheadref01_right.f k (List.getD y800002 (Int.toNat (subI .i64 x9 2)) 0) (17 : Int)) (fun r6 => (bif (decide (0 ≤ (subI .i64 x9 2))) then (bif (decide ((subI .i64 x9 2) < 64)) then (bif (decide ((Int.toNat (subI .i64 x9 2)) < 64)) then (Option.bind (trailheadref01_right.f k (List.getD y800002 (Int.toNat (subI .i64 x9 2)) 0) (19 : Int)) (fun r7 => (bif (decide (0 ≤ (subI .i64 x9 2))) then (bif (decide ((subI .i64 x9 2) < 64)) then (bif (decide ((Int.toNat (subI .i64 x9 2)) < 64)) then (bif (decide (0 ≤ (subI .i64 x9 16))) then (bif (decide ((subI .i64 x9 16) < 64)) then (bif (decide ((Int.toNat (subI .i64 x9 16)) < 64)) then (bif (decide (0 ≤ (subI .i64 x9 7))) then (bif (decide ((subI .i64 x9 7) < 64)) then (bif (decide ((Int.toNat (subI .i64 x9 7)) < 64)) then (bif (decide (0 ≤ x9)) then (bif (decide (x9 < 64)) then (bif (decide ((Int.toNat x9) < 64)) then (G (addI .i64 x9 1) (List.set y800002 (Int.toNat x9) (addI .u32 (addI .u32 (addI .u32 (List.getD y800002 (Int.toNat (subI .i64 x9 16)) 0) (xorI .u32 (xorI .u32 r4 r5) (quoI .u32 (List.getD y800002 (Int.toNat (subI .i64 x9 15)) 0) 8))) (List.getD y800002 (Int.toNat (subI .i64 x9 7)) 0)) (xorI .u32 (xorI .u32 r6 r7) (quoI .u32 (List.getD y800002 (Int.toNat (subI .i64 x9 2)) 0) 1024))))) else none) else none) else none) else none) else none) else none) else none) else none) else none) else none) else none) else none))) else none) else none) else none))) else none) else none) else none) else none) else none) else none))) else none) else none) else none))) else none) else none) else none) else (K x9 y800002))
def go {X : Type} (K : Int → (List Int) → Option X) (k : Nat) (x4 : (List Int)) (x5 : Int) (y800000 : (List Int)) (y800001 : (List Int)) : Nat → Int → (List Int) → Option X
  | 0, _, _ => none
  | n + 1, x9, y800002 => step K (go K k x4 x5 y800000 y800001 n) k x4 x5 y800000 y800001 x9 y800002
def f (k : Nat) (x4 : (List Int)) (x5 : Int) (y800000 : (List Int)) (y800001 : (List Int)) (n : Nat) (x9 : Int) (y800002 : (List Int)) : Option (Int × (List Int)) := go (fun x9 y800002 => some (x9, y800002)) k x4 x5 y800000 y800001 n x9 y800002
theorem step_nat {X Y : Type} (h : X → Option Y) (K : Int → (List Int) → Option X) (G : Int → (List Int) → Option X) (k : Nat) (x4 : (List Int)) (x5 : Int) (y800000 : (List Int)) (y800001 : (List Int)) (x9 : Int) (y800002 : (List Int)) : Option.bind (step K G k x4 x5 y800000 y800001 x9 y800002) h = step (fun x9 y800002 => Option.bind (K x9 y800002) h) (fun x9 y800002 => Option.bind (G x9 y800002) h) k x4 x5 y800000 y800001 x9 y800002 := by
  simp only [step, bif_bind, sel_bind', Option.bind_assoc, Option.bind_none, Option.bind_some]
theorem go_nat {X Y : Type} (h : X → Option Y) (K : Int → (List Int) → Option X) (k : Nat) (x4 : (List Int)) (x5 : Int) (y800000 : (List Int)) (y800001 : (List Int)) (n : Nat) : ∀ (x9 : Int) (y800002 : (List Int)), Option.bind (go K k x4 x5 y800000 y800001 n x9 y800002) h = go (fun x9 y800002 => Option.bind (K x9 y800002) h) k x4 x5 y800000 y800001 n x9 y800002 := by
  induction n with
  | zero => intros; rfl
  | succ n ih => intro x9 y800002; show Option.bind (step K (go K k x4 x5 y800000 y800001 n) k x4 x5 y800000 y800001 x9 y800002) h = step (fun x9 y800002 => Option.bind (K x9 y800002) h) (go (fun x9 y800002 => Option.bind (K x9 y800002) h) k x4 x5 y800000 y800001 n) k x4 x5 y800000 y800001 x9 y800002; rw [step_nat h]; simp only [ih]
abbrev S : List (Nat × Sh) := [(2, .ptr 800000), (3, .ptr 800001), (4, .data .str), (5, .data (.int .i64)), (6, .ptr 800002), (9, .data (.int .i64))]
abbrev H : List (Nat × ESh) := [(800000, .cell (.data (.arr .u8 32))), (800001, .cell (.data (.arr .u32 8))), (800002, .cell (.data (.arr .u32 64)))]
abbrev cl : List (Place × Nat × Hint) := []
abbrev hn : List (Nat × Hint) := [(2, .any), (3, .any), (4, .any), (5, .any), (6, .any), (9, .any)]
abbrev kp : List Nat := []
abbrev rc : List (Place × Nat × Hint) := []
abbrev rs : List (Nat × Hint) := []
abbrev ri : List Nat := []
def KX (d : (Unit × Unit × (List Int) × Int × Unit × Int × Unit)) (e : ((List Int) × (List Int) × (List Int) × Unit)) (v : (Int × (List Int))) : St := ⟨mkS S ((), (), d.2.2.1, d.2.2.2.1, (), v.1, ()), mkH H (e.1, e.2.1, v.2, ())⟩
def sum (k : Nat) : LoopSum := sigLoopX S cl hn kp H 6 (fun (d : (Unit × Unit × (List Int) × Int × Unit × Int × Unit)) (e : ((List Int) × (List Int) × (List Int) × Unit)) => f k d.2.2.1 d.2.2.2.1 e.1 e.2.1 k d.2.2.2.2.2.1 e.2.2.1) KX
end l6
namespace l8
def step {X : Type} (K : Int → (List Int) → Option X) (G : Int → (List Int) → Option X) (k : Nat) (x4 : (List Int)) (x5 : Int) (y800000 : (List Int)) (y800001 : (List Int)) (y800002 : (List Int)) (x13 : Int) (y800003 : (List Int)) : Option X :=
  (bif (decide (x13 < (64 : Int))) then (Option.bind (trailheadref01_right.f k (List.getD y800003 4 0) (6 : Int)) (fun r9 => (Option.bind (trailheadref01_right.f k (List.getD y800003 4 0) (11 : Int)) (fun r10 => (Option.bind (trailheadref01_right.f k (List.getD y800003 4 0) (25 : Int)) (fun r11 => (Option.bind (trailheadref01_k.f k x13) (fun r12 => (bif (decide (0 ≤ x13)) then (bif (decide (x13 < 64)) then (bif (decide ((Int.toNat x13) < 64)) then (Option.bind (trailheadref01_right.f k (List.getD y800003 0 0) (2 : Int)) (fun r13 => (Option.bind (trailheadref01_right.f k (List.getD y800003 0 0) (13 : Int)) (fun r14 => (Option.bind (trailheadref01_right.f k (List.getD y800003 0 0) (22 : Int)) (fun r15 => (G (addI .i64 x13 1) ([(addI .u32 (addI .u32 (addI .u32 (addI .u32 (addI .u32 (List.getD y800003 7 0) (xorI .u32 (xorI .u32 r9 r10) r11)) (orI .u32 (andI .u32 (List.getD y800003 4 0) (List.getD y800003 5 0)) (andI .u32 (subI .u32 4294967295 (List.getD y800003 4 0)) (List.getD y800003 6 0)))) r12) (List.getD y800002 (Int.toNat x13) 0)) (addI .u32 (xorI .u32 (xorI .u32 r13 r14) r15) (orI .u32 (orI .u32 (andI .u32 (List.getD y800003 0 0) (List.getD y800003 1 0)) (andI .u32 (List.getD y800003 0 0) (List.getD y800003 2 0))) (andI .u32 (List.getD y800003 1 0) (List.getD y800003 2 0))))), (List.getD y800003 0 0), (List.getD y800003 1 0), (List.getD y800003 2 0), (addI .u32 (List.getD y800003 3 0) (addI .u32 (addI .u32 (addI .u32 (addI .u32 (List.getD y800003 7 0) (xorI .u32 (xorI .u32 r9 r10) r11)) (orI .u32 (andI .u32 (List.getD y800003 4 0) (List.getD y800003 5 0)) (andI .u32 (subI .u32 4294967295 (List.getD y800003 4 0)) (List.getD y800003 6 0)))) r12) (List.getD y800002 (Int.toNat x13) 0))), (List.getD y800003 4 0), (List.getD y800003 5 0), (List.getD y800003 6 0)] : (List Int))))))))) else none) else none) else none))))))))) else (K x13 y800003))
def go {X : Type} (K : Int → (List Int) → Option X) (k : Nat) (x4 : (List Int)) (x5 : Int) (y800000 : (List Int)) (y800001 : (List Int)) (y800002 : (List Int)) : Nat → Int → (List Int) → Option X
  | 0, _, _ => none
  | n + 1, x13, y800003 => step K (go K k x4 x5 y800000 y800001 y800002 n) k x4 x5 y800000 y800001 y800002 x13 y800003
def f (k : Nat) (x4 : (List Int)) (x5 : Int) (y800000 : (List Int)) (y800001 : (List Int)) (y800002 : (List Int)) (n : Nat) (x13 : Int) (y800003 : (List Int)) : Option (Int × (List Int)) := go (fun x13 y800003 => some (x13, y800003)) k x4 x5 y800000 y800001 y800002 n x13 y800003
theorem step_nat {X Y : Type} (h : X → Option Y) (K : Int → (List Int) → Option X) (G : Int → (List Int) → Option X) (k : Nat) (x4 : (List Int)) (x5 : Int) (y800000 : (List Int)) (y800001 : (List Int)) (y800002 : (List Int)) (x13 : Int) (y800003 : (List Int)) : Option.bind (step K G k x4 x5 y800000 y800001 y800002 x13 y800003) h = step (fun x13 y800003 => Option.bind (K x13 y800003) h) (fun x13 y800003 => Option.bind (G x13 y800003) h) k x4 x5 y800000 y800001 y800002 x13 y800003 := by
  simp only [step, bif_bind, sel_bind', Option.bind_assoc, Option.bind_none, Option.bind_some]
theorem go_nat {X Y : Type} (h : X → Option Y) (K : Int → (List Int) → Option X) (k : Nat) (x4 : (List Int)) (x5 : Int) (y800000 : (List Int)) (y800001 : (List Int)) (y800002 : (List Int)) (n : Nat) : ∀ (x13 : Int) (y800003 : (List Int)), Option.bind (go K k x4 x5 y800000 y800001 y800002 n x13 y800003) h = go (fun x13 y800003 => Option.bind (K x13 y800003) h) k x4 x5 y800000 y800001 y800002 n x13 y800003 := by
  induction n with
  | zero => intros; rfl
  | succ n ih => intro x13 y800003; show Option.bind (step K (go K k x4 x5 y800000 y800001 y800002 n) k x4 x5 y800000 y800001 y800002 x13 y800003) h = step (fun x13 y800003 => Option.bind (K x13 y800003) h) (go (fun x13 y800003 => Option.bind (K x13 y800003) h) k x4 x5 y800000 y800001 y800002 n) k x4 x5 y800000 y800001 y800002 x13 y800003; rw [step_nat h]; simp only [ih]
abbrev S : List (Nat × Sh) := [(2, .ptr 800000), (3, .ptr 800001), (4, .data .str), (5, .data (.int .i64)), (6, .ptr 800002), (12, .ptr 800003), (13, .data (.int .i64))]
abbrev H : List (Nat × ESh) := [(800000, .cell (.data (.arr .u8 32))), (800001, .cell (.data (.arr .u32 8))), (800002, .cell (.data (.arr .u32 64))), (800003, .cell (.data (.arr .u32 8)))]
abbrev cl : List (Place × Nat × Hint) := []
abbrev hn : List (Nat × Hint) := [(2, .any), (3, .any), (4, .any), (5, .any), (6, .any), (12, .any), (13, .any)]
abbrev kp : List Nat := []
abbrev rc : List (Place × Nat × Hint) := []
abbrev rs : List (Nat × Hint) := []
abbrev ri : List Nat := []
def KX (d : (Unit × Unit × (List Int) × Int × Unit × Unit × Int × Unit)) (e : ((List Int) × (List Int) × (List Int) × (List Int) × Unit)) (v : (Int × (List Int))) : St := ⟨mkS S ((), (), d.2.2.1, d.2.2.2.1, (), (), v.1, ()), mkH H (e.1, e.2.1, e.2.2.1, v.2, ())⟩
def sum (k : Nat) : LoopSum := sigLoopX S cl hn kp H 8 (fun (d : (Unit × Unit × (List Int) × Int × Unit × Unit × Int × Unit)) (e : ((List Int) × (List Int) × (List Int) × (List Int) × Unit)) => f k d.2.2.1 d.2.2.2.1 e.1 e.2.1 e.2.2.1 k d.2.2.2.2.2.2.1 e.2.2.2.1) KX
end l8
namespace l10
def step {X : Type} (K : Int → (List Int) → Option X) (G : Int → (List Int) → Option X) (k : Nat) (x4 : (List Int)) (x5 : Int) (y800000 : (List Int)) (y800002 : (List Int)) (x16 : Int) (y800001 : (List Int)) : Option X :=
  (bif (decide (x16 < (8 : Int))) then (bif (decide (0 ≤ x16)) then (bif (decide (x16 < 8)) then (bif (decide ((Int.toNat x16) < 8)) then (bif (decide (0 ≤ x16)) then (bif (decide (x16 < 8)) then (bif (decide ((Int.toNat x16) < 8)) then (bif (decide (0 ≤ x16)) then (bif (decide (x16 < 8)) then (bif (decide ((Int.toNat x16) < 8)) then (G (addI .i64 x16 1) (List.set y800001 (Int.toNat x16) (addI .u32 (List.getD y800001 (Int.toNat x16) 0) (List.getD y800002 (Int.toNat x16) 0)))) else none) else none) else none) else none) else none) else none) else none) else none) else none) else (K x16 y800001))
def go {X : Type} (K : Int → (List Int) → Option X) (k : Nat) (x4 : (List Int)) (x5 : Int) (y800000 : (List Int)) (y800002 : (List Int)) : Nat → Int → (List Int) → Option X
  | 0, _, _ => none
  | n + 1, x16, y800001 => step K (go K k x4 x5 y800000 y800002 n) k x4 x5 y800000 y800002 x16 y800001
def f (k : Nat) (x4 : (List Int)) (x5 : Int) (y800000 : (List Int)) (y800002 : (List Int)) (n : Nat) (x16 : Int) (y800001 : (List Int)) : Option (Int × (List Int)) := go (fun x16 y800001 => some (x16, y800001)) k x4 x5 y800000 y800002 n x16 y800001
theorem step_nat {X Y : Type} (h : X → Option Y) (K : Int → (List Int) → Option X) (G : Int → (List Int) → Option X) (k : Nat) (x4 : (List Int)) (x5 : Int) (y800000 : (List Int)) (y800002 : (List Int)) (x16 : Int) (y800001 : (List Int)) : Option.bind (step K G k x4 x5 y800000 y800002 x16 y800001) h = step (fun x16 y800001 => Option.bind (K x16 y800001) h) (fun x16 y800001 => Option.bind (G x16 y800001) h) k x4 x5 y800000 y800002 x16 y800001 := by
  simp only [step, bif_bind, sel_bind', Option.bind_assoc, Option.bind_none, Option.bind_some]
theorem go_nat {X Y : Type} (h : X → Option Y) (K : Int → (List Int) → Option X) (k : Nat) (x4 : (List Int)) (x5 : Int) (y800000 : (List Int)) (y800002 : (List Int)) (n : Nat) : ∀ (x16 : Int) (y800001 : (List Int)), Option.bind (go K k x4 x5 y800000 y800002 n x16 y800001) h = go (fun x16 y800001 => Option.bind (K x16 y800001) h) k x4 x5 y800000 y800002 n x16 y800001 := by
  induction n with
  | zero => intros; rfl
  | succ n ih => intro x16 y800001; show Option.bind (step K (go K k x4 x5 y800000 y800002 n) k x4 x5 y800000 y800002 x16 y800001) h = step (fun x16 y800001 => Option.bind (K x16 y800001) h) (go (fun x16 y800001 => Option.bind (K x16 y800001) h) k x4 x5 y800000 y800002 n) k x4 x5 y800000 y800002 x16 y800001; rw [step_nat h]; simp only [ih]
abbrev S : List (Nat × Sh) := [(2, .ptr 800000), (3, .ptr 800001), (4, .data .str), (5, .data (.int .i64)), (12, .ptr 800002), (16, .data (.int .i64))]
abbrev H : List (Nat × ESh) := [(800000, .cell (.data (.arr .u8 32))), (800001, .cell (.data (.arr .u32 8))), (800002, .cell (.data (.arr .u32 8)))]
abbrev cl : List (Place × Nat × Hint) := []
abbrev hn : List (Nat × Hint) := [(2, .any), (3, .any), (4, .any), (5, .any), (12, .any), (16, .any)]
abbrev kp : List Nat := []
abbrev rc : List (Place × Nat × Hint) := []
abbrev rs : List (Nat × Hint) := []
abbrev ri : List Nat := []
def KX (d : (Unit × Unit × (List Int) × Int × Unit × Int × Unit)) (e : ((List Int) × (List Int) × (List Int) × Unit)) (v : (Int × (List Int))) : St := ⟨mkS S ((), (), d.2.2.1, d.2.2.2.1, (), v.1, ()), mkH H (e.1, v.2, e.2.2.1, ())⟩
def sum (k : Nat) : LoopSum := sigLoopX S cl hn kp H 10 (fun (d : (Unit × Unit × (List Int) × Int × Unit × Int × Unit)) (e : ((List Int) × (List Int) × (List Int) × Unit)) => f k d.2.2.1 d.2.2.2.1 e.1 e.2.2.1 k d.2.2.2.2.2.1 e.2.1) KX
end l10
namespace l0
def step {X : Type} (K : Int → (List Int) → Option X) (G : Int → (List Int) → Option X) (k : Nat) (x4 : (List Int)) (y800000 : (List Int)) (x5 : Int) (y800001 : (List Int)) : Option X :=
  (bif (decide (x5 < ((List.length x4) : Int))) then (Option.bind (trailheadref01_Of.l2.f k x4 x5 y800000 y800001 k (0 : Int) ([0, 0, 0, 0, 0, 0, 0, 0, 0, 0, 0, 0, 0, 0, 0, 0, 0, 0, 0, 0, 0, 0, 0, 0, 0, 0, 0, 0, 0, 0, 0, 0, 0, 0, 0, 0, 0, 0, 0, 0, 0, 0, 0, 0, 0, 0, 0, 0, 0, 0, 0, 0, 0, 0, 0, 0, 0, 0, 0, 0, 0, 0, 0, 0] : (List Int))) (fun r3 => (Option.bind (trailheadref01_Of.l6.f k x4 x5 y800000 y800001 k (16 : Int) r3.2) (fun r8 => (Option.bind (trailheadref01_Of.l8.f k x4 x5 y800000 y800001 r8.2 k (0 : Int) y800001) (fun r16 => (Option.bind (trailheadref01_Of.l10.f k x4 x5 y800000 r16.2 k (0 : Int) y800001) (fun r17 => (G (addI .i64 x5 64) r17.2))))))))) else (K x5 y800001))
def go {X : Type} (K : Int → (List Int) → Option X) (k : Nat) (x4 : (List Int)) (y800000 : (List Int)) : Nat → Int → (List Int) → Option X
  | 0, _, _ => none
  | n + 1, x5, y800001 => step K (go K k x4 y800000 n) k x4 y800000 x5 y800001
def f (k : Nat) (x4 : (List Int)) (y800000 : (List Int)) (n : Nat) (x5 : Int) (y800001 : (List Int)) : Option (Int × (List Int)) := go (fun x5 y800001 => some (x5, y800001)) k x4 y800000 n x5 y800001
theorem step_nat {X Y : Type} (h : X → Option Y) (K : Int → (List Int) → Option X) (G : Int → (List Int) → Option X) (k : Nat) (x4 : (List Int)) (y800000 : (List Int)) (x5 : Int) (y800001 : (List Int)) : Option.bind (step K G k x4 y800000 x5 y800001) h = step (fun x5 y800001 => Option.bind (K x5 y800001) h) (fun x5 y800001 => Option.bind (G x5 y800001) h) k x4 y800000 x5 y800001 := by
  simp only [step, bif_bind, sel_bind', Option.bind_assoc, Option.bind_none, Option.bind_some]
theorem go_nat {X Y : Type} (h : X → Option Y) (K : Int → (List Int) → Option X) (k : Nat) (x4 : (List Int)) (y800000 : (List Int)) (n : Nat) : ∀ (x5 : Int) (y800001 : (List Int)), Option.bind (go K k x4 y800000 n x5 y800001) h = go (fun x5 y800001 => Option.bind (K x5 y800001) h) k x4 y800000 n x5 y800001 := by
  induction n with
  | zero => intros; rfl
  | succ n ih => intro x5 y800001; show Option.bind (step K (go K k x4 y800000 n) k x4 y800000 x5 y800001) h = step (fun x5 y800001 => Option.bind (K x5 y800001) h) (go (fun x5 y800001 => Option.bind (K x5 y800001) h) k x4 y800000 n) k x4 y800000 x5 y800001; rw [step_nat h]; simp only [ih]
abbrev S : List (Nat × Sh) := [(2, .ptr 800000), (3, .ptr 800001), (4, .data .str), (5, .data (.int .i64))]
abbrev H : List (Nat × ESh) := [(800000, .cell (.data (.arr .u8 32))), (800001, .cell (.data (.arr .u32 8)))]
abbrev cl : List (Place × Nat × Hint) := []
abbrev hn : List (Nat × Hint) := [(2, .any), (3, .any), (4, .any), (5, .any)]
abbrev kp : List Nat := []
abbrev rc : List (Place × Nat × Hint) := []
abbrev rs : List (Nat × Hint) := []
abbrev ri : List Nat := []
def KX (d : (Unit × Unit × (List Int) × Int × Unit)) (e : ((List Int) × (List Int) × Unit)) (v : (Int × (List Int))) : St := ⟨mkS S ((), (), d.2.2.1, v.1, ()), mkH H (e.1, v.2, ())⟩
def sum (k : Nat) : LoopSum := sigLoopX S cl hn kp H 0 (fun (d : (Unit × Unit × (List Int) × Int × Unit)) (e : ((List Int) × (List Int) × Unit)) => f k d.2.2.1 e.1 k d.2.2.2.1 e.2.1) KX
end l0
namespace l12
def step {X : Type} (K : Int → (List Int) → Option X) (G : Int → (List Int) → Option X) (k : Nat) (y800000 : (List Int)) (y800001 : (List Int)) (x18 : Int) (y800002 : (List Int)) : Option X :=
  (bif (decide (x18 < (32 : Int))) then (bif (decide (0 ≤ (quoI .i64 x18 4))) then (bif (decide ((quoI .i64 x18 4) < 8)) then (bif (decide ((Int.toNat (quoI .i64 x18 4)) < 8)) then (bif (decide ((IntKind.wrap .u64 (subI .i64 24 (mulI .i64 8 (remI x18 4)))) < 0)) then none else (bif (decide (0 ≤ x18)) then (bif (decide (x18 < 32)) then (bif (decide ((Int.toNat x18) < 32)) then (G (addI .i64 x18 1) (List.set y800002 (Int.toNat x18) (IntKind.wrap .u8 (remI (shrI .u32 (List.getD y800001 (Int.toNat (quoI .i64 x18 4)) 0) (IntKind.wrap .u64 (subI .i64 24 (mulI .i64 8 (remI x18 4))))) 256)))) else none) else none) else none)) else none) else none) else none) else (K x18 y800002))
def go {X : Type} (K : Int → (List Int) → Option X) (k : Nat) (y800000 : (List Int)) (y800001 : (List Int)) : Nat → Int → (List Int) → Option X
  | 0, _, _ => none
  | n + 1, x18, y800002 => step K (go K k y800000 y800001 n) k y800000 y800001 x18 y800002
def f (k : Nat) (y800000 : (List Int)) (y800001 : (List Int)) (n : Nat) (x18 : Int) (y800002 : (List Int)) : Option (Int × (List Int)) := go (fun x18 y800002 => some (x18, y800002)) k y800000 y800001 n x18 y800002
theorem step_nat {X Y : Type} (h : X → Option Y) (K : Int → (List Int) → Option X) (G : Int → (List Int) → Option X) (k : Nat) (y800000 : (List Int)) (y800001 : (List Int)) (x18 : Int) (y800002 : (List Int)) : Option.bind (step K G k y800000 y800001 x18 y800002) h = step (fun x18 y800002 => Option.bind (K x18 y800002) h) (fun x18 y800002 => Option.bind (G x18 y800002) h) k y800000 y800001 x18 y800002 := by
  simp only [step, bif_bind, sel_bind', Option.bind_assoc, Option.bind_none, Option.bind_some]
theorem go_nat {X Y : Type} (h : X → Option Y) (K : Int → (List Int) → Option X) (k : Nat) (y800000 : (List Int)) (y800001 : (List Int)) (n : Nat) : ∀ (x18 : Int) (y800002 : (List Int)), Option.bind (go K k y800000 y800001 n x18 y800002) h = go (fun x18 y800002 => Option.bind (K x18 y800002) h) k y800000 y800001 n x18 y800002 := by
  induction n with
  | zero => intros; rfl
  | succ n ih => intro x18 y800002; show Option.bind (step K (go K k y800000 y800001 n) k y800000 y800001 x18 y800002) h = step (fun x18 y800002 => Option.bind (K x18 y800002) h) (go (fun x18 y800002 => Option.bind (K x18 y800002) h) k y800000 y800001 n) k y800000 y800001 x18 y800002; rw [step_nat h]; simp only [ih]
abbrev S : List (Nat × Sh) := [(2, .ptr 800000), (3, .ptr 800001), (17, .ptr 800002), (18, .data (.int .i64))]
abbrev H : List (Nat × ESh) := [(800000, .cell (.data (.arr .u8 32))), (800001, .cell (.data (.arr .u32 8))), (800002, .cell (.data (.arr .u8 32)))]
abbrev cl : List (Place × Nat × Hint) := []
abbrev hn : List (Nat × Hint) := [(2, .any), (3, .any), (17, .any), (18, .any)]
abbrev kp : List Nat := []
abbrev rc : List (Place × Nat × Hint) := []
abbrev rs : List (Nat × Hint) := []
abbrev ri : List Nat := []
def KX (d : (Unit × Unit × Unit × Int × Unit)) (e : ((List Int) × (List Int) × (List Int) × Unit)) (v : (Int × (List Int))) : St := ⟨mkS S ((), (), (), v.1, ()), mkH H (e.1, e.2.1, v.2, ())⟩
def sum (k : Nat) : LoopSum := sigLoopX S cl hn kp H 12 (fun (d : (Unit × Unit × Unit × Int × Unit)) (e : ((List Int) × (List Int) × (List Int) × Unit)) => f k e.1 e.2.1 k d.2.2.2.1 e.2.2.1) KX
end l12
def tree {X : Type} (K : (List Int) → Option X) (k : Nat) (a0 : (List Int)) : Option X :=
  (Option.bind (trailheadref01_padded.f k a0) (fun r1 => (Option.bind (trailheadref01_Of.l0.f k r1 ([0, 0, 0, 0, 0, 0, 0, 0, 0, 0, 0, 0, 0, 0, 0, 0, 0, 0, 0, 0, 0, 0, 0, 0, 0, 0, 0, 0, 0, 0, 0, 0] : (List Int)) k (0 : Int) ([1779033703, 3144134277, 1013904242, 2773480762, 1359893119, 2600822924, 528734635, 1541459225] : (List Int))) (fun r18 => (Option.bind (trailheadref01_Of.l12.f k ([0, 0, 0, 0, 0, 0, 0, 0, 0, 0, 0, 0, 0, 0, 0, 0, 0, 0, 0, 0, 0, 0, 0, 0, 0, 0, 0, 0, 0, 0, 0, 0] : (List Int)) r18.2 k (0 : Int) ([0, 0, 0, 0, 0, 0, 0, 0, 0, 0, 0, 0, 0, 0, 0, 0, 0, 0, 0, 0, 0, 0, 0, 0, 0, 0, 0, 0, 0, 0, 0, 0] : (List Int))) (fun r19 => (K r19.2)))))))
def f (k : Nat) (a0 : (List Int)) : Option (List Int) := tree (fun b0 => some b0) k a0
theorem tree_nat {X Y : Type} (h : X → Option Y) (K : (List Int) → Option X) (k : Nat) (a0 : (List Int)) : Option.bind (tree K k a0) h = tree (fun b0 => Option.bind (K b0) h) k a0 := by
  simp only [tree, bif_bind, sel_bind', Option.bind_assoc, Option.bind_none, Option.bind_some]
abbrev ps : List Sh := [.data .str]
abbrev hs : List (Nat × ESh) := []
abbrev hi : List Nat := hs.map (·.1)
abbrev fi : List Nat := []
abbrev cl : List (Place × Nat × Hint) := []
abbrev hn : List Hint := [.any]
def val (t : (List Int)) : AV := Sh.mk (.data (.arr .u8 32)) t
def wr (t : (List Int)) : Heap := []
def callee (k : Nat) : Callee := sigCallee ps hs (fun (d : ((List Int) × Unit)) (e : Unit) => f k d.1) val wr
def E (k : Nat) : Env := ⟨fnTab [(25, [trailheadref01_padded.callee k]), (26, [trailheadref01_right.callee k]), (27, [trailheadref01_k.callee k])], loopTab [(4, l4.sum k), (2, l2.sum k), (6, l6.sum k), (8, l8.sum k), (10, l10.sum k), (0, l0.sum k), (12, l12.sum k)], natsTab [], natTab []⟩
theorem fE (k : Nat) : ∀ f, ∀ c ∈ (E k).fn f, CalleeOK Tryd.prog f c := fnTab_ok ⟨⟨trailheadref01_padded.ok k, trivial⟩, ⟨trailheadref01_right.ok k, trivial⟩, ⟨trailheadref01_k.ok k, trivial⟩, trivial⟩
namespace l4
theorem round (k : Nat) (d : (Unit × Unit × (List Int) × Int × Unit × Int × Int × Unit)) (e : ((List Int) × (List Int) × (List Int) × Unit)) (G : St → Option (Ex × St)) : roundK Tryd.prog (E k) 225 4 (subC (bodyOf Tryd.f20) [1, 1, 1, 0, 1, 0, 0, 1, 0, 0, 1, 0, 1, 0, 0, 1, 0, 0, 1, 0, 0]) (recast cl hn kp) (finBy cl hn kp rc rs ri) G ⟨mkS S d, mkH H e⟩ =
    step (fun x8 y800002 => some (.exit 4, KX d e (x8, y800002))) (fun x8 y800002 => G ⟨mkS S ((), (), d.2.2.1, d.2.2.2.1, (), d.2.2.2.2.2.1, x8, ()), mkH H (e.1, e.2.1, y800002, ())⟩) k d.2.2.1 d.2.2.2.1 d.2.2.2.2.2.1 e.1 e.2.1 d.2.2.2.2.2.2.1 e.2.2.1 := by kernel_rfl
theorem it (k n : Nat) (d : (Unit × Unit × (List Int) × Int × Unit × Int × Int × Unit)) (e : ((List Int) × (List Int) × (List Int) × Unit)) : loopIt Tryd.prog (E k) 225 4 (subC (bodyOf Tryd.f20) [1, 1, 1, 0, 1, 0, 0, 1, 0, 0, 1, 0, 1, 0, 0, 1, 0, 0, 1, 0, 0]) (recast cl hn kp) (finBy cl hn kp rc rs ri) n ⟨mkS S d, mkH H e⟩ = go (fun x8 y800002 => some (.exit 4, KX d e (x8, y800002))) k d.2.2.1 d.2.2.2.1 d.2.2.2.2.2.1 e.1 e.2.1 n d.2.2.2.2.2.2.1 e.2.2.1 :=
  loopIt_eq (D := (Unit × Unit × (List Int) × Int × Unit × Int × Int × Unit) × ((List Int) × (List Int) × (List Int) × Unit)) (fun p => ⟨mkS S p.1, mkH H p.2⟩) (fun F p => step (fun x8 y800002 => some (.exit 4, KX p.1 p.2 (x8, y800002))) (fun x8 y800002 => F (((), (), p.1.2.2.1, p.1.2.2.2.1, (), p.1.2.2.2.2.2.1, x8, ()), (p.2.1, p.2.2.1, y800002, ()))) k p.1.2.2.1 p.1.2.2.2.1 p.1.2.2.2.2.2.1 p.2.1 p.2.2.1 p.1.2.2.2.2.2.2.1 p.2.2.2.1) (fun n p => go (fun x8 y800002 => some (.exit 4, KX p.1 p.2 (x8, y800002))) k p.1.2.2.1 p.1.2.2.2.1 p.1.2.2.2.2.2.1 p.2.1 p.2.2.1 n p.1.2.2.2.2.2.2.1 p.2.2.2.1) (fun _ => rfl) (fun _ _ => rfl) (fun G p => round k p.1 p.2 G) n (d, e)
theorem ok (k : Nat) : LoopOK Tryd.prog 225 (subC (bodyOf Tryd.f20) [1, 1, 1, 0, 1, 0, 0, 1, 0, 0, 1, 0, 1, 0, 0, 1, 0, 0, 1, 0, 0]) (sum k) :=
  loop_sigX hm (fE k) (loopsOK_of [] (by kernel_rfl) trivial) S cl hn kp H 4 (fun (d : (Unit × Unit × (List Int) × Int × Unit × Int × Int × Unit)) (e : ((List Int) × (List Int) × (List Int) × Unit)) => f k d.2.2.1 d.2.2.2.1 d.2.2.2.2.2.1 e.1 e.2.1 k d.2.2.2.2.2.2.1 e.2.2.1) KX cl hn kp rc rs ri k
    (fun d e => (it k k d e).trans (go_nat (fun v => some (Ex.exit 4, KX d e v)) (fun x8 y800002 => some (x8, y800002)) k d.2.2.1 d.2.2.2.1 d.2.2.2.2.2.1 e.1 e.2.1 k d.2.2.2.2.2.2.1 e.2.2.1).symm)
end l4
namespace l2
theorem round (k : Nat) (d : (Unit × Unit × (List Int) × Int × Unit × Int × Unit)) (e : ((List Int) × (List Int) × (List Int) × Unit)) (G : St → Option (Ex × St)) : roundK Tryd.prog (E k) 225 2 (subC (bodyOf Tryd.f20) [1, 1, 1, 0, 1, 0, 0, 1, 0, 0, 1, 0, 1, 0, 0]) (recast cl hn kp) (finBy cl hn kp rc rs ri) G ⟨mkS S d, mkH H e⟩ =
    step (fun x7 y800002 => some (.exit 2, KX d e (x7, y800002))) (fun x7 y800002 => G ⟨mkS S ((), (), d.2.2.1, d.2.2.2.1, (), x7, ()), mkH H (e.1, e.2.1, y800002, ())⟩) k d.2.2.1 d.2.2.2.1 e.1 e.2.1 d.2.2.2.2.2.1 e.2.2.1 := by kernel_rfl
theorem it (k n : Nat) (d : (Unit × Unit × (List Int) × Int × Unit × Int × Unit)) (e : ((List Int) × (List Int) × (List Int) × Unit)) : loopIt Tryd.prog (E k) 225 2 (subC (bodyOf Tryd.f20) [1, 1, 1, 0, 1, 0, 0, 1, 0, 0, 1, 0, 1, 0, 0]) (recast cl hn kp) (finBy cl hn kp rc rs ri) n ⟨mkS S d, mkH H e⟩ = go (fun x7 y800002 => some (.exit 2, KX d e (x7, y800002))) k d.2.2.1 d.2.2.2.1 e.1 e.2.1 n d.2.2.2.2.2.1 e.2.2.1 :=
  loopIt_eq (D := (Unit × Unit × (List Int) × Int × Unit × Int × Unit) × ((List Int) × (List Int) × (List Int) × Unit)) (fun p => ⟨mkS S p.1, mkH H p.2⟩) (fun F p => step (fun x7 y800002 => some (.exit 2, KX p.1 p.2 (x7, y800002))) (fun x7 y800002 => F (((), (), p.1.2.2.1, p.1.2.2.2.1, (), x7, ()), (p.2.1, p.2.2.1, y800002, ()))) k p.1.2.2.1 p.1.2.2.2.1 p.2.1 p.2.2.1 p.1.2.2.2.2.2.1 p.2.2.2.1) (fun n p => go (fun x7 y800002 => some (.exit 2, KX p.1 p.2 (x7, y800002))) k p.1.2.2.1 p.1.2.2.2.1 p.2.1 p.2.2.1 n p.1.2.2.2.2.2.1 p.2.2.2.1) (fun _ => rfl) (fun _ _ => rfl) (fun G p => round k p.1 p.2 G) n (d, e)
theorem ok (k : Nat) : LoopOK Tryd.prog 225 (subC (bodyOf Tryd.f20) [1, 1, 1, 0, 1, 0, 0, 1, 0, 0, 1, 0, 1, 0, 0]) (sum k) :=
  loop_sigX hm (fE k) (loopsOK_of [(4, subC (bodyOf Tryd.f20) [1, 1, 1, 0, 1, 0, 0, 1, 0, 0, 1, 0, 1, 0, 0, 1, 0, 0, 1, 0, 0])] (by kernel_rfl) ⟨of_loop (l4.sum k) rfl (l4.ok k), trivial⟩) S cl hn kp H 2 (fun (d : (Unit × Unit × (List Int) × Int × Unit × Int × Unit)) (e : ((List Int) × (List Int) × (List Int) × Unit)) => f k d.2.2.1 d.2.2.2.1 e.1 e.2.1 k d.2.2.2.2.2.1 e.2.2.1) KX cl hn kp rc rs ri k
    (fun d e => (it k k d e).trans (go_nat (fun v => some (Ex.exit 2, KX d e v)) (fun x7 y800002 => some (x7, y800002)) k d.2.2.1 d.2.2.2.1 e.1 e.2.1 k d.2.2.2.2.2.1 e.2.2.1).symm)
end l2
namespace l6
theorem round (k : Nat) (d : (Unit × Unit × (List Int) × Int × Unit × Int × Unit)) (e : ((List Int) × (List Int) × (List Int) × Unit)) (G : St → Option (Ex × St)) : roundK Tryd.prog (E k) 225 6 (subC (bodyOf Tryd.f20) [1, 1, 1, 0, 1, 0, 0, 1, 0, 0, 1, 1, 0, 1, 0, 0]) (recast cl hn kp) (finBy cl hn kp rc rs ri) G ⟨mkS S d, mkH H e⟩ =
    step (fun x9 y800002 => some (.exit 6, KX d e (x9, y800002))) (fun x9 y800002 => G ⟨mkS S ((), (), d.2.2.1, d.2.2.2.1, (), x9, ()), mkH H (e.1, e.2.1, y800002, ())⟩) k d.2.2.1 d.2.2.2.1 e.1 e.2.1 d.2.2.2.2.2.1 e.2.2.1 := by kernel_rfl
theorem it (k n : Nat) (d : (Unit × Unit × (List Int) × Int × Unit × Int × Unit)) (e : ((List Int) × (List Int) × (List Int) × Unit)) : loopIt Tryd.prog (E k) 225 6 (subC (bodyOf Tryd.f20) [1, 1, 1, 0, 1, 0, 0, 1, 0, 0, 1, 1, 0, 1, 0, 0]) (recast cl hn kp) (finBy cl hn kp rc rs ri) n ⟨mkS S d, mkH H e⟩ = go (fun x9 y800002 => some (.exit 6, KX d e (x9, y800002))) k d.2.2.1 d.2.2.2.1 e.1 e.2.1 n d.2.2.2.2.2.1 e.2.2.1 :=
  loopIt_eq (D := (Unit × Unit × (List Int) × Int × Unit × Int × Unit) × ((List Int) × (List Int) × (List Int) × Unit)) (fun p => ⟨mkS S p.1, mkH H p.2⟩) (fun F p => step (fun x9 y800002 => some (.exit 6, KX p.1 p.2 (x9, y800002))) (fun x9 y800002 => F (((), (), p.1.2.2.1, p.1.2.2.2.1, (), x9, ()), (p.2.1, p.2.2.1, y800002, ()))) k p.1.2.2.1 p.1.2.2.2.1 p.2.1 p.2.2.1 p.1.2.2.2.2.2.1 p.2.2.2.1) (fun n p => go (fun x9 y800002 => some (.exit 6, KX p.1 p.2 (x9, y800002))) k p.1.2.2.1 p.1.2.2.2.1 p.2.1 p.2.2.1 n p.1.2.2.2.2.2.1 p.2.2.2.1) (fun _ => rfl) (fun _ _ => rfl) (fun G p => round k p.1 p.2 G) n (d, e)
theorem ok (k : Nat) : LoopOK Tryd.prog 225 (subC (bodyOf Tryd.f20) [1, 1, 1, 0, 1, 0, 0, 1, 0, 0, 1, 1, 0, 1, 0, 0]) (sum k) :=
  loop_sigX hm (fE k) (loopsOK_of [] (by kernel_rfl) trivial) S cl hn kp H 6 (fun (d : (Unit × Unit × (List Int) × Int × Unit × Int × Unit)) (e : ((List Int) × (List Int) × (List Int) × Unit)) => f k d.2.2.1 d.2.2.2.1 e.1 e.2.1 k d.2.2.2.2.2.1 e.2.2.1) KX cl hn kp rc rs ri k
    (fun d e => (it k k d e).trans (go_nat (fun v => some (Ex.exit 6, KX d e v)) (fun x9 y800002 => some (x9, y800002)) k d.2.2.1 d.2.2.2.1 e.1 e.2.1 k d.2.2.2.2.2.1 e.2.2.1).symm)
end l6
namespace l8
theorem round (k : Nat) (d : (Unit × Unit × (List Int) × Int × Unit × Unit × Int × Unit)) (e : ((List Int) × (List Int) × (List Int) × (List Int) × Unit)) (G : St → Option (Ex × St)) : roundK Tryd.prog (E k) 225 8 (subC (bodyOf Tryd.f20) [1, 1, 1, 0, 1, 0, 0, 1, 0, 0, 1, 1, 1, 1, 0, 1, 0, 0]) (recast cl hn kp) (finBy cl hn kp rc rs ri) G ⟨mkS S d, mkH H e⟩ =
    step (fun x13 y800003 => some (.exit 8, KX d e (x13, y800003))) (fun x13 y800003 => G ⟨mkS S ((), (), d.2.2.1, d.2.2.2.1, (), (), x13, ()), mkH H (e.1, e.2.1, e.2.2.1, y800003, ())⟩) k d.2.2.1 d.2.2.2.1 e.1 e.2.1 e.2.2.1 d.2.2.2.2.2.2.1 e.2.2.2.1 := by kernel_rfl
theorem it (k n : Nat) (d : (Unit × Unit × (List Int) × Int × Unit × Unit × Int × Unit)) (e : ((List Int) × (List Int) × (List Int) × (List Int) × Unit)) : loopIt Tryd.prog (E k) 225 8 (subC (bodyOf Tryd.f20) [1, 1, 1, 0, 1, 0, 0, 1, 0, 0, 1, 1, 1, 1, 0, 1, 0, 0]) (recast cl hn kp) (finBy cl hn kp rc rs ri) n ⟨mkS S d, mkH H e⟩ = go (fun x13 y800003 => some (.exit 8, KX d e (x13, y800003))) k d.2.2.1 d.2.2.2.1 e.1 e.2.1 e.2.2.1 n d.2.2.2.2.2.2.1 e.2.2.2.1 :=
  loopIt_eq (D := (Unit × Unit × (List Int) × Int × Unit × Unit × Int × Unit) × ((List Int) × (List Int) × (List Int) × (List Int) × Unit)) (fun p => ⟨mkS S p.1, mkH H p.2⟩) (fun F p => step (fun x13 y800003 => some (.exit 8, KX p.1 p.2 (x13, y800003))) (fun x13 y800003 => F (((), (), p.1.2.2.1, p.1.2.2.2.1, (), (), x13, ()), (p.2.1, p.2.2.1, p.2.2.2.1, y800003, ()))) k p.1.2.2.1 p.1.2.2.2.1 p.2.1 p.2.2.1 p.2.2.2.1 p.1.2.2.2.2.2.2.1 p.2.2.2.2.1) (fun n p => go (fun x13 y800003 => some (.exit 8, KX p.1 p.2 (x13, y800003))) k p.1.2.2.1 p.1.2.2.2.1 p.2.1 p.2.2.1 p.2.2.2.1 n p.1.2.2.2.2.2.2.1 p.2.2.2.2.1) (fun _ => rfl) (fun _ _ => rfl) (fun G p => round k p.1 p.2 G) n (d, e)
theorem ok (k : Nat) : LoopOK Tryd.prog 225 (subC (bodyOf Tryd.f20) [1, 1, 1, 0, 1, 0, 0, 1, 0, 0, 1, 1, 1, 1, 0, 1, 0, 0]) (sum k) :=
  loop_sigX hm (fE k) (loopsOK_of [] (by kernel_rfl) trivial) S cl hn kp H 8 (fun (d : (Unit × Unit × (List Int) × Int × Unit × Unit × Int × Unit)) (e : ((List Int) × (List Int) × (List Int) × (List Int) × Unit)) => f k d.2.2.1 d.2.2.2.1 e.1 e.2.1 e.2.2.1 k d.2.2.2.2.2.2.1 e.2.2.2.1) KX cl hn kp rc rs ri k
    (fun d e => (it k k d e).trans (go_nat (fun v => some (Ex.exit 8, KX d e v)) (fun x13 y800003 => some (x13, y800003)) k d.2.2.1 d.2.2.2.1 e.1 e.2.1 e.2.2.1 k d.2.2.2.2.2.2.1 e.2.2.2.1).symm)
end l8
namespace l10
theorem round (k : Nat) (d : (Unit × Unit × (List Int) × Int × Unit × Int × Unit)) (e : ((List Int) × (List Int) × (List Int) × Unit)) (G : St → Option (Ex × St)) : roundK Tryd.prog (E k) 225 10 (subC (bodyOf Tryd.f20) [1, 1, 1, 0, 1, 0, 0, 1, 0, 0, 1, 1, 1, 1, 1, 1, 0, 0]) (recast cl hn kp) (finBy cl hn kp rc rs ri) G ⟨mkS S d, mkH H e⟩ =
    step (fun x16 y800001 => some (.exit 10, KX d e (x16, y800001))) (fun x16 y800001 => G ⟨mkS S ((), (), d.2.2.1, d.2.2.2.1, (), x16, ()), mkH H (e.1, y800001, e.2.2.1, ())⟩) k d.2.2.1 d.2.2.2.1 e.1 e.2.2.1 d.2.2.2.2.2.1 e.2.1 := by kernel_rfl
theorem it (k n : Nat) (d : (Unit × Unit × (List Int) × Int × Unit × Int × Unit)) (e : ((List Int) × (List Int) × (List Int) × Unit)) : loopIt Tryd.prog (E k) 225 10 (subC (bodyOf Tryd.f20) [1, 1, 1, 0, 1, 0, 0, 1, 0, 0, 1, 1, 1, 1, 1, 1, 0, 0]) (recast cl hn kp) (finBy cl hn kp rc rs ri) n ⟨mkS S d, mkH H e⟩ = go (fun x16 y800001 => some (.exit 10, KX d e (x16, y800001))) k d.2.2.1 d.2.2.2.1 e.1 e.2.2.1 n d.2.2.2.2.2.1 e.2.1 :=
  loopIt_eq (D := (Unit × Unit × (List Int) × Int × Unit × Int × Unit) × ((List Int) × (List Int) × (List Int) × Unit)) (fun p => ⟨mkS S p.1, mkH H p.2⟩) (fun F p => step (fun x16 y800001 => some (.exit 10, KX p.1 p.2 (x16, y800001))) (fun x16 y800001 => F (((), (), p.1.2.2.1, p.1.2.2.2.1, (), x16, ()), (p.2.1, y800001, p.2.2.2.1, ()))) k p.1.2.2.1 p.1.2.2.2.1 p.2.1 p.2.2.2.1 p.1.2.2.2.2.2.1 p.2.2.1) (fun n p => go (fun x16 y800001 => some (.exit 10, KX p.1 p.2 (x16, y800001))) k p.1.2.2.1 p.1.2.2.2.1 p.2.1 p.2.2.2.1 n p.1.2.2.2.2.2.1 p.2.2.1) (fun _ => rfl) (fun _ _ => rfl) (fun G p => round k p.1 p.2 G) n (d, e)
theorem ok (k : Nat) : LoopOK Tryd.prog 225 (subC (bodyOf Tryd.f20) [1, 1, 1, 0, 1, 0, 0, 1, 0, 0, 1, 1, 1, 1, 1, 1, 0, 0]) (sum k) :=
  loop_sigX hm (fE k) (loopsOK_of [] (by kernel_rfl) trivial) S cl hn kp H 10 (fun (d : (Unit × Unit × (List Int) × Int × Unit × Int × Unit)) (e : ((List Int) × (List Int) × (List Int) × Unit)) => f k d.2.2.1 d.2.2.2.1 e.1 e.2.2.1 k d.2.2.2.2.2.1 e.2.1) KX cl hn kp rc rs ri k
    (fun d e => (it k k d e).trans (go_nat (fun v => some (Ex.exit 10, KX d e v)) (fun x16 y800001 => some (x16, y800001)) k d.2.2.1 d.2.2.2.1 e.1 e.2.2.1 k d.2.2.2.2.2.1 e.2.1).symm)
end l10
namespace l0
theorem round (k : Nat) (d : (Unit × Unit × (List Int) × Int × Unit)) (e : ((List Int) × (List Int) × Unit)) (G : St → Option (Ex × St)) : roundK Tryd.prog (E k) 225 0 (subC (bodyOf Tryd.f20) [1, 1, 1, 0, 1, 0, 0]) (recast cl hn kp) (finBy cl hn kp rc rs ri) G ⟨mkS S d, mkH H e⟩ =
    step (fun x5 y800001 => some (.exit 0, KX d e (x5, y800001))) (fun x5 y800001 => G ⟨mkS S ((), (), d.2.2.1, x5, ()), mkH H (e.1, y800001, ())⟩) k d.2.2.1 e.1 d.2.2.2.1 e.2.1 := by kernel_rfl
theorem it (k n : Nat) (d : (Unit × Unit × (List Int) × Int × Unit)) (e : ((List Int) × (List Int) × Unit)) : loopIt Tryd.prog (E k) 225 0 (subC (bodyOf Tryd.f20) [1, 1, 1, 0, 1, 0, 0]) (recast cl hn kp) (finBy cl hn kp rc rs ri) n ⟨mkS S d, mkH H e⟩ = go (fun x5 y800001 => some (.exit 0, KX d e (x5, y800001))) k d.2.2.1 e.1 n d.2.2.2.1 e.2.1 :=
  loopIt_eq (D := (Unit × Unit × (List Int) × Int × Unit) × ((List Int) × (List Int) × Unit)) (fun p => ⟨mkS S p.1, mkH H p.2⟩) (fun F p => step (fun x5 y800001 => some (.exit 0, KX p.1 p.2 (x5, y800001))) (fun x5 y800001 => F (((), (), p.1.2.2.1, x5, ()), (p.2.1, y800001, ()))) k p.1.2.2.1 p.2.1 p.1.2.2.2.1 p.2.2.1) (fun n p => go (fun x5 y800001 => some (.exit 0, KX p.1 p.2 (x5, y800001))) k p.1.2.2.1 p.2.1 n p.1.2.2.2.1 p.2.2.1) (fun _ => rfl) (fun _ _ => rfl) (fun G p => round k p.1 p.2 G) n (d, e)
theorem ok (k : Nat) : LoopOK Tryd.prog 225 (subC (bodyOf Tryd.f20) [1, 1, 1, 0, 1, 0, 0]) (sum k) :=
  loop_sigX hm (fE k) (loopsOK_of [(2, subC (bodyOf Tryd.f20) [1, 1, 1, 0, 1, 0, 0, 1, 0, 0, 1, 0, 1, 0, 0]), (6, subC (bodyOf Tryd.f20) [1, 1, 1, 0, 1, 0, 0, 1, 0, 0, 1, 1, 0, 1, 0, 0]), (8, subC (bodyOf Tryd.f20) [1, 1, 1, 0, 1, 0, 0, 1, 0, 0, 1, 1, 1, 1, 0, 1, 0, 0]), (10, subC (bodyOf Tryd.f20) [1, 1, 1, 0, 1, 0, 0, 1, 0, 0, 1, 1, 1, 1, 1, 1, 0, 0])] (by kernel_rfl) ⟨of_loop (l2.sum k) rfl (l2.ok k), ⟨of_loop (l6.sum k) rfl (l6.ok k), ⟨of_loop (l8.sum k) rfl (l8.ok k), ⟨of_loop (l10.sum k) rfl (l10.ok k), trivial⟩⟩⟩⟩) S cl hn kp H 0 (fun (d : (Unit × Unit × (List Int) × Int × Unit)) (e : ((List Int) × (List Int) × Unit)) => f k d.2.2.1 e.1 k d.2.2.2.1 e.2.1) KX cl hn kp rc rs ri k
    (fun d e => (it k k d e).trans (go_nat (fun v => some (Ex.exit 0, KX d e v)) (fun x5 y800001 => some (x5, y800001)) k d.2.2.1 e.1 k d.2.2.2.1 e.2.1).symm)
end l0
namespace l12
theorem round (k : Nat) (d : (Unit × Unit × Unit × Int × Unit)) (e : ((List Int) × (List Int) × (List Int) × Unit)) (G : St → Option (Ex × St)) : roundK Tryd.prog (E k) 225 12 (subC (bodyOf Tryd.f20) [1, 1, 1, 1, 1, 0, 1, 0, 0]) (recast cl hn kp) (finBy cl hn kp rc rs ri) G ⟨mkS S d, mkH H e⟩ =
    step (fun x18 y800002 => some (.exit 12, KX d e (x18, y800002))) (fun x18 y800002 => G ⟨mkS S ((), (), (), x18, ()), mkH H (e.1, e.2.1, y800002, ())⟩) k e.1 e.2.1 d.2.2.2.1 e.2.2.1 := by kernel_rfl
theorem it (k n : Nat) (d : (Unit × Unit × Unit × Int × Unit)) (e : ((List Int) × (List Int) × (List Int) × Unit)) : loopIt Tryd.prog (E k) 225 12 (subC (bodyOf Tryd.f20) [1, 1, 1, 1, 1, 0, 1, 0, 0]) (recast cl hn kp) (finBy cl hn kp rc rs ri) n ⟨mkS S d, mkH H e⟩ = go (fun x18 y800002 => some (.exit 12, KX d e (x18, y800002))) k e.1 e.2.1 n d.2.2.2.1 e.2.2.1 :=
  loopIt_eq (D := (Unit × Unit × Unit × Int × Unit) × ((List Int) × (List Int) × (List Int) × Unit)) (fun p => ⟨mkS S p.1, mkH H p.2⟩) (fun F p => step (fun x18 y800002 => some (.exit 12, KX p.1 p.2 (x18, y800002))) (fun x18 y800002 => F (((), (), (), x18, ()), (p.2.1, p.2.2.1, y800002, ()))) k p.2.1 p.2.2.1 p.1.2.2.2.1 p.2.2.2.1) (fun n p => go (fun x18 y800002 => some (.exit 12, KX p.1 p.2 (x18, y800002))) k p.2.1 p.2.2.1 n p.1.2.2.2.1 p.2.2.2.1) (fun _ => rfl) (fun _ _ => rfl) (fun G p => round k p.1 p.2 G) n (d, e)
theorem ok (k : Nat) : LoopOK Tryd.prog 225 (subC (bodyOf Tryd.f20) [1, 1, 1, 1, 1, 0, 1, 0, 0]) (sum k) :=
  loop_sigX hm (fE k) (loopsOK_of [] (by kernel_rfl) trivial) S cl hn kp H 12 (fun (d : (Unit × Unit × Unit × Int × Unit)) (e : ((List Int) × (List Int) × (List Int) × Unit)) => f k e.1 e.2.1 k d.2.2.2.1 e.2.2.1) KX cl hn kp rc rs ri k
    (fun d e => (it k k d e).trans (go_nat (fun v => some (Ex.exit 12, KX d e v)) (fun x18 y800002 => some (x18, y800002)) k e.1 e.2.1 k d.2.2.2.1 e.2.2.1).symm)
end l12
theorem run (k : Nat) (d : ((List Int) × Unit)) (e : Unit) : runFn Tryd.prog (E k) 225 (bodyOf Tryd.f20) Tryd.f20.results.toList cl hn hi (mkL ps d) (mkH hs e) =
    tree (fun b0 => leafFn hs fi e val wr b0) k d.1 := by kernel_rfl
theorem run_f (k : Nat) (d : ((List Int) × Unit)) (e : Unit) : runFn Tryd.prog (E k) 225 (bodyOf Tryd.f20) Tryd.f20.results.toList cl hn hi (mkL ps d) (mkH hs e) = (f k d.1).bind (leafFn hs fi e val wr) :=
  (run k d e).trans (tree_nat (leafFn hs fi e val wr) (fun b0 => some b0) k d.1).symm
theorem fnIs : FnIs Tryd.prog 20 Tryd.f20 (bodyOf Tryd.f20) 225 := ⟨by kernel_rfl, by kernel_rfl, by kernel_rfl, by kernel_rfl⟩
theorem ok (k : Nat) : CalleeOK Tryd.prog 20 (callee k) :=
  callee_sig (T := (List Int)) fnIs hm (fE k) (loopsOK_of [(0, subC (bodyOf Tryd.f20) [1, 1, 1, 0, 1, 0, 0]), (12, subC (bodyOf Tryd.f20) [1, 1, 1, 1, 1, 0, 1, 0, 0])] (by kernel_rfl) ⟨of_loop (l0.sum k) rfl (l0.ok k), ⟨of_loop (l12.sum k) rfl (l12.ok k), trivial⟩⟩) ps hs cl hn fi (fun (d : ((List Int) × Unit)) (e : Unit) => f k d.1) val wr rfl (fun _ => rfl) (run_f k)
end trailheadref01_Of
namespace trailheadref01_Double
namespace l0
def step {X : Type} (K : (List Int) → Int → Option X) (G : (List Int) → Int → Option X) (k : Nat) (y800000 : (List Int)) (y800001 : (List Int)) (x4 : (List Int)) (x5 : Int) : Option X :=
  (bif (decide (x5 < (32 : Int))) then (bif (decide (0 ≤ x5)) then (bif (decide (x5 < 32)) then (bif (decide ((Int.toNat x5) < 32)) then (bif (fits ((List.length x4) + (List.length (toStr ([(List.getD y800001 (Int.toNat x5) 0)] : (List Int)))))) then (G (x4 ++ (toStr ([(List.getD y800001 (Int.toNat x5) 0)] : (List Int)))) (addI .i64 x5 1)) else none) else none) else none) else none) else (K x4 x5))
def go {X : Type} (K : (List Int) → Int → Option X) (k : Nat) (y800000 : (List Int)) (y800001 : (List Int)) : Nat → (List Int) → Int → Option X
  | 0, _, _ => none
  | n + 1, x4, x5 => step K (go K k y800000 y800001 n) k y800000 y800001 x4 x5
def f (k : Nat) (y800000 : (List Int)) (y800001 : (List Int)) (n : Nat) (x4 : (List Int)) (x5 : Int) : Option ((List Int) × Int) := go (fun x4 x5 => some (x4, x5)) k y800000 y800001 n x4 x5
theorem step_nat {X Y : Type} (h : X → Option Y) (K : (List Int) → Int → Option X) (G : (List Int) → Int → Option X) (k : Nat) (y800000 : (List Int)) (y800001 : (List Int)) (x4 : (List Int)) (x5 : Int) : Option.bind (step K G k y800000 y800001 x4 x5) h = step (fun x4 x5 => Option.bind (K x4 x5) h) (fun x4 x5 => Option.bind (G x4 x5) h) k y800000 y800001 x4 x5 := by
  simp only [step, bif_bind, sel_bind', Option.bind_assoc, Option.bind_none, Option.bind_some]
theorem go_nat {X Y : Type} (h : X → Option Y) (K : (List Int) → Int → Option X) (k : Nat) (y800000 : (List Int)) (y800001 : (List Int)) (n : Nat) : ∀ (x4 : (List Int)) (x5 : Int), Option.bind (go K k y800000 y800001 n x4 x5) h = go (fun x4 x5 => Option.bind (K x4 x5) h) k y800000 y800001 n x4 x5 := by
  induction n with
  | zero => intros; rfl
  | succ n ih => intro x4 x5; show Option.bind (step K (go K k y800000 y800001 n) k y800000 y800001 x4 x5) h = step (fun x4 x5 => Option.bind (K x4 x5) h) (go (fun x4 x5 => Option.bind (K x4 x5) h) k y800000 y800001 n) k y800000 y800001 x4 x5; rw [step_nat h]; simp only [ih]
abbrev S : List (Nat × Sh) := [(2, .ptr 800000), (3, .ptr 800001), (4, .data .str), (5, .data (.int .i64))]
abbrev H : List (Nat × ESh) := [(800000, .cell (.data (.arr .u8 32))), (800001, .cell (.data (.arr .u8 32)))]
abbrev cl : List (Place × Nat × Hint) := []
abbrev hn : List (Nat × Hint) := [(2, .any), (3, .any), (4, .any), (5, .any)]
abbrev kp : List Nat := []
abbrev rc : List (Place × Nat × Hint) := []
abbrev rs : List (Nat × Hint) := []
abbrev ri : List Nat := []
def KX (d : (Unit × Unit × (List Int) × Int × Unit)) (e : ((List Int) × (List Int) × Unit)) (v : ((List Int) × Int)) : St := ⟨mkS S ((), (), v.1, v.2, ()), mkH H (e.1, e.2.1, ())⟩
def sum (k : Nat) : LoopSum := sigLoopX S cl hn kp H 0 (fun (d : (Unit × Unit × (List Int) × Int × Unit)) (e : ((List Int) × (List Int) × Unit)) => f k e.1 e.2.1 k d.2.2.1 d.2.2.2.1) KX
end l0
def tree {X : Type} (K : (List Int) → Option X) (k : Nat) (a0 : (List Int)) : Option X :=
  (Option.bind (trailheadref01_Of.f k a0) (fun r1 => (Option.bind (trailheadref01_Double.l0.f k ([0, 0, 0, 0, 0, 0, 0, 0, 0, 0, 0, 0, 0, 0, 0, 0, 0, 0, 0, 0, 0, 0, 0, 0, 0, 0, 0, 0, 0, 0, 0, 0] : (List Int)) r1 k ([] : (List Int)) (0 : Int)) (fun r2 => (Option.bind (trailheadref01_Of.f k r2.1) (fun r3 => (K r3)))))))
def f (k : Nat) (a0 : (List Int)) : Option (List Int) := tree (fun b0 => some b0) k a0
theorem tree_nat {X Y : Type} (h : X → Option Y) (K : (List Int) → Option X) (k : Nat) (a0 : (List Int)) : Option.bind (tree K k a0) h = tree (fun b0 => Option.bind (K b0) h) k a0 := by
  simp only [tree, bif_bind, sel_bind', Option.bind_assoc, Option.bind_none, Option.bind_some]
abbrev ps : List Sh := [.data .str]
abbrev hs : List (Nat × ESh) := []
abbrev hi : List Nat := hs.map (·.1)
abbrev fi : List Nat := []
abbrev cl : List (Place × Nat × Hint) := []
abbrev hn : List Hint := [.any]
def val (t : (List Int)) : AV := Sh.mk (.data (.arr .u8 32)) t
def wr (t : (List Int)) : Heap := []
def callee (k : Nat) : Callee := sigCallee ps hs (fun (d : ((List Int) × Unit)) (e : Unit) => f k d.1) val wr
def E (k : Nat) : Env := ⟨fnTab [(20, [trailheadref01_Of.callee k])], loopTab [(0, l0.sum k)], natsTab [], natTab []⟩
theorem fE (k : Nat) : ∀ f, ∀ c ∈ (E k).fn f, CalleeOK Tryd.prog f c := fnTab_ok ⟨⟨trailheadref01_Of.ok k, trivial⟩, trivial⟩
namespace l0
theorem round (k : Nat) (d : (Unit × Unit × (List Int) × Int × Unit)) (e : ((List Int) × (List Int) × Unit)) (G : St → Option (Ex × St)) : roundK Tryd.prog (E k) 21 0 (subC (bodyOf Tryd.f14) [1, 1, 1, 0, 1, 0, 0]) (recast cl hn kp) (finBy cl hn kp rc rs ri) G ⟨mkS S d, mkH H e⟩ =
    step (fun x4 x5 => some (.exit 0, KX d e (x4, x5))) (fun x4 x5 => G ⟨mkS S ((), (), x4, x5, ()), mkH H (e.1, e.2.1, ())⟩) k e.1 e.2.1 d.2.2.1 d.2.2.2.1 := by kernel_rfl
theorem it (k n : Nat) (d : (Unit × Unit × (List Int) × Int × Unit)) (e : ((List Int) × (List Int) × Unit)) : loopIt Tryd.prog (E k) 21 0 (subC (bodyOf Tryd.f14) [1, 1, 1, 0, 1, 0, 0]) (recast cl hn kp) (finBy cl hn kp rc rs ri) n ⟨mkS S d, mkH H e⟩ = go (fun x4 x5 => some (.exit 0, KX d e (x4, x5))) k e.1 e.2.1 n d.2.2.1 d.2.2.2.1 :=
  loopIt_eq (D := (Unit × Unit × (List Int) × Int × Unit) × ((List Int) × (List Int) × Unit)) (fun p => ⟨mkS S p.1, mkH H p.2⟩) (fun F p => step (fun x4 x5 => some (.exit 0, KX p.1 p.2 (x4, x5))) (fun x4 x5 => F (((), (), x4, x5, ()), (p.2.1, p.2.2.1, ()))) k p.2.1 p.2.2.1 p.1.2.2.1 p.1.2.2.2.1) (fun n p => go (fun x4 x5 => some (.exit 0, KX p.1 p.2 (x4, x5))) k p.2.1 p.2.2.1 n p.1.2.2.1 p.1.2.2.2.1) (fun _ => rfl) (fun _ _ => rfl) (fun G p => round k p.1 p.2 G) n (d, e)
theorem ok (k : Nat) : LoopOK Tryd.prog 21 (subC (bodyOf Tryd.f14) [1, 1, 1, 0, 1, 0, 0]) (sum k) :=
  loop_sigX hm (fE k) (loopsOK_of [] (by kernel_rfl) trivial) S cl hn kp H 0 (fun (d : (Unit × Unit × (List Int) × Int × Unit)) (e : ((List Int) × (List Int) × Unit)) => f k e.1 e.2.1 k d.2.2.1 d.2.2.2.1) KX cl hn kp rc rs ri k
    (fun d e => (it k k d e).trans (go_nat (fun v => some (Ex.exit 0, KX d e v)) (fun x4 x5 => some (x4, x5)) k e.1 e.2.1 k d.2.2.1 d.2.2.2.1).symm)
end l0
theorem run (k : Nat) (d : ((List Int) × Unit)) (e : Unit) : runFn Tryd.prog (E k) 21 (bodyOf Tryd.f14) Tryd.f14.results.toList cl hn hi (mkL ps d) (mkH hs e) =
    tree (fun b0 => leafFn hs fi e val wr b0) k d.1 := by kernel_rfl
theorem run_f (k : Nat) (d : ((List Int) × Unit)) (e : Unit) : runFn Tryd.prog (E k) 21 (bodyOf Tryd.f14) Tryd.f14.results.toList cl hn hi (mkL ps d) (mkH hs e) = (f k d.1).bind (leafFn hs fi e val wr) :=
  (run k d e).trans (tree_nat (leafFn hs fi e val wr) (fun b0 => some b0) k d.1).symm
theorem fnIs : FnIs Tryd.prog 14 Tryd.f14 (bodyOf Tryd.f14) 21 := ⟨by kernel_rfl, by kernel_rfl, by kernel_rfl, by kernel_rfl⟩
theorem ok (k : Nat) : CalleeOK Tryd.prog 14 (callee k) :=
  callee_sig (T := (List Int)) fnIs hm (fE k) (loopsOK_of [(0, subC (bodyOf Tryd.f14) [1, 1, 1, 0, 1, 0, 0])] (by kernel_rfl) ⟨of_loop (l0.sum k) rfl (l0.ok k), trivial⟩) ps hs cl hn fi (fun (d : ((List Int) × Unit)) (e : Unit) => f k d.1) val wr rfl (fun _ => rfl) (run_f k)
end trailheadref01_Double
namespace trailheadref18_Bit
def tree {X : Type} (K : Bool → Option X) (k : Nat) (a0 : Int) (a1 : (List Int)) : Option X :=
  (Option.bind (trailheadref05_Number.f k (8 : Int) a0) (fun r1 => (Option.bind (trailheadref05_Name.f k a1) (fun r2 => (bif (fits ((List.length r1) + (List.length r2))) then (Option.bind (trailheadref01_Double.f k (r1 ++ r2)) (fun r3 => (K ((remI (List.getD r3 0 0) 2) == (1 : Int))))) else none)))))
def f (k : Nat) (a0 : Int) (a1 : (List Int)) : Option Bool := tree (fun b0 => some b0) k a0 a1
theorem tree_nat {X Y : Type} (h : X → Option Y) (K : Bool → Option X) (k : Nat) (a0 : Int) (a1 : (List Int)) : Option.bind (tree K k a0 a1) h = tree (fun b0 => Option.bind (K b0) h) k a0 a1 := by
  simp only [tree, bif_bind, sel_bind', Option.bind_assoc, Option.bind_none, Option.bind_some]
abbrev ps : List Sh := [.data (.int .i64), .data (.arr .u8 32)]
abbrev hs : List (Nat × ESh) := []
abbrev hi : List Nat := hs.map (·.1)
abbrev fi : List Nat := []
abbrev cl : List (Place × Nat × Hint) := []
abbrev hn : List Hint := [.any]
def val (t : Bool) : AV := Sh.mk (.data .bool) t
def wr (t : Bool) : Heap := []
def callee (k : Nat) : Callee := sigCallee ps hs (fun (d : (Int × (List Int) × Unit)) (e : Unit) => f k d.1 d.2.1) val wr
def E (k : Nat) : Env := ⟨fnTab [(15, [trailheadref05_Number.callee k]), (16, [trailheadref05_Name.callee k]), (14, [trailheadref01_Double.callee k])], loopTab [], natsTab [], natTab []⟩
theorem fE (k : Nat) : ∀ f, ∀ c ∈ (E k).fn f, CalleeOK Tryd.prog f c := fnTab_ok ⟨⟨trailheadref05_Number.ok k, trivial⟩, ⟨trailheadref05_Name.ok k, trivial⟩, ⟨trailheadref01_Double.ok k, trivial⟩, trivial⟩
theorem run (k : Nat) (d : (Int × (List Int) × Unit)) (e : Unit) : runFn Tryd.prog (E k) 16 (bodyOf Tryd.f7) Tryd.f7.results.toList cl hn hi (mkL ps d) (mkH hs e) =
    tree (fun b0 => leafFn hs fi e val wr b0) k d.1 d.2.1 := by kernel_rfl
theorem run_f (k : Nat) (d : (Int × (List Int) × Unit)) (e : Unit) : runFn Tryd.prog (E k) 16 (bodyOf Tryd.f7) Tryd.f7.results.toList cl hn hi (mkL ps d) (mkH hs e) = (f k d.1 d.2.1).bind (leafFn hs fi e val wr) :=
  (run k d e).trans (tree_nat (leafFn hs fi e val wr) (fun b0 => some b0) k d.1 d.2.1).symm
theorem fnIs : FnIs Tryd.prog 7 Tryd.f7 (bodyOf Tryd.f7) 16 := ⟨by kernel_rfl, by kernel_rfl, by kernel_rfl, by kernel_rfl⟩
theorem ok (k : Nat) : CalleeOK Tryd.prog 7 (callee k) :=
  callee_sig (T := Bool) fnIs hm (fE k) (loopsOK_of [] (by kernel_rfl) trivial) ps hs cl hn fi (fun (d : (Int × (List Int) × Unit)) (e : Unit) => f k d.1 d.2.1) val wr rfl (fun _ => rfl) (run_f k)
end trailheadref18_Bit
namespace pledge_Book_Meet_v1
def tree {X : Type} (K : Bool → Option X) (k : Nat) (a1 : Int) (a2 : (List Int)) (m0_0 : (Int × (Int × Int))) (m0_1 : (Int × Int)) (m1 : (List Int)) (m2 : (List Int)) : Option X :=
  (Option.bind (pledge_Plan_Due.f k m0_0 a1) (fun r1 => (bif (!r1) then (K true) else (bif (decide (m0_1.2 ≥ m0_1.1)) then (K false) else none))))
def f (k : Nat) (a1 : Int) (a2 : (List Int)) (m0_0 : (Int × (Int × Int))) (m0_1 : (Int × Int)) (m1 : (List Int)) (m2 : (List Int)) : Option Bool := tree (fun b0 => some b0) k a1 a2 m0_0 m0_1 m1 m2
theorem tree_nat {X Y : Type} (h : X → Option Y) (K : Bool → Option X) (k : Nat) (a1 : Int) (a2 : (List Int)) (m0_0 : (Int × (Int × Int))) (m0_1 : (Int × Int)) (m1 : (List Int)) (m2 : (List Int)) : Option.bind (tree K k a1 a2 m0_0 m0_1 m1 m2) h = tree (fun b0 => Option.bind (K b0) h) k a1 a2 m0_0 m0_1 m1 m2 := by
  simp only [tree, bif_bind, sel_bind', Option.bind_assoc, Option.bind_none, Option.bind_some]
abbrev ps : List Sh := [.ptr 0, .data (.int .i64), .data (.arr .u8 32)]
abbrev hs : List (Nat × ESh) := [(0, .cell (.pair (.data (.pair (.int .i64) (.pair (.int .i64) (.int .i64)))) (.pair .nils (.data (.pair (.int .i64) (.int .i64)))))), (1, .glob 0 (.arr .u32 8)), (2, .glob 1 (.arr .u32 64))]
abbrev hi : List Nat := hs.map (·.1)
abbrev fi : List Nat := [0, 1, 2]
abbrev cl : List (Place × Nat × Hint) := []
abbrev hn : List Hint := [.any]
def val (t : Bool) : AV := Sh.mk (.data .bool) t
def wr (t : Bool) : Heap := []
def callee (k : Nat) : Callee := sigCallee ps hs (fun (d : (Unit × Int × (List Int) × Unit)) (e : (((Int × (Int × Int)) × (Unit × (Int × Int))) × (List Int) × (List Int) × Unit)) => f k d.2.1 d.2.2.1 e.1.1 e.1.2.2 e.2.1 e.2.2.1) val wr
def E (k : Nat) : Env := ⟨fnTab [(17, [pledge_Plan_Due.callee k])], loopTab [], natsTab [], natTab [(0, 1), (1, 2)]⟩
theorem fE (k : Nat) : ∀ f, ∀ c ∈ (E k).fn f, CalleeOK Tryd.prog f c := fnTab_ok ⟨⟨pledge_Plan_Due.ok k, trivial⟩, trivial⟩
theorem run (k : Nat) (d : (Unit × Int × (List Int) × Unit)) (e : (((Int × (Int × Int)) × (Unit × (Int × Int))) × (List Int) × (List Int) × Unit)) : runFn Tryd.prog (E k) 47 (bodyOf Tryd.f8) Tryd.f8.results.toList cl hn hi (mkL ps d) (mkH hs e) =
    tree (fun b0 => leafFn hs fi e val wr b0) k d.2.1 d.2.2.1 e.1.1 e.1.2.2 e.2.1 e.2.2.1 := by kernel_rfl
theorem run_f (k : Nat) (d : (Unit × Int × (List Int) × Unit)) (e : (((Int × (Int × Int)) × (Unit × (Int × Int))) × (List Int) × (List Int) × Unit)) : runFn Tryd.prog (E k) 47 (bodyOf Tryd.f8) Tryd.f8.results.toList cl hn hi (mkL ps d) (mkH hs e) = (f k d.2.1 d.2.2.1 e.1.1 e.1.2.2 e.2.1 e.2.2.1).bind (leafFn hs fi e val wr) :=
  (run k d e).trans (tree_nat (leafFn hs fi e val wr) (fun b0 => some b0) k d.2.1 d.2.2.1 e.1.1 e.1.2.2 e.2.1 e.2.2.1).symm
theorem fnIs : FnIs Tryd.prog 8 Tryd.f8 (bodyOf Tryd.f8) 47 := ⟨by kernel_rfl, by kernel_rfl, by kernel_rfl, by kernel_rfl⟩
theorem ok (k : Nat) : CalleeOK Tryd.prog 8 (callee k) :=
  callee_sig (T := Bool) fnIs hm (fE k) (loopsOK_of [] (by kernel_rfl) trivial) ps hs cl hn fi (fun (d : (Unit × Int × (List Int) × Unit)) (e : (((Int × (Int × Int)) × (Unit × (Int × Int))) × (List Int) × (List Int) × Unit)) => f k d.2.1 d.2.2.1 e.1.1 e.1.2.2 e.2.1 e.2.2.1) val wr rfl (fun _ => rfl) (run_f k)
end pledge_Book_Meet_v1
namespace pledge_Book_Give_v2
namespace l0
def step {X : Type} (K : Int → Int → (Int × Int) → (List Int) → Option X) (G : Int → Int → (Int × Int) → (List Int) → Option X) (k : Nat) (x1 : Int) (x13 : Int) (y0_0 : (Int × (Int × Int))) (y1 : (List (List Int))) (y2 : (List Int)) (y3 : (List Int)) (x7 : Int) (x14 : Int) (y0_1 : (Int × Int)) (y800004 : (List Int)) : Option X :=
  (bif (decide (x14 < x13)) then (bif (decide (0 ≤ x14)) then (bif (decide (x14 < ((List.length y1) : Int))) then (bif (decide ((Int.toNat x14) < (List.length y1))) then (Option.bind (pledge_Plan_Due.f k y0_0 (addI .i64 x1 x14)) (fun r1 => (bif (!r1) then (G x7 (addI .i64 x14 1) y0_1 y800004) else (bif ((remI y0_1.1 64) == (0 : Int)) then (bif (fits (((List.length y800004) + 1) * 8)) then (Option.bind (pledge_Plan_Bit.f k y0_0 (List.getD y1 (Int.toNat x14) (List.replicate 32 0 : (List Int))) y2 y3) (fun r2 => (bif r2 then (bif (decide (0 ≤ (quoI .i64 y0_1.1 64))) then (bif (decide ((quoI .i64 y0_1.1 64) < ((List.length (y800004 ++ ([0] : (List Int)))) : Int))) then (bif (decide ((Int.toNat (quoI .i64 y0_1.1 64)) < (List.length (y800004 ++ ([0] : (List Int)))))) then (bif (decide ((remI y0_1.1 64) < 0)) then none else (bif (decide (0 ≤ (quoI .i64 y0_1.1 64))) then (bif (decide ((quoI .i64 y0_1.1 64) < ((List.length (y800004 ++ ([0] : (List Int)))) : Int))) then (bif (decide ((Int.toNat (quoI .i64 y0_1.1 64)) < (List.length (y800004 ++ ([0] : (List Int)))))) then (G (addI .i64 x7 1) (addI .i64 x14 1) (((addI .i64 y0_1.1 1), y0_1.2) : (Int × Int)) (List.set (y800004 ++ ([0] : (List Int))) (Int.toNat (quoI .i64 y0_1.1 64)) (orI .u64 (List.getD (y800004 ++ ([0] : (List Int))) (Int.toNat (quoI .i64 y0_1.1 64)) (0 : Int)) (shlI .u64 1 (remI y0_1.1 64))))) else none) else none) else none)) else none) else none) else none) else (G (addI .i64 x7 1) (addI .i64 x14 1) (((addI .i64 y0_1.1 1), y0_1.2) : (Int × Int)) (y800004 ++ ([0] : (List Int))))))) else none) else (Option.bind (pledge_Plan_Bit.f k y0_0 (List.getD y1 (Int.toNat x14) (List.replicate 32 0 : (List Int))) y2 y3) (fun r3 => (bif r3 then (bif (decide (0 ≤ (quoI .i64 y0_1.1 64))) then (bif (decide ((quoI .i64 y0_1.1 64) < ((List.length y800004) : Int))) then (bif (decide ((Int.toNat (quoI .i64 y0_1.1 64)) < (List.length y800004))) then (bif (decide ((remI y0_1.1 64) < 0)) then none else (bif (decide (0 ≤ (quoI .i64 y0_1.1 64))) then (bif (decide ((quoI .i64 y0_1.1 64) < ((List.length y800004) : Int))) then (bif (decide ((Int.toNat (quoI .i64 y0_1.1 64)) < (List.length y800004))) then (G (addI .i64 x7 1) (addI .i64 x14 1) (((addI .i64 y0_1.1 1), y0_1.2) : (Int × Int)) (List.set y800004 (Int.toNat (quoI .i64 y0_1.1 64)) (orI .u64 (List.getD y800004 (Int.toNat (quoI .i64 y0_1.1 64)) (0 : Int)) (shlI .u64 1 (remI y0_1.1 64))))) else none) else none) else none)) else none) else none) else none) else (G (addI .i64 x7 1) (addI .i64 x14 1) (((addI .i64 y0_1.1 1), y0_1.2) : (Int × Int)) y800004)))))))) else none) else none) else none) else (K x7 x14 y0_1 y800004))
def go {X : Type} (K : Int → Int → (Int × Int) → (List Int) → Option X) (k : Nat) (x1 : Int) (x13 : Int) (y0_0 : (Int × (Int × Int))) (y1 : (List (List Int))) (y2 : (List Int)) (y3 : (List Int)) : Nat → Int → Int → (Int × Int) → (List Int) → Option X
  | 0, _, _, _, _ => none
  | n + 1, x7, x14, y0_1, y800004 => step K (go K k x1 x13 y0_0 y1 y2 y3 n) k x1 x13 y0_0 y1 y2 y3 x7 x14 y0_1 y800004
def f (k : Nat) (x1 : Int) (x13 : Int) (y0_0 : (Int × (Int × Int))) (y1 : (List (List Int))) (y2 : (List Int)) (y3 : (List Int)) (n : Nat) (x7 : Int) (x14 : Int) (y0_1 : (Int × Int)) (y800004 : (List Int)) : Option (Int × (Int × ((Int × Int) × (List Int)))) := go (fun x7 x14 y0_1 y800004 => some (x7, x14, y0_1, y800004)) k x1 x13 y0_0 y1 y2 y3 n x7 x14 y0_1 y800004
theorem step_nat {X Y : Type} (h : X → Option Y) (K : Int → Int → (Int × Int) → (List Int) → Option X) (G : Int → Int → (Int × Int) → (List Int) → Option X) (k : Nat) (x1 : Int) (x13 : Int) (y0_0 : (Int × (Int × Int))) (y1 : (List (List Int))) (y2 : (List Int)) (y3 : (List Int)) (x7 : Int) (x14 : Int) (y0_1 : (Int × Int)) (y800004 : (List Int)) : Option.bind (step K G k x1 x13 y0_0 y1 y2 y3 x7 x14 y0_1 y800004) h = step (fun x7 x14 y0_1 y800004 => Option.bind (K x7 x14 y0_1 y800004) h) (fun x7 x14 y0_1 y800004 => Option.bind (G x7 x14 y0_1 y800004) h) k x1 x13 y0_0 y1 y2 y3 x7 x14 y0_1 y800004 := by
  simp only [step, bif_bind, sel_bind', Option.bind_assoc, Option.bind_none, Option.bind_some]
theorem go_nat {X Y : Type} (h : X → Option Y) (K : Int → Int → (Int × Int) → (List Int) → Option X) (k : Nat) (x1 : Int) (x13 : Int) (y0_0 : (Int × (Int × Int))) (y1 : (List (List Int))) (y2 : (List Int)) (y3 : (List Int)) (n : Nat) : ∀ (x7 : Int) (x14 : Int) (y0_1 : (Int × Int)) (y800004 : (List Int)), Option.bind (go K k x1 x13 y0_0 y1 y2 y3 n x7 x14 y0_1 y800004) h = go (fun x7 x14 y0_1 y800004 => Option.bind (K x7 x14 y0_1 y800004) h) k x1 x13 y0_0 y1 y2 y3 n x7 x14 y0_1 y800004 := by
  induction n with
  | zero => intros; rfl
  | succ n ih => intro x7 x14 y0_1 y800004; show Option.bind (step K (go K k x1 x13 y0_0 y1 y2 y3 n) k x1 x13 y0_0 y1 y2 y3 x7 x14 y0_1 y800004) h = step (fun x7 x14 y0_1 y800004 => Option.bind (K x7 x14 y0_1 y800004) h) (go (fun x7 x14 y0_1 y800004 => Option.bind (K x7 x14 y0_1 y800004) h) k x1 x13 y0_0 y1 y2 y3 n) k x1 x13 y0_0 y1 y2 y3 x7 x14 y0_1 y800004; rw [step_nat h]; simp only [ih]
abbrev S : List (Nat × Sh) := [(0, .ptr 0), (1, .data (.int .i64)), (7, .data (.int .i64)), (12, .vec 1), (13, .data (.int .i64)), (14, .data (.int .i64))]
abbrev H : List (Nat × ESh) := [(0, .cell (.pair (.data (.pair (.int .i64) (.pair (.int .i64) (.int .i64)))) (.pair (.vec 800004) (.data (.pair (.int .i64) (.int .i64)))))), (1, .rows 0 35 (.arr .u8 32)), (2, .glob 0 (.arr .u32 8)), (3, .glob 1 (.arr .u32 64)), (800004, .rows 2 51 (.int .u64))]
abbrev cl : List (Place × Nat × Hint) := [(.id 0, 3, (.row 2 51 (.int .u64)))]
abbrev hn : List (Nat × Hint) := [(0, .any), (1, .any), (7, .any), (12, .any), (13, .any), (14, .any)]
abbrev kp : List Nat := [0, 1, 2, 3]
abbrev rc : List (Place × Nat × Hint) := []
abbrev rs : List (Nat × Hint) := []
abbrev ri : List Nat := [0, 1, 2, 3]
def KX (d : (Unit × Int × Int × Unit × Int × Int × Unit)) (e : (((Int × (Int × Int)) × (Unit × (Int × Int))) × (List (List Int)) × (List Int) × (List Int) × (List Int) × Unit)) (v : (Int × (Int × ((Int × Int) × (List Int))))) : St := ⟨mkS S ((), d.2.1, v.1, (), d.2.2.2.2.1, v.2.1, ()), mkH H ((e.1.1, ((), v.2.2.1)), e.2.1, e.2.2.1, e.2.2.2.1, v.2.2.2, ())⟩
def sum (k : Nat) : LoopSum := sigLoopX S cl hn kp H 0 (fun (d : (Unit × Int × Int × Unit × Int × Int × Unit)) (e : (((Int × (Int × Int)) × (Unit × (Int × Int))) × (List (List Int)) × (List Int) × (List Int) × (List Int) × Unit)) => f k d.2.1 d.2.2.2.2.1 e.1.1 e.2.1 e.2.2.1 e.2.2.2.1 k d.2.2.1 d.2.2.2.2.2.1 e.1.2.2 e.2.2.2.2.1) KX
end l0
def tree {X : Type} (K : Int → (Int × (Int × Int)) → (Int × Int) → (List Int) → Option X) (k : Nat) (a1 : Int) (m0_0 : (Int × (Int × Int))) (m0_1 : (Int × Int)) (m1 : (List (List Int))) (m2 : (List Int)) (m3 : (List Int)) : Option X :=
  (Option.bind (pledge_Book_Give_v2.l0.f k a1 ((List.length m1) : Int) m0_0 m1 m2 m3 k (0 : Int) (0 : Int) m0_1 ([] : (List Int))) (fun r4 => (K r4.1 m0_0 r4.2.2.1 r4.2.2.2)))
def f (k : Nat) (a1 : Int) (m0_0 : (Int × (Int × Int))) (m0_1 : (Int × Int)) (m1 : (List (List Int))) (m2 : (List Int)) (m3 : (List Int)) : Option (Int × ((Int × (Int × Int)) × ((Int × Int) × (List Int)))) := tree (fun b0 b1 b2 b3 => some (b0, b1, b2, b3)) k a1 m0_0 m0_1 m1 m2 m3
theorem tree_nat {X Y : Type} (h : X → Option Y) (K : Int → (Int × (Int × Int)) → (Int × Int) → (List Int) → Option X) (k : Nat) (a1 : Int) (m0_0 : (Int × (Int × Int))) (m0_1 : (Int × Int)) (m1 : (List (List Int))) (m2 : (List Int)) (m3 : (List Int)) : Option.bind (tree K k a1 m0_0 m0_1 m1 m2 m3) h = tree (fun b0 b1 b2 b3 => Option.bind (K b0 b1 b2 b3) h) k a1 m0_0 m0_1 m1 m2 m3 := by
  simp only [tree, bif_bind, sel_bind', Option.bind_assoc, Option.bind_none, Option.bind_some]
abbrev ps : List Sh := [.ptr 0, .data (.int .i64), .vec 1]
abbrev hs : List (Nat × ESh) := [(0, .cell (.pair (.data (.pair (.int .i64) (.pair (.int .i64) (.int .i64)))) (.pair .nils (.data (.pair (.int .i64) (.int .i64)))))), (1, .rows 0 35 (.arr .u8 32)), (2, .glob 0 (.arr .u32 8)), (3, .glob 1 (.arr .u32 64))]
abbrev hi : List Nat := hs.map (·.1)
abbrev fi : List Nat := [0, 1, 2, 3, 900004]
abbrev cl : List (Place × Nat × Hint) := []
abbrev hn : List Hint := [.any]
def val (t : (Int × ((Int × (Int × Int)) × ((Int × Int) × (List Int))))) : AV := Sh.mk (.data (.int .i64)) t.1
def wr (t : (Int × ((Int × (Int × Int)) × ((Int × Int) × (List Int))))) : Heap := [(0, ESh.mk (.cell (.pair (.data (.pair (.int .i64) (.pair (.int .i64) (.int .i64)))) (.pair (.vec 900004) (.data (.pair (.int .i64) (.int .i64)))))) (t.2.1, ((), t.2.2.1))), (900004, ESh.mk (.rows 2 51 (.int .u64)) t.2.2.2)]
def callee (k : Nat) : Callee := sigCallee ps hs (fun (d : (Unit × Int × Unit × Unit)) (e : (((Int × (Int × Int)) × (Unit × (Int × Int))) × (List (List Int)) × (List Int) × (List Int) × Unit)) => f k d.2.1 e.1.1 e.1.2.2 e.2.1 e.2.2.1 e.2.2.2.1) val wr
def E (k : Nat) : Env := ⟨fnTab [(17, [pledge_Plan_Due.callee k]), (19, [pledge_Plan_Bit.callee k])], loopTab [(0, l0.sum k)], natsTab [(19, [2, 3])], natTab [(0, 2), (1, 3)]⟩
theorem fE (k : Nat) : ∀ f, ∀ c ∈ (E k).fn f, CalleeOK Tryd.prog f c := fnTab_ok ⟨⟨pledge_Plan_Due.ok k, trivial⟩, ⟨pledge_Plan_Bit.ok k, trivial⟩, trivial⟩
namespace l0
theorem round (k : Nat) (d : (Unit × Int × Int × Unit × Int × Int × Unit)) (e : (((Int × (Int × Int)) × (Unit × (Int × Int))) × (List (List Int)) × (List Int) × (List Int) × (List Int) × Unit)) (G : St → Option (Ex × St)) : roundK Tryd.prog (E k) 79 0 (subC (bodyOf Tryd.f9) [1, 1, 1, 0, 1, 0, 0]) (recast cl hn kp) (finBy cl hn kp rc rs ri) G ⟨mkS S d, mkH H e⟩ =
    step (fun x7 x14 y0_1 y800004 => some (.exit 0, KX d e (x7, x14, y0_1, y800004))) (fun x7 x14 y0_1 y800004 => G ⟨mkS S ((), d.2.1, x7, (), d.2.2.2.2.1, x14, ()), mkH H ((e.1.1, ((), y0_1)), e.2.1, e.2.2.1, e.2.2.2.1, y800004, ())⟩) k d.2.1 d.2.2.2.2.1 e.1.1 e.2.1 e.2.2.1 e.2.2.2.1 d.2.2.1 d.2.2.2.2.2.1 e.1.2.2 e.2.2.2.2.1 := by kernel_rfl
theorem it (k n : Nat) (d : (Unit × Int × Int × Unit × Int × Int × Unit)) (e : (((Int × (Int × Int)) × (Unit × (Int × Int))) × (List (List Int)) × (List Int) × (List Int) × (List Int) × Unit)) : loopIt Tryd.prog (E k) 79 0 (subC (bodyOf Tryd.f9) [1, 1, 1, 0, 1, 0, 0]) (recast cl hn kp) (finBy cl hn kp rc rs ri) n ⟨mkS S d, mkH H e⟩ = go (fun x7 x14 y0_1 y800004 => some (.exit 0, KX d e (x7, x14, y0_1, y800004))) k d.2.1 d.2.2.2.2.1 e.1.1 e.2.1 e.2.2.1 e.2.2.2.1 n d.2.2.1 d.2.2.2.2.2.1 e.1.2.2 e.2.2.2.2.1 :=
  loopIt_eq (D := (Unit × Int × Int × Unit × Int × Int × Unit) × (((Int × (Int × Int)) × (Unit × (Int × Int))) × (List (List Int)) × (List Int) × (List Int) × (List Int) × Unit)) (fun p => ⟨mkS S p.1, mkH H p.2⟩) (fun F p => step (fun x7 x14 y0_1 y800004 => some (.exit 0, KX p.1 p.2 (x7, x14, y0_1, y800004))) (fun x7 x14 y0_1 y800004 => F (((), p.1.2.1, x7, (), p.1.2.2.2.2.1, x14, ()), ((p.2.1.1, ((), y0_1)), p.2.2.1, p.2.2.2.1, p.2.2.2.2.1, y800004, ()))) k p.1.2.1 p.1.2.2.2.2.1 p.2.1.1 p.2.2.1 p.2.2.2.1 p.2.2.2.2.1 p.1.2.2.1 p.1.2.2.2.2.2.1 p.2.1.2.2 p.2.2.2.2.2.1) (fun n p => go (fun x7 x14 y0_1 y800004 => some (.exit 0, KX p.1 p.2 (x7, x14, y0_1, y800004))) k p.1.2.1 p.1.2.2.2.2.1 p.2.1.1 p.2.2.1 p.2.2.2.1 p.2.2.2.2.1 n p.1.2.2.1 p.1.2.2.2.2.2.1 p.2.1.2.2 p.2.2.2.2.2.1) (fun _ => rfl) (fun _ _ => rfl) (fun G p => round k p.1 p.2 G) n (d, e)
theorem ok (k : Nat) : LoopOK Tryd.prog 79 (subC (bodyOf Tryd.f9) [1, 1, 1, 0, 1, 0, 0]) (sum k) :=
  loop_sigX hm (fE k) (loopsOK_of [] (by kernel_rfl) trivial) S cl hn kp H 0 (fun (d : (Unit × Int × Int × Unit × Int × Int × Unit)) (e : (((Int × (Int × Int)) × (Unit × (Int × Int))) × (List (List Int)) × (List Int) × (List Int) × (List Int) × Unit)) => f k d.2.1 d.2.2.2.2.1 e.1.1 e.2.1 e.2.2.1 e.2.2.2.1 k d.2.2.1 d.2.2.2.2.2.1 e.1.2.2 e.2.2.2.2.1) KX cl hn kp rc rs ri k
    (fun d e => (it k k d e).trans (go_nat (fun v => some (Ex.exit 0, KX d e v)) (fun x7 x14 y0_1 y800004 => some (x7, x14, y0_1, y800004)) k d.2.1 d.2.2.2.2.1 e.1.1 e.2.1 e.2.2.1 e.2.2.2.1 k d.2.2.1 d.2.2.2.2.2.1 e.1.2.2 e.2.2.2.2.1).symm)
end l0
theorem run (k : Nat) (d : (Unit × Int × Unit × Unit)) (e : (((Int × (Int × Int)) × (Unit × (Int × Int))) × (List (List Int)) × (List Int) × (List Int) × Unit)) : runFn Tryd.prog (E k) 79 (bodyOf Tryd.f9) Tryd.f9.results.toList cl hn hi (mkL ps d) (mkH hs e) =
    tree (fun b0 b1 b2 b3 => leafFn hs fi e val wr (b0, b1, b2, b3)) k d.2.1 e.1.1 e.1.2.2 e.2.1 e.2.2.1 e.2.2.2.1 := by kernel_rfl
theorem run_f (k : Nat) (d : (Unit × Int × Unit × Unit)) (e : (((Int × (Int × Int)) × (Unit × (Int × Int))) × (List (List Int)) × (List Int) × (List Int) × Unit)) : runFn Tryd.prog (E k) 79 (bodyOf Tryd.f9) Tryd.f9.results.toList cl hn hi (mkL ps d) (mkH hs e) = (f k d.2.1 e.1.1 e.1.2.2 e.2.1 e.2.2.1 e.2.2.2.1).bind (leafFn hs fi e val wr) :=
  (run k d e).trans (tree_nat (leafFn hs fi e val wr) (fun b0 b1 b2 b3 => some (b0, b1, b2, b3)) k d.2.1 e.1.1 e.1.2.2 e.2.1 e.2.2.1 e.2.2.2.1).symm
theorem fnIs : FnIs Tryd.prog 9 Tryd.f9 (bodyOf Tryd.f9) 79 := ⟨by kernel_rfl, by kernel_rfl, by kernel_rfl, by kernel_rfl⟩
theorem ok (k : Nat) : CalleeOK Tryd.prog 9 (callee k) :=
  callee_sig (T := (Int × ((Int × (Int × Int)) × ((Int × Int) × (List Int))))) fnIs hm (fE k) (loopsOK_of [(0, subC (bodyOf Tryd.f9) [1, 1, 1, 0, 1, 0, 0])] (by kernel_rfl) ⟨of_loop (l0.sum k) rfl (l0.ok k), trivial⟩) ps hs cl hn fi (fun (d : (Unit × Int × Unit × Unit)) (e : (((Int × (Int × Int)) × (Unit × (Int × Int))) × (List (List Int)) × (List Int) × (List Int) × Unit)) => f k d.2.1 e.1.1 e.1.2.2 e.2.1 e.2.2.1 e.2.2.2.1) val wr rfl (fun _ => rfl) (run_f k)
end pledge_Book_Give_v2
namespace pledge_Book_at
def tree {X : Type} (K : Bool → Option X) (k : Nat) (a1 : Int) (m0_0 : (Int × (Int × Int))) (m0_1 : (Int × Int)) (m1 : (List Int)) : Option X :=
  (bif (decide (0 ≤ (quoI .i64 a1 64))) then (bif (decide ((quoI .i64 a1 64) < ((List.length m1) : Int))) then (bif (decide ((Int.toNat (quoI .i64 a1 64)) < (List.length m1))) then (bif (decide ((remI a1 64) < 0)) then none else (K ((andI .u64 (shrI .u64 (List.getD m1 (Int.toNat (quoI .i64 a1 64)) (0 : Int)) (remI a1 64)) 1) == (1 : Int)))) else none) else none) else none)
def f (k : Nat) (a1 : Int) (m0_0 : (Int × (Int × Int))) (m0_1 : (Int × Int)) (m1 : (List Int)) : Option Bool := tree (fun b0 => some b0) k a1 m0_0 m0_1 m1
theorem tree_nat {X Y : Type} (h : X → Option Y) (K : Bool → Option X) (k : Nat) (a1 : Int) (m0_0 : (Int × (Int × Int))) (m0_1 : (Int × Int)) (m1 : (List Int)) : Option.bind (tree K k a1 m0_0 m0_1 m1) h = tree (fun b0 => Option.bind (K b0) h) k a1 m0_0 m0_1 m1 := by
  simp only [tree, bif_bind, sel_bind', Option.bind_assoc, Option.bind_none, Option.bind_some]
abbrev ps : List Sh := [.ptr 0, .data (.int .i64)]
abbrev hs : List (Nat × ESh) := [(0, .cell (.pair (.data (.pair (.int .i64) (.pair (.int .i64) (.int .i64)))) (.pair (.vec 1) (.data (.pair (.int .i64) (.int .i64)))))), (1, .rows 2 51 (.int .u64))]
abbrev hi : List Nat := hs.map (·.1)
abbrev fi : List Nat := [0, 1]
abbrev cl : List (Place × Nat × Hint) := []
abbrev hn : List Hint := [.any]
def val (t : Bool) : AV := Sh.mk (.data .bool) t
def wr (t : Bool) : Heap := []
def callee (k : Nat) : Callee := sigCallee ps hs (fun (d : (Unit × Int × Unit)) (e : (((Int × (Int × Int)) × (Unit × (Int × Int))) × (List Int) × Unit)) => f k d.2.1 e.1.1 e.1.2.2 e.2.1) val wr
def E (k : Nat) : Env := ⟨fnTab [], loopTab [], natsTab [], natTab []⟩
theorem fE (k : Nat) : ∀ f, ∀ c ∈ (E k).fn f, CalleeOK Tryd.prog f c := fnTab_ok trivial
theorem run (k : Nat) (d : (Unit × Int × Unit)) (e : (((Int × (Int × Int)) × (Unit × (Int × Int))) × (List Int) × Unit)) : runFn Tryd.prog (E k) 18 (bodyOf Tryd.f18) Tryd.f18.results.toList cl hn hi (mkL ps d) (mkH hs e) =
    tree (fun b0 => leafFn hs fi e val wr b0) k d.2.1 e.1.1 e.1.2.2 e.2.1 := by kernel_rfl
theorem run_f (k : Nat) (d : (Unit × Int × Unit)) (e : (((Int × (Int × Int)) × (Unit × (Int × Int))) × (List Int) × Unit)) : runFn Tryd.prog (E k) 18 (bodyOf Tryd.f18) Tryd.f18.results.toList cl hn hi (mkL ps d) (mkH hs e) = (f k d.2.1 e.1.1 e.1.2.2 e.2.1).bind (leafFn hs fi e val wr) :=
  (run k d e).trans (tree_nat (leafFn hs fi e val wr) (fun b0 => some b0) k d.2.1 e.1.1 e.1.2.2 e.2.1).symm
theorem fnIs : FnIs Tryd.prog 18 Tryd.f18 (bodyOf Tryd.f18) 18 := ⟨by kernel_rfl, by kernel_rfl, by kernel_rfl, by kernel_rfl⟩
theorem ok (k : Nat) : CalleeOK Tryd.prog 18 (callee k) :=
  callee_sig (T := Bool) fnIs hm (fE k) (loopsOK_of [] (by kernel_rfl) trivial) ps hs cl hn fi (fun (d : (Unit × Int × Unit)) (e : (((Int × (Int × Int)) × (Unit × (Int × Int))) × (List Int) × Unit)) => f k d.2.1 e.1.1 e.1.2.2 e.2.1) val wr rfl (fun _ => rfl) (run_f k)
end pledge_Book_at
namespace pledge_Book_Meet
def tree {X : Type} (K : Bool → (Int × (Int × Int)) → (Int × Int) → Option X) (k : Nat) (a1 : Int) (a2 : (List Int)) (m0_0 : (Int × (Int × Int))) (m0_1 : (Int × Int)) (m1 : (List Int)) (m2 : (List Int)) (m3 : (List Int)) : Option X :=
  (Option.bind (pledge_Plan_Due.f k m0_0 a1) (fun r1 => (bif (!r1) then (K true m0_0 m0_1) else (bif (decide (m0_1.2 ≥ m0_1.1)) then (K false m0_0 m0_1) else (Option.bind (pledge_Book_at.f k m0_1.2 m0_0 m0_1 m3) (fun r2 => (Option.bind (pledge_Plan_Bit.f k m0_0 a2 m1 m2) (fun r3 => (bif (!(r2 == r3)) then (K false m0_0 m0_1) else (K true m0_0 ((m0_1.1, (addI .i64 m0_1.2 1)) : (Int × Int))))))))))))
def f (k : Nat) (a1 : Int) (a2 : (List Int)) (m0_0 : (Int × (Int × Int))) (m0_1 : (Int × Int)) (m1 : (List Int)) (m2 : (List Int)) (m3 : (List Int)) : Option (Bool × ((Int × (Int × Int)) × (Int × Int))) := tree (fun b0 b1 b2 => some (b0, b1, b2)) k a1 a2 m0_0 m0_1 m1 m2 m3
theorem tree_nat {X Y : Type} (h : X → Option Y) (K : Bool → (Int × (Int × Int)) → (Int × Int) → Option X) (k : Nat) (a1 : Int) (a2 : (List Int)) (m0_0 : (Int × (Int × Int))) (m0_1 : (Int × Int)) (m1 : (List Int)) (m2 : (List Int)) (m3 : (List Int)) : Option.bind (tree K k a1 a2 m0_0 m0_1 m1 m2 m3) h = tree (fun b0 b1 b2 => Option.bind (K b0 b1 b2) h) k a1 a2 m0_0 m0_1 m1 m2 m3 := by
  simp only [tree, bif_bind, sel_bind', Option.bind_assoc, Option.bind_none, Option.bind_some]
abbrev ps : List Sh := [.ptr 0, .data (.int .i64), .data (.arr .u8 32)]
abbrev hs : List (Nat × ESh) := [(0, .cell (.pair (.data (.pair (.int .i64) (.pair (.int .i64) (.int .i64)))) (.pair (.vec 3) (.data (.pair (.int .i64) (.int .i64)))))), (1, .glob 0 (.arr .u32 8)), (2, .glob 1 (.arr .u32 64)), (3, .rows 2 51 (.int .u64))]
abbrev hi : List Nat := hs.map (·.1)
abbrev fi : List Nat := [0, 1, 2, 3]
abbrev cl : List (Place × Nat × Hint) := []
abbrev hn : List Hint := [.any]
def val (t : (Bool × ((Int × (Int × Int)) × (Int × Int)))) : AV := Sh.mk (.data .bool) t.1
def wr (t : (Bool × ((Int × (Int × Int)) × (Int × Int)))) : Heap := [(0, ESh.mk (.cell (.pair (.data (.pair (.int .i64) (.pair (.int .i64) (.int .i64)))) (.pair (.vec 3) (.data (.pair (.int .i64) (.int .i64)))))) (t.2.1, ((), t.2.2)))]
def callee (k : Nat) : Callee := sigCallee ps hs (fun (d : (Unit × Int × (List Int) × Unit)) (e : (((Int × (Int × Int)) × (Unit × (Int × Int))) × (List Int) × (List Int) × (List Int) × Unit)) => f k d.2.1 d.2.2.1 e.1.1 e.1.2.2 e.2.1 e.2.2.1 e.2.2.2.1) val wr
def E (k : Nat) : Env := ⟨fnTab [(17, [pledge_Plan_Due.callee k]), (18, [pledge_Book_at.callee k]), (19, [pledge_Plan_Bit.callee k])], loopTab [], natsTab [(19, [1, 2])], natTab [(0, 1), (1, 2)]⟩
theorem fE (k : Nat) : ∀ f, ∀ c ∈ (E k).fn f, CalleeOK Tryd.prog f c := fnTab_ok ⟨⟨pledge_Plan_Due.ok k, trivial⟩, ⟨pledge_Book_at.ok k, trivial⟩, ⟨pledge_Plan_Bit.ok k, trivial⟩, trivial⟩
theorem run (k : Nat) (d : (Unit × Int × (List Int) × Unit)) (e : (((Int × (Int × Int)) × (Unit × (Int × Int))) × (List Int) × (List Int) × (List Int) × Unit)) : runFn Tryd.prog (E k) 47 (bodyOf Tryd.f8) Tryd.f8.results.toList cl hn hi (mkL ps d) (mkH hs e) =
    tree (fun b0 b1 b2 => leafFn hs fi e val wr (b0, b1, b2)) k d.2.1 d.2.2.1 e.1.1 e.1.2.2 e.2.1 e.2.2.1 e.2.2.2.1 := by kernel_rfl
theorem run_f (k : Nat) (d : (Unit × Int × (List Int) × Unit)) (e : (((Int × (Int × Int)) × (Unit × (Int × Int))) × (List Int) × (List Int) × (List Int) × Unit)) : runFn Tryd.prog (E k) 47 (bodyOf Tryd.f8) Tryd.f8.results.toList cl hn hi (mkL ps d) (mkH hs e) = (f k d.2.1 d.2.2.1 e.1.1 e.1.2.2 e.2.1 e.2.2.1 e.2.2.2.1).bind (leafFn hs fi e val wr) :=
  (run k d e).trans (tree_nat (leafFn hs fi e val wr) (fun b0 b1 b2 => some (b0, b1, b2)) k d.2.1 d.2.2.1 e.1.1 e.1.2.2 e.2.1 e.2.2.1 e.2.2.2.1).symm
theorem fnIs : FnIs Tryd.prog 8 Tryd.f8 (bodyOf Tryd.f8) 47 := ⟨by kernel_rfl, by kernel_rfl, by kernel_rfl, by kernel_rfl⟩
theorem ok (k : Nat) : CalleeOK Tryd.prog 8 (callee k) :=
  callee_sig (T := (Bool × ((Int × (Int × Int)) × (Int × Int)))) fnIs hm (fE k) (loopsOK_of [] (by kernel_rfl) trivial) ps hs cl hn fi (fun (d : (Unit × Int × (List Int) × Unit)) (e : (((Int × (Int × Int)) × (Unit × (Int × Int))) × (List Int) × (List Int) × (List Int) × Unit)) => f k d.2.1 d.2.2.1 e.1.1 e.1.2.2 e.2.1 e.2.2.1 e.2.2.2.1) val wr rfl (fun _ => rfl) (run_f k)
end pledge_Book_Meet
namespace pledge_Book_Give_v3
namespace l0
def step {X : Type} (K : Int → Int → (Int × Int) → (List Int) → Option X) (G : Int → Int → (Int × Int) → (List Int) → Option X) (k : Nat) (x1 : Int) (x13 : Int) (y0_0 : (Int × (Int × Int))) (y1 : (List (List Int))) (y2 : (List Int)) (y3 : (List Int)) (x7 : Int) (x14 : Int) (y0_1 : (Int × Int)) (y800005 : (List Int)) : Option X :=
  (bif (decide (x14 < x13)) then (bif (decide (0 ≤ x14)) then (bif (decide (x14 < ((List.length y1) : Int))) then (bif (decide ((Int.toNat x14) < (List.length y1))) then (Option.bind (pledge_Plan_Due.f k y0_0 (addI .i64 x1 x14)) (fun r1 => (bif (!r1) then (G x7 (addI .i64 x14 1) y0_1 y800005) else (bif ((remI y0_1.1 64) == (0 : Int)) then (bif (fits (((List.length y800005) + 1) * 8)) then (Option.bind (pledge_Plan_Bit.f k y0_0 (List.getD y1 (Int.toNat x14) (List.replicate 32 0 : (List Int))) y2 y3) (fun r2 => (bif r2 then (bif (decide (0 ≤ (quoI .i64 y0_1.1 64))) then (bif (decide ((quoI .i64 y0_1.1 64) < ((List.length (y800005 ++ ([0] : (List Int)))) : Int))) then (bif (decide ((Int.toNat (quoI .i64 y0_1.1 64)) < (List.length (y800005 ++ ([0] : (List Int)))))) then (bif (decide ((remI y0_1.1 64) < 0)) then none else (bif (decide (0 ≤ (quoI .i64 y0_1.1 64))) then (bif (decide ((quoI .i64 y0_1.1 64) < ((List.length (y800005 ++ ([0] : (List Int)))) : Int))) then (bif (decide ((Int.toNat (quoI .i64 y0_1.1 64)) < (List.length (y800005 ++ ([0] : (List Int)))))) then (G (addI .i64 x7 1) (addI .i64 x14 1) (((addI .i64 y0_1.1 1), y0_1.2) : (Int × Int)) (List.set (y800005 ++ ([0] : (List Int))) (Int.toNat (quoI .i64 y0_1.1 64)) (orI .u64 (List.getD (y800005 ++ ([0] : (List Int))) (Int.toNat (quoI .i64 y0_1.1 64)) (0 : Int)) (shlI .u64 1 (remI y0_1.1 64))))) else none) else none) else none)) else none) else none) else none) else (G (addI .i64 x7 1) (addI .i64 x14 1) (((addI .i64 y0_1.1 1), y0_1.2) : (Int × Int)) (y800005 ++ ([0] : (List Int))))))) else none) else (Option.bind (pledge_Plan_Bit.f k y0_0 (List.getD y1 (Int.toNat x14) (List.replicate 32 0 : (List Int))) y2 y3) (fun r3 => (bif r3 then (bif (decide (0 ≤ (quoI .i64 y0_1.1 64))) then (bif (decide ((quoI .i64 y0_1.1 64) < ((List.length y800005) : Int))) then (bif (decide ((Int.toNat (quoI .i64 y0_1.1 64)) < (List.length y800005))) then (bif (decide ((remI y0_1.1 64) < 0)) then none else (bif (decide (0 ≤ (quoI .i64 y0_1.1 64))) then (bif (decide ((quoI .i64 y0_1.1 64) < ((List.length y800005) : Int))) then (bif (decide ((Int.toNat (quoI .i64 y0_1.1 64)) < (List.length y800005))) then (G (addI .i64 x7 1) (addI .i64 x14 1) (((addI .i64 y0_1.1 1), y0_1.2) : (Int × Int)) (List.set y800005 (Int.toNat (quoI .i64 y0_1.1 64)) (orI .u64 (List.getD y800005 (Int.toNat (quoI .i64 y0_1.1 64)) (0 : Int)) (shlI .u64 1 (remI y0_1.1 64))))) else none) else none) else none)) else none) else none) else none) else (G (addI .i64 x7 1) (addI .i64 x14 1) (((addI .i64 y0_1.1 1), y0_1.2) : (Int × Int)) y800005)))))))) else none) else none) else none) else (K x7 x14 y0_1 y800005))
def go {X : Type} (K : Int → Int → (Int × Int) → (List Int) → Option X) (k : Nat) (x1 : Int) (x13 : Int) (y0_0 : (Int × (Int × Int))) (y1 : (List (List Int))) (y2 : (List Int)) (y3 : (List Int)) : Nat → Int → Int → (Int × Int) → (List Int) → Option X
  | 0, _, _, _, _ => none
  | n + 1, x7, x14, y0_1, y800005 => step K (go K k x1 x13 y0_0 y1 y2 y3 n) k x1 x13 y0_0 y1 y2 y3 x7 x14 y0_1 y800005
def f (k : Nat) (x1 : Int) (x13 : Int) (y0_0 : (Int × (Int × Int))) (y1 : (List (List Int))) (y2 : (List Int)) (y3 : (List Int)) (n : Nat) (x7 : Int) (x14 : Int) (y0_1 : (Int × Int)) (y800005 : (List Int)) : Option (Int × (Int × ((Int × Int) × (List Int)))) := go (fun x7 x14 y0_1 y800005 => some (x7, x14, y0_1, y800005)) k x1 x13 y0_0 y1 y2 y3 n x7 x14 y0_1 y800005
theorem step_nat {X Y : Type} (h : X → Option Y) (K : Int → Int → (Int × Int) → (List Int) → Option X) (G : Int → Int → (Int × Int) → (List Int) → Option X) (k : Nat) (x1 : Int) (x13 : Int) (y0_0 : (Int × (Int × Int))) (y1 : (List (List Int))) (y2 : (List Int)) (y3 : (List Int)) (x7 : Int) (x14 : Int) (y0_1 : (Int × Int)) (y800005 : (List Int)) : Option.bind (step K G k x1 x13 y0_0 y1 y2 y3 x7 x14 y0_1 y800005) h = step (fun x7 x14 y0_1 y800005 => Option.bind (K x7 x14 y0_1 y800005) h) (fun x7 x14 y0_1 y800005 => Option.bind (G x7 x14 y0_1 y800005) h) k x1 x13 y0_0 y1 y2 y3 x7 x14 y0_1 y800005 := by
  simp only [step, bif_bind, sel_bind', Option.bind_assoc, Option.bind_none, Option.bind_some]
theorem go_nat {X Y : Type} (h : X → Option Y) (K : Int → Int → (Int × Int) → (List Int) → Option X) (k : Nat) (x1 : Int) (x13 : Int) (y0_0 : (Int × (Int × Int))) (y1 : (List (List Int))) (y2 : (List Int)) (y3 : (List Int)) (n : Nat) : ∀ (x7 : Int) (x14 : Int) (y0_1 : (Int × Int)) (y800005 : (List Int)), Option.bind (go K k x1 x13 y0_0 y1 y2 y3 n x7 x14 y0_1 y800005) h = go (fun x7 x14 y0_1 y800005 => Option.bind (K x7 x14 y0_1 y800005) h) k x1 x13 y0_0 y1 y2 y3 n x7 x14 y0_1 y800005 := by
  induction n with
  | zero => intros; rfl
  | succ n ih => intro x7 x14 y0_1 y800005; show Option.bind (step K (go K k x1 x13 y0_0 y1 y2 y3 n) k x1 x13 y0_0 y1 y2 y3 x7 x14 y0_1 y800005) h = step (fun x7 x14 y0_1 y800005 => Option.bind (K x7 x14 y0_1 y800005) h) (go (fun x7 x14 y0_1 y800005 => Option.bind (K x7 x14 y0_1 y800005) h) k x1 x13 y0_0 y1 y2 y3 n) k x1 x13 y0_0 y1 y2 y3 x7 x14 y0_1 y800005; rw [step_nat h]; simp only [ih]
abbrev S : List (Nat × Sh) := [(0, .ptr 0), (1, .data (.int .i64)), (7, .data (.int .i64)), (12, .vec 1), (13, .data (.int .i64)), (14, .data (.int .i64))]
abbrev H : List (Nat × ESh) := [(0, .cell (.pair (.data (.pair (.int .i64) (.pair (.int .i64) (.int .i64)))) (.pair (.vec 800005) (.data (.pair (.int .i64) (.int .i64)))))), (1, .rows 0 35 (.arr .u8 32)), (2, .glob 0 (.arr .u32 8)), (3, .glob 1 (.arr .u32 64)), (4, .dead), (800005, .rows 2 51 (.int .u64))]
abbrev cl : List (Place × Nat × Hint) := [(.id 0, 3, .move)]
abbrev hn : List (Nat × Hint) := [(0, .any), (1, .any), (7, .any), (12, .any), (13, .any), (14, .any)]
abbrev kp : List Nat := [0, 1, 2, 3, 4]
abbrev rc : List (Place × Nat × Hint) := []
abbrev rs : List (Nat × Hint) := []
abbrev ri : List Nat := [0, 1, 2, 3, 4]
def KX (d : (Unit × Int × Int × Unit × Int × Int × Unit)) (e : (((Int × (Int × Int)) × (Unit × (Int × Int))) × (List (List Int)) × (List Int) × (List Int) × Unit × (List Int) × Unit)) (v : (Int × (Int × ((Int × Int) × (List Int))))) : St := ⟨mkS S ((), d.2.1, v.1, (), d.2.2.2.2.1, v.2.1, ()), mkH H ((e.1.1, ((), v.2.2.1)), e.2.1, e.2.2.1, e.2.2.2.1, (), v.2.2.2, ())⟩
def sum (k : Nat) : LoopSum := sigLoopX S cl hn kp H 0 (fun (d : (Unit × Int × Int × Unit × Int × Int × Unit)) (e : (((Int × (Int × Int)) × (Unit × (Int × Int))) × (List (List Int)) × (List Int) × (List Int) × Unit × (List Int) × Unit)) => f k d.2.1 d.2.2.2.2.1 e.1.1 e.2.1 e.2.2.1 e.2.2.2.1 k d.2.2.1 d.2.2.2.2.2.1 e.1.2.2 e.2.2.2.2.2.1) KX
end l0
def tree {X : Type} (K : Int → (Int × (Int × Int)) → (Int × Int) → (List Int) → Option X) (k : Nat) (a1 : Int) (m0_0 : (Int × (Int × Int))) (m0_1 : (Int × Int)) (m1 : (List (List Int))) (m2 : (List Int)) (m3 : (List Int)) (m4 : (List Int)) : Option X :=
  (Option.bind (pledge_Book_Give_v3.l0.f k a1 ((List.length m1) : Int) m0_0 m1 m2 m3 k (0 : Int) (0 : Int) m0_1 m4) (fun r4 => (K r4.1 m0_0 r4.2.2.1 r4.2.2.2)))
def f (k : Nat) (a1 : Int) (m0_0 : (Int × (Int × Int))) (m0_1 : (Int × Int)) (m1 : (List (List Int))) (m2 : (List Int)) (m3 : (List Int)) (m4 : (List Int)) : Option (Int × ((Int × (Int × Int)) × ((Int × Int) × (List Int)))) := tree (fun b0 b1 b2 b3 => some (b0, b1, b2, b3)) k a1 m0_0 m0_1 m1 m2 m3 m4
theorem tree_nat {X Y : Type} (h : X → Option Y) (K : Int → (Int × (Int × Int)) → (Int × Int) → (List Int) → Option X) (k : Nat) (a1 : Int) (m0_0 : (Int × (Int × Int))) (m0_1 : (Int × Int)) (m1 : (List (List Int))) (m2 : (List Int)) (m3 : (List Int)) (m4 : (List Int)) : Option.bind (tree K k a1 m0_0 m0_1 m1 m2 m3 m4) h = tree (fun b0 b1 b2 b3 => Option.bind (K b0 b1 b2 b3) h) k a1 m0_0 m0_1 m1 m2 m3 m4 := by
  simp only [tree, bif_bind, sel_bind', Option.bind_assoc, Option.bind_none, Option.bind_some]
abbrev ps : List Sh := [.ptr 0, .data (.int .i64), .vec 1]
abbrev hs : List (Nat × ESh) := [(0, .cell (.pair (.data (.pair (.int .i64) (.pair (.int .i64) (.int .i64)))) (.pair (.vec 4) (.data (.pair (.int .i64) (.int .i64)))))), (1, .rows 0 35 (.arr .u8 32)), (2, .glob 0 (.arr .u32 8)), (3, .glob 1 (.arr .u32 64)), (4, .rows 2 51 (.int .u64))]
abbrev hi : List Nat := hs.map (·.1)
abbrev fi : List Nat := [0, 1, 2, 3, 4, 900005]
abbrev cl : List (Place × Nat × Hint) := []
abbrev hn : List Hint := [.any]
def val (t : (Int × ((Int × (Int × Int)) × ((Int × Int) × (List Int))))) : AV := Sh.mk (.data (.int .i64)) t.1
def wr (t : (Int × ((Int × (Int × Int)) × ((Int × Int) × (List Int))))) : Heap := [(0, ESh.mk (.cell (.pair (.data (.pair (.int .i64) (.pair (.int .i64) (.int .i64)))) (.pair (.vec 900005) (.data (.pair (.int .i64) (.int .i64)))))) (t.2.1, ((), t.2.2.1))), (4, ESh.mk (.dead) ()), (900005, ESh.mk (.rows 2 51 (.int .u64)) t.2.2.2)]
def callee (k : Nat) : Callee := sigCallee ps hs (fun (d : (Unit × Int × Unit × Unit)) (e : (((Int × (Int × Int)) × (Unit × (Int × Int))) × (List (List Int)) × (List Int) × (List Int) × (List Int) × Unit)) => f k d.2.1 e.1.1 e.1.2.2 e.2.1 e.2.2.1 e.2.2.2.1 e.2.2.2.2.1) val wr
def E (k : Nat) : Env := ⟨fnTab [(17, [pledge_Plan_Due.callee k]), (19, [pledge_Plan_Bit.callee k])], loopTab [(0, l0.sum k)], natsTab [(19, [2, 3])], natTab [(0, 2), (1, 3)]⟩
theorem fE (k : Nat) : ∀ f, ∀ c ∈ (E k).fn f, CalleeOK Tryd.prog f c := fnTab_ok ⟨⟨pledge_Plan_Due.ok k, trivial⟩, ⟨pledge_Plan_Bit.ok k, trivial⟩, trivial⟩
namespace l0
theorem round (k : Nat) (d : (Unit × Int × Int × Unit × Int × Int × Unit)) (e : (((Int × (Int × Int)) × (Unit × (Int × Int))) × (List (List Int)) × (List Int) × (List Int) × Unit × (List Int) × Unit)) (G : St → Option (Ex × St)) : roundK Tryd.prog (E k) 79 0 (subC (bodyOf Tryd.f9) [1, 1, 1, 0, 1, 0, 0]) (recast cl hn kp) (finBy cl hn kp rc rs ri) G ⟨mkS S d, mkH H e⟩ =
    step (fun x7 x14 y0_1 y800005 => some (.exit 0, KX d e (x7, x14, y0_1, y800005))) (fun x7 x14 y0_1 y800005 => G ⟨mkS S ((), d.2.1, x7, (), d.2.2.2.2.1, x14, ()), mkH H ((e.1.1, ((), y0_1)), e.2.1, e.2.2.1, e.2.2.2.1, (), y800005, ())⟩) k d.2.1 d.2.2.2.2.1 e.1.1 e.2.1 e.2.2.1 e.2.2.2.1 d.2.2.1 d.2.2.2.2.2.1 e.1.2.2 e.2.2.2.2.2.1 := by kernel_rfl
theorem it (k n : Nat) (d : (Unit × Int × Int × Unit × Int × Int × Unit)) (e : (((Int × (Int × Int)) × (Unit × (Int × Int))) × (List (List Int)) × (List Int) × (List Int) × Unit × (List Int) × Unit)) : loopIt Tryd.prog (E k) 79 0 (subC (bodyOf Tryd.f9) [1, 1, 1, 0, 1, 0, 0]) (recast cl hn kp) (finBy cl hn kp rc rs ri) n ⟨mkS S d, mkH H e⟩ = go (fun x7 x14 y0_1 y800005 => some (.exit 0, KX d e (x7, x14, y0_1, y800005))) k d.2.1 d.2.2.2.2.1 e.1.1 e.2.1 e.2.2.1 e.2.2.2.1 n d.2.2.1 d.2.2.2.2.2.1 e.1.2.2 e.2.2.2.2.2.1 :=
  loopIt_eq (D := (Unit × Int × Int × Unit × Int × Int × Unit) × (((Int × (Int × Int)) × (Unit × (Int × Int))) × (List (List Int)) × (List Int) × (List Int) × Unit × (List Int) × Unit)) (fun p => ⟨mkS S p.1, mkH H p.2⟩) (fun F p => step (fun x7 x14 y0_1 y800005 => some (.exit 0, KX p.1 p.2 (x7, x14, y0_1, y800005))) (fun x7 x14 y0_1 y800005 => F (((), p.1.2.1, x7, (), p.1.2.2.2.2.1, x14, ()), ((p.2.1.1, ((), y0_1)), p.2.2.1, p.2.2.2.1, p.2.2.2.2.1, (), y800005, ()))) k p.1.2.1 p.1.2.2.2.2.1 p.2.1.1 p.2.2.1 p.2.2.2.1 p.2.2.2.2.1 p.1.2.2.1 p.1.2.2.2.2.2.1 p.2.1.2.2 p.2.2.2.2.2.2.1) (fun n p => go (fun x7 x14 y0_1 y800005 => some (.exit 0, KX p.1 p.2 (x7, x14, y0_1, y800005))) k p.1.2.1 p.1.2.2.2.2.1 p.2.1.1 p.2.2.1 p.2.2.2.1 p.2.2.2.2.1 n p.1.2.2.1 p.1.2.2.2.2.2.1 p.2.1.2.2 p.2.2.2.2.2.2.1) (fun _ => rfl) (fun _ _ => rfl) (fun G p => round k p.1 p.2 G) n (d, e)
theorem ok (k : Nat) : LoopOK Tryd.prog 79 (subC (bodyOf Tryd.f9) [1, 1, 1, 0, 1, 0, 0]) (sum k) :=
  loop_sigX hm (fE k) (loopsOK_of [] (by kernel_rfl) trivial) S cl hn kp H 0 (fun (d : (Unit × Int × Int × Unit × Int × Int × Unit)) (e : (((Int × (Int × Int)) × (Unit × (Int × Int))) × (List (List Int)) × (List Int) × (List Int) × Unit × (List Int) × Unit)) => f k d.2.1 d.2.2.2.2.1 e.1.1 e.2.1 e.2.2.1 e.2.2.2.1 k d.2.2.1 d.2.2.2.2.2.1 e.1.2.2 e.2.2.2.2.2.1) KX cl hn kp rc rs ri k
    (fun d e => (it k k d e).trans (go_nat (fun v => some (Ex.exit 0, KX d e v)) (fun x7 x14 y0_1 y800005 => some (x7, x14, y0_1, y800005)) k d.2.1 d.2.2.2.2.1 e.1.1 e.2.1 e.2.2.1 e.2.2.2.1 k d.2.2.1 d.2.2.2.2.2.1 e.1.2.2 e.2.2.2.2.2.1).symm)
end l0
theorem run (k : Nat) (d : (Unit × Int × Unit × Unit)) (e : (((Int × (Int × Int)) × (Unit × (Int × Int))) × (List (List Int)) × (List Int) × (List Int) × (List Int) × Unit)) : runFn Tryd.prog (E k) 79 (bodyOf Tryd.f9) Tryd.f9.results.toList cl hn hi (mkL ps d) (mkH hs e) =
    tree (fun b0 b1 b2 b3 => leafFn hs fi e val wr (b0, b1, b2, b3)) k d.2.1 e.1.1 e.1.2.2 e.2.1 e.2.2.1 e.2.2.2.1 e.2.2.2.2.1 := by kernel_rfl
theorem run_f (k : Nat) (d : (Unit × Int × Unit × Unit)) (e : (((Int × (Int × Int)) × (Unit × (Int × Int))) × (List (List Int)) × (List Int) × (List Int) × (List Int) × Unit)) : runFn Tryd.prog (E k) 79 (bodyOf Tryd.f9) Tryd.f9.results.toList cl hn hi (mkL ps d) (mkH hs e) = (f k d.2.1 e.1.1 e.1.2.2 e.2.1 e.2.2.1 e.2.2.2.1 e.2.2.2.2.1).bind (leafFn hs fi e val wr) :=
  (run k d e).trans (tree_nat (leafFn hs fi e val wr) (fun b0 b1 b2 b3 => some (b0, b1, b2, b3)) k d.2.1 e.1.1 e.1.2.2 e.2.1 e.2.2.1 e.2.2.2.1 e.2.2.2.2.1).symm
theorem fnIs : FnIs Tryd.prog 9 Tryd.f9 (bodyOf Tryd.f9) 79 := ⟨by kernel_rfl, by kernel_rfl, by kernel_rfl, by kernel_rfl⟩
theorem ok (k : Nat) : CalleeOK Tryd.prog 9 (callee k) :=
  callee_sig (T := (Int × ((Int × (Int × Int)) × ((Int × Int) × (List Int))))) fnIs hm (fE k) (loopsOK_of [(0, subC (bodyOf Tryd.f9) [1, 1, 1, 0, 1, 0, 0])] (by kernel_rfl) ⟨of_loop (l0.sum k) rfl (l0.ok k), trivial⟩) ps hs cl hn fi (fun (d : (Unit × Int × Unit × Unit)) (e : (((Int × (Int × Int)) × (Unit × (Int × Int))) × (List (List Int)) × (List Int) × (List Int) × (List Int) × Unit)) => f k d.2.1 e.1.1 e.1.2.2 e.2.1 e.2.2.1 e.2.2.2.1 e.2.2.2.2.1) val wr rfl (fun _ => rfl) (run_f k)
end pledge_Book_Give_v3
namespace pledge_Book_Bits_v1
namespace l0
def step {X : Type} (K : Int → (List Bool) → Option X) (G : Int → (List Bool) → Option X) (k : Nat) (x10 : Int) (y0_0 : (Int × (Int × Int))) (y0_1 : (Int × Int)) (y1 : (List Int)) (x11 : Int) (y800002 : (List Bool)) : Option X :=
  (bif (decide (x11 < x10)) then (Option.bind (pledge_Book_at.f k x11 y0_0 y0_1 y1) (fun r1 => (bif (fits (((List.length y800002) + 1) * 1)) then (G (addI .i64 x11 1) (y800002 ++ ([r1] : (List Bool)))) else none))) else (K x11 y800002))
def go {X : Type} (K : Int → (List Bool) → Option X) (k : Nat) (x10 : Int) (y0_0 : (Int × (Int × Int))) (y0_1 : (Int × Int)) (y1 : (List Int)) : Nat → Int → (List Bool) → Option X
  | 0, _, _ => none
  | n + 1, x11, y800002 => step K (go K k x10 y0_0 y0_1 y1 n) k x10 y0_0 y0_1 y1 x11 y800002
def f (k : Nat) (x10 : Int) (y0_0 : (Int × (Int × Int))) (y0_1 : (Int × Int)) (y1 : (List Int)) (n : Nat) (x11 : Int) (y800002 : (List Bool)) : Option (Int × (List Bool)) := go (fun x11 y800002 => some (x11, y800002)) k x10 y0_0 y0_1 y1 n x11 y800002
theorem step_nat {X Y : Type} (h : X → Option Y) (K : Int → (List Bool) → Option X) (G : Int → (List Bool) → Option X) (k : Nat) (x10 : Int) (y0_0 : (Int × (Int × Int))) (y0_1 : (Int × Int)) (y1 : (List Int)) (x11 : Int) (y800002 : (List Bool)) : Option.bind (step K G k x10 y0_0 y0_1 y1 x11 y800002) h = step (fun x11 y800002 => Option.bind (K x11 y800002) h) (fun x11 y800002 => Option.bind (G x11 y800002) h) k x10 y0_0 y0_1 y1 x11 y800002 := by
  simp only [step, bif_bind, sel_bind', Option.bind_assoc, Option.bind_none, Option.bind_some]
theorem go_nat {X Y : Type} (h : X → Option Y) (K : Int → (List Bool) → Option X) (k : Nat) (x10 : Int) (y0_0 : (Int × (Int × Int))) (y0_1 : (Int × Int)) (y1 : (List Int)) (n : Nat) : ∀ (x11 : Int) (y800002 : (List Bool)), Option.bind (go K k x10 y0_0 y0_1 y1 n x11 y800002) h = go (fun x11 y800002 => Option.bind (K x11 y800002) h) k x10 y0_0 y0_1 y1 n x11 y800002 := by
  induction n with
  | zero => intros; rfl
  | succ n ih => intro x11 y800002; show Option.bind (step K (go K k x10 y0_0 y0_1 y1 n) k x10 y0_0 y0_1 y1 x11 y800002) h = step (fun x11 y800002 => Option.bind (K x11 y800002) h) (go (fun x11 y800002 => Option.bind (K x11 y800002) h) k x10 y0_0 y0_1 y1 n) k x10 y0_0 y0_1 y1 x11 y800002; rw [step_nat h]; simp only [ih]
abbrev S : List (Nat × Sh) := [(0, .ptr 0), (3, .vec 800002), (10, .data (.int .i64)), (11, .data (.int .i64))]
abbrev H : List (Nat × ESh) := [(0, .cell (.pair (.data (.pair (.int .i64) (.pair (.int .i64) (.int .i64)))) (.pair (.vec 1) (.data (.pair (.int .i64) (.int .i64)))))), (1, .rows 2 51 (.int .u64)), (800002, .rows 2 4 .bool)]
abbrev cl : List (Place × Nat × Hint) := []
abbrev hn : List (Nat × Hint) := [(0, .any), (3, (.row 2 4 .bool)), (10, .any), (11, .any)]
abbrev kp : List Nat := [0, 1]
abbrev rc : List (Place × Nat × Hint) := []
abbrev rs : List (Nat × Hint) := []
abbrev ri : List Nat := [0, 1]
def KX (d : (Unit × Unit × Int × Int × Unit)) (e : (((Int × (Int × Int)) × (Unit × (Int × Int))) × (List Int) × (List Bool) × Unit)) (v : (Int × (List Bool))) : St := ⟨mkS S ((), (), d.2.2.1, v.1, ()), mkH H ((e.1.1, ((), e.1.2.2)), e.2.1, v.2, ())⟩
def sum (k : Nat) : LoopSum := sigLoopX S cl hn kp H 0 (fun (d : (Unit × Unit × Int × Int × Unit)) (e : (((Int × (Int × Int)) × (Unit × (Int × Int))) × (List Int) × (List Bool) × Unit)) => f k d.2.2.1 e.1.1 e.1.2.2 e.2.1 k d.2.2.2.1 e.2.2.1) KX
end l0
def tree {X : Type} (K : (List Bool) → Option X) (k : Nat) (m0_0 : (Int × (Int × Int))) (m0_1 : (Int × Int)) (m1 : (List Int)) : Option X :=
  (Option.bind (pledge_Book_Bits_v1.l0.f k m0_1.1 m0_0 m0_1 m1 k (0 : Int) ([] : (List Bool))) (fun r2 => (K r2.2)))
def f (k : Nat) (m0_0 : (Int × (Int × Int))) (m0_1 : (Int × Int)) (m1 : (List Int)) : Option (List Bool) := tree (fun b0 => some b0) k m0_0 m0_1 m1
theorem tree_nat {X Y : Type} (h : X → Option Y) (K : (List Bool) → Option X) (k : Nat) (m0_0 : (Int × (Int × Int))) (m0_1 : (Int × Int)) (m1 : (List Int)) : Option.bind (tree K k m0_0 m0_1 m1) h = tree (fun b0 => Option.bind (K b0) h) k m0_0 m0_1 m1 := by
  simp only [tree, bif_bind, sel_bind', Option.bind_assoc, Option.bind_none, Option.bind_some]
abbrev ps : List Sh := [.ptr 0]
abbrev hs : List (Nat × ESh) := [(0, .cell (.pair (.data (.pair (.int .i64) (.pair (.int .i64) (.int .i64)))) (.pair (.vec 1) (.data (.pair (.int .i64) (.int .i64)))))), (1, .rows 2 51 (.int .u64))]
abbrev hi : List Nat := hs.map (·.1)
abbrev fi : List Nat := [0, 1, 900002]
abbrev cl : List (Place × Nat × Hint) := []
abbrev hn : List Hint := [.any]
def val (t : (List Bool)) : AV := Sh.mk (.vec 900002) ()
def wr (t : (List Bool)) : Heap := [(900002, ESh.mk (.rows 2 4 .bool) t)]
def callee (k : Nat) : Callee := sigCallee ps hs (fun (d : (Unit × Unit)) (e : (((Int × (Int × Int)) × (Unit × (Int × Int))) × (List Int) × Unit)) => f k e.1.1 e.1.2.2 e.2.1) val wr
def E (k : Nat) : Env := ⟨fnTab [(18, [pledge_Book_at.callee k])], loopTab [(0, l0.sum k)], natsTab [], natTab []⟩
theorem fE (k : Nat) : ∀ f, ∀ c ∈ (E k).fn f, CalleeOK Tryd.prog f c := fnTab_ok ⟨⟨pledge_Book_at.ok k, trivial⟩, trivial⟩
namespace l0
theorem round (k : Nat) (d : (Unit × Unit × Int × Int × Unit)) (e : (((Int × (Int × Int)) × (Unit × (Int × Int))) × (List Int) × (List Bool) × Unit)) (G : St → Option (Ex × St)) : roundK Tryd.prog (E k) 22 0 (subC (bodyOf Tryd.f12) [1, 1, 1, 0, 1, 0, 0]) (recast cl hn kp) (finBy cl hn kp rc rs ri) G ⟨mkS S d, mkH H e⟩ =
    step (fun x11 y800002 => some (.exit 0, KX d e (x11, y800002))) (fun x11 y800002 => G ⟨mkS S ((), (), d.2.2.1, x11, ()), mkH H ((e.1.1, ((), e.1.2.2)), e.2.1, y800002, ())⟩) k d.2.2.1 e.1.1 e.1.2.2 e.2.1 d.2.2.2.1 e.2.2.1 := by kernel_rfl
theorem it (k n : Nat) (d : (Unit × Unit × Int × Int × Unit)) (e : (((Int × (Int × Int)) × (Unit × (Int × Int))) × (List Int) × (List Bool) × Unit)) : loopIt Tryd.prog (E k) 22 0 (subC (bodyOf Tryd.f12) [1, 1, 1, 0, 1, 0, 0]) (recast cl hn kp) (finBy cl hn kp rc rs ri) n ⟨mkS S d, mkH H e⟩ = go (fun x11 y800002 => some (.exit 0, KX d e (x11, y800002))) k d.2.2.1 e.1.1 e.1.2.2 e.2.1 n d.2.2.2.1 e.2.2.1 :=
  loopIt_eq (D := (Unit × Unit × Int × Int × Unit) × (((Int × (Int × Int)) × (Unit × (Int × Int))) × (List Int) × (List Bool) × Unit)) (fun p => ⟨mkS S p.1, mkH H p.2⟩) (fun F p => step (fun x11 y800002 => some (.exit 0, KX p.1 p.2 (x11, y800002))) (fun x11 y800002 => F (((), (), p.1.2.2.1, x11, ()), ((p.2.1.1, ((), p.2.1.2.2)), p.2.2.1, y800002, ()))) k p.1.2.2.1 p.2.1.1 p.2.1.2.2 p.2.2.1 p.1.2.2.2.1 p.2.2.2.1) (fun n p => go (fun x11 y800002 => some (.exit 0, KX p.1 p.2 (x11, y800002))) k p.1.2.2.1 p.2.1.1 p.2.1.2.2 p.2.2.1 n p.1.2.2.2.1 p.2.2.2.1) (fun _ => rfl) (fun _ _ => rfl) (fun G p => round k p.1 p.2 G) n (d, e)
theorem ok (k : Nat) : LoopOK Tryd.prog 22 (subC (bodyOf Tryd.f12) [1, 1, 1, 0, 1, 0, 0]) (sum k) :=
  loop_sigX hm (fE k) (loopsOK_of [] (by kernel_rfl) trivial) S cl hn kp H 0 (fun (d : (Unit × Unit × Int × Int × Unit)) (e : (((Int × (Int × Int)) × (Unit × (Int × Int))) × (List Int) × (List Bool) × Unit)) => f k d.2.2.1 e.1.1 e.1.2.2 e.2.1 k d.2.2.2.1 e.2.2.1) KX cl hn kp rc rs ri k
    (fun d e => (it k k d e).trans (go_nat (fun v => some (Ex.exit 0, KX d e v)) (fun x11 y800002 => some (x11, y800002)) k d.2.2.1 e.1.1 e.1.2.2 e.2.1 k d.2.2.2.1 e.2.2.1).symm)
end l0
theorem run (k : Nat) (d : (Unit × Unit)) (e : (((Int × (Int × Int)) × (Unit × (Int × Int))) × (List Int) × Unit)) : runFn Tryd.prog (E k) 22 (bodyOf Tryd.f12) Tryd.f12.results.toList cl hn hi (mkL ps d) (mkH hs e) =
    tree (fun b0 => leafFn hs fi e val wr b0) k e.1.1 e.1.2.2 e.2.1 := by kernel_rfl
theorem run_f (k : Nat) (d : (Unit × Unit)) (e : (((Int × (Int × Int)) × (Unit × (Int × Int))) × (List Int) × Unit)) : runFn Tryd.prog (E k) 22 (bodyOf Tryd.f12) Tryd.f12.results.toList cl hn hi (mkL ps d) (mkH hs e) = (f k e.1.1 e.1.2.2 e.2.1).bind (leafFn hs fi e val wr) :=
  (run k d e).trans (tree_nat (leafFn hs fi e val wr) (fun b0 => some b0) k e.1.1 e.1.2.2 e.2.1).symm
theorem fnIs : FnIs Tryd.prog 12 Tryd.f12 (bodyOf Tryd.f12) 22 := ⟨by kernel_rfl, by kernel_rfl, by kernel_rfl, by kernel_rfl⟩
theorem ok (k : Nat) : CalleeOK Tryd.prog 12 (callee k) :=
  callee_sig (T := (List Bool)) fnIs hm (fE k) (loopsOK_of [(0, subC (bodyOf Tryd.f12) [1, 1, 1, 0, 1, 0, 0])] (by kernel_rfl) ⟨of_loop (l0.sum k) rfl (l0.ok k), trivial⟩) ps hs cl hn fi (fun (d : (Unit × Unit)) (e : (((Int × (Int × Int)) × (Unit × (Int × Int))) × (List Int) × Unit)) => f k e.1.1 e.1.2.2 e.2.1) val wr rfl (fun _ => rfl) (run_f k)
end pledge_Book_Bits_v1
namespace pledge_Book_Give_v4
def tree {X : Type} (K : Int → Option X) (k : Nat) (a1 : Int) (m0 : (List (List Int))) (m1 : (List Int)) (m2 : (List Int)) : Option X :=
  (K (0 : Int))
def f (k : Nat) (a1 : Int) (m0 : (List (List Int))) (m1 : (List Int)) (m2 : (List Int)) : Option Int := tree (fun b0 => some b0) k a1 m0 m1 m2
theorem tree_nat {X Y : Type} (h : X → Option Y) (K : Int → Option X) (k : Nat) (a1 : Int) (m0 : (List (List Int))) (m1 : (List Int)) (m2 : (List Int)) : Option.bind (tree K k a1 m0 m1 m2) h = tree (fun b0 => Option.bind (K b0) h) k a1 m0 m1 m2 := by
  simp only [tree, bif_bind, sel_bind', Option.bind_assoc, Option.bind_none, Option.bind_some]
abbrev ps : List Sh := [.nilp, .data (.int .i64), .vec 0]
abbrev hs : List (Nat × ESh) := [(0, .rows 2 35 (.arr .u8 32)), (1, .glob 0 (.arr .u32 8)), (2, .glob 1 (.arr .u32 64))]
abbrev hi : List Nat := hs.map (·.1)
abbrev fi : List Nat := [0, 1, 2]
abbrev cl : List (Place × Nat × Hint) := []
abbrev hn : List Hint := [.any]
def val (t : Int) : AV := Sh.mk (.data (.int .i64)) t
def wr (t : Int) : Heap := []
def callee (k : Nat) : Callee := sigCallee ps hs (fun (d : (Unit × Int × Unit × Unit)) (e : ((List (List Int)) × (List Int) × (List Int) × Unit)) => f k d.2.1 e.1 e.2.1 e.2.2.1) val wr
def E (k : Nat) : Env := ⟨fnTab [], loopTab [], natsTab [], natTab [(0, 1), (1, 2)]⟩
theorem fE (k : Nat) : ∀ f, ∀ c ∈ (E k).fn f, CalleeOK Tryd.prog f c := fnTab_ok trivial
theorem run (k : Nat) (d : (Unit × Int × Unit × Unit)) (e : ((List (List Int)) × (List Int) × (List Int) × Unit)) : runFn Tryd.prog (E k) 79 (bodyOf Tryd.f9) Tryd.f9.results.toList cl hn hi (mkL ps d) (mkH hs e) =
    tree (fun b0 => leafFn hs fi e val wr b0) k d.2.1 e.1 e.2.1 e.2.2.1 := by kernel_rfl
theorem run_f (k : Nat) (d : (Unit × Int × Unit × Unit)) (e : ((List (List Int)) × (List Int) × (List Int) × Unit)) : runFn Tryd.prog (E k) 79 (bodyOf Tryd.f9) Tryd.f9.results.toList cl hn hi (mkL ps d) (mkH hs e) = (f k d.2.1 e.1 e.2.1 e.2.2.1).bind (leafFn hs fi e val wr) :=
  (run k d e).trans (tree_nat (leafFn hs fi e val wr) (fun b0 => some b0) k d.2.1 e.1 e.2.1 e.2.2.1).symm
theorem fnIs : FnIs Tryd.prog 9 Tryd.f9 (bodyOf Tryd.f9) 79 := ⟨by kernel_rfl, by kernel_rfl, by kernel_rfl, by kernel_rfl⟩
theorem ok (k : Nat) : CalleeOK Tryd.prog 9 (callee k) :=
  callee_sig (T := Int) fnIs hm (fE k) (loopsOK_of [(0, subC (bodyOf Tryd.f9) [1, 1, 1, 0, 1, 0, 0])] (by kernel_rfl) ⟨no_loop rfl, trivial⟩) ps hs cl hn fi (fun (d : (Unit × Int × Unit × Unit)) (e : ((List (List Int)) × (List Int) × (List Int) × Unit)) => f k d.2.1 e.1 e.2.1 e.2.2.1) val wr rfl (fun _ => rfl) (run_f k)
end pledge_Book_Give_v4
namespace pledge_Book_Meet_v2
def tree {X : Type} (K : Bool → Option X) (k : Nat) (a1 : Int) (a2 : (List Int)) (m0 : (List Int)) (m1 : (List Int)) : Option X :=
  (K false)
def f (k : Nat) (a1 : Int) (a2 : (List Int)) (m0 : (List Int)) (m1 : (List Int)) : Option Bool := tree (fun b0 => some b0) k a1 a2 m0 m1
theorem tree_nat {X Y : Type} (h : X → Option Y) (K : Bool → Option X) (k : Nat) (a1 : Int) (a2 : (List Int)) (m0 : (List Int)) (m1 : (List Int)) : Option.bind (tree K k a1 a2 m0 m1) h = tree (fun b0 => Option.bind (K b0) h) k a1 a2 m0 m1 := by
  simp only [tree, bif_bind, sel_bind', Option.bind_assoc, Option.bind_none, Option.bind_some]
abbrev ps : List Sh := [.nilp, .data (.int .i64), .data (.arr .u8 32)]
abbrev hs : List (Nat × ESh) := [(0, .glob 0 (.arr .u32 8)), (1, .glob 1 (.arr .u32 64))]
abbrev hi : List Nat := hs.map (·.1)
abbrev fi : List Nat := [0, 1]
abbrev cl : List (Place × Nat × Hint) := []
abbrev hn : List Hint := [.any]
def val (t : Bool) : AV := Sh.mk (.data .bool) t
def wr (t : Bool) : Heap := []
def callee (k : Nat) : Callee := sigCallee ps hs (fun (d : (Unit × Int × (List Int) × Unit)) (e : ((List Int) × (List Int) × Unit)) => f k d.2.1 d.2.2.1 e.1 e.2.1) val wr
def E (k : Nat) : Env := ⟨fnTab [], loopTab [], natsTab [], natTab [(0, 0), (1, 1)]⟩
theorem fE (k : Nat) : ∀ f, ∀ c ∈ (E k).fn f, CalleeOK Tryd.prog f c := fnTab_ok trivial
theorem run (k : Nat) (d : (Unit × Int × (List Int) × Unit)) (e : ((List Int) × (List Int) × Unit)) : runFn Tryd.prog (E k) 47 (bodyOf Tryd.f8) Tryd.f8.results.toList cl hn hi (mkL ps d) (mkH hs e) =
    tree (fun b0 => leafFn hs fi e val wr b0) k d.2.1 d.2.2.1 e.1 e.2.1 := by kernel_rfl
theorem run_f (k : Nat) (d : (Unit × Int × (List Int) × Unit)) (e : ((List Int) × (List Int) × Unit)) : runFn Tryd.prog (E k) 47 (bodyOf Tryd.f8) Tryd.f8.results.toList cl hn hi (mkL ps d) (mkH hs e) = (f k d.2.1 d.2.2.1 e.1 e.2.1).bind (leafFn hs fi e val wr) :=
  (run k d e).trans (tree_nat (leafFn hs fi e val wr) (fun b0 => some b0) k d.2.1 d.2.2.1 e.1 e.2.1).symm
theorem fnIs : FnIs Tryd.prog 8 Tryd.f8 (bodyOf Tryd.f8) 47 := ⟨by kernel_rfl, by kernel_rfl, by kernel_rfl, by kernel_rfl⟩
theorem ok (k : Nat) : CalleeOK Tryd.prog 8 (callee k) :=
  callee_sig (T := Bool) fnIs hm (fE k) (loopsOK_of [] (by kernel_rfl) trivial) ps hs cl hn fi (fun (d : (Unit × Int × (List Int) × Unit)) (e : ((List Int) × (List Int) × Unit)) => f k d.2.1 d.2.2.1 e.1 e.2.1) val wr rfl (fun _ => rfl) (run_f k)
end pledge_Book_Meet_v2
namespace pledge_Book_Left_v1
def tree {X : Type} (K : Int → Option X) (k : Nat) : Option X :=
  (K (0 : Int))
def f (k : Nat) : Option Int := tree (fun b0 => some b0) k
theorem tree_nat {X Y : Type} (h : X → Option Y) (K : Int → Option X) (k : Nat) : Option.bind (tree K k) h = tree (fun b0 => Option.bind (K b0) h) k := by
  simp only [tree, bif_bind, sel_bind', Option.bind_assoc, Option.bind_none, Option.bind_some]
abbrev ps : List Sh := [.nilp]
abbrev hs : List (Nat × ESh) := []
abbrev hi : List Nat := hs.map (·.1)
abbrev fi : List Nat := []
abbrev cl : List (Place × Nat × Hint) := []
abbrev hn : List Hint := [.any]
def val (t : Int) : AV := Sh.mk (.data (.int .i64)) t
def wr (t : Int) : Heap := []
def callee (k : Nat) : Callee := sigCallee ps hs (fun (d : (Unit × Unit)) (e : Unit) => f k) val wr
def E (k : Nat) : Env := ⟨fnTab [], loopTab [], natsTab [], natTab []⟩
theorem fE (k : Nat) : ∀ f, ∀ c ∈ (E k).fn f, CalleeOK Tryd.prog f c := fnTab_ok trivial
theorem run (k : Nat) (d : (Unit × Unit)) (e : Unit) : runFn Tryd.prog (E k) 14 (bodyOf Tryd.f11) Tryd.f11.results.toList cl hn hi (mkL ps d) (mkH hs e) =
    tree (fun b0 => leafFn hs fi e val wr b0) k := by kernel_rfl
theorem run_f (k : Nat) (d : (Unit × Unit)) (e : Unit) : runFn Tryd.prog (E k) 14 (bodyOf Tryd.f11) Tryd.f11.results.toList cl hn hi (mkL ps d) (mkH hs e) = (f k).bind (leafFn hs fi e val wr) :=
  (run k d e).trans (tree_nat (leafFn hs fi e val wr) (fun b0 => some b0) k).symm
theorem fnIs : FnIs Tryd.prog 11 Tryd.f11 (bodyOf Tryd.f11) 14 := ⟨by kernel_rfl, by kernel_rfl, by kernel_rfl, by kernel_rfl⟩
theorem ok (k : Nat) : CalleeOK Tryd.prog 11 (callee k) :=
  callee_sig (T := Int) fnIs hm (fE k) (loopsOK_of [] (by kernel_rfl) trivial) ps hs cl hn fi (fun (d : (Unit × Unit)) (e : Unit) => f k) val wr rfl (fun _ => rfl) (run_f k)
end pledge_Book_Left_v1
namespace pledge_Book_Given_v1
def tree {X : Type} (K : Int → Option X) (k : Nat) : Option X :=
  (K (0 : Int))
def f (k : Nat) : Option Int := tree (fun b0 => some b0) k
theorem tree_nat {X Y : Type} (h : X → Option Y) (K : Int → Option X) (k : Nat) : Option.bind (tree K k) h = tree (fun b0 => Option.bind (K b0) h) k := by
  simp only [tree, bif_bind, sel_bind', Option.bind_assoc, Option.bind_none, Option.bind_some]
abbrev ps : List Sh := [.nilp]
abbrev hs : List (Nat × ESh) := []
abbrev hi : List Nat := hs.map (·.1)
abbrev fi : List Nat := []
abbrev cl : List (Place × Nat × Hint) := []
abbrev hn : List Hint := [.any]
def val (t : Int) : AV := Sh.mk (.data (.int .i64)) t
def wr (t : Int) : Heap := []
def callee (k : Nat) : Callee := sigCallee ps hs (fun (d : (Unit × Unit)) (e : Unit) => f k) val wr
def E (k : Nat) : Env := ⟨fnTab [], loopTab [], natsTab [], natTab []⟩
theorem fE (k : Nat) : ∀ f, ∀ c ∈ (E k).fn f, CalleeOK Tryd.prog f c := fnTab_ok trivial
theorem run (k : Nat) (d : (Unit × Unit)) (e : Unit) : runFn Tryd.prog (E k) 9 (bodyOf Tryd.f10) Tryd.f10.results.toList cl hn hi (mkL ps d) (mkH hs e) =
    tree (fun b0 => leafFn hs fi e val wr b0) k := by kernel_rfl
theorem run_f (k : Nat) (d : (Unit × Unit)) (e : Unit) : runFn Tryd.prog (E k) 9 (bodyOf Tryd.f10) Tryd.f10.results.toList cl hn hi (mkL ps d) (mkH hs e) = (f k).bind (leafFn hs fi e val wr) :=
  (run k d e).trans (tree_nat (leafFn hs fi e val wr) (fun b0 => some b0) k).symm
theorem fnIs : FnIs Tryd.prog 10 Tryd.f10 (bodyOf Tryd.f10) 9 := ⟨by kernel_rfl, by kernel_rfl, by kernel_rfl, by kernel_rfl⟩
theorem ok (k : Nat) : CalleeOK Tryd.prog 10 (callee k) :=
  callee_sig (T := Int) fnIs hm (fE k) (loopsOK_of [] (by kernel_rfl) trivial) ps hs cl hn fi (fun (d : (Unit × Unit)) (e : Unit) => f k) val wr rfl (fun _ => rfl) (run_f k)
end pledge_Book_Given_v1
namespace pledge_Book_Bits
def tree {X : Type} (K : Option X) (k : Nat) : Option X :=
  (K)
def f (k : Nat) : Option Unit := tree (some ()) k
theorem tree_nat {X Y : Type} (h : X → Option Y) (K : Option X) (k : Nat) : Option.bind (tree K k) h = tree (Option.bind (K) h) k := by
  simp only [tree, bif_bind, sel_bind', Option.bind_assoc, Option.bind_none, Option.bind_some]
abbrev ps : List Sh := [.nilp]
abbrev hs : List (Nat × ESh) := []
abbrev hi : List Nat := hs.map (·.1)
abbrev fi : List Nat := []
abbrev cl : List (Place × Nat × Hint) := []
abbrev hn : List Hint := [.any]
def val (t : Unit) : AV := Sh.mk .nils ()
def wr (t : Unit) : Heap := []
def callee (k : Nat) : Callee := sigCallee ps hs (fun (d : (Unit × Unit)) (e : Unit) => f k) val wr
def E (k : Nat) : Env := ⟨fnTab [], loopTab [], natsTab [], natTab []⟩
theorem fE (k : Nat) : ∀ f, ∀ c ∈ (E k).fn f, CalleeOK Tryd.prog f c := fnTab_ok trivial
theorem run (k : Nat) (d : (Unit × Unit)) (e : Unit) : runFn Tryd.prog (E k) 22 (bodyOf Tryd.f12) Tryd.f12.results.toList cl hn hi (mkL ps d) (mkH hs e) =
    tree (leafFn hs fi e val wr ()) k := by kernel_rfl
theorem run_f (k : Nat) (d : (Unit × Unit)) (e : Unit) : runFn Tryd.prog (E k) 22 (bodyOf Tryd.f12) Tryd.f12.results.toList cl hn hi (mkL ps d) (mkH hs e) = (f k).bind (leafFn hs fi e val wr) :=
  (run k d e).trans (tree_nat (leafFn hs fi e val wr) (some ()) k).symm
theorem fnIs : FnIs Tryd.prog 12 Tryd.f12 (bodyOf Tryd.f12) 22 := ⟨by kernel_rfl, by kernel_rfl, by kernel_rfl, by kernel_rfl⟩
theorem ok (k : Nat) : CalleeOK Tryd.prog 12 (callee k) :=
  callee_sig (T := Unit) fnIs hm (fE k) (loopsOK_of [(0, subC (bodyOf Tryd.f12) [1, 1, 1, 0, 1, 0, 0])] (by kernel_rfl) ⟨no_loop rfl, trivial⟩) ps hs cl hn fi (fun (d : (Unit × Unit)) (e : Unit) => f k) val wr rfl (fun _ => rfl) (run_f k)
end pledge_Book_Bits
namespace trailheadlaw18_PledgeDoes
namespace l0
def step {X : Type} (K : Int → Option X) (Q : Bool → Option X) (G : Int → Option X) (k : Nat) (x28 : Int) (y0 : (List (Int × (Int × (List (List Int)))))) (y1 : (List Int)) (y2 : (List Int)) (y800003 : (Int × (Int × Int))) (x29 : Int) : Option X :=
  (bif (decide (x29 < x28)) then (bif (decide (0 ≤ x29)) then (bif (decide (x29 < ((List.length y0) : Int))) then (bif (decide ((Int.toNat x29) < (List.length y0))) then (bif (decide (((List.length (((List.getD y0 (Int.toNat x29) dfl_6a0b32)).2).2) : Int) > (10 : Int))) then (Q true) else (bif (decide ((((List.getD y0 (Int.toNat x29) dfl_6a0b32)).2).1 > (1099511627776 : Int))) then (Q true) else (bif (decide ((((List.getD y0 (Int.toNat x29) dfl_6a0b32)).2).1 < ((-1099511627776) : Int))) then (Q true) else (G (addI .i64 x29 1))))) else none) else none) else none) else (K x29))
def go {X : Type} (K : Int → Option X) (Q : Bool → Option X) (k : Nat) (x28 : Int) (y0 : (List (Int × (Int × (List (List Int)))))) (y1 : (List Int)) (y2 : (List Int)) (y800003 : (Int × (Int × Int))) : Nat → Int → Option X
  | 0, _ => none
  | n + 1, x29 => step K Q (go K Q k x28 y0 y1 y2 y800003 n) k x28 y0 y1 y2 y800003 x29
def f (k : Nat) (x28 : Int) (y0 : (List (Int × (Int × (List (List Int)))))) (y1 : (List Int)) (y2 : (List Int)) (y800003 : (Int × (Int × Int))) (n : Nat) (x29 : Int) : Option (Int ⊕ Bool) := go (fun x29 => some (.inl x29)) (fun q0 => some (.inr q0)) k x28 y0 y1 y2 y800003 n x29
theorem step_nat {X Y : Type} (h : X → Option Y) (K : Int → Option X) (Q : Bool → Option X) (G : Int → Option X) (k : Nat) (x28 : Int) (y0 : (List (Int × (Int × (List (List Int)))))) (y1 : (List Int)) (y2 : (List Int)) (y800003 : (Int × (Int × Int))) (x29 : Int) : Option.bind (step K Q G k x28 y0 y1 y2 y800003 x29) h = step (fun x29 => Option.bind (K x29) h) (fun q0 => Option.bind (Q q0) h) (fun x29 => Option.bind (G x29) h) k x28 y0 y1 y2 y800003 x29 := by
  simp only [step, bif_bind, sel_bind', Option.bind_assoc, Option.bind_none, Option.bind_some]
theorem go_nat {X Y : Type} (h : X → Option Y) (K : Int → Option X) (Q : Bool → Option X) (k : Nat) (x28 : Int) (y0 : (List (Int × (Int × (List (List Int)))))) (y1 : (List Int)) (y2 : (List Int)) (y800003 : (Int × (Int × Int))) (n : Nat) : ∀ (x29 : Int), Option.bind (go K Q k x28 y0 y1 y2 y800003 n x29) h = go (fun x29 => Option.bind (K x29) h) (fun q0 => Option.bind (Q q0) h) k x28 y0 y1 y2 y800003 n x29 := by
  induction n with
  | zero => intros; rfl
  | succ n ih => intro x29; show Option.bind (step K Q (go K Q k x28 y0 y1 y2 y800003 n) k x28 y0 y1 y2 y800003 x29) h = step (fun x29 => Option.bind (K x29) h) (fun q0 => Option.bind (Q q0) h) (go (fun x29 => Option.bind (K x29) h) (fun q0 => Option.bind (Q q0) h) k x28 y0 y1 y2 y800003 n) k x28 y0 y1 y2 y800003 x29; rw [step_nat h]; simp only [ih]
abbrev S : List (Nat × Sh) := [(1, .vec 0), (2, .ptr 800003), (27, .vec 0), (28, .data (.int .i64)), (29, .data (.int .i64))]
abbrev H : List (Nat × ESh) := [(0, .rows 0 28 (.pair (.int .i64) (.pair (.int .i64) (.row 35 (.arr .u8 32))))), (1, .glob 0 (.arr .u32 8)), (2, .glob 1 (.arr .u32 64)), (800003, .cell (.data (.pair (.int .i64) (.pair (.int .i64) (.int .i64)))))]
abbrev cl : List (Place × Nat × Hint) := []
abbrev hn : List (Nat × Hint) := [(1, .any), (2, .any), (27, .any), (28, .any), (29, .any)]
abbrev kp : List Nat := [0, 1, 2]
abbrev rc : List (Place × Nat × Hint) := []
abbrev rs : List (Nat × Hint) := [(4, .any)]
abbrev ri : List Nat := [0, 1, 2]
def KX (d : (Unit × Unit × Unit × Int × Int × Unit)) (e : ((List (Int × (Int × (List (List Int))))) × (List Int) × (List Int) × (Int × (Int × Int)) × Unit)) (v : Int) : St := ⟨mkS S ((), (), (), d.2.2.2.1, v, ()), mkH H (e.1, e.2.1, e.2.2.1, e.2.2.2.1, ())⟩
abbrev RS : List (Nat × Sh) := [(4, .data .bool)]
abbrev RH : List (Nat × ESh) := [(0, .rows 0 28 (.pair (.int .i64) (.pair (.int .i64) (.row 35 (.arr .u8 32))))), (1, .glob 0 (.arr .u32 8)), (2, .glob 1 (.arr .u32 64))]
def RX (d : (Unit × Unit × Unit × Int × Int × Unit)) (e : ((List (Int × (Int × (List (List Int))))) × (List Int) × (List Int) × (Int × (Int × Int)) × Unit)) (v : Bool) : St := ⟨mkS RS (v, ()), mkH RH (e.1, e.2.1, e.2.2.1, ())⟩
def sum (k : Nat) : LoopSum := sigLoop S cl hn kp H 0 (fun (d : (Unit × Unit × Unit × Int × Int × Unit)) (e : ((List (Int × (Int × (List (List Int))))) × (List Int) × (List Int) × (Int × (Int × Int)) × Unit)) => f k d.2.2.2.1 e.1 e.2.1 e.2.2.1 e.2.2.2.1 k d.2.2.2.2.1) KX RX
end l0
namespace l4
def step {X : Type} (K : Int → Int → Int → (Int × (Int × Int)) → (Int × Int) → (List Bool) → Option X) (Q : Bool → Option X) (G : Int → Int → Int → (Int × (Int × Int)) → (Int × Int) → (List Bool) → Option X) (k : Nat) (x56 : Int) (x57 : Int) (x63 : Int) (y0 : (List (Int × (Int × (List (List Int)))))) (y1 : (List Int)) (y2 : (List Int)) (y800003 : (Int × (Int × Int))) (y800006 : (Int × (Int × (List (List Int))))) (y800007 : (List (List Int))) (y800008 : (List Int)) (x10 : Int) (x13 : Int) (x64 : Int) (y800004_0 : (Int × (Int × Int))) (y800004_1 : (Int × Int)) (y800005 : (List Bool)) : Option X :=
  (bif (decide (x64 < x63)) then (bif (decide (0 ≤ x64)) then (bif (decide (x64 < ((List.length y800007) : Int))) then (bif (decide ((Int.toNat x64) < (List.length y800007))) then (Option.bind (trailheadref18_Due.f k y800003.2.1 y800003.2.2 (addI .i64 y800006.2.1 x64)) (fun r8 => (Option.bind (trailheadref18_Bit.f k y800003.1 (List.getD y800007 (Int.toNat x64) (List.replicate 32 0 : (List Int)))) (fun r9 => (bif (y800006.1 == (0 : Int)) then (bif r8 then (bif (fits (((List.length y800005) + 1) * 1)) then (bif (y800006.1 != (0 : Int)) then (bif (!r8) then (Option.bind (pledge_Book_Meet.f k (addI .i64 y800006.2.1 x64) (List.getD y800007 (Int.toNat x64) (List.replicate 32 0 : (List Int))) y800004_0 y800004_1 y1 y2 y800008) (fun r10 => (bif (!(r10.1 == true)) then (Q false) else (bif r8 then (G (addI .i64 x10 1) (addI .i64 x13 1) (addI .i64 x64 1) r10.2.1 r10.2.2 (y800005 ++ ([r9] : (List Bool)))) else (G x10 (addI .i64 x13 1) (addI .i64 x64 1) r10.2.1 r10.2.2 (y800005 ++ ([r9] : (List Bool)))))))) else (bif (decide (x10 < ((List.length (y800005 ++ ([r9] : (List Bool)))) : Int))) then (bif (decide (0 ≤ x10)) then (bif (decide (x10 < ((List.length (y800005 ++ ([r9] : (List Bool)))) : Int))) then (bif (decide ((Int.toNat x10) < (List.length (y800005 ++ ([r9] : (List Bool)))))) then (Option.bind (pledge_Book_Meet.f k (addI .i64 y800006.2.1 x64) (List.getD y800007 (Int.toNat x64) (List.replicate 32 0 : (List Int))) y800004_0 y800004_1 y1 y2 y800008) (fun r11 => (bif (!(r11.1 == ((List.getD (y800005 ++ ([r9] : (List Bool))) (Int.toNat x10) (false : Bool)) == r9))) then (Q false) else (bif r8 then (bif ((List.getD (y800005 ++ ([r9] : (List Bool))) (Int.toNat x10) (false : Bool)) == r9) then (G (addI .i64 x10 1) (addI .i64 x13 1) (addI .i64 x64 1) r11.2.1 r11.2.2 (y800005 ++ ([r9] : (List Bool)))) else (G x10 (addI .i64 x13 1) (addI .i64 x64 1) r11.2.1 r11.2.2 (y800005 ++ ([r9] : (List Bool))))) else (G x10 (addI .i64 x13 1) (addI .i64 x64 1) r11.2.1 r11.2.2 (y800005 ++ ([r9] : (List Bool)))))))) else none) else none) else none) else (Option.bind (pledge_Book_Meet.f k (addI .i64 y800006.2.1 x64) (List.getD y800007 (Int.toNat x64) (List.replicate 32 0 : (List Int))) y800004_0 y800004_1 y1 y2 y800008) (fun r12 => (bif (!(r12.1 == false)) then (Q false) else (bif r8 then (G x10 (addI .i64 x13 1) (addI .i64 x64 1) r12.2.1 r12.2.2 (y800005 ++ ([r9] : (List Bool)))) else (G x10 (addI .i64 x13 1) (addI .i64 x64 1) r12.2.1 r12.2.2 (y800005 ++ ([r9] : (List Bool)))))))))) else (G x10 (addI .i64 x13 1) (addI .i64 x64 1) y800004_0 y800004_1 (y800005 ++ ([r9] : (List Bool))))) else none) else (bif (y800006.1 != (0 : Int)) then (bif (!r8) then (Option.bind (pledge_Book_Meet.f k (addI .i64 y800006.2.1 x64) (List.getD y800007 (Int.toNat x64) (List.replicate 32 0 : (List Int))) y800004_0 y800004_1 y1 y2 y800008) (fun r13 => (bif (!(r13.1 == true)) then (Q false) else (bif r8 then (G (addI .i64 x10 1) x13 (addI .i64 x64 1) r13.2.1 r13.2.2 y800005) else (G x10 x13 (addI .i64 x64 1) r13.2.1 r13.2.2 y800005))))) else (bif (decide (x10 < ((List.length y800005) : Int))) then (bif (decide (0 ≤ x10)) then (bif (decide (x10 < ((List.length y800005) : Int))) then (bif (decide ((Int.toNat x10) < (List.length y800005))) then (Option.bind (pledge_Book_Meet.f k (addI .i64 y800006.2.1 x64) (List.getD y800007 (Int.toNat x64) (List.replicate 32 0 : (List Int))) y800004_0 y800004_1 y1 y2 y800008) (fun r14 => (bif (!(r14.1 == ((List.getD y800005 (Int.toNat x10) (false : Bool)) == r9))) then (Q false) else (bif r8 then (bif ((List.getD y800005 (Int.toNat x10) (false : Bool)) == r9) then (G (addI .i64 x10 1) x13 (addI .i64 x64 1) r14.2.1 r14.2.2 y800005) else (G x10 x13 (addI .i64 x64 1) r14.2.1 r14.2.2 y800005)) else (G x10 x13 (addI .i64 x64 1) r14.2.1 r14.2.2 y800005))))) else none) else none) else none) else (Option.bind (pledge_Book_Meet.f k (addI .i64 y800006.2.1 x64) (List.getD y800007 (Int.toNat x64) (List.replicate 32 0 : (List Int))) y800004_0 y800004_1 y1 y2 y800008) (fun r15 => (bif (!(r15.1 == false)) then (Q false) else (bif r8 then (G x10 x13 (addI .i64 x64 1) r15.2.1 r15.2.2 y800005) else (G x10 x13 (addI .i64 x64 1) r15.2.1 r15.2.2 y800005))))))) else (G x10 x13 (addI .i64 x64 1) y800004_0 y800004_1 y800005))) else (bif (y800006.1 != (0 : Int)) then (bif (!r8) then (Option.bind (pledge_Book_Meet.f k (addI .i64 y800006.2.1 x64) (List.getD y800007 (Int.toNat x64) (List.replicate 32 0 : (List Int))) y800004_0 y800004_1 y1 y2 y800008) (fun r16 => (bif (!(r16.1 == true)) then (Q false) else (bif r8 then (G (addI .i64 x10 1) x13 (addI .i64 x64 1) r16.2.1 r16.2.2 y800005) else (G x10 x13 (addI .i64 x64 1) r16.2.1 r16.2.2 y800005))))) else (bif (decide (x10 < ((List.length y800005) : Int))) then (bif (decide (0 ≤ x10)) then (bif (decide (x10 < ((List.length y800005) : Int))) then (bif (decide ((Int.toNat x10) < (List.length y800005))) then (Option.bind (pledge_Book_Meet.f k (addI .i64 y800006.2.1 x64) (List.getD y800007 (Int.toNat x64) (List.replicate 32 0 : (List Int))) y800004_0 y800004_1 y1 y2 y800008) (fun r17 => (bif (!(r17.1 == ((List.getD y800005 (Int.toNat x10) (false : Bool)) == r9))) then (Q false) else (bif r8 then (bif ((List.getD y800005 (Int.toNat x10) (false : Bool)) == r9) then (G (addI .i64 x10 1) x13 (addI .i64 x64 1) r17.2.1 r17.2.2 y800005) else (G x10 x13 (addI .i64 x64 1) r17.2.1 r17.2.2 y800005)) else (G x10 x13 (addI .i64 x64 1) r17.2.1 r17.2.2 y800005))))) else none) else none) else none) else (Option.bind (pledge_Book_Meet.f k (addI .i64 y800006.2.1 x64) (List.getD y800007 (Int.toNat x64) (List.replicate 32 0 : (List Int))) y800004_0 y800004_1 y1 y2 y800008) (fun r18 => (bif (!(r18.1 == false)) then (Q false) else (bif r8 then (G x10 x13 (addI .i64 x64 1) r18.2.1 r18.2.2 y800005) else (G x10 x13 (addI .i64 x64 1) r18.2.1 r18.2.2 y800005))))))) else (G x10 x13 (addI .i64 x64 1) y800004_0 y800004_1 y800005))))))) else none) else none) else none) else (K x10 x13 x64 y800004_0 y800004_1 y800005))
def go {X : Type} (K : Int → Int → Int → (Int × (Int × Int)) → (Int × Int) → (List Bool) → Option X) (Q : Bool → Option X) (k : Nat) (x56 : Int) (x57 : Int) (x63 : Int) (y0 : (List (Int × (Int × (List (List Int)))))) (y1 : (List Int)) (y2 : (List Int)) (y800003 : (Int × (Int × Int))) (y800006 : (Int × (Int × (List (List Int))))) (y800007 : (List (List Int))) (y800008 : (List Int)) : Nat → Int → Int → Int → (Int × (Int × Int)) → (Int × Int) → (List Bool) → Option X
  | 0, _, _, _, _, _, _ => none
  | n + 1, x10, x13, x64, y800004_0, y800004_1, y800005 => step K Q (go K Q k x56 x57 x63 y0 y1 y2 y800003 y800006 y800007 y800008 n) k x56 x57 x63 y0 y1 y2 y800003 y800006 y800007 y800008 x10 x13 x64 y800004_0 y800004_1 y800005
def f (k : Nat) (x56 : Int) (x57 : Int) (x63 : Int) (y0 : (List (Int × (Int × (List (List Int)))))) (y1 : (List Int)) (y2 : (List Int)) (y800003 : (Int × (Int × Int))) (y800006 : (Int × (Int × (List (List Int))))) (y800007 : (List (List Int))) (y800008 : (List Int)) (n : Nat) (x10 : Int) (x13 : Int) (x64 : Int) (y800004_0 : (Int × (Int × Int))) (y800004_1 : (Int × Int)) (y800005 : (List Bool)) : Option ((Int × (Int × (Int × ((Int × (Int × Int)) × ((Int × Int) × (List Bool)))))) ⊕ Bool) := go (fun x10 x13 x64 y800004_0 y800004_1 y800005 => some (.inl (x10, x13, x64, y800004_0, y800004_1, y800005))) (fun q0 => some (.inr q0)) k x56 x57 x63 y0 y1 y2 y800003 y800006 y800007 y800008 n x10 x13 x64 y800004_0 y800004_1 y800005
theorem step_nat {X Y : Type} (h : X → Option Y) (K : Int → Int → Int → (Int × (Int × Int)) → (Int × Int) → (List Bool) → Option X) (Q : Bool → Option X) (G : Int → Int → Int → (Int × (Int × Int)) → (Int × Int) → (List Bool) → Option X) (k : Nat) (x56 : Int) (x57 : Int) (x63 : Int) (y0 : (List (Int × (Int × (List (List Int)))))) (y1 : (List Int)) (y2 : (List Int)) (y800003 : (Int × (Int × Int))) (y800006 : (Int × (Int × (List (List Int))))) (y800007 : (List (List Int))) (y800008 : (List Int)) (x10 : Int) (x13 : Int) (x64 : Int) (y800004_0 : (Int × (Int × Int))) (y800004_1 : (Int × Int)) (y800005 : (List Bool)) : Option.bind (step K Q G k x56 x57 x63 y0 y1 y2 y800003 y800006 y800007 y800008 x10 x13 x64 y800004_0 y800004_1 y800005) h = step (fun x10 x13 x64 y800004_0 y800004_1 y800005 => Option.bind (K x10 x13 x64 y800004_0 y800004_1 y800005) h) (fun q0 => Option.bind (Q q0) h) (fun x10 x13 x64 y800004_0 y800004_1 y800005 => Option.bind (G x10 x13 x64 y800004_0 y800004_1 y800005) h) k x56 x57 x63 y0 y1 y2 y800003 y800006 y800007 y800008 x10 x13 x64 y800004_0 y800004_1 y800005 := by
  simp only [step, bif_bind, sel_bind', Option.bind_assoc, Option.bind_none, Option.bind_some]
theorem go_nat {X Y : Type} (h : X → Option Y) (K : Int → Int → Int → (Int × (Int × Int)) → (Int × Int) → (List Bool) → Option X) (Q : Bool → Option X) (k : Nat) (x56 : Int) (x57 : Int) (x63 : Int) (y0 : (List (Int × (Int × (List (List Int)))))) (y1 : (List Int)) (y2 : (List Int)) (y800003 : (Int × (Int × Int))) (y800006 : (Int × (Int × (List (List Int))))) (y800007 : (List (List Int))) (y800008 : (List Int)) (n : Nat) : ∀ (x10 : Int) (x13 : Int) (x64 : Int) (y800004_0 : (Int × (Int × Int))) (y800004_1 : (Int × Int)) (y800005 : (List Bool)), Option.bind (go K Q k x56 x57 x63 y0 y1 y2 y800003 y800006 y800007 y800008 n x10 x13 x64 y800004_0 y800004_1 y800005) h = go (fun x10 x13 x64 y800004_0 y800004_1 y800005 => Option.bind (K x10 x13 x64 y800004_0 y800004_1 y800005) h) (fun q0 => Option.bind (Q q0) h) k x56 x57 x63 y0 y1 y2 y800003 y800006 y800007 y800008 n x10 x13 x64 y800004_0 y800004_1 y800005 := by
  induction n with
  | zero => intros; rfl
  | succ n ih => intro x10 x13 x64 y800004_0 y800004_1 y800005; show Option.bind (step K Q (go K Q k x56 x57 x63 y0 y1 y2 y800003 y800006 y800007 y800008 n) k x56 x57 x63 y0 y1 y2 y800003 y800006 y800007 y800008 x10 x13 x64 y800004_0 y800004_1 y800005) h = step (fun x10 x13 x64 y800004_0 y800004_1 y800005 => Option.bind (K x10 x13 x64 y800004_0 y800004_1 y800005) h) (fun q0 => Option.bind (Q q0) h) (go (fun x10 x13 x64 y800004_0 y800004_1 y800005 => Option.bind (K x10 x13 x64 y800004_0 y800004_1 y800005) h) (fun q0 => Option.bind (Q q0) h) k x56 x57 x63 y0 y1 y2 y800003 y800006 y800007 y800008 n) k x56 x57 x63 y0 y1 y2 y800003 y800006 y800007 y800008 x10 x13 x64 y800004_0 y800004_1 y800005; rw [step_nat h]; simp only [ih]
abbrev S : List (Nat × Sh) := [(2, .ptr 800003), (7, .ptr 800004), (9, .vec 800005), (10, .data (.int .i64)), (12, .ptr 800006), (13, .data (.int .i64)), (55, .vec 0), (56, .data (.int .i64)), (57, .data (.int .i64)), (62, .vec 800007), (63, .data (.int .i64)), (64, .data (.int .i64))]
abbrev H : List (Nat × ESh) := [(0, .rows 0 28 (.pair (.int .i64) (.pair (.int .i64) (.row 35 (.arr .u8 32))))), (1, .glob 0 (.arr .u32 8)), (2, .glob 1 (.arr .u32 64)), (800003, .cell (.data (.pair (.int .i64) (.pair (.int .i64) (.int .i64))))), (800004, .cell (.pair (.data (.pair (.int .i64) (.pair (.int .i64) (.int .i64)))) (.pair (.vec 800008) (.data (.pair (.int .i64) (.int .i64)))))), (800005, .rows 2 4 .bool), (800006, .cell (.data (.pair (.int .i64) (.pair (.int .i64) (.row 35 (.arr .u8 32)))))), (800007, .rows 0 35 (.arr .u8 32)), (800008, .rows 2 51 (.int .u64))]
abbrev cl : List (Place × Nat × Hint) := []
abbrev hn : List (Nat × Hint) := [(2, .any), (7, .any), (9, (.row 2 4 .bool)), (10, .any), (12, .any), (13, .any), (55, .any), (56, .any), (57, .any), (62, .any), (63, .any), (64, .any)]
abbrev kp : List Nat := [0, 1, 2]
abbrev rc : List (Place × Nat × Hint) := []
abbrev rs : List (Nat × Hint) := [(4, .any)]
abbrev ri : List Nat := [0, 1, 2]
def KX (d : (Unit × Unit × Unit × Int × Unit × Int × Unit × Int × Int × Unit × Int × Int × Unit)) (e : ((List (Int × (Int × (List (List Int))))) × (List Int) × (List Int) × (Int × (Int × Int)) × ((Int × (Int × Int)) × (Unit × (Int × Int))) × (List Bool) × (Int × (Int × (List (List Int)))) × (List (List Int)) × (List Int) × Unit)) (v : (Int × (Int × (Int × ((Int × (Int × Int)) × ((Int × Int) × (List Bool))))))) : St := ⟨mkS S ((), (), (), v.1, (), v.2.1, (), d.2.2.2.2.2.2.2.1, d.2.2.2.2.2.2.2.2.1, (), d.2.2.2.2.2.2.2.2.2.2.1, v.2.2.1, ()), mkH H (e.1, e.2.1, e.2.2.1, e.2.2.2.1, (v.2.2.2.1, ((), v.2.2.2.2.1)), v.2.2.2.2.2, e.2.2.2.2.2.2.1, e.2.2.2.2.2.2.2.1, e.2.2.2.2.2.2.2.2.1, ())⟩
abbrev RS : List (Nat × Sh) := [(4, .data .bool)]
abbrev RH : List (Nat × ESh) := [(0, .rows 0 28 (.pair (.int .i64) (.pair (.int .i64) (.row 35 (.arr .u8 32))))), (1, .glob 0 (.arr .u32 8)), (2, .glob 1 (.arr .u32 64))]
def RX (d : (Unit × Unit × Unit × Int × Unit × Int × Unit × Int × Int × Unit × Int × Int × Unit)) (e : ((List (Int × (Int × (List (List Int))))) × (List Int) × (List Int) × (Int × (Int × Int)) × ((Int × (Int × Int)) × (Unit × (Int × Int))) × (List Bool) × (Int × (Int × (List (List Int)))) × (List (List Int)) × (List Int) × Unit)) (v : Bool) : St := ⟨mkS RS (v, ()), mkH RH (e.1, e.2.1, e.2.2.1, ())⟩
def sum (k : Nat) : LoopSum := sigLoop S cl hn kp H 4 (fun (d : (Unit × Unit × Unit × Int × Unit × Int × Unit × Int × Int × Unit × Int × Int × Unit)) (e : ((List (Int × (Int × (List (List Int))))) × (List Int) × (List Int) × (Int × (Int × Int)) × ((Int × (Int × Int)) × (Unit × (Int × Int))) × (List Bool) × (Int × (Int × (List (List Int)))) × (List (List Int)) × (List Int) × Unit)) => f k d.2.2.2.2.2.2.2.1 d.2.2.2.2.2.2.2.2.1 d.2.2.2.2.2.2.2.2.2.2.1 e.1 e.2.1 e.2.2.1 e.2.2.2.1 e.2.2.2.2.2.2.1 e.2.2.2.2.2.2.2.1 e.2.2.2.2.2.2.2.2.1 k d.2.2.2.1 d.2.2.2.2.2.1 d.2.2.2.2.2.2.2.2.2.2.2.1 e.2.2.2.2.1.1 e.2.2.2.2.1.2.2 e.2.2.2.2.2.1) KX RX
end l4
namespace l2
def step {X : Type} (K : Int → Int → (Int × (Int × Int)) → (Int × Int) → (List Bool) → (List Int) → Option X) (Q : Bool → Option X) (G : Int → Int → (Int × (Int × Int)) → (Int × Int) → (List Bool) → (List Int) → Option X) (k : Nat) (x56 : Int) (y0 : (List (Int × (Int × (List (List Int)))))) (y1 : (List Int)) (y2 : (List Int)) (y800003 : (Int × (Int × Int))) (x10 : Int) (x57 : Int) (y800004_0 : (Int × (Int × Int))) (y800004_1 : (Int × Int)) (y800005 : (List Bool)) (y800006 : (List Int)) : Option X :=
  (bif (decide (x57 < x56)) then (bif (decide (0 ≤ x57)) then (bif (decide (x57 < ((List.length y0) : Int))) then (bif (decide ((Int.toNat x57) < (List.length y0))) then (Option.bind (trailheadlaw18_PledgeDoes.l4.f k x56 x57 ((List.length (((List.getD y0 (Int.toNat x57) dfl_6a0b32)).2).2) : Int) y0 y1 y2 y800003 ((((List.getD y0 (Int.toNat x57) dfl_6a0b32)).1, (((List.getD y0 (Int.toNat x57) dfl_6a0b32)).2)) : (Int × (Int × (List (List Int))))) (((List.getD y0 (Int.toNat x57) dfl_6a0b32)).2).2 y800006 k x10 (0 : Int) (0 : Int) y800004_0 y800004_1 y800005) (fun r19 => sel r19 (fun v20 => (bif (((List.getD y0 (Int.toNat x57) dfl_6a0b32)).1 == (0 : Int)) then (Option.bind (pledge_Book_Give_v3.f k ((((List.getD y0 (Int.toNat x57) dfl_6a0b32)).2)).1 v20.2.2.2.1 v20.2.2.2.2.1 ((((List.getD y0 (Int.toNat x57) dfl_6a0b32)).2)).2 y1 y2 y800006) (fun r22 => (bif (r22.1 != v20.2.1) then (Q false) else (Option.bind (pledge_Book_Given.f k r22.2.1 r22.2.2.1 r22.2.2.2) (fun r23 => (bif (r23 != ((List.length v20.2.2.2.2.2) : Int)) then (Q false) else (Option.bind (pledge_Book_Left.f k r22.2.1 r22.2.2.1 r22.2.2.2) (fun r24 => (bif (r24 != (subI .i64 ((List.length v20.2.2.2.2.2) : Int) v20.1)) then (Q false) else (G v20.1 (addI .i64 x57 1) r22.2.1 r22.2.2.1 v20.2.2.2.2.2 r22.2.2.2)))))))))) else (Option.bind (pledge_Book_Given.f k v20.2.2.2.1 v20.2.2.2.2.1 y800006) (fun r25 => (bif (r25 != ((List.length v20.2.2.2.2.2) : Int)) then (Q false) else (Option.bind (pledge_Book_Left.f k v20.2.2.2.1 v20.2.2.2.2.1 y800006) (fun r26 => (bif (r26 != (subI .i64 ((List.length v20.2.2.2.2.2) : Int) v20.1)) then (Q false) else (G v20.1 (addI .i64 x57 1) v20.2.2.2.1 v20.2.2.2.2.1 v20.2.2.2.2.2 y800006))))))))) (fun q21 => (Q q21)))) else none) else none) else none) else (K x10 x57 y800004_0 y800004_1 y800005 y800006))
def go {X : Type} (K : Int → Int → (Int × (Int × Int)) → (Int × Int) → (List Bool) → (List Int) → Option X) (Q : Bool → Option X) (k : Nat) (x56 : Int) (y0 : (List (Int × (Int × (List (List Int)))))) (y1 : (List Int)) (y2 : (List Int)) (y800003 : (Int × (Int × Int))) : Nat → Int → Int → (Int × (Int × Int)) → (Int × Int) → (List Bool) → (List Int) → Option X
  | 0, _, _, _, _, _, _ => none
  | n + 1, x10, x57, y800004_0, y800004_1, y800005, y800006 => step K Q (go K Q k x56 y0 y1 y2 y800003 n) k x56 y0 y1 y2 y800003 x10 x57 y800004_0 y800004_1 y800005 y800006
def f (k : Nat) (x56 : Int) (y0 : (List (Int × (Int × (List (List Int)))))) (y1 : (List Int)) (y2 : (List Int)) (y800003 : (Int × (Int × Int))) (n : Nat) (x10 : Int) (x57 : Int) (y800004_0 : (Int × (Int × Int))) (y800004_1 : (Int × Int)) (y800005 : (List Bool)) (y800006 : (List Int)) : Option ((Int × (Int × ((Int × (Int × Int)) × ((Int × Int) × ((List Bool) × (List Int)))))) ⊕ Bool) := go (fun x10 x57 y800004_0 y800004_1 y800005 y800006 => some (.inl (x10, x57, y800004_0, y800004_1, y800005, y800006))) (fun q0 => some (.inr q0)) k x56 y0 y1 y2 y800003 n x10 x57 y800004_0 y800004_1 y800005 y800006
theorem step_nat {X Y : Type} (h : X → Option Y) (K : Int → Int → (Int × (Int × Int)) → (Int × Int) → (List Bool) → (List Int) → Option X) (Q : Bool → Option X) (G : Int → Int → (Int × (Int × Int)) → (Int × Int) → (List Bool) → (List Int) → Option X) (k : Nat) (x56 : Int) (y0 : (List (Int × (Int × (List (List Int)))))) (y1 : (List Int)) (y2 : (List Int)) (y800003 : (Int × (Int × Int))) (x10 : Int) (x57 : Int) (y800004_0 : (Int × (Int × Int))) (y800004_1 : (Int × Int)) (y800005 : (List Bool)) (y800006 : (List Int)) : Option.bind (step K Q G k x56 y0 y1 y2 y800003 x10 x57 y800004_0 y800004_1 y800005 y800006) h = step (fun x10 x57 y800004_0 y800004_1 y800005 y800006 => Option.bind (K x10 x57 y800004_0 y800004_1 y800005 y800006) h) (fun q0 => Option.bind (Q q0) h) (fun x10 x57 y800004_0 y800004_1 y800005 y800006 => Option.bind (G x10 x57 y800004_0 y800004_1 y800005 y800006) h) k x56 y0 y1 y2 y800003 x10 x57 y800004_0 y800004_1 y800005 y800006 := by
  simp only [step, bif_bind, sel_bind', Option.bind_assoc, Option.bind_none, Option.bind_some]
theorem go_nat {X Y : Type} (h : X → Option Y) (K : Int → Int → (Int × (Int × Int)) → (Int × Int) → (List Bool) → (List Int) → Option X) (Q : Bool → Option X) (k : Nat) (x56 : Int) (y0 : (List (Int × (Int × (List (List Int)))))) (y1 : (List Int)) (y2 : (List Int)) (y800003 : (Int × (Int × Int))) (n : Nat) : ∀ (x10 : Int) (x57 : Int) (y800004_0 : (Int × (Int × Int))) (y800004_1 : (Int × Int)) (y800005 : (List Bool)) (y800006 : (List Int)), Option.bind (go K Q k x56 y0 y1 y2 y800003 n x10 x57 y800004_0 y800004_1 y800005 y800006) h = go (fun x10 x57 y800004_0 y800004_1 y800005 y800006 => Option.bind (K x10 x57 y800004_0 y800004_1 y800005 y800006) h) (fun q0 => Option.bind (Q q0) h) k x56 y0 y1 y2 y800003 n x10 x57 y800004_0 y800004_1 y800005 y800006 := by
  induction n with
  | zero => intros; rfl
  | succ n ih => intro x10 x57 y800004_0 y800004_1 y800005 y800006; show Option.bind (step K Q (go K Q k x56 y0 y1 y2 y800003 n) k x56 y0 y1 y2 y800003 x10 x57 y800004_0 y800004_1 y800005 y800006) h = step (fun x10 x57 y800004_0 y800004_1 y800005 y800006 => Option.bind (K x10 x57 y800004_0 y800004_1 y800005 y800006) h) (fun q0 => Option.bind (Q q0) h) (go (fun x10 x57 y800004_0 y800004_1 y800005 y800006 => Option.bind (K x10 x57 y800004_0 y800004_1 y800005 y800006) h) (fun q0 => Option.bind (Q q0) h) k x56 y0 y1 y2 y800003 n) k x56 y0 y1 y2 y800003 x10 x57 y800004_0 y800004_1 y800005 y800006; rw [step_nat h]; simp only [ih]
abbrev S : List (Nat × Sh) := [(2, .ptr 800003), (7, .ptr 800004), (9, .vec 800005), (10, .data (.int .i64)), (55, .vec 0), (56, .data (.int .i64)), (57, .data (.int .i64))]
abbrev H : List (Nat × ESh) := [(0, .rows 0 28 (.pair (.int .i64) (.pair (.int .i64) (.row 35 (.arr .u8 32))))), (1, .glob 0 (.arr .u32 8)), (2, .glob 1 (.arr .u32 64)), (800003, .cell (.data (.pair (.int .i64) (.pair (.int .i64) (.int .i64))))), (800004, .cell (.pair (.data (.pair (.int .i64) (.pair (.int .i64) (.int .i64)))) (.pair (.vec 800006) (.data (.pair (.int .i64) (.int .i64)))))), (800005, .rows 2 4 .bool), (800006, .rows 2 51 (.int .u64))]
abbrev cl : List (Place × Nat × Hint) := [(.slot 7, 3, (.row 2 51 (.int .u64)))]
abbrev hn : List (Nat × Hint) := [(2, .any), (7, .any), (9, (.row 2 4 .bool)), (10, .any), (55, .any), (56, .any), (57, .any)]
abbrev kp : List Nat := [0, 1, 2]
abbrev rc : List (Place × Nat × Hint) := []
abbrev rs : List (Nat × Hint) := [(4, .any)]
abbrev ri : List Nat := [0, 1, 2]
def KX (d : (Unit × Unit × Unit × Int × Unit × Int × Int × Unit)) (e : ((List (Int × (Int × (List (List Int))))) × (List Int) × (List Int) × (Int × (Int × Int)) × ((Int × (Int × Int)) × (Unit × (Int × Int))) × (List Bool) × (List Int) × Unit)) (v : (Int × (Int × ((Int × (Int × Int)) × ((Int × Int) × ((List Bool) × (List Int))))))) : St := ⟨mkS S ((), (), (), v.1, (), d.2.2.2.2.2.1, v.2.1, ()), mkH H (e.1, e.2.1, e.2.2.1, e.2.2.2.1, (v.2.2.1, ((), v.2.2.2.1)), v.2.2.2.2.1, v.2.2.2.2.2, ())⟩
abbrev RS : List (Nat × Sh) := [(4, .data .bool)]
abbrev RH : List (Nat × ESh) := [(0, .rows 0 28 (.pair (.int .i64) (.pair (.int .i64) (.row 35 (.arr .u8 32))))), (1, .glob 0 (.arr .u32 8)), (2, .glob 1 (.arr .u32 64))]
def RX (d : (Unit × Unit × Unit × Int × Unit × Int × Int × Unit)) (e : ((List (Int × (Int × (List (List Int))))) × (List Int) × (List Int) × (Int × (Int × Int)) × ((Int × (Int × Int)) × (Unit × (Int × Int))) × (List Bool) × (List Int) × Unit)) (v : Bool) : St := ⟨mkS RS (v, ()), mkH RH (e.1, e.2.1, e.2.2.1, ())⟩
def sum (k : Nat) : LoopSum := sigLoop S cl hn kp H 2 (fun (d : (Unit × Unit × Unit × Int × Unit × Int × Int × Unit)) (e : ((List (Int × (Int × (List (List Int))))) × (List Int) × (List Int) × (Int × (Int × Int)) × ((Int × (Int × Int)) × (Unit × (Int × Int))) × (List Bool) × (List Int) × Unit)) => f k d.2.2.2.2.2.1 e.1 e.2.1 e.2.2.1 e.2.2.2.1 k d.2.2.2.1 d.2.2.2.2.2.2.1 e.2.2.2.2.1.1 e.2.2.2.2.1.2.2 e.2.2.2.2.2.1 e.2.2.2.2.2.2.1) KX RX
end l2
namespace l6
def step {X : Type} (K : Int → Option X) (Q : Bool → Option X) (G : Int → Option X) (k : Nat) (x162 : Int) (y0 : (List (Int × (Int × (List (List Int)))))) (y1 : (List Int)) (y2 : (List Int)) (y800003 : (List Bool)) (y800004 : (List Bool)) (x163 : Int) : Option X :=
  (bif (decide (x163 < x162)) then (bif (decide (x163 ≥ ((List.length y800003) : Int))) then (Q false) else (bif (decide (0 ≤ x163)) then (bif (decide (x163 < ((List.length y800004) : Int))) then (bif (decide ((Int.toNat x163) < (List.length y800004))) then (bif (decide (0 ≤ x163)) then (bif (decide (x163 < ((List.length y800003) : Int))) then (bif (decide ((Int.toNat x163) < (List.length y800003))) then (bif (!((List.getD y800004 (Int.toNat x163) (false : Bool)) == (List.getD y800003 (Int.toNat x163) (false : Bool)))) then (Q false) else (G (addI .i64 x163 1))) else none) else none) else none) else none) else none) else none)) else (K x163))
def go {X : Type} (K : Int → Option X) (Q : Bool → Option X) (k : Nat) (x162 : Int) (y0 : (List (Int × (Int × (List (List Int)))))) (y1 : (List Int)) (y2 : (List Int)) (y800003 : (List Bool)) (y800004 : (List Bool)) : Nat → Int → Option X
  | 0, _ => none
  | n + 1, x163 => step K Q (go K Q k x162 y0 y1 y2 y800003 y800004 n) k x162 y0 y1 y2 y800003 y800004 x163
def f (k : Nat) (x162 : Int) (y0 : (List (Int × (Int × (List (List Int)))))) (y1 : (List Int)) (y2 : (List Int)) (y800003 : (List Bool)) (y800004 : (List Bool)) (n : Nat) (x163 : Int) : Option (Int ⊕ Bool) := go (fun x163 => some (.inl x163)) (fun q0 => some (.inr q0)) k x162 y0 y1 y2 y800003 y800004 n x163
theorem step_nat {X Y : Type} (h : X → Option Y) (K : Int → Option X) (Q : Bool → Option X) (G : Int → Option X) (k : Nat) (x162 : Int) (y0 : (List (Int × (Int × (List (List Int)))))) (y1 : (List Int)) (y2 : (List Int)) (y800003 : (List Bool)) (y800004 : (List Bool)) (x163 : Int) : Option.bind (step K Q G k x162 y0 y1 y2 y800003 y800004 x163) h = step (fun x163 => Option.bind (K x163) h) (fun q0 => Option.bind (Q q0) h) (fun x163 => Option.bind (G x163) h) k x162 y0 y1 y2 y800003 y800004 x163 := by
  simp only [step, bif_bind, sel_bind', Option.bind_assoc, Option.bind_none, Option.bind_some]
theorem go_nat {X Y : Type} (h : X → Option Y) (K : Int → Option X) (Q : Bool → Option X) (k : Nat) (x162 : Int) (y0 : (List (Int × (Int × (List (List Int)))))) (y1 : (List Int)) (y2 : (List Int)) (y800003 : (List Bool)) (y800004 : (List Bool)) (n : Nat) : ∀ (x163 : Int), Option.bind (go K Q k x162 y0 y1 y2 y800003 y800004 n x163) h = go (fun x163 => Option.bind (K x163) h) (fun q0 => Option.bind (Q q0) h) k x162 y0 y1 y2 y800003 y800004 n x163 := by
  induction n with
  | zero => intros; rfl
  | succ n ih => intro x163; show Option.bind (step K Q (go K Q k x162 y0 y1 y2 y800003 y800004 n) k x162 y0 y1 y2 y800003 y800004 x163) h = step (fun x163 => Option.bind (K x163) h) (fun q0 => Option.bind (Q q0) h) (go (fun x163 => Option.bind (K x163) h) (fun q0 => Option.bind (Q q0) h) k x162 y0 y1 y2 y800003 y800004 n) k x162 y0 y1 y2 y800003 y800004 x163; rw [step_nat h]; simp only [ih]
abbrev S : List (Nat × Sh) := [(9, .vec 800003), (19, .vec 800004), (162, .data (.int .i64)), (163, .data (.int .i64))]
abbrev H : List (Nat × ESh) := [(0, .rows 0 28 (.pair (.int .i64) (.pair (.int .i64) (.row 35 (.arr .u8 32))))), (1, .glob 0 (.arr .u32 8)), (2, .glob 1 (.arr .u32 64)), (800003, .rows 2 4 .bool), (800004, .rows 2 4 .bool)]
abbrev cl : List (Place × Nat × Hint) := []
abbrev hn : List (Nat × Hint) := [(9, .any), (19, .any), (162, .any), (163, .any)]
abbrev kp : List Nat := [0, 1, 2]
abbrev rc : List (Place × Nat × Hint) := []
abbrev rs : List (Nat × Hint) := [(4, .any)]
abbrev ri : List Nat := [0, 1, 2]
def KX (d : (Unit × Unit × Int × Int × Unit)) (e : ((List (Int × (Int × (List (List Int))))) × (List Int) × (List Int) × (List Bool) × (List Bool) × Unit)) (v : Int) : St := ⟨mkS S ((), (), d.2.2.1, v, ()), mkH H (e.1, e.2.1, e.2.2.1, e.2.2.2.1, e.2.2.2.2.1, ())⟩
abbrev RS : List (Nat × Sh) := [(4, .data .bool)]
abbrev RH : List (Nat × ESh) := [(0, .rows 0 28 (.pair (.int .i64) (.pair (.int .i64) (.row 35 (.arr .u8 32))))), (1, .glob 0 (.arr .u32 8)), (2, .glob 1 (.arr .u32 64))]
def RX (d : (Unit × Unit × Int × Int × Unit)) (e : ((List (Int × (Int × (List (List Int))))) × (List Int) × (List Int) × (List Bool) × (List Bool) × Unit)) (v : Bool) : St := ⟨mkS RS (v, ()), mkH RH (e.1, e.2.1, e.2.2.1, ())⟩
def sum (k : Nat) : LoopSum := sigLoop S cl hn kp H 6 (fun (d : (Unit × Unit × Int × Int × Unit)) (e : ((List (Int × (Int × (List (List Int))))) × (List Int) × (List Int) × (List Bool) × (List Bool) × Unit)) => f k d.2.2.1 e.1 e.2.1 e.2.2.1 e.2.2.2.1 e.2.2.2.2.1 k d.2.2.2.1) KX RX
end l6
def tree {X : Type} (K : Bool → Option X) (k : Nat) (a0 : (Int × (Int × Int))) (m0 : (List (Int × (Int × (List (List Int)))))) (m1 : (List Int)) (m2 : (List Int)) : Option X :=
  (Option.bind (trailheadlaw18_alive.f k m1 m2) (fun r1 => (bif (!r1) then (K false) else (bif (decide (((List.length m0) : Int) > (30 : Int))) then (K true) else (Option.bind (trailheadlaw18_PledgeDoes.l0.f k ((List.length m0) : Int) m0 m1 m2 a0 k (0 : Int)) (fun r2 => sel r2 (fun v3 => (Option.bind (pledge_New.f k a0) (fun r5 => sel r5 (fun v6 => (K true)) (fun w7 => (Option.bind (trailheadlaw18_PledgeDoes.l2.f k ((List.length m0) : Int) m0 m1 m2 a0 k (0 : Int) (0 : Int) w7.1 w7.2 ([] : (List Bool)) ([] : (List Int))) (fun r27 => sel r27 (fun v28 => (Option.bind (pledge_Book_Bits_v1.f k v28.2.2.1 v28.2.2.2.1 v28.2.2.2.2.2) (fun r30 => (Option.bind (trailheadlaw18_PledgeDoes.l6.f k ((List.length r30) : Int) m0 m1 m2 v28.2.2.2.2.1 r30 k (0 : Int)) (fun r31 => sel r31 (fun v32 => (bif (((List.length r30) : Int) == ((List.length v28.2.2.2.2.1) : Int)) then (Option.bind (pledge_Book_Give_v4.f k (0 : Int) ([[0, 0, 0, 0, 0, 0, 0, 0, 0, 0, 0, 0, 0, 0, 0, 0, 0, 0, 0, 0, 0, 0, 0, 0, 0, 0, 0, 0, 0, 0, 0, 0]] : (List (List Int))) m1 m2) (fun r34 => (bif (r34 == (0 : Int)) then (Option.bind (pledge_Book_Meet_v2.f k (0 : Int) ([0, 0, 0, 0, 0, 0, 0, 0, 0, 0, 0, 0, 0, 0, 0, 0, 0, 0, 0, 0, 0, 0, 0, 0, 0, 0, 0, 0, 0, 0, 0, 0] : (List Int)) m1 m2) (fun r35 => (bif (!r35) then (Option.bind (pledge_Book_Left_v1.f k) (fun r36 => (Option.bind (pledge_Book_Given_v1.f k) (fun r37 => (Option.bind (pledge_Book_Bits.f k) (fun r38 => (K ((addI .i64 (addI .i64 r36 r37) 0) == (0 : Int))))))))) else (K false)))) else (K false)))) else (K false))) (fun q33 => (K q33))))))) (fun q29 => (K q29)))))))) (fun q4 => (K q4))))))))
def f (k : Nat) (a0 : (Int × (Int × Int))) (m0 : (List (Int × (Int × (List (List Int)))))) (m1 : (List Int)) (m2 : (List Int)) : Option Bool := tree (fun b0 => some b0) k a0 m0 m1 m2
theorem tree_nat {X Y : Type} (h : X → Option Y) (K : Bool → Option X) (k : Nat) (a0 : (Int × (Int × Int))) (m0 : (List (Int × (Int × (List (List Int)))))) (m1 : (List Int)) (m2 : (List Int)) : Option.bind (tree K k a0 m0 m1 m2) h = tree (fun b0 => Option.bind (K b0) h) k a0 m0 m1 m2 := by
  simp only [tree, bif_bind, sel_bind', Option.bind_assoc, Option.bind_none, Option.bind_some]
abbrev ps : List Sh := [.data (.pair (.int .i64) (.pair (.int .i64) (.int .i64))), .vec 0]
abbrev hs : List (Nat × ESh) := [(0, .rows 0 28 (.pair (.int .i64) (.pair (.int .i64) (.row 35 (.arr .u8 32))))), (1, .glob 0 (.arr .u32 8)), (2, .glob 1 (.arr .u32 64))]
abbrev hi : List Nat := hs.map (·.1)
abbrev fi : List Nat := [0, 1, 2]
abbrev cl : List (Place × Nat × Hint) := []
abbrev hn : List Hint := [.any]
def val (t : Bool) : AV := Sh.mk (.data .bool) t
def wr (t : Bool) : Heap := []
def callee (k : Nat) : Callee := sigCallee ps hs (fun (d : ((Int × (Int × Int)) × Unit × Unit)) (e : ((List (Int × (Int × (List (List Int))))) × (List Int) × (List Int) × Unit)) => f k d.1 e.1 e.2.1 e.2.2.1) val wr
def E (k : Nat) : Env := ⟨fnTab [(4, [trailheadlaw18_alive.callee k]), (5, [pledge_New.callee k]), (6, [trailheadref18_Due.callee k]), (7, [trailheadref18_Bit.callee k]), (8, [pledge_Book_Meet.callee k, pledge_Book_Meet_v2.callee k]), (9, [pledge_Book_Give_v3.callee k, pledge_Book_Give_v4.callee k]), (10, [pledge_Book_Given.callee k, pledge_Book_Given_v1.callee k]), (11, [pledge_Book_Left.callee k, pledge_Book_Left_v1.callee k]), (12, [pledge_Book_Bits_v1.callee k, pledge_Book_Bits.callee k])], loopTab [(0, l0.sum k), (4, l4.sum k), (2, l2.sum k), (6, l6.sum k)], natsTab [(4, [1, 2]), (8, [1, 2]), (9, [1, 2])], natTab [(0, 1), (1, 2)]⟩
theorem fE (k : Nat) : ∀ f, ∀ c ∈ (E k).fn f, CalleeOK Tryd.prog f c := fnTab_ok ⟨⟨trailheadlaw18_alive.ok k, trivial⟩, ⟨pledge_New.ok k, trivial⟩, ⟨trailheadref18_Due.ok k, trivial⟩, ⟨trailheadref18_Bit.ok k, trivial⟩, ⟨pledge_Book_Meet.ok k, pledge_Book_Meet_v2.ok k, trivial⟩, ⟨pledge_Book_Give_v3.ok k, pledge_Book_Give_v4.ok k, trivial⟩, ⟨pledge_Book_Given.ok k, pledge_Book_Given_v1.ok k, trivial⟩, ⟨pledge_Book_Left.ok k, pledge_Book_Left_v1.ok k, trivial⟩, ⟨pledge_Book_Bits_v1.ok k, pledge_Book_Bits.ok k, trivial⟩, trivial⟩
namespace l0
theorem round (k : Nat) (d : (Unit × Unit × Unit × Int × Int × Unit)) (e : ((List (Int × (Int × (List (List Int))))) × (List Int) × (List Int) × (Int × (Int × Int)) × Unit)) (G : St → Option (Ex × St)) : roundK Tryd.prog (E k) 212 0 (subC (bodyOf Tryd.f3) [1, 1, 1, 0, 1, 0, 0]) (recast cl hn kp) (finBy cl hn kp rc rs ri) G ⟨mkS S d, mkH H e⟩ =
    step (fun x29 => some (.exit 0, KX d e x29)) (fun q0 => some (.ret, RX d e q0)) (fun x29 => G ⟨mkS S ((), (), (), d.2.2.2.1, x29, ()), mkH H (e.1, e.2.1, e.2.2.1, e.2.2.2.1, ())⟩) k d.2.2.2.1 e.1 e.2.1 e.2.2.1 e.2.2.2.1 d.2.2.2.2.1 := by kernel_rfl
theorem it (k n : Nat) (d : (Unit × Unit × Unit × Int × Int × Unit)) (e : ((List (Int × (Int × (List (List Int))))) × (List Int) × (List Int) × (Int × (Int × Int)) × Unit)) : loopIt Tryd.prog (E k) 212 0 (subC (bodyOf Tryd.f3) [1, 1, 1, 0, 1, 0, 0]) (recast cl hn kp) (finBy cl hn kp rc rs ri) n ⟨mkS S d, mkH H e⟩ = go (fun x29 => some (.exit 0, KX d e x29)) (fun q0 => some (.ret, RX d e q0)) k d.2.2.2.1 e.1 e.2.1 e.2.2.1 e.2.2.2.1 n d.2.2.2.2.1 :=
  loopIt_eq (D := (Unit × Unit × Unit × Int × Int × Unit) × ((List (Int × (Int × (List (List Int))))) × (List Int) × (List Int) × (Int × (Int × Int)) × Unit)) (fun p => ⟨mkS S p.1, mkH H p.2⟩) (fun F p => step (fun x29 => some (.exit 0, KX p.1 p.2 x29)) (fun q0 => some (.ret, RX p.1 p.2 q0)) (fun x29 => F (((), (), (), p.1.2.2.2.1, x29, ()), (p.2.1, p.2.2.1, p.2.2.2.1, p.2.2.2.2.1, ()))) k p.1.2.2.2.1 p.2.1 p.2.2.1 p.2.2.2.1 p.2.2.2.2.1 p.1.2.2.2.2.1) (fun n p => go (fun x29 => some (.exit 0, KX p.1 p.2 x29)) (fun q0 => some (.ret, RX p.1 p.2 q0)) k p.1.2.2.2.1 p.2.1 p.2.2.1 p.2.2.2.1 p.2.2.2.2.1 n p.1.2.2.2.2.1) (fun _ => rfl) (fun _ _ => rfl) (fun G p => round k p.1 p.2 G) n (d, e)
theorem ok (k : Nat) : LoopOK Tryd.prog 212 (subC (bodyOf Tryd.f3) [1, 1, 1, 0, 1, 0, 0]) (sum k) :=
  loop_sig hm (fE k) (loopsOK_of [] (by kernel_rfl) trivial) S cl hn kp H 0 (fun (d : (Unit × Unit × Unit × Int × Int × Unit)) (e : ((List (Int × (Int × (List (List Int))))) × (List Int) × (List Int) × (Int × (Int × Int)) × Unit)) => f k d.2.2.2.1 e.1 e.2.1 e.2.2.1 e.2.2.2.1 k d.2.2.2.2.1) KX RX cl hn kp rc rs ri k
    (fun d e => (it k k d e).trans (go_nat (exitOf 0 (KX d e) (RX d e)) (fun x29 => some (.inl x29)) (fun q0 => some (.inr q0)) k d.2.2.2.1 e.1 e.2.1 e.2.2.1 e.2.2.2.1 k d.2.2.2.2.1).symm)
end l0
namespace l4
theorem round (k : Nat) (d : (Unit × Unit × Unit × Int × Unit × Int × Unit × Int × Int × Unit × Int × Int × Unit)) (e : ((List (Int × (Int × (List (List Int))))) × (List Int) × (List Int) × (Int × (Int × Int)) × ((Int × (Int × Int)) × (Unit × (Int × Int))) × (List Bool) × (Int × (Int × (List (List Int)))) × (List (List Int)) × (List Int) × Unit)) (G : St → Option (Ex × St)) : roundK Tryd.prog (E k) 212 4 (subC (bodyOf Tryd.f3) [1, 1, 1, 1, 1, 1, 1, 1, 0, 1, 0, 0, 1, 1, 0, 0, 1, 1, 0, 1, 0, 0]) (recast cl hn kp) (finBy cl hn kp rc rs ri) G ⟨mkS S d, mkH H e⟩ =
    step (fun x10 x13 x64 y800004_0 y800004_1 y800005 => some (.exit 4, KX d e (x10, x13, x64, y800004_0, y800004_1, y800005))) (fun q0 => some (.ret, RX d e q0)) (fun x10 x13 x64 y800004_0 y800004_1 y800005 => G ⟨mkS S ((), (), (), x10, (), x13, (), d.2.2.2.2.2.2.2.1, d.2.2.2.2.2.2.2.2.1, (), d.2.2.2.2.2.2.2.2.2.2.1, x64, ()), mkH H (e.1, e.2.1, e.2.2.1, e.2.2.2.1, (y800004_0, ((), y800004_1)), y800005, e.2.2.2.2.2.2.1, e.2.2.2.2.2.2.2.1, e.2.2.2.2.2.2.2.2.1, ())⟩) k d.2.2.2.2.2.2.2.1 d.2.2.2.2.2.2.2.2.1 d.2.2.2.2.2.2.2.2.2.2.1 e.1 e.2.1 e.2.2.1 e.2.2.2.1 e.2.2.2.2.2.2.1 e.2.2.2.2.2.2.2.1 e.2.2.2.2.2.2.2.2.1 d.2.2.2.1 d.2.2.2.2.2.1 d.2.2.2.2.2.2.2.2.2.2.2.1 e.2.2.2.2.1.1 e.2.2.2.2.1.2.2 e.2.2.2.2.2.1 := by kernel_rfl
theorem it (k n : Nat) (d : (Unit × Unit × Unit × Int × Unit × Int × Unit × Int × Int × Unit × Int × Int × Unit)) (e : ((List (Int × (Int × (List (List Int))))) × (List Int) × (List Int) × (Int × (Int × Int)) × ((Int × (Int × Int)) × (Unit × (Int × Int))) × (List Bool) × (Int × (Int × (List (List Int)))) × (List (List Int)) × (List Int) × Unit)) : loopIt Tryd.prog (E k) 212 4 (subC (bodyOf Tryd.f3) [1, 1, 1, 1, 1, 1, 1, 1, 0, 1, 0, 0, 1, 1, 0, 0, 1, 1, 0, 1, 0, 0]) (recast cl hn kp) (finBy cl hn kp rc rs ri) n ⟨mkS S d, mkH H e⟩ = go (fun x10 x13 x64 y800004_0 y800004_1 y800005 => some (.exit 4, KX d e (x10, x13, x64, y800004_0, y800004_1, y800005))) (fun q0 => some (.ret, RX d e q0)) k d.2.2.2.2.2.2.2.1 d.2.2.2.2.2.2.2.2.1 d.2.2.2.2.2.2.2.2.2.2.1 e.1 e.2.1 e.2.2.1 e.2.2.2.1 e.2.2.2.2.2.2.1 e.2.2.2.2.2.2.2.1 e.2.2.2.2.2.2.2.2.1 n d.2.2.2.1 d.2.2.2.2.2.1 d.2.2.2.2.2.2.2.2.2.2.2.1 e.2.2.2.2.1.1 e.2.2.2.2.1.2.2 e.2.2.2.2.2.1 :=
  loopIt_eq (D := (Unit × Unit × Unit × Int × Unit × Int × Unit × Int × Int × Unit × Int × Int × Unit) × ((List (Int × (Int × (List (List Int))))) × (List Int) × (List Int) × (Int × (Int × Int)) × ((Int × (Int × Int)) × (Unit × (Int × Int))) × (List Bool) × (Int × (Int × (List (List Int)))) × (List (List Int)) × (List Int) × Unit)) (fun p => ⟨mkS S p.1, mkH H p.2⟩) (fun F p => step (fun x10 x13 x64 y800004_0 y800004_1 y800005 => some (.exit 4, KX p.1 p.2 (x10, x13, x64, y800004_0, y800004_1, y800005))) (fun q0 => some (.ret, RX p.1 p.2 q0)) (fun x10 x13 x64 y800004_0 y800004_1 y800005 => F (((), (), (), x10, (), x13, (), p.1.2.2.2.2.2.2.2.1, p.1.2.2.2.2.2.2.2.2.1, (), p.1.2.2.2.2.2.2.2.2.2.2.1, x64, ()), (p.2.1, p.2.2.1, p.2.2.2.1, p.2.2.2.2.1, (y800004_0, ((), y800004_1)), y800005, p.2.2.2.2.2.2.2.1, p.2.2.2.2.2.2.2.2.1, p.2.2.2.2.2.2.2.2.2.1, ()))) k p.1.2.2.2.2.2.2.2.1 p.1.2.2.2.2.2.2.2.2.1 p.1.2.2.2.2.2.2.2.2.2.2.1 p.2.1 p.2.2.1 p.2.2.2.1 p.2.2.2.2.1 p.2.2.2.2.2.2.2.1 p.2.2.2.2.2.2.2.2.1 p.2.2.2.2.2.2.2.2.2.1 p.1.2.2.2.1 p.1.2.2.2.2.2.1 p.1.2.2.2.2.2.2.2.2.2.2.2.1 p.2.2.2.2.2.1.1 p.2.2.2.2.2.1.2.2 p.2.2.2.2.2.2.1) (fun n p => go (fun x10 x13 x64 y800004_0 y800004_1 y800005 => some (.exit 4, KX p.1 p.2 (x10, x13, x64, y800004_0, y800004_1, y800005))) (fun q0 => some (.ret, RX p.1 p.2 q0)) k p.1.2.2.2.2.2.2.2.1 p.1.2.2.2.2.2.2.2.2.1 p.1.2.2.2.2.2.2.2.2.2.2.1 p.2.1 p.2.2.1 p.2.2.2.1 p.2.2.2.2.1 p.2.2.2.2.2.2.2.1 p.2.2.2.2.2.2.2.2.1 p.2.2.2.2.2.2.2.2.2.1 n p.1.2.2.2.1 p.1.2.2.2.2.2.1 p.1.2.2.2.2.2.2.2.2.2.2.2.1 p.2.2.2.2.2.1.1 p.2.2.2.2.2.1.2.2 p.2.2.2.2.2.2.1) (fun _ => rfl) (fun _ _ => rfl) (fun G p => round k p.1 p.2 G) n (d, e)
theorem ok (k : Nat) : LoopOK Tryd.prog 212 (subC (bodyOf Tryd.f3) [1, 1, 1, 1, 1, 1, 1, 1, 0, 1, 0, 0, 1, 1, 0, 0, 1, 1, 0, 1, 0, 0]) (sum k) :=
  loop_sig hm (fE k) (loopsOK_of [] (by kernel_rfl) trivial) S cl hn kp H 4 (fun (d : (Unit × Unit × Unit × Int × Unit × Int × Unit × Int × Int × Unit × Int × Int × Unit)) (e : ((List (Int × (Int × (List (List Int))))) × (List Int) × (List Int) × (Int × (Int × Int)) × ((Int × (Int × Int)) × (Unit × (Int × Int))) × (List Bool) × (Int × (Int × (List (List Int)))) × (List (List Int)) × (List Int) × Unit)) => f k d.2.2.2.2.2.2.2.1 d.2.2.2.2.2.2.2.2.1 d.2.2.2.2.2.2.2.2.2.2.1 e.1 e.2.1 e.2.2.1 e.2.2.2.1 e.2.2.2.2.2.2.1 e.2.2.2.2.2.2.2.1 e.2.2.2.2.2.2.2.2.1 k d.2.2.2.1 d.2.2.2.2.2.1 d.2.2.2.2.2.2.2.2.2.2.2.1 e.2.2.2.2.1.1 e.2.2.2.2.1.2.2 e.2.2.2.2.2.1) KX RX cl hn kp rc rs ri k
    (fun d e => (it k k d e).trans (go_nat (exitOf 4 (KX d e) (RX d e)) (fun x10 x13 x64 y800004_0 y800004_1 y800005 => some (.inl (x10, x13, x64, y800004_0, y800004_1, y800005))) (fun q0 => some (.inr q0)) k d.2.2.2.2.2.2.2.1 d.2.2.2.2.2.2.2.2.1 d.2.2.2.2.2.2.2.2.2.2.1 e.1 e.2.1 e.2.2.1 e.2.2.2.1 e.2.2.2.2.2.2.1 e.2.2.2.2.2.2.2.1 e.2.2.2.2.2.2.2.2.1 k d.2.2.2.1 d.2.2.2.2.2.1 d.2.2.2.2.2.2.2.2.2.2.2.1 e.2.2.2.2.1.1 e.2.2.2.2.1.2.2 e.2.2.2.2.2.1).symm)
end l4
namespace l2
theorem round (k : Nat) (d : (Unit × Unit × Unit × Int × Unit × Int × Int × Unit)) (e : ((List (Int × (Int × (List (List Int))))) × (List Int) × (List Int) × (Int × (Int × Int)) × ((Int × (Int × Int)) × (Unit × (Int × Int))) × (List Bool) × (List Int) × Unit)) (G : St → Option (Ex × St)) : roundK Tryd.prog (E k) 212 2 (subC (bodyOf Tryd.f3) [1, 1, 1, 1, 1, 1, 1, 1, 0, 1, 0, 0]) (recast cl hn kp) (finBy cl hn kp rc rs ri) G ⟨mkS S d, mkH H e⟩ =
    step (fun x10 x57 y800004_0 y800004_1 y800005 y800006 => some (.exit 2, KX d e (x10, x57, y800004_0, y800004_1, y800005, y800006))) (fun q0 => some (.ret, RX d e q0)) (fun x10 x57 y800004_0 y800004_1 y800005 y800006 => G ⟨mkS S ((), (), (), x10, (), d.2.2.2.2.2.1, x57, ()), mkH H (e.1, e.2.1, e.2.2.1, e.2.2.2.1, (y800004_0, ((), y800004_1)), y800005, y800006, ())⟩) k d.2.2.2.2.2.1 e.1 e.2.1 e.2.2.1 e.2.2.2.1 d.2.2.2.1 d.2.2.2.2.2.2.1 e.2.2.2.2.1.1 e.2.2.2.2.1.2.2 e.2.2.2.2.2.1 e.2.2.2.2.2.2.1 := by kernel_rfl
theorem it (k n : Nat) (d : (Unit × Unit × Unit × Int × Unit × Int × Int × Unit)) (e : ((List (Int × (Int × (List (List Int))))) × (List Int) × (List Int) × (Int × (Int × Int)) × ((Int × (Int × Int)) × (Unit × (Int × Int))) × (List Bool) × (List Int) × Unit)) : loopIt Tryd.prog (E k) 212 2 (subC (bodyOf Tryd.f3) [1, 1, 1, 1, 1, 1, 1, 1, 0, 1, 0, 0]) (recast cl hn kp) (finBy cl hn kp rc rs ri) n ⟨mkS S d, mkH H e⟩ = go (fun x10 x57 y800004_0 y800004_1 y800005 y800006 => some (.exit 2, KX d e (x10, x57, y800004_0, y800004_1, y800005, y800006))) (fun q0 => some (.ret, RX d e q0)) k d.2.2.2.2.2.1 e.1 e.2.1 e.2.2.1 e.2.2.2.1 n d.2.2.2.1 d.2.2.2.2.2.2.1 e.2.2.2.2.1.1 e.2.2.2.2.1.2.2 e.2.2.2.2.2.1 e.2.2.2.2.2.2.1 :=
  loopIt_eq (D := (Unit × Unit × Unit × Int × Unit × Int × Int × Unit) × ((List (Int × (Int × (List (List Int))))) × (List Int) × (List Int) × (Int × (Int × Int)) × ((Int × (Int × Int)) × (Unit × (Int × Int))) × (List Bool) × (List Int) × Unit)) (fun p => ⟨mkS S p.1, mkH H p.2⟩) (fun F p => step (fun x10 x57 y800004_0 y800004_1 y800005 y800006 => some (.exit 2, KX p.1 p.2 (x10, x57, y800004_0, y800004_1, y800005, y800006))) (fun q0 => some (.ret, RX p.1 p.2 q0)) (fun x10 x57 y800004_0 y800004_1 y800005 y800006 => F (((), (), (), x10, (), p.1.2.2.2.2.2.1, x57, ()), (p.2.1, p.2.2.1, p.2.2.2.1, p.2.2.2.2.1, (y800004_0, ((), y800004_1)), y800005, y800006, ()))) k p.1.2.2.2.2.2.1 p.2.1 p.2.2.1 p.2.2.2.1 p.2.2.2.2.1 p.1.2.2.2.1 p.1.2.2.2.2.2.2.1 p.2.2.2.2.2.1.1 p.2.2.2.2.2.1.2.2 p.2.2.2.2.2.2.1 p.2.2.2.2.2.2.2.1) (fun n p => go (fun x10 x57 y800004_0 y800004_1 y800005 y800006 => some (.exit 2, KX p.1 p.2 (x10, x57, y800004_0, y800004_1, y800005, y800006))) (fun q0 => some (.ret, RX p.1 p.2 q0)) k p.1.2.2.2.2.2.1 p.2.1 p.2.2.1 p.2.2.2.1 p.2.2.2.2.1 n p.1.2.2.2.1 p.1.2.2.2.2.2.2.1 p.2.2.2.2.2.1.1 p.2.2.2.2.2.1.2.2 p.2.2.2.2.2.2.1 p.2.2.2.2.2.2.2.1) (fun _ => rfl) (fun _ _ => rfl) (fun G p => round k p.1 p.2 G) n (d, e)
theorem ok (k : Nat) : LoopOK Tryd.prog 212 (subC (bodyOf Tryd.f3) [1, 1, 1, 1, 1, 1, 1, 1, 0, 1, 0, 0]) (sum k) :=
  loop_sig hm (fE k) (loopsOK_of [(4, subC (bodyOf Tryd.f3) [1, 1, 1, 1, 1, 1, 1, 1, 0, 1, 0, 0, 1, 1, 0, 0, 1, 1, 0, 1, 0, 0])] (by kernel_rfl) ⟨of_loop (l4.sum k) rfl (l4.ok k), trivial⟩) S cl hn kp H 2 (fun (d : (Unit × Unit × Unit × Int × Unit × Int × Int × Unit)) (e : ((List (Int × (Int × (List (List Int))))) × (List Int) × (List Int) × (Int × (Int × Int)) × ((Int × (Int × Int)) × (Unit × (Int × Int))) × (List Bool) × (List Int) × Unit)) => f k d.2.2.2.2.2.1 e.1 e.2.1 e.2.2.1 e.2.2.2.1 k d.2.2.2.1 d.2.2.2.2.2.2.1 e.2.2.2.2.1.1 e.2.2.2.2.1.2.2 e.2.2.2.2.2.1 e.2.2.2.2.2.2.1) KX RX cl hn kp rc rs ri k
    (fun d e => (it k k d e).trans (go_nat (exitOf 2 (KX d e) (RX d e)) (fun x10 x57 y800004_0 y800004_1 y800005 y800006 => some (.inl (x10, x57, y800004_0, y800004_1, y800005, y800006))) (fun q0 => some (.inr q0)) k d.2.2.2.2.2.1 e.1 e.2.1 e.2.2.1 e.2.2.2.1 k d.2.2.2.1 d.2.2.2.2.2.2.1 e.2.2.2.2.1.1 e.2.2.2.2.1.2.2 e.2.2.2.2.2.1 e.2.2.2.2.2.2.1).symm)
end l2
namespace l6
theorem round (k : Nat) (d : (Unit × Unit × Int × Int × Unit)) (e : ((List (Int × (Int × (List (List Int))))) × (List Int) × (List Int) × (List Bool) × (List Bool) × Unit)) (G : St → Option (Ex × St)) : roundK Tryd.prog (E k) 212 6 (subC (bodyOf Tryd.f3) [1, 1, 1, 1, 1, 1, 1, 1, 1, 1, 0, 1, 0, 0]) (recast cl hn kp) (finBy cl hn kp rc rs ri) G ⟨mkS S d, mkH H e⟩ =
    step (fun x163 => some (.exit 6, KX d e x163)) (fun q0 => some (.ret, RX d e q0)) (fun x163 => G ⟨mkS S ((), (), d.2.2.1, x163, ()), mkH H (e.1, e.2.1, e.2.2.1, e.2.2.2.1, e.2.2.2.2.1, ())⟩) k d.2.2.1 e.1 e.2.1 e.2.2.1 e.2.2.2.1 e.2.2.2.2.1 d.2.2.2.1 := by kernel_rfl
theorem it (k n : Nat) (d : (Unit × Unit × Int × Int × Unit)) (e : ((List (Int × (Int × (List (List Int))))) × (List Int) × (List Int) × (List Bool) × (List Bool) × Unit)) : loopIt Tryd.prog (E k) 212 6 (subC (bodyOf Tryd.f3) [1, 1, 1, 1, 1, 1, 1, 1, 1, 1, 0, 1, 0, 0]) (recast cl hn kp) (finBy cl hn kp rc rs ri) n ⟨mkS S d, mkH H e⟩ = go (fun x163 => some (.exit 6, KX d e x163)) (fun q0 => some (.ret, RX d e q0)) k d.2.2.1 e.1 e.2.1 e.2.2.1 e.2.2.2.1 e.2.2.2.2.1 n d.2.2.2.1 :=
  loopIt_eq (D := (Unit × Unit × Int × Int × Unit) × ((List (Int × (Int × (List (List Int))))) × (List Int) × (List Int) × (List Bool) × (List Bool) × Unit)) (fun p => ⟨mkS S p.1, mkH H p.2⟩) (fun F p => step (fun x163 => some (.exit 6, KX p.1 p.2 x163)) (fun q0 => some (.ret, RX p.1 p.2 q0)) (fun x163 => F (((), (), p.1.2.2.1, x163, ()), (p.2.1, p.2.2.1, p.2.2.2.1, p.2.2.2.2.1, p.2.2.2.2.2.1, ()))) k p.1.2.2.1 p.2.1 p.2.2.1 p.2.2.2.1 p.2.2.2.2.1 p.2.2.2.2.2.1 p.1.2.2.2.1) (fun n p => go (fun x163 => some (.exit 6, KX p.1 p.2 x163)) (fun q0 => some (.ret, RX p.1 p.2 q0)) k p.1.2.2.1 p.2.1 p.2.2.1 p.2.2.2.1 p.2.2.2.2.1 p.2.2.2.2.2.1 n p.1.2.2.2.1) (fun _ => rfl) (fun _ _ => rfl) (fun G p => round k p.1 p.2 G) n (d, e)
theorem ok (k : Nat) : LoopOK Tryd.prog 212 (subC (bodyOf Tryd.f3) [1, 1, 1, 1, 1, 1, 1, 1, 1, 1, 0, 1, 0, 0]) (sum k) :=
  loop_sig hm (fE k) (loopsOK_of [] (by kernel_rfl) trivial) S cl hn kp H 6 (fun (d : (Unit × Unit × Int × Int × Unit)) (e : ((List (Int × (Int × (List (List Int))))) × (List Int) × (List Int) × (List Bool) × (List Bool) × Unit)) => f k d.2.2.1 e.1 e.2.1 e.2.2.1 e.2.2.2.1 e.2.2.2.2.1 k d.2.2.2.1) KX RX cl hn kp rc rs ri k
    (fun d e => (it k k d e).trans (go_nat (exitOf 6 (KX d e) (RX d e)) (fun x163 => some (.inl x163)) (fun q0 => some (.inr q0)) k d.2.2.1 e.1 e.2.1 e.2.2.1 e.2.2.2.1 e.2.2.2.2.1 k d.2.2.2.1).symm)
end l6
theorem run (k : Nat) (d : ((Int × (Int × Int)) × Unit × Unit)) (e : ((List (Int × (Int × (List (List Int))))) × (List Int) × (List Int) × Unit)) : runFn Tryd.prog (E k) 212 (bodyOf Tryd.f3) Tryd.f3.results.toList cl hn hi (mkL ps d) (mkH hs e) =
    tree (fun b0 => leafFn hs fi e val wr b0) k d.1 e.1 e.2.1 e.2.2.1 := by kernel_rfl
theorem run_f (k : Nat) (d : ((Int × (Int × Int)) × Unit × Unit)) (e : ((List (Int × (Int × (List (List Int))))) × (List Int) × (List Int) × Unit)) : runFn Tryd.prog (E k) 212 (bodyOf Tryd.f3) Tryd.f3.results.toList cl hn hi (mkL ps d) (mkH hs e) = (f k d.1 e.1 e.2.1 e.2.2.1).bind (leafFn hs fi e val wr) :=
  (run k d e).trans (tree_nat (leafFn hs fi e val wr) (fun b0 => some b0) k d.1 e.1 e.2.1 e.2.2.1).symm
theorem fnIs : FnIs Tryd.prog 3 Tryd.f3 (bodyOf Tryd.f3) 212 := ⟨by kernel_rfl, by kernel_rfl, by kernel_rfl, by kernel_rfl⟩
theorem ok (k : Nat) : CalleeOK Tryd.prog 3 (callee k) :=
  callee_sig (T := Bool) fnIs hm (fE k) (loopsOK_of [(0, subC (bodyOf Tryd.f3) [1, 1, 1, 0, 1, 0, 0]), (2, subC (bodyOf Tryd.f3) [1, 1, 1, 1, 1, 1, 1, 1, 0, 1, 0, 0]), (6, subC (bodyOf Tryd.f3) [1, 1, 1, 1, 1, 1, 1, 1, 1, 1, 0, 1, 0, 0])] (by kernel_rfl) ⟨of_loop (l0.sum k) rfl (l0.ok k), ⟨of_loop (l2.sum k) rfl (l2.ok k), ⟨of_loop (l6.sum k) rfl (l6.ok k), trivial⟩⟩⟩) ps hs cl hn fi (fun (d : ((Int × (Int × Int)) × Unit × Unit)) (e : ((List (Int × (Int × (List (List Int))))) × (List Int) × (List Int) × Unit)) => f k d.1 e.1 e.2.1 e.2.2.1) val wr rfl (fun _ => rfl) (run_f k)
end trailheadlaw18_PledgeDoes
end Go.Proofs.YtnaenbijnpbhaaaDoor.Sy
