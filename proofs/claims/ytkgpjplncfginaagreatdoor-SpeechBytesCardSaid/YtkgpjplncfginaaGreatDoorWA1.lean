/- What the Go functions come to, on data: printed by sypr.py. -/
import Derived.Test.YtkgpjplncfginaaGreatDoorWA0
namespace Go.Proofs.YtkgpjplncfginaaGreatDoor.Sy
open Go Go.Proofs
set_option maxRecDepth 100000
set_option linter.unusedVariables false
set_option linter.unusedSimpArgs false
namespace digest_Hasher_Sum
namespace l0
def step {X : Type} (K : (List Int) → Option X) (G : (List Int) → Option X) (k : Nat) (y0_0 : (List Int)) (y0_1 : Int) (y1 : (List Int)) (y2 : (List Int)) (y800003 : (List Int)) (y800004_0 : (List Int)) (y800004_1 : Int) (y800005 : (List Int)) : Option X :=
  (bif ((remI ((List.length y800005) : Int) 64) != (56 : Int)) then (bif (fits (((List.length y800005) + 1) * 1)) then (G (y800005 ++ ([0] : (List Int)))) else none) else (K y800005))
def go {X : Type} (K : (List Int) → Option X) (k : Nat) (y0_0 : (List Int)) (y0_1 : Int) (y1 : (List Int)) (y2 : (List Int)) (y800003 : (List Int)) (y800004_0 : (List Int)) (y800004_1 : Int) : Nat → (List Int) → Option X
  | 0, _ => none
  | n + 1, y800005 => step K (go K k y0_0 y0_1 y1 y2 y800003 y800004_0 y800004_1 n) k y0_0 y0_1 y1 y2 y800003 y800004_0 y800004_1 y800005
def f (k : Nat) (y0_0 : (List Int)) (y0_1 : Int) (y1 : (List Int)) (y2 : (List Int)) (y800003 : (List Int)) (y800004_0 : (List Int)) (y800004_1 : Int) (n : Nat) (y800005 : (List Int)) : Option (List Int) := go (fun y800005 => some y800005) k y0_0 y0_1 y1 y2 y800003 y800004_0 y800004_1 n y800005
theorem step_nat {X Y : Type} (h : X → Option Y) (K : (List Int) → Option X) (G : (List Int) → Option X) (k : Nat) (y0_0 : (List Int)) (y0_1 : Int) (y1 : (List Int)) (y2 : (List Int)) (y800003 : (List Int)) (y800004_0 : (List Int)) (y800004_1 : Int) (y800005 : (List Int)) : Option.bind (step K G k y0_0 y0_1 y1 y2 y800003 y800004_0 y800004_1 y800005) h = step (fun y800005 => Option.bind (K y800005) h) (fun y800005 => Option.bind (G y800005) h) k y0_0 y0_1 y1 y2 y800003 y800004_0 y800004_1 y800005 := by
  simp only [step, bif_bind, sel_bind', Option.bind_assoc, Option.bind_none, Option.bind_some]
theorem go_nat {X Y : Type} (h : X → Option Y) (K : (List Int) → Option X) (k : Nat) (y0_0 : (List Int)) (y0_1 : Int) (y1 : (List Int)) (y2 : (List Int)) (y800003 : (List Int)) (y800004_0 : (List Int)) (y800004_1 : Int) (n : Nat) : ∀ (y800005 : (List Int)), Option.bind (go K k y0_0 y0_1 y1 y2 y800003 y800004_0 y800004_1 n y800005) h = go (fun y800005 => Option.bind (K y800005) h) k y0_0 y0_1 y1 y2 y800003 y800004_0 y800004_1 n y800005 := by
  induction n with
  | zero => intros; rfl
  | succ n ih => intro y800005; show Option.bind (step K (go K k y0_0 y0_1 y1 y2 y800003 y800004_0 y800004_1 n) k y0_0 y0_1 y1 y2 y800003 y800004_0 y800004_1 y800005) h = step (fun y800005 => Option.bind (K y800005) h) (go (fun y800005 => Option.bind (K y800005) h) k y0_0 y0_1 y1 y2 y800003 y800004_0 y800004_1 n) k y0_0 y0_1 y1 y2 y800003 y800004_0 y800004_1 y800005; rw [step_nat h]; simp only [ih]
abbrev S : List (Nat × Sh) := [(0, .ptr 0), (2, .ptr 800003), (3, .ptr 800004), (4, .vec 800005)]
abbrev H : List (Nat × ESh) := [(0, .cell (.pair (.data (.arr .u32 8)) (.pair (.vec 2) (.data (.int .u64))))), (1, .glob 3 (.arr .u32 64)), (2, .rows 1 5 (.int .u8)), (800003, .cell (.data (.arr .u8 32))), (800004, .cell (.pair (.data (.arr .u32 8)) (.pair .nils (.data (.int .u64))))), (800005, .rows 2 5 (.int .u8))]
abbrev cl : List (Place × Nat × Hint) := []
abbrev hn : List (Nat × Hint) := [(0, .any), (2, .any), (3, .any), (4, .any)]
abbrev kp : List Nat := [0, 1, 2]
abbrev rc : List (Place × Nat × Hint) := []
abbrev rs : List (Nat × Hint) := []
abbrev ri : List Nat := [0, 1, 2]
def KX (d : (Unit × Unit × Unit × Unit × Unit)) (e : (((List Int) × (Unit × Int)) × (List Int) × (List Int) × (List Int) × ((List Int) × (Unit × Int)) × (List Int) × Unit)) (v : (List Int)) : St := ⟨mkS S ((), (), (), (), ()), mkH H ((e.1.1, ((), e.1.2.2)), e.2.1, e.2.2.1, e.2.2.2.1, (e.2.2.2.2.1.1, ((), e.2.2.2.2.1.2.2)), v, ())⟩
def sum (k : Nat) : LoopSum := sigLoopX S cl hn kp H 0 (fun (d : (Unit × Unit × Unit × Unit × Unit)) (e : (((List Int) × (Unit × Int)) × (List Int) × (List Int) × (List Int) × ((List Int) × (Unit × Int)) × (List Int) × Unit)) => f k e.1.1 e.1.2.2 e.2.1 e.2.2.1 e.2.2.2.1 e.2.2.2.2.1.1 e.2.2.2.2.1.2.2 k e.2.2.2.2.2.1) KX
end l0
namespace l2
def step {X : Type} (K : Int → (List Int) → Option X) (G : Int → (List Int) → Option X) (k : Nat) (y0_0 : (List Int)) (y0_1 : Int) (y1 : (List Int)) (y2 : (List Int)) (y800003 : (List Int)) (y800004_0 : (List Int)) (y800004_1 : Int) (x5 : Int) (y800005 : (List Int)) : Option X :=
  (bif (decide (x5 ≥ (0 : Int))) then (bif (decide ((mulI .i64 8 x5) < 0)) then none else (bif (fits (((List.length y800005) + 1) * 1)) then (G (subI .i64 x5 1) (y800005 ++ ([(IntKind.wrap .u8 (shrI .u64 (mulI .u64 y0_1 8) (mulI .i64 8 x5)))] : (List Int)))) else none)) else (K x5 y800005))
def go {X : Type} (K : Int → (List Int) → Option X) (k : Nat) (y0_0 : (List Int)) (y0_1 : Int) (y1 : (List Int)) (y2 : (List Int)) (y800003 : (List Int)) (y800004_0 : (List Int)) (y800004_1 : Int) : Nat → Int → (List Int) → Option X
  | 0, _, _ => none
  | n + 1, x5, y800005 => step K (go K k y0_0 y0_1 y1 y2 y800003 y800004_0 y800004_1 n) k y0_0 y0_1 y1 y2 y800003 y800004_0 y800004_1 x5 y800005
def f (k : Nat) (y0_0 : (List Int)) (y0_1 : Int) (y1 : (List Int)) (y2 : (List Int)) (y800003 : (List Int)) (y800004_0 : (List Int)) (y800004_1 : Int) (n : Nat) (x5 : Int) (y800005 : (List Int)) : Option (Int × (List Int)) := go (fun x5 y800005 => some (x5, y800005)) k y0_0 y0_1 y1 y2 y800003 y800004_0 y800004_1 n x5 y800005
theorem step_nat {X Y : Type} (h : X → Option Y) (K : Int → (List Int) → Option X) (G : Int → (List Int) → Option X) (k : Nat) (y0_0 : (List Int)) (y0_1 : Int) (y1 : (List Int)) (y2 : (List Int)) (y800003 : (List Int)) (y800004_0 : (List Int)) (y800004_1 : Int) (x5 : Int) (y800005 : (List Int)) : Option.bind (step K G k y0_0 y0_1 y1 y2 y800003 y800004_0 y800004_1 x5 y800005) h = step (fun x5 y800005 => Option.bind (K x5 y800005) h) (fun x5 y800005 => Option.bind (G x5 y800005) h) k y0_0 y0_1 y1 y2 y800003 y800004_0 y800004_1 x5 y800005 := by
  simp only [step, bif_bind, sel_bind', Option.bind_assoc, Option.bind_none, Option.bind_some]
theorem go_nat {X Y : Type} (h : X → Option Y) (K : Int → (List Int) → Option X) (k : Nat) (y0_0 : (List Int)) (y0_1 : Int) (y1 : (List Int)) (y2 : (List Int)) (y800003 : (List Int)) (y800004_0 : (List Int)) (y800004_1 : Int) (n : Nat) : ∀ (x5 : Int) (y800005 : (List Int)), Option.bind (go K k y0_0 y0_1 y1 y2 y800003 y800004_0 y800004_1 n x5 y800005) h = go (fun x5 y800005 => Option.bind (K x5 y800005) h) k y0_0 y0_1 y1 y2 y800003 y800004_0 y800004_1 n x5 y800005 := by
  induction n with
  | zero => intros; rfl
  | succ n ih => intro x5 y800005; show Option.bind (step K (go K k y0_0 y0_1 y1 y2 y800003 y800004_0 y800004_1 n) k y0_0 y0_1 y1 y2 y800003 y800004_0 y800004_1 x5 y800005) h = step (fun x5 y800005 => Option.bind (K x5 y800005) h) (go (fun x5 y800005 => Option.bind (K x5 y800005) h) k y0_0 y0_1 y1 y2 y800003 y800004_0 y800004_1 n) k y0_0 y0_1 y1 y2 y800003 y800004_0 y800004_1 x5 y800005; rw [step_nat h]; simp only [ih]
abbrev S : List (Nat × Sh) := [(0, .ptr 0), (2, .ptr 800003), (3, .ptr 800004), (4, .vec 800005), (5, .data (.int .i64))]
abbrev H : List (Nat × ESh) := [(0, .cell (.pair (.data (.arr .u32 8)) (.pair (.vec 2) (.data (.int .u64))))), (1, .glob 3 (.arr .u32 64)), (2, .rows 1 5 (.int .u8)), (800003, .cell (.data (.arr .u8 32))), (800004, .cell (.pair (.data (.arr .u32 8)) (.pair .nils (.data (.int .u64))))), (800005, .rows 2 5 (.int .u8))]
abbrev cl : List (Place × Nat × Hint) := []
abbrev hn : List (Nat × Hint) := [(0, .any), (2, .any), (3, .any), (4, .any), (5, .any)]
abbrev kp : List Nat := [0, 1, 2]
abbrev rc : List (Place × Nat × Hint) := []
abbrev rs : List (Nat × Hint) := []
abbrev ri : List Nat := [0, 1, 2]
def KX (d : (Unit × Unit × Unit × Unit × Int × Unit)) (e : (((List Int) × (Unit × Int)) × (List Int) × (List Int) × (List Int) × ((List Int) × (Unit × Int)) × (List Int) × Unit)) (v : (Int × (List Int))) : St := ⟨mkS S ((), (), (), (), v.1, ()), mkH H ((e.1.1, ((), e.1.2.2)), e.2.1, e.2.2.1, e.2.2.2.1, (e.2.2.2.2.1.1, ((), e.2.2.2.2.1.2.2)), v.2, ())⟩
def sum (k : Nat) : LoopSum := sigLoopX S cl hn kp H 2 (fun (d : (Unit × Unit × Unit × Unit × Int × Unit)) (e : (((List Int) × (Unit × Int)) × (List Int) × (List Int) × (List Int) × ((List Int) × (Unit × Int)) × (List Int) × Unit)) => f k e.1.1 e.1.2.2 e.2.1 e.2.2.1 e.2.2.2.1 e.2.2.2.2.1.1 e.2.2.2.2.1.2.2 k d.2.2.2.2.1 e.2.2.2.2.2.1) KX
end l2
namespace l4
def step {X : Type} (K : (List Int) → Int → (List Int) → Option X) (G : (List Int) → Int → (List Int) → Option X) (k : Nat) (y0_0 : (List Int)) (y0_1 : Int) (y1 : (List Int)) (y2 : (List Int)) (y800003 : (List Int)) (y800004_0 : (List Int)) (y800004_1 : Int) (y800005 : (List Int)) : Option X :=
  (bif (decide (((List.length y800005) : Int) > (0 : Int))) then (bif (decide (64 ≤ ((List.length y800005) : Int))) then (Option.bind (digest_Hasher_take_v1.f k y800004_0 y800004_1 (List.take 64 y800005) y1) (fun r3 => (bif (decide (64 ≤ ((List.length y800005) : Int))) then (G r3.1 r3.2 (List.drop 64 y800005)) else none))) else none) else (K y800004_0 y800004_1 y800005))
def go {X : Type} (K : (List Int) → Int → (List Int) → Option X) (k : Nat) (y0_0 : (List Int)) (y0_1 : Int) (y1 : (List Int)) (y2 : (List Int)) (y800003 : (List Int)) : Nat → (List Int) → Int → (List Int) → Option X
  | 0, _, _, _ => none
  | n + 1, y800004_0, y800004_1, y800005 => step K (go K k y0_0 y0_1 y1 y2 y800003 n) k y0_0 y0_1 y1 y2 y800003 y800004_0 y800004_1 y800005
def f (k : Nat) (y0_0 : (List Int)) (y0_1 : Int) (y1 : (List Int)) (y2 : (List Int)) (y800003 : (List Int)) (n : Nat) (y800004_0 : (List Int)) (y800004_1 : Int) (y800005 : (List Int)) : Option ((List Int) × (Int × (List Int))) := go (fun y800004_0 y800004_1 y800005 => some (y800004_0, y800004_1, y800005)) k y0_0 y0_1 y1 y2 y800003 n y800004_0 y800004_1 y800005
theorem step_nat {X Y : Type} (h : X → Option Y) (K : (List Int) → Int → (List Int) → Option X) (G : (List Int) → Int → (List Int) → Option X) (k : Nat) (y0_0 : (List Int)) (y0_1 : Int) (y1 : (List Int)) (y2 : (List Int)) (y800003 : (List Int)) (y800004_0 : (List Int)) (y800004_1 : Int) (y800005 : (List Int)) : Option.bind (step K G k y0_0 y0_1 y1 y2 y800003 y800004_0 y800004_1 y800005) h = step (fun y800004_0 y800004_1 y800005 => Option.bind (K y800004_0 y800004_1 y800005) h) (fun y800004_0 y800004_1 y800005 => Option.bind (G y800004_0 y800004_1 y800005) h) k y0_0 y0_1 y1 y2 y800003 y800004_0 y800004_1 y800005 := by
  simp only [step, bif_bind, sel_bind', Option.bind_assoc, Option.bind_none, Option.bind_some]
theorem go_nat {X Y : Type} (h : X → Option Y) (K : (List Int) → Int → (List Int) → Option X) (k : Nat) (y0_0 : (List Int)) (y0_1 : Int) (y1 : (List Int)) (y2 : (List Int)) (y800003 : (List Int)) (n : Nat) : ∀ (y800004_0 : (List Int)) (y800004_1 : Int) (y800005 : (List Int)), Option.bind (go K k y0_0 y0_1 y1 y2 y800003 n y800004_0 y800004_1 y800005) h = go (fun y800004_0 y800004_1 y800005 => Option.bind (K y800004_0 y800004_1 y800005) h) k y0_0 y0_1 y1 y2 y800003 n y800004_0 y800004_1 y800005 := by
  induction n with
  | zero => intros; rfl
  | succ n ih => intro y800004_0 y800004_1 y800005; show Option.bind (step K (go K k y0_0 y0_1 y1 y2 y800003 n) k y0_0 y0_1 y1 y2 y800003 y800004_0 y800004_1 y800005) h = step (fun y800004_0 y800004_1 y800005 => Option.bind (K y800004_0 y800004_1 y800005) h) (go (fun y800004_0 y800004_1 y800005 => Option.bind (K y800004_0 y800004_1 y800005) h) k y0_0 y0_1 y1 y2 y800003 n) k y0_0 y0_1 y1 y2 y800003 y800004_0 y800004_1 y800005; rw [step_nat h]; simp only [ih]
abbrev S : List (Nat × Sh) := [(2, .ptr 800003), (3, .ptr 800004), (4, .vec 800005)]
abbrev H : List (Nat × ESh) := [(0, .cell (.pair (.data (.arr .u32 8)) (.pair (.vec 2) (.data (.int .u64))))), (1, .glob 3 (.arr .u32 64)), (2, .rows 1 5 (.int .u8)), (800003, .cell (.data (.arr .u8 32))), (800004, .cell (.pair (.data (.arr .u32 8)) (.pair .nils (.data (.int .u64))))), (800005, .rows 1 5 (.int .u8))]
abbrev cl : List (Place × Nat × Hint) := []
abbrev hn : List (Nat × Hint) := [(2, .any), (3, .any), (4, (.row 1 5 (.int .u8)))]
abbrev kp : List Nat := [0, 1, 2]
abbrev rc : List (Place × Nat × Hint) := []
abbrev rs : List (Nat × Hint) := []
abbrev ri : List Nat := [0, 1, 2]
def KX (d : (Unit × Unit × Unit × Unit)) (e : (((List Int) × (Unit × Int)) × (List Int) × (List Int) × (List Int) × ((List Int) × (Unit × Int)) × (List Int) × Unit)) (v : ((List Int) × (Int × (List Int)))) : St := ⟨mkS S ((), (), (), ()), mkH H ((e.1.1, ((), e.1.2.2)), e.2.1, e.2.2.1, e.2.2.2.1, (v.1, ((), v.2.1)), v.2.2, ())⟩
def sum (k : Nat) : LoopSum := sigLoopX S cl hn kp H 4 (fun (d : (Unit × Unit × Unit × Unit)) (e : (((List Int) × (Unit × Int)) × (List Int) × (List Int) × (List Int) × ((List Int) × (Unit × Int)) × (List Int) × Unit)) => f k e.1.1 e.1.2.2 e.2.1 e.2.2.1 e.2.2.2.1 k e.2.2.2.2.1.1 e.2.2.2.2.1.2.2 e.2.2.2.2.2.1) KX
end l4
namespace l6
def step {X : Type} (K : Int → (List Int) → Option X) (G : Int → (List Int) → Option X) (k : Nat) (x61 : (List Int)) (y0_0 : (List Int)) (y0_1 : Int) (y1 : (List Int)) (y2 : (List Int)) (y800003 : (List Int)) (x62 : Int) (y800004 : (List Int)) : Option X :=
  (bif (decide (x62 < (8 : Int))) then (bif (decide (0 ≤ x62)) then (bif (decide (x62 < 8)) then (bif (decide (0 ≤ (mulI .i64 4 x62))) then (bif (decide ((mulI .i64 4 x62) < 32)) then (bif (decide ((Int.toNat (mulI .i64 4 x62)) < 32)) then (bif (decide (0 ≤ (addI .i64 (mulI .i64 4 x62) 1))) then (bif (decide ((addI .i64 (mulI .i64 4 x62) 1) < 32)) then (bif (decide ((Int.toNat (addI .i64 (mulI .i64 4 x62) 1)) < 32)) then (bif (decide (0 ≤ (addI .i64 (mulI .i64 4 x62) 2))) then (bif (decide ((addI .i64 (mulI .i64 4 x62) 2) < 32)) then (bif (decide ((Int.toNat (addI .i64 (mulI .i64 4 x62) 2)) < 32)) then (bif (decide (0 ≤ (addI .i64 (mulI .i64 4 x62) 3))) then (bif (decide ((addI .i64 (mulI .i64 4 x62) 3) < 32)) then (bif (decide ((Int.toNat (addI .i64 (mulI .i64 4 x62) 3)) < 32)) then (G (addI .i64 x62 1) (List.set (List.set (List.set (List.set y800004 (Int.toNat (mulI .i64 4 x62)) (IntKind.wrap .u8 (shrI .u32 (List.getD x61 (Int.toNat x62) 0) 24))) (Int.toNat (addI .i64 (mulI .i64 4 x62) 1)) (IntKind.wrap .u8 (shrI .u32 (List.getD x61 (Int.toNat x62) 0) 16))) (Int.toNat (addI .i64 (mulI .i64 4 x62) 2)) (IntKind.wrap .u8 (shrI .u32 (List.getD x61 (Int.toNat x62) 0) 8))) (Int.toNat (addI .i64 (mulI .i64 4 x62) 3)) (IntKind.wrap .u8 (List.getD x61 (Int.toNat x62) 0)))) else none) else none) else none) else none) else none) else none) else none) else none) else none) else none) else none) else none) else none) else none) else (K x62 y800004))
def go {X : Type} (K : Int → (List Int) → Option X) (k : Nat) (x61 : (List Int)) (y0_0 : (List Int)) (y0_1 : Int) (y1 : (List Int)) (y2 : (List Int)) (y800003 : (List Int)) : Nat → Int → (List Int) → Option X
  | 0, _, _ => none
  | n + 1, x62, y800004 => step K (go K k x61 y0_0 y0_1 y1 y2 y800003 n) k x61 y0_0 y0_1 y1 y2 y800003 x62 y800004
def f (k : Nat) (x61 : (List Int)) (y0_0 : (List Int)) (y0_1 : Int) (y1 : (List Int)) (y2 : (List Int)) (y800003 : (List Int)) (n : Nat) (x62 : Int) (y800004 : (List Int)) : Option (Int × (List Int)) := go (fun x62 y800004 => some (x62, y800004)) k x61 y0_0 y0_1 y1 y2 y800003 n x62 y800004
theorem step_nat {X Y : Type} (h : X → Option Y) (K : Int → (List Int) → Option X) (G : Int → (List Int) → Option X) (k : Nat) (x61 : (List Int)) (y0_0 : (List Int)) (y0_1 : Int) (y1 : (List Int)) (y2 : (List Int)) (y800003 : (List Int)) (x62 : Int) (y800004 : (List Int)) : Option.bind (step K G k x61 y0_0 y0_1 y1 y2 y800003 x62 y800004) h = step (fun x62 y800004 => Option.bind (K x62 y800004) h) (fun x62 y800004 => Option.bind (G x62 y800004) h) k x61 y0_0 y0_1 y1 y2 y800003 x62 y800004 := by
  simp only [step, bif_bind, sel_bind', Option.bind_assoc, Option.bind_none, Option.bind_some]
theorem go_nat {X Y : Type} (h : X → Option Y) (K : Int → (List Int) → Option X) (k : Nat) (x61 : (List Int)) (y0_0 : (List Int)) (y0_1 : Int) (y1 : (List Int)) (y2 : (List Int)) (y800003 : (List Int)) (n : Nat) : ∀ (x62 : Int) (y800004 : (List Int)), Option.bind (go K k x61 y0_0 y0_1 y1 y2 y800003 n x62 y800004) h = go (fun x62 y800004 => Option.bind (K x62 y800004) h) k x61 y0_0 y0_1 y1 y2 y800003 n x62 y800004 := by
  induction n with
  | zero => intros; rfl
  | succ n ih => intro x62 y800004; show Option.bind (step K (go K k x61 y0_0 y0_1 y1 y2 y800003 n) k x61 y0_0 y0_1 y1 y2 y800003 x62 y800004) h = step (fun x62 y800004 => Option.bind (K x62 y800004) h) (go (fun x62 y800004 => Option.bind (K x62 y800004) h) k x61 y0_0 y0_1 y1 y2 y800003 n) k x61 y0_0 y0_1 y1 y2 y800003 x62 y800004; rw [step_nat h]; simp only [ih]
abbrev S : List (Nat × Sh) := [(2, .ptr 800003), (6, .ptr 800004), (61, .data (.arr .u32 8)), (62, .data (.int .i64))]
abbrev H : List (Nat × ESh) := [(0, .cell (.pair (.data (.arr .u32 8)) (.pair (.vec 2) (.data (.int .u64))))), (1, .glob 3 (.arr .u32 64)), (2, .rows 1 5 (.int .u8)), (800003, .cell (.data (.arr .u8 32))), (800004, .cell (.data (.arr .u8 32)))]
abbrev cl : List (Place × Nat × Hint) := []
abbrev hn : List (Nat × Hint) := [(2, .any), (6, .any), (61, .any), (62, .any)]
abbrev kp : List Nat := [0, 1, 2]
abbrev rc : List (Place × Nat × Hint) := []
abbrev rs : List (Nat × Hint) := []
abbrev ri : List Nat := [0, 1, 2]
def KX (d : (Unit × Unit × (List Int) × Int × Unit)) (e : (((List Int) × (Unit × Int)) × (List Int) × (List Int) × (List Int) × (List Int) × Unit)) (v : (Int × (List Int))) : St := ⟨mkS S ((), (), d.2.2.1, v.1, ()), mkH H ((e.1.1, ((), e.1.2.2)), e.2.1, e.2.2.1, e.2.2.2.1, v.2, ())⟩
def sum (k : Nat) : LoopSum := sigLoopX S cl hn kp H 6 (fun (d : (Unit × Unit × (List Int) × Int × Unit)) (e : (((List Int) × (Unit × Int)) × (List Int) × (List Int) × (List Int) × (List Int) × Unit)) => f k d.2.2.1 e.1.1 e.1.2.2 e.2.1 e.2.2.1 e.2.2.2.1 k d.2.2.2.1 e.2.2.2.2.1) KX
end l6
def tree {X : Type} (K : (List Int) → Option X) (k : Nat) (m0_0 : (List Int)) (m0_1 : Int) (m1 : (List Int)) (m2 : (List Int)) : Option X :=
  (bif (fits ((List.length m2) * 1)) then (bif (fits (((List.length m2) + 1) * 1)) then (Option.bind (digest_Hasher_Sum.l0.f k m0_0 m0_1 m1 m2 ([0, 0, 0, 0, 0, 0, 0, 0, 0, 0, 0, 0, 0, 0, 0, 0, 0, 0, 0, 0, 0, 0, 0, 0, 0, 0, 0, 0, 0, 0, 0, 0] : (List Int)) m0_0 (0 : Int) k (m2 ++ ([128] : (List Int)))) (fun r1 => (Option.bind (digest_Hasher_Sum.l2.f k m0_0 m0_1 m1 m2 ([0, 0, 0, 0, 0, 0, 0, 0, 0, 0, 0, 0, 0, 0, 0, 0, 0, 0, 0, 0, 0, 0, 0, 0, 0, 0, 0, 0, 0, 0, 0, 0] : (List Int)) m0_0 (0 : Int) k (7 : Int) r1) (fun r2 => (Option.bind (digest_Hasher_Sum.l4.f k m0_0 m0_1 m1 m2 ([0, 0, 0, 0, 0, 0, 0, 0, 0, 0, 0, 0, 0, 0, 0, 0, 0, 0, 0, 0, 0, 0, 0, 0, 0, 0, 0, 0, 0, 0, 0, 0] : (List Int)) k m0_0 (0 : Int) r2.2) (fun r4 => (Option.bind (digest_Hasher_Sum.l6.f k r4.1 m0_0 m0_1 m1 m2 ([0, 0, 0, 0, 0, 0, 0, 0, 0, 0, 0, 0, 0, 0, 0, 0, 0, 0, 0, 0, 0, 0, 0, 0, 0, 0, 0, 0, 0, 0, 0, 0] : (List Int)) k (0 : Int) ([0, 0, 0, 0, 0, 0, 0, 0, 0, 0, 0, 0, 0, 0, 0, 0, 0, 0, 0, 0, 0, 0, 0, 0, 0, 0, 0, 0, 0, 0, 0, 0] : (List Int))) (fun r5 => (K r5.2))))))))) else none) else none)
def f (k : Nat) (m0_0 : (List Int)) (m0_1 : Int) (m1 : (List Int)) (m2 : (List Int)) : Option (List Int) := tree (fun b0 => some b0) k m0_0 m0_1 m1 m2
theorem tree_nat {X Y : Type} (h : X → Option Y) (K : (List Int) → Option X) (k : Nat) (m0_0 : (List Int)) (m0_1 : Int) (m1 : (List Int)) (m2 : (List Int)) : Option.bind (tree K k m0_0 m0_1 m1 m2) h = tree (fun b0 => Option.bind (K b0) h) k m0_0 m0_1 m1 m2 := by
  simp only [tree, bif_bind, sel_bind', Option.bind_assoc, Option.bind_none, Option.bind_some]
abbrev ps : List Sh := [.ptr 0]
abbrev hs : List (Nat × ESh) := [(0, .cell (.pair (.data (.arr .u32 8)) (.pair (.vec 2) (.data (.int .u64))))), (1, .glob 3 (.arr .u32 64)), (2, .rows 1 5 (.int .u8))]
abbrev hi : List Nat := hs.map (·.1)
abbrev fi : List Nat := [0, 1, 2]
abbrev cl : List (Place × Nat × Hint) := []
abbrev hn : List Hint := [.any]
def val (t : (List Int)) : AV := Sh.mk (.data (.arr .u8 32)) t
def wr (t : (List Int)) : Heap := []
def callee (k : Nat) : Callee := sigCallee ps hs (fun (d : (Unit × Unit)) (e : (((List Int) × (Unit × Int)) × (List Int) × (List Int) × Unit)) => f k e.1.1 e.1.2.2 e.2.1 e.2.2.1) val wr
def E (k : Nat) : Env := ⟨fnTab [(93, [digest_Hasher_take_v1.callee k])], loopTab [(0, l0.sum k), (2, l2.sum k), (4, l4.sum k), (6, l6.sum k)], natsTab [(93, [1])], natTab [(3, 1)]⟩
theorem fE (k : Nat) : ∀ f, ∀ c ∈ (E k).fn f, CalleeOK Tryz.prog f c := fnTab_ok ⟨⟨digest_Hasher_take_v1.ok k, trivial⟩, trivial⟩
namespace l0
theorem round (k : Nat) (d : (Unit × Unit × Unit × Unit × Unit)) (e : (((List Int) × (Unit × Int)) × (List Int) × (List Int) × (List Int) × ((List Int) × (Unit × Int)) × (List Int) × Unit)) (G : St → Option (Ex × St)) : roundK Tryz.prog (E k) 94 0 (subC (bodyOf Tryz.f88) [1, 1, 1, 1, 1, 0, 0, 0]) (recast cl hn kp) (finBy cl hn kp rc rs ri) G ⟨mkS S d, mkH H e⟩ =
    step (fun y800005 => some (.exit 0, KX d e y800005)) (fun y800005 => G ⟨mkS S ((), (), (), (), ()), mkH H ((e.1.1, ((), e.1.2.2)), e.2.1, e.2.2.1, e.2.2.2.1, (e.2.2.2.2.1.1, ((), e.2.2.2.2.1.2.2)), y800005, ())⟩) k e.1.1 e.1.2.2 e.2.1 e.2.2.1 e.2.2.2.1 e.2.2.2.2.1.1 e.2.2.2.2.1.2.2 e.2.2.2.2.2.1 := by kernel_rfl
theorem it (k n : Nat) (d : (Unit × Unit × Unit × Unit × Unit)) (e : (((List Int) × (Unit × Int)) × (List Int) × (List Int) × (List Int) × ((List Int) × (Unit × Int)) × (List Int) × Unit)) : loopIt Tryz.prog (E k) 94 0 (subC (bodyOf Tryz.f88) [1, 1, 1, 1, 1, 0, 0, 0]) (recast cl hn kp) (finBy cl hn kp rc rs ri) n ⟨mkS S d, mkH H e⟩ = go (fun y800005 => some (.exit 0, KX d e y800005)) k e.1.1 e.1.2.2 e.2.1 e.2.2.1 e.2.2.2.1 e.2.2.2.2.1.1 e.2.2.2.2.1.2.2 n e.2.2.2.2.2.1 :=
  loopIt_eq (D := (Unit × Unit × Unit × Unit × Unit) × (((List Int) × (Unit × Int)) × (List Int) × (List Int) × (List Int) × ((List Int) × (Unit × Int)) × (List Int) × Unit)) (fun p => ⟨mkS S p.1, mkH H p.2⟩) (fun F p => step (fun y800005 => some (.exit 0, KX p.1 p.2 y800005)) (fun y800005 => F (((), (), (), (), ()), ((p.2.1.1, ((), p.2.1.2.2)), p.2.2.1, p.2.2.2.1, p.2.2.2.2.1, (p.2.2.2.2.2.1.1, ((), p.2.2.2.2.2.1.2.2)), y800005, ()))) k p.2.1.1 p.2.1.2.2 p.2.2.1 p.2.2.2.1 p.2.2.2.2.1 p.2.2.2.2.2.1.1 p.2.2.2.2.2.1.2.2 p.2.2.2.2.2.2.1) (fun n p => go (fun y800005 => some (.exit 0, KX p.1 p.2 y800005)) k p.2.1.1 p.2.1.2.2 p.2.2.1 p.2.2.2.1 p.2.2.2.2.1 p.2.2.2.2.2.1.1 p.2.2.2.2.2.1.2.2 n p.2.2.2.2.2.2.1) (fun _ => rfl) (fun _ _ => rfl) (fun G p => round k p.1 p.2 G) n (d, e)
theorem ok (k : Nat) : LoopOK Tryz.prog 94 (subC (bodyOf Tryz.f88) [1, 1, 1, 1, 1, 0, 0, 0]) (sum k) :=
  loop_sigX hm (fE k) (loopsOK_of [] (by kernel_rfl) trivial) S cl hn kp H 0 (fun (d : (Unit × Unit × Unit × Unit × Unit)) (e : (((List Int) × (Unit × Int)) × (List Int) × (List Int) × (List Int) × ((List Int) × (Unit × Int)) × (List Int) × Unit)) => f k e.1.1 e.1.2.2 e.2.1 e.2.2.1 e.2.2.2.1 e.2.2.2.2.1.1 e.2.2.2.2.1.2.2 k e.2.2.2.2.2.1) KX cl hn kp rc rs ri k
    (fun d e => (it k k d e).trans (go_nat (fun v => some (Ex.exit 0, KX d e v)) (fun y800005 => some y800005) k e.1.1 e.1.2.2 e.2.1 e.2.2.1 e.2.2.2.1 e.2.2.2.2.1.1 e.2.2.2.2.1.2.2 k e.2.2.2.2.2.1).symm)
end l0
namespace l2
theorem round (k : Nat) (d : (Unit × Unit × Unit × Unit × Int × Unit)) (e : (((List Int) × (Unit × Int)) × (List Int) × (List Int) × (List Int) × ((List Int) × (Unit × Int)) × (List Int) × Unit)) (G : St → Option (Ex × St)) : roundK Tryz.prog (E k) 94 2 (subC (bodyOf Tryz.f88) [1, 1, 1, 1, 1, 1, 0, 1, 0, 0]) (recast cl hn kp) (finBy cl hn kp rc rs ri) G ⟨mkS S d, mkH H e⟩ =
    step (fun x5 y800005 => some (.exit 2, KX d e (x5, y800005))) (fun x5 y800005 => G ⟨mkS S ((), (), (), (), x5, ()), mkH H ((e.1.1, ((), e.1.2.2)), e.2.1, e.2.2.1, e.2.2.2.1, (e.2.2.2.2.1.1, ((), e.2.2.2.2.1.2.2)), y800005, ())⟩) k e.1.1 e.1.2.2 e.2.1 e.2.2.1 e.2.2.2.1 e.2.2.2.2.1.1 e.2.2.2.2.1.2.2 d.2.2.2.2.1 e.2.2.2.2.2.1 := by kernel_rfl
theorem it (k n : Nat) (d : (Unit × Unit × Unit × Unit × Int × Unit)) (e : (((List Int) × (Unit × Int)) × (List Int) × (List Int) × (List Int) × ((List Int) × (Unit × Int)) × (List Int) × Unit)) : loopIt Tryz.prog (E k) 94 2 (subC (bodyOf Tryz.f88) [1, 1, 1, 1, 1, 1, 0, 1, 0, 0]) (recast cl hn kp) (finBy cl hn kp rc rs ri) n ⟨mkS S d, mkH H e⟩ = go (fun x5 y800005 => some (.exit 2, KX d e (x5, y800005))) k e.1.1 e.1.2.2 e.2.1 e.2.2.1 e.2.2.2.1 e.2.2.2.2.1.1 e.2.2.2.2.1.2.2 n d.2.2.2.2.1 e.2.2.2.2.2.1 :=
  loopIt_eq (D := (Unit × Unit × Unit × Unit × Int × Unit) × (((List Int) × (Unit × Int)) × (List Int) × (List Int) × (List Int) × ((List Int) × (Unit × Int)) × (List Int) × Unit)) (fun p => ⟨mkS S p.1, mkH H p.2⟩) (fun F p => step (fun x5 y800005 => some (.exit 2, KX p.1 p.2 (x5, y800005))) (fun x5 y800005 => F (((), (), (), (), x5, ()), ((p.2.1.1, ((), p.2.1.2.2)), p.2.2.1, p.2.2.2.1, p.2.2.2.2.1, (p.2.2.2.2.2.1.1, ((), p.2.2.2.2.2.1.2.2)), y800005, ()))) k p.2.1.1 p.2.1.2.2 p.2.2.1 p.2.2.2.1 p.2.2.2.2.1 p.2.2.2.2.2.1.1 p.2.2.2.2.2.1.2.2 p.1.2.2.2.2.1 p.2.2.2.2.2.2.1) (fun n p => go (fun x5 y800005 => some (.exit 2, KX p.1 p.2 (x5, y800005))) k p.2.1.1 p.2.1.2.2 p.2.2.1 p.2.2.2.1 p.2.2.2.2.1 p.2.2.2.2.2.1.1 p.2.2.2.2.2.1.2.2 n p.1.2.2.2.2.1 p.2.2.2.2.2.2.1) (fun _ => rfl) (fun _ _ => rfl) (fun G p => round k p.1 p.2 G) n (d, e)
theorem ok (k : Nat) : LoopOK Tryz.prog 94 (subC (bodyOf Tryz.f88) [1, 1, 1, 1, 1, 1, 0, 1, 0, 0]) (sum k) :=
  loop_sigX hm (fE k) (loopsOK_of [] (by kernel_rfl) trivial) S cl hn kp H 2 (fun (d : (Unit × Unit × Unit × Unit × Int × Unit)) (e : (((List Int) × (Unit × Int)) × (List Int) × (List Int) × (List Int) × ((List Int) × (Unit × Int)) × (List Int) × Unit)) => f k e.1.1 e.1.2.2 e.2.1 e.2.2.1 e.2.2.2.1 e.2.2.2.2.1.1 e.2.2.2.2.1.2.2 k d.2.2.2.2.1 e.2.2.2.2.2.1) KX cl hn kp rc rs ri k
    (fun d e => (it k k d e).trans (go_nat (fun v => some (Ex.exit 2, KX d e v)) (fun x5 y800005 => some (x5, y800005)) k e.1.1 e.1.2.2 e.2.1 e.2.2.1 e.2.2.2.1 e.2.2.2.2.1.1 e.2.2.2.2.1.2.2 k d.2.2.2.2.1 e.2.2.2.2.2.1).symm)
end l2
namespace l4
theorem round (k : Nat) (d : (Unit × Unit × Unit × Unit)) (e : (((List Int) × (Unit × Int)) × (List Int) × (List Int) × (List Int) × ((List Int) × (Unit × Int)) × (List Int) × Unit)) (G : St → Option (Ex × St)) : roundK Tryz.prog (E k) 94 4 (subC (bodyOf Tryz.f88) [1, 1, 1, 1, 1, 1, 1, 0, 0, 0]) (recast cl hn kp) (finBy cl hn kp rc rs ri) G ⟨mkS S d, mkH H e⟩ =
    step (fun y800004_0 y800004_1 y800005 => some (.exit 4, KX d e (y800004_0, y800004_1, y800005))) (fun y800004_0 y800004_1 y800005 => G ⟨mkS S ((), (), (), ()), mkH H ((e.1.1, ((), e.1.2.2)), e.2.1, e.2.2.1, e.2.2.2.1, (y800004_0, ((), y800004_1)), y800005, ())⟩) k e.1.1 e.1.2.2 e.2.1 e.2.2.1 e.2.2.2.1 e.2.2.2.2.1.1 e.2.2.2.2.1.2.2 e.2.2.2.2.2.1 := by kernel_rfl
theorem it (k n : Nat) (d : (Unit × Unit × Unit × Unit)) (e : (((List Int) × (Unit × Int)) × (List Int) × (List Int) × (List Int) × ((List Int) × (Unit × Int)) × (List Int) × Unit)) : loopIt Tryz.prog (E k) 94 4 (subC (bodyOf Tryz.f88) [1, 1, 1, 1, 1, 1, 1, 0, 0, 0]) (recast cl hn kp) (finBy cl hn kp rc rs ri) n ⟨mkS S d, mkH H e⟩ = go (fun y800004_0 y800004_1 y800005 => some (.exit 4, KX d e (y800004_0, y800004_1, y800005))) k e.1.1 e.1.2.2 e.2.1 e.2.2.1 e.2.2.2.1 n e.2.2.2.2.1.1 e.2.2.2.2.1.2.2 e.2.2.2.2.2.1 :=
  loopIt_eq (D := (Unit × Unit × Unit × Unit) × (((List Int) × (Unit × Int)) × (List Int) × (List Int) × (List Int) × ((List Int) × (Unit × Int)) × (List Int) × Unit)) (fun p => ⟨mkS S p.1, mkH H p.2⟩) (fun F p => step (fun y800004_0 y800004_1 y800005 => some (.exit 4, KX p.1 p.2 (y800004_0, y800004_1, y800005))) (fun y800004_0 y800004_1 y800005 => F (((), (), (), ()), ((p.2.1.1, ((), p.2.1.2.2)), p.2.2.1, p.2.2.2.1, p.2.2.2.2.1, (y800004_0, ((), y800004_1)), y800005, ()))) k p.2.1.1 p.2.1.2.2 p.2.2.1 p.2.2.2.1 p.2.2.2.2.1 p.2.2.2.2.2.1.1 p.2.2.2.2.2.1.2.2 p.2.2.2.2.2.2.1) (fun n p => go (fun y800004_0 y800004_1 y800005 => some (.exit 4, KX p.1 p.2 (y800004_0, y800004_1, y800005))) k p.2.1.1 p.2.1.2.2 p.2.2.1 p.2.2.2.1 p.2.2.2.2.1 n p.2.2.2.2.2.1.1 p.2.2.2.2.2.1.2.2 p.2.2.2.2.2.2.1) (fun _ => rfl) (fun _ _ => rfl) (fun G p => round k p.1 p.2 G) n (d, e)
theorem ok (k : Nat) : LoopOK Tryz.prog 94 (subC (bodyOf Tryz.f88) [1, 1, 1, 1, 1, 1, 1, 0, 0, 0]) (sum k) :=
  loop_sigX hm (fE k) (loopsOK_of [] (by kernel_rfl) trivial) S cl hn kp H 4 (fun (d : (Unit × Unit × Unit × Unit)) (e : (((List Int) × (Unit × Int)) × (List Int) × (List Int) × (List Int) × ((List Int) × (Unit × Int)) × (List Int) × Unit)) => f k e.1.1 e.1.2.2 e.2.1 e.2.2.1 e.2.2.2.1 k e.2.2.2.2.1.1 e.2.2.2.2.1.2.2 e.2.2.2.2.2.1) KX cl hn kp rc rs ri k
    (fun d e => (it k k d e).trans (go_nat (fun v => some (Ex.exit 4, KX d e v)) (fun y800004_0 y800004_1 y800005 => some (y800004_0, y800004_1, y800005)) k e.1.1 e.1.2.2 e.2.1 e.2.2.1 e.2.2.2.1 k e.2.2.2.2.1.1 e.2.2.2.2.1.2.2 e.2.2.2.2.2.1).symm)
end l4
namespace l6
theorem round (k : Nat) (d : (Unit × Unit × (List Int) × Int × Unit)) (e : (((List Int) × (Unit × Int)) × (List Int) × (List Int) × (List Int) × (List Int) × Unit)) (G : St → Option (Ex × St)) : roundK Tryz.prog (E k) 94 6 (subC (bodyOf Tryz.f88) [1, 1, 1, 1, 1, 1, 1, 1, 1, 0, 1, 0, 0]) (recast cl hn kp) (finBy cl hn kp rc rs ri) G ⟨mkS S d, mkH H e⟩ =
    step (fun x62 y800004 => some (.exit 6, KX d e (x62, y800004))) (fun x62 y800004 => G ⟨mkS S ((), (), d.2.2.1, x62, ()), mkH H ((e.1.1, ((), e.1.2.2)), e.2.1, e.2.2.1, e.2.2.2.1, y800004, ())⟩) k d.2.2.1 e.1.1 e.1.2.2 e.2.1 e.2.2.1 e.2.2.2.1 d.2.2.2.1 e.2.2.2.2.1 := by kernel_rfl
theorem it (k n : Nat) (d : (Unit × Unit × (List Int) × Int × Unit)) (e : (((List Int) × (Unit × Int)) × (List Int) × (List Int) × (List Int) × (List Int) × Unit)) : loopIt Tryz.prog (E k) 94 6 (subC (bodyOf Tryz.f88) [1, 1, 1, 1, 1, 1, 1, 1, 1, 0, 1, 0, 0]) (recast cl hn kp) (finBy cl hn kp rc rs ri) n ⟨mkS S d, mkH H e⟩ = go (fun x62 y800004 => some (.exit 6, KX d e (x62, y800004))) k d.2.2.1 e.1.1 e.1.2.2 e.2.1 e.2.2.1 e.2.2.2.1 n d.2.2.2.1 e.2.2.2.2.1 :=
  loopIt_eq (D := (Unit × Unit × (List Int) × Int × Unit) × (((List Int) × (Unit × Int)) × (List Int) × (List Int) × (List Int) × (List Int) × Unit)) (fun p => ⟨mkS S p.1, mkH H p.2⟩) (fun F p => step (fun x62 y800004 => some (.exit 6, KX p.1 p.2 (x62, y800004))) (fun x62 y800004 => F (((), (), p.1.2.2.1, x62, ()), ((p.2.1.1, ((), p.2.1.2.2)), p.2.2.1, p.2.2.2.1, p.2.2.2.2.1, y800004, ()))) k p.1.2.2.1 p.2.1.1 p.2.1.2.2 p.2.2.1 p.2.2.2.1 p.2.2.2.2.1 p.1.2.2.2.1 p.2.2.2.2.2.1) (fun n p => go (fun x62 y800004 => some (.exit 6, KX p.1 p.2 (x62, y800004))) k p.1.2.2.1 p.2.1.1 p.2.1.2.2 p.2.2.1 p.2.2.2.1 p.2.2.2.2.1 n p.1.2.2.2.1 p.2.2.2.2.2.1) (fun _ => rfl) (fun _ _ => rfl) (fun G p => round k p.1 p.2 G) n (d, e)
theorem ok (k : Nat) : LoopOK Tryz.prog 94 (subC (bodyOf Tryz.f88) [1, 1, 1, 1, 1, 1, 1, 1, 1, 0, 1, 0, 0]) (sum k) :=
  loop_sigX hm (fE k) (loopsOK_of [] (by kernel_rfl) trivial) S cl hn kp H 6 (fun (d : (Unit × Unit × (List Int) × Int × Unit)) (e : (((List Int) × (Unit × Int)) × (List Int) × (List Int) × (List Int) × (List Int) × Unit)) => f k d.2.2.1 e.1.1 e.1.2.2 e.2.1 e.2.2.1 e.2.2.2.1 k d.2.2.2.1 e.2.2.2.2.1) KX cl hn kp rc rs ri k
    (fun d e => (it k k d e).trans (go_nat (fun v => some (Ex.exit 6, KX d e v)) (fun x62 y800004 => some (x62, y800004)) k d.2.2.1 e.1.1 e.1.2.2 e.2.1 e.2.2.1 e.2.2.2.1 k d.2.2.2.1 e.2.2.2.2.1).symm)
end l6
theorem run (k : Nat) (d : (Unit × Unit)) (e : (((List Int) × (Unit × Int)) × (List Int) × (List Int) × Unit)) : runFn Tryz.prog (E k) 94 (bodyOf Tryz.f88) Tryz.f88.results.toList cl hn hi (mkL ps d) (mkH hs e) =
    tree (fun b0 => leafFn hs fi e val wr b0) k e.1.1 e.1.2.2 e.2.1 e.2.2.1 := by kernel_rfl
theorem run_f (k : Nat) (d : (Unit × Unit)) (e : (((List Int) × (Unit × Int)) × (List Int) × (List Int) × Unit)) : runFn Tryz.prog (E k) 94 (bodyOf Tryz.f88) Tryz.f88.results.toList cl hn hi (mkL ps d) (mkH hs e) = (f k e.1.1 e.1.2.2 e.2.1 e.2.2.1).bind (leafFn hs fi e val wr) :=
  (run k d e).trans (tree_nat (leafFn hs fi e val wr) (fun b0 => some b0) k e.1.1 e.1.2.2 e.2.1 e.2.2.1).symm
theorem fnIs : FnIs Tryz.prog 88 Tryz.f88 (bodyOf Tryz.f88) 94 := ⟨by kernel_rfl, by kernel_rfl, by kernel_rfl, by kernel_rfl⟩
theorem ok (k : Nat) : CalleeOK Tryz.prog 88 (callee k) :=
  callee_sig (T := (List Int)) fnIs hm (fE k) (loopsOK_of [(0, subC (bodyOf Tryz.f88) [1, 1, 1, 1, 1, 0, 0, 0]), (2, subC (bodyOf Tryz.f88) [1, 1, 1, 1, 1, 1, 0, 1, 0, 0]), (4, subC (bodyOf Tryz.f88) [1, 1, 1, 1, 1, 1, 1, 0, 0, 0]), (6, subC (bodyOf Tryz.f88) [1, 1, 1, 1, 1, 1, 1, 1, 1, 0, 1, 0, 0])] (by kernel_rfl) ⟨of_loop (l0.sum k) rfl (l0.ok k), ⟨of_loop (l2.sum k) rfl (l2.ok k), ⟨of_loop (l4.sum k) rfl (l4.ok k), ⟨of_loop (l6.sum k) rfl (l6.ok k), trivial⟩⟩⟩⟩) ps hs cl hn fi (fun (d : (Unit × Unit)) (e : (((List Int) × (Unit × Int)) × (List Int) × (List Int) × Unit)) => f k e.1.1 e.1.2.2 e.2.1 e.2.2.1) val wr rfl (fun _ => rfl) (run_f k)
end digest_Hasher_Sum
namespace digest_Of
def tree {X : Type} (K : (List Int) → Option X) (k : Nat) (m0 : (List (List Int))) (m1 : (List Int)) (m2 : (List Int)) : Option X :=
  (Option.bind (digest_New.f k m1) (fun r1 => (Option.bind (digest_Hasher_Write.f k r1.1 r1.2 m0 m2) (fun r2 => (Option.bind (digest_Hasher_Sum.f k r2.1 r2.2.1 m2 r2.2.2) (fun r3 => (K r3)))))))
def f (k : Nat) (m0 : (List (List Int))) (m1 : (List Int)) (m2 : (List Int)) : Option (List Int) := tree (fun b0 => some b0) k m0 m1 m2
theorem tree_nat {X Y : Type} (h : X → Option Y) (K : (List Int) → Option X) (k : Nat) (m0 : (List (List Int))) (m1 : (List Int)) (m2 : (List Int)) : Option.bind (tree K k m0 m1 m2) h = tree (fun b0 => Option.bind (K b0) h) k m0 m1 m2 := by
  simp only [tree, bif_bind, sel_bind', Option.bind_assoc, Option.bind_none, Option.bind_some]
abbrev ps : List Sh := [.vec 0]
abbrev hs : List (Nat × ESh) := [(0, .rows 2 9 .str), (1, .glob 2 (.arr .u32 8)), (2, .glob 3 (.arr .u32 64))]
abbrev hi : List Nat := hs.map (·.1)
abbrev fi : List Nat := [0, 1, 2]
abbrev cl : List (Place × Nat × Hint) := []
abbrev hn : List Hint := [.any]
def val (t : (List Int)) : AV := Sh.mk (.data (.arr .u8 32)) t
def wr (t : (List Int)) : Heap := []
def callee (k : Nat) : Callee := sigCallee ps hs (fun (d : (Unit × Unit)) (e : ((List (List Int)) × (List Int) × (List Int) × Unit)) => f k e.1 e.2.1 e.2.2.1) val wr
def E (k : Nat) : Env := ⟨fnTab [(86, [digest_New.callee k]), (87, [digest_Hasher_Write.callee k]), (88, [digest_Hasher_Sum.callee k])], loopTab [], natsTab [(86, [1]), (87, [2]), (88, [2])], natTab [(2, 1), (3, 2)]⟩
theorem fE (k : Nat) : ∀ f, ∀ c ∈ (E k).fn f, CalleeOK Tryz.prog f c := fnTab_ok ⟨⟨digest_New.ok k, trivial⟩, ⟨digest_Hasher_Write.ok k, trivial⟩, ⟨digest_Hasher_Sum.ok k, trivial⟩, trivial⟩
theorem run (k : Nat) (d : (Unit × Unit)) (e : ((List (List Int)) × (List Int) × (List Int) × Unit)) : runFn Tryz.prog (E k) 10 (bodyOf Tryz.f76) Tryz.f76.results.toList cl hn hi (mkL ps d) (mkH hs e) =
    tree (fun b0 => leafFn hs fi e val wr b0) k e.1 e.2.1 e.2.2.1 := by kernel_rfl
theorem run_f (k : Nat) (d : (Unit × Unit)) (e : ((List (List Int)) × (List Int) × (List Int) × Unit)) : runFn Tryz.prog (E k) 10 (bodyOf Tryz.f76) Tryz.f76.results.toList cl hn hi (mkL ps d) (mkH hs e) = (f k e.1 e.2.1 e.2.2.1).bind (leafFn hs fi e val wr) :=
  (run k d e).trans (tree_nat (leafFn hs fi e val wr) (fun b0 => some b0) k e.1 e.2.1 e.2.2.1).symm
theorem fnIs : FnIs Tryz.prog 76 Tryz.f76 (bodyOf Tryz.f76) 10 := ⟨by kernel_rfl, by kernel_rfl, by kernel_rfl, by kernel_rfl⟩
theorem ok (k : Nat) : CalleeOK Tryz.prog 76 (callee k) :=
  callee_sig (T := (List Int)) fnIs hm (fE k) (loopsOK_of [] (by kernel_rfl) trivial) ps hs cl hn fi (fun (d : (Unit × Unit)) (e : ((List (List Int)) × (List Int) × (List Int) × Unit)) => f k e.1 e.2.1 e.2.2.1) val wr rfl (fun _ => rfl) (run_f k)
end digest_Of
namespace digest_Double
def tree {X : Type} (K : (List Int) → Option X) (k : Nat) (m0 : (List (List Int))) (m1 : (List Int)) (m2 : (List Int)) : Option X :=
  (Option.bind (digest_Of.f k m0 m1 m2) (fun r1 => (Option.bind (digest_Of.f k ([(toStr (List.take 32 r1))] : (List (List Int))) m1 m2) (fun r2 => (K r2)))))
def f (k : Nat) (m0 : (List (List Int))) (m1 : (List Int)) (m2 : (List Int)) : Option (List Int) := tree (fun b0 => some b0) k m0 m1 m2
theorem tree_nat {X Y : Type} (h : X → Option Y) (K : (List Int) → Option X) (k : Nat) (m0 : (List (List Int))) (m1 : (List Int)) (m2 : (List Int)) : Option.bind (tree K k m0 m1 m2) h = tree (fun b0 => Option.bind (K b0) h) k m0 m1 m2 := by
  simp only [tree, bif_bind, sel_bind', Option.bind_assoc, Option.bind_none, Option.bind_some]
abbrev ps : List Sh := [.vec 0]
abbrev hs : List (Nat × ESh) := [(0, .rows 2 9 .str), (1, .glob 2 (.arr .u32 8)), (2, .glob 3 (.arr .u32 64))]
abbrev hi : List Nat := hs.map (·.1)
abbrev fi : List Nat := [0, 1, 2]
abbrev cl : List (Place × Nat × Hint) := []
abbrev hn : List Hint := [.any]
def val (t : (List Int)) : AV := Sh.mk (.data (.arr .u8 32)) t
def wr (t : (List Int)) : Heap := []
def callee (k : Nat) : Callee := sigCallee ps hs (fun (d : (Unit × Unit)) (e : ((List (List Int)) × (List Int) × (List Int) × Unit)) => f k e.1 e.2.1 e.2.2.1) val wr
def E (k : Nat) : Env := ⟨fnTab [(76, [digest_Of.callee k])], loopTab [], natsTab [(76, [1, 2])], natTab [(2, 1), (3, 2)]⟩
theorem fE (k : Nat) : ∀ f, ∀ c ∈ (E k).fn f, CalleeOK Tryz.prog f c := fnTab_ok ⟨⟨digest_Of.ok k, trivial⟩, trivial⟩
theorem run (k : Nat) (d : (Unit × Unit)) (e : ((List (List Int)) × (List Int) × (List Int) × Unit)) : runFn Tryz.prog (E k) 10 (bodyOf Tryz.f65) Tryz.f65.results.toList cl hn hi (mkL ps d) (mkH hs e) =
    tree (fun b0 => leafFn hs fi e val wr b0) k e.1 e.2.1 e.2.2.1 := by kernel_rfl
theorem run_f (k : Nat) (d : (Unit × Unit)) (e : ((List (List Int)) × (List Int) × (List Int) × Unit)) : runFn Tryz.prog (E k) 10 (bodyOf Tryz.f65) Tryz.f65.results.toList cl hn hi (mkL ps d) (mkH hs e) = (f k e.1 e.2.1 e.2.2.1).bind (leafFn hs fi e val wr) :=
  (run k d e).trans (tree_nat (leafFn hs fi e val wr) (fun b0 => some b0) k e.1 e.2.1 e.2.2.1).symm
theorem fnIs : FnIs Tryz.prog 65 Tryz.f65 (bodyOf Tryz.f65) 10 := ⟨by kernel_rfl, by kernel_rfl, by kernel_rfl, by kernel_rfl⟩
theorem ok (k : Nat) : CalleeOK Tryz.prog 65 (callee k) :=
  callee_sig (T := (List Int)) fnIs hm (fE k) (loopsOK_of [] (by kernel_rfl) trivial) ps hs cl hn fi (fun (d : (Unit × Unit)) (e : ((List (List Int)) × (List Int) × (List Int) × Unit)) => f k e.1 e.2.1 e.2.2.1) val wr rfl (fun _ => rfl) (run_f k)
end digest_Double
namespace envelope_sum
def tree {X : Type} (K : (List Int) → Option X) (k : Nat) (a0 : (List Int)) (m0 : (List Int)) (m1 : (List Int)) : Option X :=
  (Option.bind (digest_Double.f k ([a0] : (List (List Int))) m0 m1) (fun r1 => (K (toStr (List.take 4 r1)))))
def f (k : Nat) (a0 : (List Int)) (m0 : (List Int)) (m1 : (List Int)) : Option (List Int) := tree (fun b0 => some b0) k a0 m0 m1
theorem tree_nat {X Y : Type} (h : X → Option Y) (K : (List Int) → Option X) (k : Nat) (a0 : (List Int)) (m0 : (List Int)) (m1 : (List Int)) : Option.bind (tree K k a0 m0 m1) h = tree (fun b0 => Option.bind (K b0) h) k a0 m0 m1 := by
  simp only [tree, bif_bind, sel_bind', Option.bind_assoc, Option.bind_none, Option.bind_some]
abbrev ps : List Sh := [.data .str]
abbrev hs : List (Nat × ESh) := [(0, .glob 2 (.arr .u32 8)), (1, .glob 3 (.arr .u32 64))]
abbrev hi : List Nat := hs.map (·.1)
abbrev fi : List Nat := [0, 1]
abbrev cl : List (Place × Nat × Hint) := []
abbrev hn : List Hint := [.any]
def val (t : (List Int)) : AV := Sh.mk (.data .str) t
def wr (t : (List Int)) : Heap := []
def callee (k : Nat) : Callee := sigCallee ps hs (fun (d : ((List Int) × Unit)) (e : ((List Int) × (List Int) × Unit)) => f k d.1 e.1 e.2.1) val wr
def E (k : Nat) : Env := ⟨fnTab [(65, [digest_Double.callee k])], loopTab [], natsTab [(65, [0, 1])], natTab [(2, 0), (3, 1)]⟩
theorem fE (k : Nat) : ∀ f, ∀ c ∈ (E k).fn f, CalleeOK Tryz.prog f c := fnTab_ok ⟨⟨digest_Double.ok k, trivial⟩, trivial⟩
theorem run (k : Nat) (d : ((List Int) × Unit)) (e : ((List Int) × (List Int) × Unit)) : runFn Tryz.prog (E k) 9 (bodyOf Tryz.f45) Tryz.f45.results.toList cl hn hi (mkL ps d) (mkH hs e) =
    tree (fun b0 => leafFn hs fi e val wr b0) k d.1 e.1 e.2.1 := by kernel_rfl
theorem run_f (k : Nat) (d : ((List Int) × Unit)) (e : ((List Int) × (List Int) × Unit)) : runFn Tryz.prog (E k) 9 (bodyOf Tryz.f45) Tryz.f45.results.toList cl hn hi (mkL ps d) (mkH hs e) = (f k d.1 e.1 e.2.1).bind (leafFn hs fi e val wr) :=
  (run k d e).trans (tree_nat (leafFn hs fi e val wr) (fun b0 => some b0) k d.1 e.1 e.2.1).symm
theorem fnIs : FnIs Tryz.prog 45 Tryz.f45 (bodyOf Tryz.f45) 9 := ⟨by kernel_rfl, by kernel_rfl, by kernel_rfl, by kernel_rfl⟩
theorem ok (k : Nat) : CalleeOK Tryz.prog 45 (callee k) :=
  callee_sig (T := (List Int)) fnIs hm (fE k) (loopsOK_of [] (by kernel_rfl) trivial) ps hs cl hn fi (fun (d : ((List Int) × Unit)) (e : ((List Int) × (List Int) × Unit)) => f k d.1 e.1 e.2.1) val wr rfl (fun _ => rfl) (run_f k)
end envelope_sum
namespace envelope_Bytes
def tree {X : Type} (K : (List Int) → Int → Option X) (k : Nat) (a0 : ((List Int) × (List Int))) (m0 : (List Int)) (m1 : (List Int)) : Option X :=
  (Option.bind (envelope_Good.f k a0) (fun r1 => (bif (!r1) then (K ([] : (List Int)) (1 : Int)) else (Option.bind (scroll_Pen_Put.f k (4 : Int) ([1279869268] : (List Int))) (fun r2 => (Option.bind (strings_Repeat.f k ([0] : (List Int)) (subI .i64 12 ((List.length a0.1) : Int))) (fun r3 => (bif (fits ((List.length a0.1) + (List.length r3))) then (Option.bind (scroll_Pen_Raw.f k (a0.1 ++ r3) r2) (fun r4 => (Option.bind (scroll_Pen_Put_v1.f k (4 : Int) ([((List.length a0.2) : Int)] : (List Int)) r4) (fun r5 => (Option.bind (envelope_sum.f k a0.2 m0 m1) (fun r6 => (Option.bind (scroll_Pen_Raw.f k r6 r5) (fun r7 => (Option.bind (scroll_Pen_Raw.f k a0.2 r7) (fun r8 => (Option.bind (scroll_Pen_Text.f k r8) (fun r9 => (K r9 (0 : Int)))))))))))))) else none))))))))
def f (k : Nat) (a0 : ((List Int) × (List Int))) (m0 : (List Int)) (m1 : (List Int)) : Option ((List Int) × Int) := tree (fun b0 b1 => some (b0, b1)) k a0 m0 m1
theorem tree_nat {X Y : Type} (h : X → Option Y) (K : (List Int) → Int → Option X) (k : Nat) (a0 : ((List Int) × (List Int))) (m0 : (List Int)) (m1 : (List Int)) : Option.bind (tree K k a0 m0 m1) h = tree (fun b0 b1 => Option.bind (K b0 b1) h) k a0 m0 m1 := by
  simp only [tree, bif_bind, sel_bind', Option.bind_assoc, Option.bind_none, Option.bind_some]
abbrev ps : List Sh := [.data (.pair .str .str)]
abbrev hs : List (Nat × ESh) := [(0, .glob 2 (.arr .u32 8)), (1, .glob 3 (.arr .u32 64))]
abbrev hi : List Nat := hs.map (·.1)
abbrev fi : List Nat := [0, 1]
abbrev cl : List (Place × Nat × Hint) := []
abbrev hn : List Hint := [.any, .any]
def val (t : ((List Int) × Int)) : AV := .tcons (Sh.mk (.data .str) t.1) (.tcons (Sh.mk (.data (.int .i64)) t.2) .tnil)
def wr (t : ((List Int) × Int)) : Heap := []
def callee (k : Nat) : Callee := sigCallee ps hs (fun (d : (((List Int) × (List Int)) × Unit)) (e : ((List Int) × (List Int) × Unit)) => f k d.1 e.1 e.2.1) val wr
def E (k : Nat) : Env := ⟨fnTab [(41, [envelope_Good.callee k]), (42, [scroll_Pen_Put.callee k, scroll_Pen_Put_v1.callee k]), (44, [strings_Repeat.callee k]), (43, [scroll_Pen_Raw.callee k]), (45, [envelope_sum.callee k]), (46, [scroll_Pen_Text.callee k])], loopTab [], natsTab [(45, [0, 1])], natTab [(2, 0), (3, 1)]⟩
theorem fE (k : Nat) : ∀ f, ∀ c ∈ (E k).fn f, CalleeOK Tryz.prog f c := fnTab_ok ⟨⟨envelope_Good.ok k, trivial⟩, ⟨scroll_Pen_Put.ok k, scroll_Pen_Put_v1.ok k, trivial⟩, ⟨strings_Repeat.ok k, trivial⟩, ⟨scroll_Pen_Raw.ok k, trivial⟩, ⟨envelope_sum.ok k, trivial⟩, ⟨scroll_Pen_Text.ok k, trivial⟩, trivial⟩
theorem run (k : Nat) (d : (((List Int) × (List Int)) × Unit)) (e : ((List Int) × (List Int) × Unit)) : runFn Tryz.prog (E k) 40 (bodyOf Tryz.f17) Tryz.f17.results.toList cl hn hi (mkL ps d) (mkH hs e) =
    tree (fun b0 b1 => leafFn hs fi e val wr (b0, b1)) k d.1 e.1 e.2.1 := by kernel_rfl
theorem run_f (k : Nat) (d : (((List Int) × (List Int)) × Unit)) (e : ((List Int) × (List Int) × Unit)) : runFn Tryz.prog (E k) 40 (bodyOf Tryz.f17) Tryz.f17.results.toList cl hn hi (mkL ps d) (mkH hs e) = (f k d.1 e.1 e.2.1).bind (leafFn hs fi e val wr) :=
  (run k d e).trans (tree_nat (leafFn hs fi e val wr) (fun b0 b1 => some (b0, b1)) k d.1 e.1 e.2.1).symm
theorem fnIs : FnIs Tryz.prog 17 Tryz.f17 (bodyOf Tryz.f17) 40 := ⟨by kernel_rfl, by kernel_rfl, by kernel_rfl, by kernel_rfl⟩
theorem ok (k : Nat) : CalleeOK Tryz.prog 17 (callee k) :=
  callee_sig (T := ((List Int) × Int)) fnIs hm (fE k) (loopsOK_of [] (by kernel_rfl) trivial) ps hs cl hn fi (fun (d : (((List Int) × (List Int)) × Unit)) (e : ((List Int) × (List Int) × Unit)) => f k d.1 e.1 e.2.1) val wr rfl (fun _ => rfl) (run_f k)
end envelope_Bytes
namespace speech_Bytes
def tree {X : Type} (K : (List Int) → Int → Option X) (k : Nat) (a0 : T_85bbee) (m0 : T_9fe11e) (m1 : (List Int)) (m2 : (List Int)) : Option X :=
  (Option.bind (speech_Good.f k a0) (fun r1 => (bif (!r1) then (K ([] : (List Int)) (1 : Int)) else (Option.bind (speech_Word.f k a0.1 m0) (fun r2 => (Option.bind (speech_payload.f k a0) (fun r3 => (Option.bind (envelope_Bytes.f k ((r2, r3) : ((List Int) × (List Int))) m1 m2) (fun r4 => (K r4.1 r4.2))))))))))
def f (k : Nat) (a0 : T_85bbee) (m0 : T_9fe11e) (m1 : (List Int)) (m2 : (List Int)) : Option ((List Int) × Int) := tree (fun b0 b1 => some (b0, b1)) k a0 m0 m1 m2
theorem tree_nat {X Y : Type} (h : X → Option Y) (K : (List Int) → Int → Option X) (k : Nat) (a0 : T_85bbee) (m0 : T_9fe11e) (m1 : (List Int)) (m2 : (List Int)) : Option.bind (tree K k a0 m0 m1 m2) h = tree (fun b0 b1 => Option.bind (K b0 b1) h) k a0 m0 m1 m2 := by
  simp only [tree, bif_bind, sel_bind', Option.bind_assoc, Option.bind_none, Option.bind_some]
abbrev ps : List Sh := [.data (.pair (.int .i64) (.pair (.int .i64) (.pair (.int .i64) (.pair (.int .i64) (.pair (.int .i64) (.pair (.row 24 (.arr .u8 32)) (.pair (.arr .u8 32) (.row 44 (.pair (.int .i64) (.pair (.arr .u8 32) (.pair (.arr .u8 32) (.pair (.int .i64) (.pair (.int .i64) (.int .i64))))))))))))))]
abbrev hs : List (Nat × ESh) := [(0, .glob 0 (.pair .str (.pair .str (.pair .str (.pair .str (.pair .str (.pair .str (.pair .str (.pair .str .str))))))))), (1, .glob 2 (.arr .u32 8)), (2, .glob 3 (.arr .u32 64))]
abbrev hi : List Nat := hs.map (·.1)
abbrev fi : List Nat := [0, 1, 2]
abbrev cl : List (Place × Nat × Hint) := []
abbrev hn : List Hint := [.any, .any]
def val (t : ((List Int) × Int)) : AV := .tcons (Sh.mk (.data .str) t.1) (.tcons (Sh.mk (.data (.int .i64)) t.2) .tnil)
def wr (t : ((List Int) × Int)) : Heap := []
def callee (k : Nat) : Callee := sigCallee ps hs (fun (d : (T_85bbee × Unit)) (e : (T_9fe11e × (List Int) × (List Int) × Unit)) => f k d.1 e.1 e.2.1 e.2.2.1) val wr
def E (k : Nat) : Env := ⟨fnTab [(8, [speech_Good.callee k]), (18, [speech_Word.callee k]), (19, [speech_payload.callee k]), (17, [envelope_Bytes.callee k])], loopTab [], natsTab [(18, [0]), (17, [1, 2])], natTab [(0, 0), (2, 1), (3, 2)]⟩
theorem fE (k : Nat) : ∀ f, ∀ c ∈ (E k).fn f, CalleeOK Tryz.prog f c := fnTab_ok ⟨⟨speech_Good.ok k, trivial⟩, ⟨speech_Word.ok k, trivial⟩, ⟨speech_payload.ok k, trivial⟩, ⟨envelope_Bytes.ok k, trivial⟩, trivial⟩
theorem run (k : Nat) (d : (T_85bbee × Unit)) (e : (T_9fe11e × (List Int) × (List Int) × Unit)) : runFn Tryz.prog (E k) 16 (bodyOf Tryz.f7) Tryz.f7.results.toList cl hn hi (mkL ps d) (mkH hs e) =
    tree (fun b0 b1 => leafFn hs fi e val wr (b0, b1)) k d.1 e.1 e.2.1 e.2.2.1 := by kernel_rfl
theorem run_f (k : Nat) (d : (T_85bbee × Unit)) (e : (T_9fe11e × (List Int) × (List Int) × Unit)) : runFn Tryz.prog (E k) 16 (bodyOf Tryz.f7) Tryz.f7.results.toList cl hn hi (mkL ps d) (mkH hs e) = (f k d.1 e.1 e.2.1 e.2.2.1).bind (leafFn hs fi e val wr) :=
  (run k d e).trans (tree_nat (leafFn hs fi e val wr) (fun b0 b1 => some (b0, b1)) k d.1 e.1 e.2.1 e.2.2.1).symm
theorem fnIs : FnIs Tryz.prog 7 Tryz.f7 (bodyOf Tryz.f7) 16 := ⟨by kernel_rfl, by kernel_rfl, by kernel_rfl, by kernel_rfl⟩
theorem ok (k : Nat) : CalleeOK Tryz.prog 7 (callee k) :=
  callee_sig (T := ((List Int) × Int)) fnIs hm (fE k) (loopsOK_of [] (by kernel_rfl) trivial) ps hs cl hn fi (fun (d : (T_85bbee × Unit)) (e : (T_9fe11e × (List Int) × (List Int) × Unit)) => f k d.1 e.1 e.2.1 e.2.2.1) val wr rfl (fun _ => rfl) (run_f k)
end speech_Bytes
namespace trailheadref01_padded
namespace l0
def step {X : Type} (K : (List Int) → Option X) (G : (List Int) → Option X) (k : Nat) (x3 : Int) (x0 : (List Int)) : Option X :=
  (bif ((remI ((List.length x0) : Int) 64) != (56 : Int)) then (bif (fits ((List.length x0) + 1)) then (G (x0 ++ ([0] : (List Int)))) else none) else (K x0))
def go {X : Type} (K : (List Int) → Option X) (k : Nat) (x3 : Int) : Nat → (List Int) → Option X
  | 0, _ => none
  | n + 1, x0 => step K (go K k x3 n) k x3 x0
def f (k : Nat) (x3 : Int) (n : Nat) (x0 : (List Int)) : Option (List Int) := go (fun x0 => some x0) k x3 n x0
theorem step_nat {X Y : Type} (h : X → Option Y) (K : (List Int) → Option X) (G : (List Int) → Option X) (k : Nat) (x3 : Int) (x0 : (List Int)) : Option.bind (step K G k x3 x0) h = step (fun x0 => Option.bind (K x0) h) (fun x0 => Option.bind (G x0) h) k x3 x0 := by
  simp only [step, bif_bind, sel_bind', Option.bind_assoc, Option.bind_none, Option.bind_some]
theorem go_nat {X Y : Type} (h : X → Option Y) (K : (List Int) → Option X) (k : Nat) (x3 : Int) (n : Nat) : ∀ (x0 : (List Int)), Option.bind (go K k x3 n x0) h = go (fun x0 => Option.bind (K x0) h) k x3 n x0 := by
  induction n with
  | zero => intros; rfl
  | succ n ih => intro x0; show Option.bind (step K (go K k x3 n) k x3 x0) h = step (fun x0 => Option.bind (K x0) h) (go (fun x0 => Option.bind (K x0) h) k x3 n) k x3 x0; rw [step_nat h]; simp only [ih]
abbrev S : List (Nat × Sh) := [(0, .data .str), (3, .data (.int .i64))]
abbrev H : List (Nat × ESh) := []
abbrev cl : List (Place × Nat × Hint) := []
abbrev hn : List (Nat × Hint) := [(0, .any), (3, .any)]
abbrev kp : List Nat := []
abbrev rc : List (Place × Nat × Hint) := []
abbrev rs : List (Nat × Hint) := []
abbrev ri : List Nat := []
def KX (d : ((List Int) × Int × Unit)) (e : Unit) (v : (List Int)) : St := ⟨mkS S (v, d.2.1, ()), mkH H (())⟩
def sum (k : Nat) : LoopSum := sigLoopX S cl hn kp H 0 (fun (d : ((List Int) × Int × Unit)) (e : Unit) => f k d.2.1 k d.1) KX
end l0
namespace l2
def step {X : Type} (K : Int → (List Int) → Int → Option X) (G : Int → (List Int) → Int → Option X) (k : Nat) (x0 : (List Int)) (x3 : Int) (x4 : (List Int)) (x5 : Int) : Option X :=
  (bif (decide (x5 < (8 : Int))) then (bif (fits ((List.length (toStr ([(IntKind.wrap .u8 (remI x3 256))] : (List Int)))) + (List.length x4))) then (G (quoI .i64 x3 256) ((toStr ([(IntKind.wrap .u8 (remI x3 256))] : (List Int))) ++ x4) (addI .i64 x5 1)) else none) else (K x3 x4 x5))
def go {X : Type} (K : Int → (List Int) → Int → Option X) (k : Nat) (x0 : (List Int)) : Nat → Int → (List Int) → Int → Option X
  | 0, _, _, _ => none
  | n + 1, x3, x4, x5 => step K (go K k x0 n) k x0 x3 x4 x5
def f (k : Nat) (x0 : (List Int)) (n : Nat) (x3 : Int) (x4 : (List Int)) (x5 : Int) : Option (Int × ((List Int) × Int)) := go (fun x3 x4 x5 => some (x3, x4, x5)) k x0 n x3 x4 x5
theorem step_nat {X Y : Type} (h : X → Option Y) (K : Int → (List Int) → Int → Option X) (G : Int → (List Int) → Int → Option X) (k : Nat) (x0 : (List Int)) (x3 : Int) (x4 : (List Int)) (x5 : Int) : Option.bind (step K G k x0 x3 x4 x5) h = step (fun x3 x4 x5 => Option.bind (K x3 x4 x5) h) (fun x3 x4 x5 => Option.bind (G x3 x4 x5) h) k x0 x3 x4 x5 := by
  simp only [step, bif_bind, sel_bind', Option.bind_assoc, Option.bind_none, Option.bind_some]
theorem go_nat {X Y : Type} (h : X → Option Y) (K : Int → (List Int) → Int → Option X) (k : Nat) (x0 : (List Int)) (n : Nat) : ∀ (x3 : Int) (x4 : (List Int)) (x5 : Int), Option.bind (go K k x0 n x3 x4 x5) h = go (fun x3 x4 x5 => Option.bind (K x3 x4 x5) h) k x0 n x3 x4 x5 := by
  induction n with
  | zero => intros; rfl
  | succ n ih => intro x3 x4 x5; show Option.bind (step K (go K k x0 n) k x0 x3 x4 x5) h = step (fun x3 x4 x5 => Option.bind (K x3 x4 x5) h) (go (fun x3 x4 x5 => Option.bind (K x3 x4 x5) h) k x0 n) k x0 x3 x4 x5; rw [step_nat h]; simp only [ih]
abbrev S : List (Nat × Sh) := [(0, .data .str), (3, .data (.int .i64)), (4, .data .str), (5, .data (.int .i64))]
abbrev H : List (Nat × ESh) := []
abbrev cl : List (Place × Nat × Hint) := []
abbrev hn : List (Nat × Hint) := [(0, .any), (3, .any), (4, .any), (5, .any)]
abbrev kp : List Nat := []
abbrev rc : List (Place × Nat × Hint) := []
abbrev rs : List (Nat × Hint) := []
abbrev ri : List Nat := []
def KX (d : ((List Int) × Int × (List Int) × Int × Unit)) (e : Unit) (v : (Int × ((List Int) × Int))) : St := ⟨mkS S (d.1, v.1, v.2.1, v.2.2, ()), mkH H (())⟩
def sum (k : Nat) : LoopSum := sigLoopX S cl hn kp H 2 (fun (d : ((List Int) × Int × (List Int) × Int × Unit)) (e : Unit) => f k d.1 k d.2.1 d.2.2.1 d.2.2.2.1) KX
end l2
def tree {X : Type} (K : (List Int) → Option X) (k : Nat) (a0 : (List Int)) : Option X :=
  (bif (fits ((List.length a0) + 1)) then (Option.bind (trailheadref01_padded.l0.f k ((List.length a0) : Int) k (a0 ++ ([128] : (List Int)))) (fun r1 => (Option.bind (trailheadref01_padded.l2.f k r1 k (mulI .i64 8 ((List.length a0) : Int)) ([] : (List Int)) (0 : Int)) (fun r2 => (bif (fits ((List.length r1) + (List.length r2.2.1))) then (K (r1 ++ r2.2.1)) else none))))) else none)
def f (k : Nat) (a0 : (List Int)) : Option (List Int) := tree (fun b0 => some b0) k a0
theorem tree_nat {X Y : Type} (h : X → Option Y) (K : (List Int) → Option X) (k : Nat) (a0 : (List Int)) : Option.bind (tree K k a0) h = tree (fun b0 => Option.bind (K b0) h) k a0 := by
  simp only [tree, bif_bind, sel_bind', Option.bind_assoc, Option.bind_none, Option.bind_some]
abbrev ps : List Sh := [.data .str]
abbrev hs : List (Nat × ESh) := []
abbrev hi : List Nat := hs.map (·.1)
abbrev fi : List Nat := []
abbrev cl : List (Place × Nat × Hint) := []
abbrev hn : List Hint := [.any]
def val (t : (List Int)) : AV := Sh.mk (.data .str) t
def wr (t : (List Int)) : Heap := []
def callee (k : Nat) : Callee := sigCallee ps hs (fun (d : ((List Int) × Unit)) (e : Unit) => f k d.1) val wr
def E (k : Nat) : Env := ⟨fnTab [], loopTab [(0, l0.sum k), (2, l2.sum k)], natsTab [], natTab []⟩
theorem fE (k : Nat) : ∀ f, ∀ c ∈ (E k).fn f, CalleeOK Tryz.prog f c := fnTab_ok trivial
namespace l0
theorem round (k : Nat) (d : ((List Int) × Int × Unit)) (e : Unit) (G : St → Option (Ex × St)) : roundK Tryz.prog (E k) 34 0 (subC (bodyOf Tryz.f67) [1, 1, 1, 0, 0, 0]) (recast cl hn kp) (finBy cl hn kp rc rs ri) G ⟨mkS S d, mkH H e⟩ =
    step (fun x0 => some (.exit 0, KX d e x0)) (fun x0 => G ⟨mkS S (x0, d.2.1, ()), mkH H (())⟩) k d.2.1 d.1 := by kernel_rfl
theorem it (k n : Nat) (d : ((List Int) × Int × Unit)) (e : Unit) : loopIt Tryz.prog (E k) 34 0 (subC (bodyOf Tryz.f67) [1, 1, 1, 0, 0, 0]) (recast cl hn kp) (finBy cl hn kp rc rs ri) n ⟨mkS S d, mkH H e⟩ = go (fun x0 => some (.exit 0, KX d e x0)) k d.2.1 n d.1 :=
  loopIt_eq (D := ((List Int) × Int × Unit) × Unit) (fun p => ⟨mkS S p.1, mkH H p.2⟩) (fun F p => step (fun x0 => some (.exit 0, KX p.1 p.2 x0)) (fun x0 => F ((x0, p.1.2.1, ()), (()))) k p.1.2.1 p.1.1) (fun n p => go (fun x0 => some (.exit 0, KX p.1 p.2 x0)) k p.1.2.1 n p.1.1) (fun _ => rfl) (fun _ _ => rfl) (fun G p => round k p.1 p.2 G) n (d, e)
theorem ok (k : Nat) : LoopOK Tryz.prog 34 (subC (bodyOf Tryz.f67) [1, 1, 1, 0, 0, 0]) (sum k) :=
  loop_sigX hm (fE k) (loopsOK_of [] (by kernel_rfl) trivial) S cl hn kp H 0 (fun (d : ((List Int) × Int × Unit)) (e : Unit) => f k d.2.1 k d.1) KX cl hn kp rc rs ri k
    (fun d e => (it k k d e).trans (go_nat (fun v => some (Ex.exit 0, KX d e v)) (fun x0 => some x0) k d.2.1 k d.1).symm)
end l0
namespace l2
theorem round (k : Nat) (d : ((List Int) × Int × (List Int) × Int × Unit)) (e : Unit) (G : St → Option (Ex × St)) : roundK Tryz.prog (E k) 34 2 (subC (bodyOf Tryz.f67) [1, 1, 1, 1, 1, 1, 0, 1, 0, 0]) (recast cl hn kp) (finBy cl hn kp rc rs ri) G ⟨mkS S d, mkH H e⟩ =
    step (fun x3 x4 x5 => some (.exit 2, KX d e (x3, x4, x5))) (fun x3 x4 x5 => G ⟨mkS S (d.1, x3, x4, x5, ()), mkH H (())⟩) k d.1 d.2.1 d.2.2.1 d.2.2.2.1 := by kernel_rfl
theorem it (k n : Nat) (d : ((List Int) × Int × (List Int) × Int × Unit)) (e : Unit) : loopIt Tryz.prog (E k) 34 2 (subC (bodyOf Tryz.f67) [1, 1, 1, 1, 1, 1, 0, 1, 0, 0]) (recast cl hn kp) (finBy cl hn kp rc rs ri) n ⟨mkS S d, mkH H e⟩ = go (fun x3 x4 x5 => some (.exit 2, KX d e (x3, x4, x5))) k d.1 n d.2.1 d.2.2.1 d.2.2.2.1 :=
  loopIt_eq (D := ((List Int) × Int × (List Int) × Int × Unit) × Unit) (fun p => ⟨mkS S p.1, mkH H p.2⟩) (fun F p => step (fun x3 x4 x5 => some (.exit 2, KX p.1 p.2 (x3, x4, x5))) (fun x3 x4 x5 => F ((p.1.1, x3, x4, x5, ()), (()))) k p.1.1 p.1.2.1 p.1.2.2.1 p.1.2.2.2.1) (fun n p => go (fun x3 x4 x5 => some (.exit 2, KX p.1 p.2 (x3, x4, x5))) k p.1.1 n p.1.2.1 p.1.2.2.1 p.1.2.2.2.1) (fun _ => rfl) (fun _ _ => rfl) (fun G p => round k p.1 p.2 G) n (d, e)
theorem ok (k : Nat) : LoopOK Tryz.prog 34 (subC (bodyOf Tryz.f67) [1, 1, 1, 1, 1, 1, 0, 1, 0, 0]) (sum k) :=
  loop_sigX hm (fE k) (loopsOK_of [] (by kernel_rfl) trivial) S cl hn kp H 2 (fun (d : ((List Int) × Int × (List Int) × Int × Unit)) (e : Unit) => f k d.1 k d.2.1 d.2.2.1 d.2.2.2.1) KX cl hn kp rc rs ri k
    (fun d e => (it k k d e).trans (go_nat (fun v => some (Ex.exit 2, KX d e v)) (fun x3 x4 x5 => some (x3, x4, x5)) k d.1 k d.2.1 d.2.2.1 d.2.2.2.1).symm)
end l2
theorem run (k : Nat) (d : ((List Int) × Unit)) (e : Unit) : runFn Tryz.prog (E k) 34 (bodyOf Tryz.f67) Tryz.f67.results.toList cl hn hi (mkL ps d) (mkH hs e) =
    tree (fun b0 => leafFn hs fi e val wr b0) k d.1 := by kernel_rfl
theorem run_f (k : Nat) (d : ((List Int) × Unit)) (e : Unit) : runFn Tryz.prog (E k) 34 (bodyOf Tryz.f67) Tryz.f67.results.toList cl hn hi (mkL ps d) (mkH hs e) = (f k d.1).bind (leafFn hs fi e val wr) :=
  (run k d e).trans (tree_nat (leafFn hs fi e val wr) (fun b0 => some b0) k d.1).symm
theorem fnIs : FnIs Tryz.prog 67 Tryz.f67 (bodyOf Tryz.f67) 34 := ⟨by kernel_rfl, by kernel_rfl, by kernel_rfl, by kernel_rfl⟩
theorem ok (k : Nat) : CalleeOK Tryz.prog 67 (callee k) :=
  callee_sig (T := (List Int)) fnIs hm (fE k) (loopsOK_of [(0, subC (bodyOf Tryz.f67) [1, 1, 1, 0, 0, 0]), (2, subC (bodyOf Tryz.f67) [1, 1, 1, 1, 1, 1, 0, 1, 0, 0])] (by kernel_rfl) ⟨of_loop (l0.sum k) rfl (l0.ok k), ⟨of_loop (l2.sum k) rfl (l2.ok k), trivial⟩⟩) ps hs cl hn fi (fun (d : ((List Int) × Unit)) (e : Unit) => f k d.1) val wr rfl (fun _ => rfl) (run_f k)
end trailheadref01_padded
namespace trailheadref01_right
def tree {X : Type} (K : Int → Option X) (k : Nat) (a0 : Int) (a1 : Int) : Option X :=
  (bif (decide (a1 < 0)) then none else (bif (decide ((subI .u64 32 a1) < 0)) then none else (K (addI .u32 (shrI .u32 a0 a1) (shlI .u32 a0 (subI .u64 32 a1))))))
def f (k : Nat) (a0 : Int) (a1 : Int) : Option Int := tree (fun b0 => some b0) k a0 a1
theorem tree_nat {X Y : Type} (h : X → Option Y) (K : Int → Option X) (k : Nat) (a0 : Int) (a1 : Int) : Option.bind (tree K k a0 a1) h = tree (fun b0 => Option.bind (K b0) h) k a0 a1 := by
  simp only [tree, bif_bind, sel_bind', Option.bind_assoc, Option.bind_none, Option.bind_some]
abbrev ps : List Sh := [.data (.int .u32), .data (.int .u64)]
abbrev hs : List (Nat × ESh) := []
abbrev hi : List Nat := hs.map (·.1)
abbrev fi : List Nat := []
abbrev cl : List (Place × Nat × Hint) := []
abbrev hn : List Hint := [.any]
def val (t : Int) : AV := Sh.mk (.data (.int .u32)) t
def wr (t : Int) : Heap := []
def callee (k : Nat) : Callee := sigCallee ps hs (fun (d : (Int × Int × Unit)) (e : Unit) => f k d.1 d.2.1) val wr
def E (k : Nat) : Env := ⟨fnTab [], loopTab [], natsTab [], natTab []⟩
theorem fE (k : Nat) : ∀ f, ∀ c ∈ (E k).fn f, CalleeOK Tryz.prog f c := fnTab_ok trivial
theorem run (k : Nat) (d : (Int × Int × Unit)) (e : Unit) : runFn Tryz.prog (E k) 13 (bodyOf Tryz.f68) Tryz.f68.results.toList cl hn hi (mkL ps d) (mkH hs e) =
    tree (fun b0 => leafFn hs fi e val wr b0) k d.1 d.2.1 := by kernel_rfl
theorem run_f (k : Nat) (d : (Int × Int × Unit)) (e : Unit) : runFn Tryz.prog (E k) 13 (bodyOf Tryz.f68) Tryz.f68.results.toList cl hn hi (mkL ps d) (mkH hs e) = (f k d.1 d.2.1).bind (leafFn hs fi e val wr) :=
  (run k d e).trans (tree_nat (leafFn hs fi e val wr) (fun b0 => some b0) k d.1 d.2.1).symm
theorem fnIs : FnIs Tryz.prog 68 Tryz.f68 (bodyOf Tryz.f68) 13 := ⟨by kernel_rfl, by kernel_rfl, by kernel_rfl, by kernel_rfl⟩
theorem ok (k : Nat) : CalleeOK Tryz.prog 68 (callee k) :=
  callee_sig (T := Int) fnIs hm (fE k) (loopsOK_of [] (by kernel_rfl) trivial) ps hs cl hn fi (fun (d : (Int × Int × Unit)) (e : Unit) => f k d.1 d.2.1) val wr rfl (fun _ => rfl) (run_f k)
end trailheadref01_right
namespace trailheadref01_k
def tree {X : Type} (K : Int → Option X) (k : Nat) (a0 : Int) : Option X :=
  (bif (decide (0 ≤ a0)) then (bif (decide (a0 < 64)) then (K (List.getD ([1116352408, 1899447441, 3049323471, 3921009573, 961987163, 1508970993, 2453635748, 2870763221, 3624381080, 310598401, 607225278, 1426881987, 1925078388, 2162078206, 2614888103, 3248222580, 3835390401, 4022224774, 264347078, 604807628, 770255983, 1249150122, 1555081692, 1996064986, 2554220882, 2821834349, 2952996808, 3210313671, 3336571891, 3584528711, 113926993, 338241895, 666307205, 773529912, 1294757372, 1396182291, 1695183700, 1986661051, 2177026350, 2456956037, 2730485921, 2820302411, 3259730800, 3345764771, 3516065817, 3600352804, 4094571909, 275423344, 430227734, 506948616, 659060556, 883997877, 958139571, 1322822218, 1537002063, 1747873779, 1955562222, 2024104815, 2227730452, 2361852424, 2428436474, 2756734187, 3204031479, 3329325298] : (List Int)) (Int.toNat a0) 0)) else none) else none)
def f (k : Nat) (a0 : Int) : Option Int := tree (fun b0 => some b0) k a0
theorem tree_nat {X Y : Type} (h : X → Option Y) (K : Int → Option X) (k : Nat) (a0 : Int) : Option.bind (tree K k a0) h = tree (fun b0 => Option.bind (K b0) h) k a0 := by
  simp only [tree, bif_bind, sel_bind', Option.bind_assoc, Option.bind_none, Option.bind_some]
abbrev ps : List Sh := [.data (.int .i64)]
abbrev hs : List (Nat × ESh) := []
abbrev hi : List Nat := hs.map (·.1)
abbrev fi : List Nat := []
abbrev cl : List (Place × Nat × Hint) := []
abbrev hn : List Hint := [.any]
def val (t : Int) : AV := Sh.mk (.data (.int .u32)) t
def wr (t : Int) : Heap := []
def callee (k : Nat) : Callee := sigCallee ps hs (fun (d : (Int × Unit)) (e : Unit) => f k d.1) val wr
def E (k : Nat) : Env := ⟨fnTab [], loopTab [], natsTab [], natTab []⟩
theorem fE (k : Nat) : ∀ f, ∀ c ∈ (E k).fn f, CalleeOK Tryz.prog f c := fnTab_ok trivial
theorem run (k : Nat) (d : (Int × Unit)) (e : Unit) : runFn Tryz.prog (E k) 6 (bodyOf Tryz.f69) Tryz.f69.results.toList cl hn hi (mkL ps d) (mkH hs e) =
    tree (fun b0 => leafFn hs fi e val wr b0) k d.1 := by kernel_rfl
theorem run_f (k : Nat) (d : (Int × Unit)) (e : Unit) : runFn Tryz.prog (E k) 6 (bodyOf Tryz.f69) Tryz.f69.results.toList cl hn hi (mkL ps d) (mkH hs e) = (f k d.1).bind (leafFn hs fi e val wr) :=
  (run k d e).trans (tree_nat (leafFn hs fi e val wr) (fun b0 => some b0) k d.1).symm
theorem fnIs : FnIs Tryz.prog 69 Tryz.f69 (bodyOf Tryz.f69) 6 := ⟨by kernel_rfl, by kernel_rfl, by kernel_rfl, by kernel_rfl⟩
theorem ok (k : Nat) : CalleeOK Tryz.prog 69 (callee k) :=
  callee_sig (T := Int) fnIs hm (fE k) (loopsOK_of [] (by kernel_rfl) trivial) ps hs cl hn fi (fun (d : (Int × Unit)) (e : Unit) => f k d.1) val wr rfl (fun _ => rfl) (run_f k)
end trailheadref01_k
namespace trailheadref01_Of
namespace l4
def step {X : Type} (K : Int → (List Int) → Option X) (G : Int → (List Int) → Option X) (k : Nat) (x4 : (List Int)) (x5 : Int) (x7 : Int) (y800000 : (List Int)) (y800001 : (List Int)) (x8 : Int) (y800002 : (List Int)) : Option X :=
  (bif (decide (x8 < (4 : Int))) then (bif (decide (0 ≤ x7)) then (bif (decide (x7 < 64)) then (bif (decide ((Int.toNat x7) < 64)) then (bif (decide (0 ≤ (addI .i64 (addI .i64 x5 (mulI .i64 4 x7)) x8))) then (bif (decide ((addI .i64 (addI .i64 x5 (mulI .i64 4 x7)) x8) < ((List.length x4) : Int))) then (bif (decide (0 ≤ x7)) then (bif (decide (x7 < 64)) then (bif (decide ((Int.toNat x7) < 64)) then (G (addI .i64 x8 1) (List.set y800002 (Int.toNat x7) (addI .u32 (mulI .u32 (List.getD y800002 (Int.toNat x7) 0) 256) (IntKind.wrap .u32 (List.getD x4 (Int.toNat (addI .i64 (addI .i64 x5 (mulI .i64 4 x7)) x8)) 0))))) else none) else none) else none) else none) else none) else none) else none) else none) else (K x8 y800002))
def go {X : Type} (K : Int → (List Int) → Option X) (k : Nat) (x4 : (List Int)) (x5 : Int) (x7 : Int) (y800000 : (List Int)) (y800001 : (List Int)) : Nat → Int → (List Int) → Option X
  | 0, _, _ => none
  | n + 1, x8, y800002 => step K (go K k x4 x5 x7 y800000 y800001 n) k x4 x5 x7 y800000 y800001 x8 y800002
def f (k : Nat) (x4 : (List Int)) (x5 : Int) (x7 : Int) (y800000 : (List Int)) (y800001 : (List Int)) (n : Nat) (x8 : Int) (y800002 : (List Int)) : Option (Int × (List Int)) := go (fun x8 y800002 => some (x8, y800002)) k x4 x5 x7 y800000 y800001 n x8 y800002
theorem step_nat {X Y : Type} (h : X → Option Y) (K : Int → (List Int) → Option X) (G : Int → (List Int) → Option X) (k : Nat) (x4 : (List Int)) (x5 : Int) (x7 : Int) (y800000 : (List Int)) (y800001 : (List Int)) (x8 : Int) (y800002 : (List Int)) : Option.bind (step K G k x4 x5 x7 y800000 y800001 x8 y800002) h = step (fun x8 y800002 => Option.bind (K x8 y800002) h) (fun x8 y800002 => Option.bind (G x8 y800002) h) k x4 x5 x7 y800000 y800001 x8 y800002 := by
  simp only [step, bif_bind, sel_bind', Option.bind_assoc, Option.bind_none, Option.bind_some]
theorem go_nat {X Y : Type} (h : X → Option Y) (K : Int → (List Int) → Option X) (k : Nat) (x4 : (List Int)) (x5 : Int) (x7 : Int) (y800000 : (List Int)) (y800001 : (List Int)) (n : Nat) : ∀ (x8 : Int) (y800002 : (List Int)), Option.bind (go K k x4 x5 x7 y800000 y800001 n x8 y800002) h = go (fun x8 y800002 => Option.bind (K x8 y800002) h) k x4 x5 x7 y800000 y800001 n x8 y800002 := by
  induction n with
  | zero => intros; rfl
  | succ n ih => intro x8 y800002; show Option.bind (step K (go K k x4 x5 x7 y800000 y800001 n) k x4 x5 x7 y800000 y800001 x8 y800002) h = step (fun x8 y800002 => Option.bind (K x8 y800002) h) (go (fun x8 y800002 => Option.bind (K x8 y800002) h) k x4 x5 x7 y800000 y800001 n) k x4 x5 x7 y800000 y800001 x8 y800002; rw [step_nat h]; simp only [ih]
abbrev S : List (Nat × Sh) := [(2, .ptr 800000), (3, .ptr 800001), (4, .data .str), (5, .data (.int .i64)), (6, .ptr 800002), (7, .data (.int .i64)), (8, .data (.int .i64))]
abbrev H : List (Nat × ESh) := [(800000, .cell (.data (.arr .u8 32))), (800001, .cell (.data (.arr .u32 8))), (800002, .cell (.data (.arr .u32 64)))]
abbrev cl : List (Place × Nat × Hint) := []
abbrev hn : List (Nat × Hint) := [(2, .any), (3, .any), (4, .any), (5, .any), (6, .any), (7, .any), (8, .any)]
abbrev kp : List Nat := []
abbrev rc : List (Place × Nat × Hint) := []
abbrev rs : List (Nat × Hint) := []
abbrev ri : List Nat := []
def KX (d : (Unit × Unit × (List Int) × Int × Unit × Int × Int × Unit)) (e : ((List Int) × (List Int) × (List Int) × Unit)) (v : (Int × (List Int))) : St := ⟨mkS S ((), (), d.2.2.1, d.2.2.2.1, (), d.2.2.2.2.2.1, v.1, ()), mkH H (e.1, e.2.1, v.2, ())⟩
def sum (k : Nat) : LoopSum := sigLoopX S cl hn kp H 4 (fun (d : (Unit × Unit × (List Int) × Int × Unit × Int × Int × Unit)) (e : ((List Int) × (List Int) × (List Int) × Unit)) => f k d.2.2.1 d.2.2.2.1 d.2.2.2.2.2.1 e.1 e.2.1 k d.2.2.2.2.2.2.1 e.2.2.1) KX
end l4
namespace l2
def step {X : Type} (K : Int → (List Int) → Option X) (G : Int → (List Int) → Option X) (k : Nat) (x4 : (List Int)) (x5 : Int) (y800000 : (List Int)) (y800001 : (List Int)) (x7 : Int) (y800002 : (List Int)) : Option X :=
  (bif (decide (x7 < (16 : Int))) then (Option.bind (trailheadref01_Of.l4.f k x4 x5 x7 y800000 y800001 k (0 : Int) y800002) (fun r2 => (G (addI .i64 x7 1) r2.2))) else (K x7 y800002))
def go {X : Type} (K : Int → (List Int) → Option X) (k : Nat) (x4 : (List Int)) (x5 : Int) (y800000 : (List Int)) (y800001 : (List Int)) : Nat → Int → (List Int) → Option X
  | 0, _, _ => none
  | n + 1, x7, y800002 => step K (go K k x4 x5 y800000 y800001 n) k x4 x5 y800000 y800001 x7 y800002
def f (k : Nat) (x4 : (List Int)) (x5 : Int) (y800000 : (List Int)) (y800001 : (List Int)) (n : Nat) (x7 : Int) (y800002 : (List Int)) : Option (Int × (List Int)) := go (fun x7 y800002 => some (x7, y800002)) k x4 x5 y800000 y800001 n x7 y800002
theorem step_nat {X Y : Type} (h : X → Option Y) (K : Int → (List Int) → Option X) (G : Int → (List Int) → Option X) (k : Nat) (x4 : (List Int)) (x5 : Int) (y800000 : (List Int)) (y800001 : (List Int)) (x7 : Int) (y800002 : (List Int)) : Option.bind (step K G k x4 x5 y800000 y800001 x7 y800002) h = step (fun x7 y800002 => Option.bind (K x7 y800002) h) (fun x7 y800002 => Option.bind (G x7 y800002) h) k x4 x5 y800000 y800001 x7 y800002 := by
  simp only [step, bif_bind, sel_bind', Option.bind_assoc, Option.bind_none, Option.bind_some]
theorem go_nat {X Y : Type} (h : X → Option Y) (K : Int → (List Int) → Option X) (k : Nat) (x4 : (List Int)) (x5 : Int) (y800000 : (List Int)) (y800001 : (List Int)) (n : Nat) : ∀ (x7 : Int) (y800002 : (List Int)), Option.bind (go K k x4 x5 y800000 y800001 n x7 y800002) h = go (fun x7 y800002 => Option.bind (K x7 y800002) h) k x4 x5 y800000 y800001 n x7 y800002 := by
  induction n with
  | zero => intros; rfl
  | succ n ih => intro x7 y800002; show Option.bind (step K (go K k x4 x5 y800000 y800001 n) k x4 x5 y800000 y800001 x7 y800002) h = step (fun x7 y800002 => Option.bind (K x7 y800002) h) (go (fun x7 y800002 => Option.bind (K x7 y800002) h) k x4 x5 y800000 y800001 n) k x4 x5 y800000 y800001 x7 y800002; rw [step_nat h]; simp only [ih]
abbrev S : List (Nat × Sh) := [(2, .ptr 800000), (3, .ptr 800001), (4, .data .str), (5, .data (.int .i64)), (6, .ptr 800002), (7, .data (.int .i64))]
abbrev H : List (Nat × ESh) := [(800000, .cell (.data (.arr .u8 32))), (800001, .cell (.data (.arr .u32 8))), (800002, .cell (.data (.arr .u32 64)))]
abbrev cl : List (Place × Nat × Hint) := []
abbrev hn : List (Nat × Hint) := [(2, .any), (3, .any), (4, .any), (5, .any), (6, .any), (7, .any)]
abbrev kp : List Nat := []
abbrev rc : List (Place × Nat × Hint) := []
abbrev rs : List (Nat × Hint) := []
abbrev ri : List Nat := []
def KX (d : (Unit × Unit × (List Int) × Int × Unit × Int × Unit)) (e : ((List Int) × (List Int) × (List Int) × Unit)) (v : (Int × (List Int))) : St := ⟨mkS S ((), (), d.2.2.1, d.2.2.2.1, (), v.1, ()), mkH H (e.1, e.2.1, v.2, ())⟩
def sum (k : Nat) : LoopSum := sigLoopX S cl hn kp H 2 (fun (d : (Unit × Unit × (List Int) × Int × Unit × Int × Unit)) (e : ((List Int) × (List Int) × (List Int) × Unit)) => f k d.2.2.1 d.2.2.2.1 e.1 e.2.1 k d.2.2.2.2.2.1 e.2.2.1) KX
end l2
namespace l6
def step {X : Type} (K : Int → (List Int) → Option X) (G : Int → (List Int) → Option X) (k : Nat) (x4 : (List Int)) (x5 : Int) (y800000 : (List Int)) (y800001 : (List Int)) (x9 : Int) (y800002 : (List Int)) : Option X :=
  (bif (decide (x9 < (64 : Int))) then (bif (decide (0 ≤ (subI .i64 x9 15))) then (bif (decide ((subI .i64 x9 15) < 64)) then (bif (decide ((Int.toNat (subI .i64 x9 15)) < 64)) then (Option.bind (trailheadref01_right.f k (List.getD y800002 (Int.toNat (subI .i64 x9 15)) 0) (7 : Int)) (fun r4 => (bif (decide (0 ≤ (subI .i64 x9 15))) then (bif (decide ((subI .i64 x9 15) < 64)) then (bif (decide ((Int.toNat (subI .i64 x9 15)) < 64)) then (Option.bind (trailheadref01_right.f k (List.getD y800002 (Int.toNat (subI .i64 x9 15)) 0) (18 : Int)) (fun r5 => (bif (decide (0 ≤ (subI .i64 x9 15))) then (bif (decide ((subI .i64 x9 15) < 64)) then (bif (decide ((Int.toNat (subI .i64 x9 15)) < 64)) then (bif (decide (0 ≤ (subI .i64 x9 2))) then (bif (decide ((subI .i64 x9 2) < 64)) then (bif (decide ((Int.toNat (subI .i64 x9 2)) < 64)) then (Option.bind (trailheadref01_right.f k (List.getD y800002 (Int.toNat (subI .i64 x9 2)) 0) (17 : Int)) (fun r6 => (bif (decide (0 ≤ (subI .i64 x9 2))) then (bif (decide ((subI .i64 x9 2) < 64)) then (bif (decide ((Int.toNat (subI .i64 x9 2)) < 64)) then (Option.bind (trailheadref01_right.f k (List.getD y800002 (Int.toNat (subI .i64 x9 2)) 0) (19 : Int)) (fun r7 => (bif (decide (0 ≤ (subI .i64 x9 2))) then (bif (decide ((subI .i64 x9 2) < 64)) then (bif (decide ((Int.toNat (subI .i64 x9 2)) < 64)) then (bif (decide (0 ≤ (subI .i64 x9 16))) then (bif (decide ((subI .i64 x9 16) < 64)) then (bif (decide ((Int.toNat (subI .i64 x9 16)) < 64)) then (bif (decide (0 ≤ (subI .i64 x9 7))) then (bif (decide ((subI .i64 x9 7) < 64)) then (bif (decide ((Int.toNat (subI .i64 x9 7)) < 64)) then (bif (decide (0 ≤ x9)) then (bif (decide (x9 < 64)) then (bif (decide ((Int.toNat x9) < 64)) then (G (addI .i64 x9 1) (List.set y800002 (Int.toNat x9) (addI .u32 (addI .u32 (addI .u32 (List.getD y800002 (Int.toNat (subI .i64 x9 16)) 0) (xorI .u32 (xorI .u32 r4 r5) (quoI .u32 (List.getD y800002 (Int.toNat (subI .i64 x9 15)) 0) 8))) (List.getD y800002 (Int.toNat (subI .i64 x9 7)) 0)) (xorI .u32 (xorI .u32 r6 r7) (quoI .u32 (List.getD y800002 (Int.toNat (subI .i64 x9 2)) 0) 1024))))) else none) else none) else none) else none) else none) else none) else none) else none) else none) else none) else none) else none))) else none) else none) else none))) else none) else none) else none) else none) else none) else none))) else none) else none) else none))) else none) else none) else none) else (K x9 y800002))
def go {X : Type} (K : Int → (List Int) → Option X) (k : Nat) (x4 : (List Int)) (x5 : Int) (y800000 : (List Int)) (y800001 : (List Int)) : Nat → Int → (List Int) → Option X
  | 0, _, _ => none
  | n + 1, x9, y800002 => step K (go K k x4 x5 y800000 y800001 n) k x4 x5 y800000 y800001 x9 y800002
def f (k : Nat) (x4 : (List Int)) (x5 : Int) (y800000 : (List Int)) (y800001 : (List Int)) (n : Nat) (x9 : Int) (y800002 : (List Int)) : Option (Int × (List Int)) := go (fun x9 y800002 => some (x9, y800002)) k x4 x5 y800000 y800001 n x9 y800002
theorem step_nat {X Y : Type} (h : X → Option Y) (K : Int → (List Int) → Option X) (G : Int → (List Int) → Option X) (k : Nat) (x4 : (List Int)) (x5 : Int) (y800000 : (List Int)) (y800001 : (List Int)) (x9 : Int) (y800002 : (List Int)) : Option.bind (step K G k x4 x5 y800000 y800001 x9 y800002) h = step (fun x9 y800002 => Option.bind (K x9 y800002) h) (fun x9 y800002 => Option.bind (G x9 y800002) h) k x4 x5 y800000 y800001 x9 y800002 := by
  simp only [step, bif_bind, sel_bind', Option.bind_assoc, Option.bind_none, Option.bind_some]
theorem go_nat {X Y : Type} (h : X → Option Y) (K : Int → (List Int) → Option X) (k : Nat) (x4 : (List Int)) (x5 : Int) (y800000 : (List Int)) (y800001 : (List Int)) (n : Nat) : ∀ (x9 : Int) (y800002 : (List Int)), Option.bind (go K k x4 x5 y800000 y800001 n x9 y800002) h = go (fun x9 y800002 => Option.bind (K x9 y800002) h) k x4 x5 y800000 y800001 n x9 y800002 := by
  induction n with
  | zero => intros; rfl
  | succ n ih => intro x9 y800002; show Option.bind (step K (go K k x4 x5 y800000 y800001 n) k x4 x5 y800000 y800001 x9 y800002) h = step (fun x9 y800002 => Option.bind (K x9 y800002) h) (go (fun x9 y800002 => Option.bind (K x9 y800002) h) k x4 x5 y800000 y800001 n) k x4 x5 y800000 y800001 x9 y800002; rw [step_nat h]; simp only [ih]
abbrev S : List (Nat × Sh) := [(2, .ptr 800000), (3, .ptr 800001), (4, .data .str), (5, .data (.int .i64)), (6, .ptr 800002), (9, .data (.int .i64))]
abbrev H : List (Nat × ESh) := [(800000, .cell (.data (.arr .u8 32))), (800001, .cell (.data (.arr .u32 8))), (800002, .cell (.data (.arr .u32 64)))]
abbrev cl : List (Place × Nat × Hint) := []
abbrev hn : List (Nat × Hint) := [(2, .any), (3, .any), (4, .any), (5, .any), (6, .any), (9, .any)]
abbrev kp : List Nat := []
abbrev rc : List (Place × Nat × Hint) := []
abbrev rs : List (Nat × Hint) := []
abbrev ri : List Nat := []
def KX (d : (Unit × Unit × (List Int) × Int × Unit × Int × Unit)) (e : ((List Int) × (List Int) × (List Int) × Unit)) (v : (Int × (List Int))) : St := ⟨mkS S ((), (), d.2.2.1, d.2.2.2.1, (), v.1, ()), mkH H (e.1, e.2.1, v.2, ())⟩
def sum (k : Nat) : LoopSum := sigLoopX S cl hn kp H 6 (fun (d : (Unit × Unit × (List Int) × Int × Unit × Int × Unit)) (e : ((List Int) × (List Int) × (List Int) × Unit)) => f k d.2.2.1 d.2.2.2.1 e.1 e.2.1 k d.2.2.2.2.2.1 e.2.2.1) KX
end l6
namespace l8
def step {X : Type} (K : Int → (List Int) → Option X) (G : Int → (List Int) → Option X) (k : Nat) (x4 : (List Int)) (x5 : Int) (y800000 : (List Int)) (y800001 : (List Int)) (y800002 : (List Int)) (x13 : Int) (y800003 : (List Int)) : Option X :=
  (bif (decide (x13 < (64 : Int))) then (Option.bind (trailheadref01_right.f k (List.getD y800003 4 0) (6 : Int)) (fun r9 => (Option.bind (trailheadref01_right.f k (List.getD y800003 4 0) (11 : Int)) (fun r10 => (Option.bind (trailheadref01_right.f k (List.getD y800003 4 0) (25 : Int)) (fun r11 => (Option.bind (trailheadref01_k.f k x13) (fun r12 => (bif (decide (0 ≤ x13)) then (bif (decide (x13 < 64)) then (bif (decide ((Int.toNat x13) < 64)) then (Option.bind (trailheadref01_right.f k (List.getD y800003 0 0) (2 : Int)) (fun r13 => (Option.bind (trailheadref01_right.f k (List.getD y800003 0 0) (13 : Int)) (fun r14 => (Option.bind (trailheadref01_right.f k (List.getD y800003 0 0) (22 : Int)) (fun r15 => (G (addI .i64 x13 1) ([(addI .u32 (addI .u32 (addI .u32 (addI .u32 (addI .u32 (List.getD y800003 7 0) (xorI .u32 (xorI .u32 r9 r10) r11)) (orI .u32 (andI .u32 (List.getD y800003 4 0) (List.getD y800003 5 0)) (andI .u32 (subI .u32 4294967295 (List.getD y800003 4 0)) (List.getD y800003 6 0)))) r12) (List.getD y800002 (Int.toNat x13) 0)) (addI .u32 (xorI .u32 (xorI .u32 r13 r14) r15) (orI .u32 (orI .u32 (andI .u32 (List.getD y800003 0 0) (List.getD y800003 1 0)) (andI .u32 (List.getD y800003 0 0) (List.getD y800003 2 0))) (andI .u32 (List.getD y800003 1 0) (List.getD y800003 2 0))))), (List.getD y800003 0 0), (List.getD y800003 1 0), (List.getD y800003 2 0), (addI .u32 (List.getD y800003 3 0) (addI .u32 (addI .u32 (addI .u32 (addI .u32 (List.getD y800003 7 0) (xorI .u32 (xorI .u32 r9 r10) r11)) (orI .u32 (andI .u32 (List.getD y800003 4 0) (List.getD y800003 5 0)) (andI .u32 (subI .u32 4294967295 (List.getD y800003 4 0)) (List.getD y800003 6 0)))) r12) (List.getD y800002 (Int.toNat x13) 0))), (List.getD y800003 4 0), (List.getD y800003 5 0), (List.getD y800003 6 0)] : (List Int))))))))) else none) else none) else none))))))))) else (K x13 y800003))
def go {X : Type} (K : Int → (List Int) → Option X) (k : Nat) (x4 : (List Int)) (x5 : Int) (y800000 : (List Int)) (y800001 : (List Int)) (y800002 : (List Int)) : Nat → Int → (List Int) → Option X
  | 0, _, _ => none
  | n + 1, x13, y800003 => step K (go K k x4 x5 y800000 y800001 y800002 n) k x4 x5 y800000 y800001 y800002 x13 y800003
def f (k : Nat) (x4 : (List Int)) (x5 : Int) (y800000 : (List Int)) (y800001 : (List Int)) (y800002 : (List Int)) (n : Nat) (x13 : Int) (y800003 : (List Int)) : Option (Int × (List Int)) := go (fun x13 y800003 => some (x13, y800003)) k x4 x5 y800000 y800001 y800002 n x13 y800003
theorem step_nat {X Y : Type} (h : X → Option Y) (K : Int → (List Int) → Option X) (G : Int → (List Int) → Option X) (k : Nat) (x4 : (List Int)) (x5 : Int) (y800000 : (List Int)) (y800001 : (List Int)) (y800002 : (List Int)) (x13 : Int) (y800003 : (List Int)) : Option.bind (step K G k x4 x5 y800000 y800001 y800002 x13 y800003) h = step (fun x13 y800003 => Option.bind (K x13 y800003) h) (fun x13 y800003 => Option.bind (G x13 y800003) h) k x4 x5 y800000 y800001 y800002 x13 y800003 := by
  simp only [step, bif_bind, sel_bind', Option.bind_assoc, Option.bind_none, Option.bind_some]
theorem go_nat {X Y : Type} (h : X → Option Y) (K : Int → (List Int) → Option X) (k : Nat) (x4 : (List Int)) (x5 : Int) (y800000 : (List Int)) (y800001 : (List Int)) (y800002 : (List Int)) (n : Nat) : ∀ (x13 : Int) (y800003 : (List Int)), Option.bind (go K k x4 x5 y800000 y800001 y800002 n x13 y800003) h = go (fun x13 y800003 => Option.bind (K x13 y800003) h) k x4 x5 y800000 y800001 y800002 n x13 y800003 := by
  induction n with
  | zero => intros; rfl
  | succ n ih => intro x13 y800003; show Option.bind (step K (go K k x4 x5 y800000 y800001 y800002 n) k x4 x5 y800000 y800001 y800002 x13 y800003) h = step (fun x13 y800003 => Option.bind (K x13 y800003) h) (go (fun x13 y800003 => Option.bind (K x13 y800003) h) k x4 x5 y800000 y800001 y800002 n) k x4 x5 y800000 y800001 y800002 x13 y800003; rw [step_nat h]; simp only [ih]
abbrev S : List (Nat × Sh) := [(2, .ptr 800000), (3, .ptr 800001), (4, .data .str), (5, .data (.int .i64)), (6, .ptr 800002), (12, .ptr 800003), (13, .data (.int .i64))]
abbrev H : List (Nat × ESh) := [(800000, .cell (.data (.arr .u8 32))), (800001, .cell (.data (.arr .u32 8))), (800002, .cell (.data (.arr .u32 64))), (800003, .cell (.data (.arr .u32 8)))]
abbrev cl : List (Place × Nat × Hint) := []
abbrev hn : List (Nat × Hint) := [(2, .any), (3, .any), (4, .any), (5, .any), (6, .any), (12, .any), (13, .any)]
abbrev kp : List Nat := []
abbrev rc : List (Place × Nat × Hint) := []
abbrev rs : List (Nat × Hint) := []
abbrev ri : List Nat := []
def KX (d : (Unit × Unit × (List Int) × Int × Unit × Unit × Int × Unit)) (e : ((List Int) × (List Int) × (List Int) × (List Int) × Unit)) (v : (Int × (List Int))) : St := ⟨mkS S ((), (), d.2.2.1, d.2.2.2.1, (), (), v.1, ()), mkH H (e.1, e.2.1, e.2.2.1, v.2, ())⟩
def sum (k : Nat) : LoopSum := sigLoopX S cl hn kp H 8 (fun (d : (Unit × Unit × (List Int) × Int × Unit × Unit × Int × Unit)) (e : ((List Int) × (List Int) × (List Int) × (List Int) × Unit)) => f k d.2.2.1 d.2.2.2.1 e.1 e.2.1 e.2.2.1 k d.2.2.2.2.2.2.1 e.2.2.2.1) KX
end l8
namespace l10
def step {X : Type} (K : Int → (List Int) → Option X) (G : Int → (List Int) → Option X) (k : Nat) (x4 : (List Int)) (x5 : Int) (y800000 : (List Int)) (y800002 : (List Int)) (x16 : Int) (y800001 : (List Int)) : Option X :=
  (bif (decide (x16 < (8 : Int))) then (bif (decide (0 ≤ x16)) then (bif (decide (x16 < 8)) then (bif (decide ((Int.toNat x16) < 8)) then (bif (decide (0 ≤ x16)) then (bif (decide (x16 < 8)) then (bif (decide ((Int.toNat x16) < 8)) then (bif (decide (0 ≤ x16)) then (bif (decide (x16 < 8)) then (bif (decide ((Int.toNat x16) < 8)) then (G (addI .i64 x16 1) (List.set y800001 (Int.toNat x16) (addI .u32 (List.getD y800001 (Int.toNat x16) 0) (List.getD y800002 (Int.toNat x16) 0)))) else none) else none) else none) else none) else none) else none) else none) else none) else none) else (K x16 y800001))
def go {X : Type} (K : Int → (List Int) → Option X) (k : Nat) (x4 : (List Int)) (x5 : Int) (y800000 : (List Int)) (y800002 : (List Int)) : Nat → Int → (List Int) → Option X
  | 0, _, _ => none
  | n + 1, x16, y800001 => step K (go K k x4 x5 y800000 y800002 n) k x4 x5 y800000 y800002 x16 y800001
def f (k : Nat) (x4 : (List Int)) (x5 : Int) (y800000 : (List Int)) (y800002 : (List Int)) (n : Nat) (x16 : Int) (y800001 : (List Int)) : Option (Int × (List Int)) := go (fun x16 y800001 => some (x16, y800001)) k x4 x5 y800000 y800002 n x16 y800001
theorem step_nat {X Y : Type} (h : X → Option Y) (K : Int → (List Int) → Option X) (G : Int → (List Int) → Option X) (k : Nat) (x4 : (List Int)) (x5 : Int) (y800000 : (List Int)) (y800002 : (List Int)) (x16 : Int) (y800001 : (List Int)) : Option.bind (step K G k x4 x5 y800000 y800002 x16 y800001) h = step (fun x16 y800001 => Option.bind (K x16 y800001) h) (fun x16 y800001 => Option.bind (G x16 y800001) h) k x4 x5 y800000 y800002 x16 y800001 := by
  simp only [step, bif_bind, sel_bind', Option.bind_assoc, Option.bind_none, Option.bind_some]
theorem go_nat {X Y : Type} (h : X → Option Y) (K : Int → (List Int) → Option X) (k : Nat) (x4 : (List Int)) (x5 : Int) (y800000 : (List Int)) (y800002 : (List Int)) (n : Nat) : ∀ (x16 : Int) (y800001 : (List Int)), Option.bind (go K k x4 x5 y800000 y800002 n x16 y800001) h = go (fun x16 y800001 => Option.bind (K x16 y800001) h) k x4 x5 y800000 y800002 n x16 y800001 := by
  induction n with
  | zero => intros; rfl
  | succ n ih => intro x16 y800001; show Option.bind (step K (go K k x4 x5 y800000 y800002 n) k x4 x5 y800000 y800002 x16 y800001) h = step (fun x16 y800001 => Option.bind (K x16 y800001) h) (go (fun x16 y800001 => Option.bind (K x16 y800001) h) k x4 x5 y800000 y800002 n) k x4 x5 y800000 y800002 x16 y800001; rw [step_nat h]; simp only [ih]
abbrev S : List (Nat × Sh) := [(2, .ptr 800000), (3, .ptr 800001), (4, .data .str), (5, .data (.int .i64)), (12, .ptr 800002), (16, .data (.int .i64))]
abbrev H : List (Nat × ESh) := [(800000, .cell (.data (.arr .u8 32))), (800001, .cell (.data (.arr .u32 8))), (800002, .cell (.data (.arr .u32 8)))]
abbrev cl : List (Place × Nat × Hint) := []
abbrev hn : List (Nat × Hint) := [(2, .any), (3, .any), (4, .any), (5, .any), (12, .any), (16, .any)]
abbrev kp : List Nat := []
abbrev rc : List (Place × Nat × Hint) := []
abbrev rs : List (Nat × Hint) := []
abbrev ri : List Nat := []
def KX (d : (Unit × Unit × (List Int) × Int × Unit × Int × Unit)) (e : ((List Int) × (List Int) × (List Int) × Unit)) (v : (Int × (List Int))) : St := ⟨mkS S ((), (), d.2.2.1, d.2.2.2.1, (), v.1, ()), mkH H (e.1, v.2, e.2.2.1, ())⟩
def sum (k : Nat) : LoopSum := sigLoopX S cl hn kp H 10 (fun (d : (Unit × Unit × (List Int) × Int × Unit × Int × Unit)) (e : ((List Int) × (List Int) × (List Int) × Unit)) => f k d.2.2.1 d.2.2.2.1 e.1 e.2.2.1 k d.2.2.2.2.2.1 e.2.1) KX
end l10
namespace l0
def step {X : Type} (K : Int → (List Int) → Option X) (G : Int → (List Int) → Option X) (k : Nat) (x4 : (List Int)) (y800000 : (List Int)) (x5 : Int) (y800001 : (List Int)) : Option X :=
  (bif (decide (x5 < ((List.length x4) : Int))) then (Option.bind (trailheadref01_Of.l2.f k x4 x5 y800000 y800001 k (0 : Int) ([0, 0, 0, 0, 0, 0, 0, 0, 0, 0, 0, 0, 0, 0, 0, 0, 0, 0, 0, 0, 0, 0, 0, 0, 0, 0, 0, 0, 0, 0, 0, 0, 0, 0, 0, 0, 0, 0, 0, 0, 0, 0, 0, 0, 0, 0, 0, 0, 0, 0, 0, 0, 0, 0, 0, 0, 0, 0, 0, 0, 0, 0, 0, 0] : (List Int))) (fun r3 => (Option.bind (trailheadref01_Of.l6.f k x4 x5 y800000 y800001 k (16 : Int) r3.2) (fun r8 => (Option.bind (trailheadref01_Of.l8.f k x4 x5 y800000 y800001 r8.2 k (0 : Int) y800001) (fun r16 => (Option.bind (trailheadref01_Of.l10.f k x4 x5 y800000 r16.2 k (0 : Int) y800001) (fun r17 => (G (addI .i64 x5 64) r17.2))))))))) else (K x5 y800001))
def go {X : Type} (K : Int → (List Int) → Option X) (k : Nat) (x4 : (List Int)) (y800000 : (List Int)) : Nat → Int → (List Int) → Option X
  | 0, _, _ => none
  | n + 1, x5, y800001 => step K (go K k x4 y800000 n) k x4 y800000 x5 y800001
def f (k : Nat) (x4 : (List Int)) (y800000 : (List Int)) (n : Nat) (x5 : Int) (y800001 : (List Int)) : Option (Int × (List Int)) := go (fun x5 y800001 => some (x5, y800001)) k x4 y800000 n x5 y800001
theorem step_nat {X Y : Type} (h : X → Option Y) (K : Int → (List Int) → Option X) (G : Int → (List Int) → Option X) (k : Nat) (x4 : (List Int)) (y800000 : (List Int)) (x5 : Int) (y800001 : (List Int)) : Option.bind (step K G k x4 y800000 x5 y800001) h = step (fun x5 y800001 => Option.bind (K x5 y800001) h) (fun x5 y800001 => Option.bind (G x5 y800001) h) k x4 y800000 x5 y800001 := by
  simp only [step, bif_bind, sel_bind', Option.bind_assoc, Option.bind_none, Option.bind_some]
theorem go_nat {X Y : Type} (h : X → Option Y) (K : Int → (List Int) → Option X) (k : Nat) (x4 : (List Int)) (y800000 : (List Int)) (n : Nat) : ∀ (x5 : Int) (y800001 : (List Int)), Option.bind (go K k x4 y800000 n x5 y800001) h = go (fun x5 y800001 => Option.bind (K x5 y800001) h) k x4 y800000 n x5 y800001 := by
  induction n with
  | zero => intros; rfl
  | succ n ih => intro x5 y800001; show Option.bind (step K (go K k x4 y800000 n) k x4 y800000 x5 y800001) h = step (fun x5 y800001 => Option.bind (K x5 y800001) h) (go (fun x5 y800001 => Option.bind (K x5 y800001) h) k x4 y800000 n) k x4 y800000 x5 y800001; rw [step_nat h]; simp only [ih]
abbrev S : List (Nat × Sh) := [(2, .ptr 800000), (3, .ptr 800001), (4, .data .str), (5, .data (.int .i64))]
abbrev H : List (Nat × ESh) := [(800000, .cell (.data (.arr .u8 32))), (800001, .cell (.data (.arr .u32 8)))]
abbrev cl : List (Place × Nat × Hint) := []
abbrev hn : List (Nat × Hint) := [(2, .any), (3, .any), (4, .any), (5, .any)]
abbrev kp : List Nat := []
abbrev rc : List (Place × Nat × Hint) := []
abbrev rs : List (Nat × Hint) := []
abbrev ri : List Nat := []
def KX (d : (Unit × Unit × (List Int) × Int × Unit)) (e : ((List Int) × (List Int) × Unit)) (v : (Int × (List Int))) : St := ⟨mkS S ((), (), d.2.2.1, v.1, ()), mkH H (e.1, v.2, ())⟩
def sum (k : Nat) : LoopSum := sigLoopX S cl hn kp H 0 (fun (d : (Unit × Unit × (List Int) × Int × Unit)) (e : ((List Int) × (List Int) × Unit)) => f k d.2.2.1 e.1 k d.2.2.2.1 e.2.1) KX
end l0
namespace l12
def step {X : Type} (K : Int → (List Int) → Option X) (G : Int → (List Int) → Option X) (k : Nat) (y800000 : (List Int)) (y800001 : (List Int)) (x18 : Int) (y800002 : (List Int)) : Option X :=
  (bif (decide (x18 < (32 : Int))) then (bif (decide (0 ≤ (quoI .i64 x18 4))) then (bif (decide ((quoI .i64 x18 4) < 8)) then (bif (decide ((Int.toNat (quoI .i64 x18 4)) < 8)) then (bif (decide ((IntKind.wrap .u64 (subI .i64 24 (mulI .i64 8 (remI x18 4)))) < 0)) then none else (bif (decide (0 ≤ x18)) then (bif (decide (x18 < 32)) then (bif (decide ((Int.toNat x18) < 32)) then (G (addI .i64 x18 1) (List.set y800002 (Int.toNat x18) (IntKind.wrap .u8 (remI (shrI .u32 (List.getD y800001 (Int.toNat (quoI .i64 x18 4)) 0) (IntKind.wrap .u64 (subI .i64 24 (mulI .i64 8 (remI x18 4))))) 256)))) else none) else none) else none)) else none) else none) else none) else (K x18 y800002))
def go {X : Type} (K : Int → (List Int) → Option X) (k : Nat) (y800000 : (List Int)) (y800001 : (List Int)) : Nat → Int → (List Int) → Option X
  | 0, _, _ => none
  | n + 1, x18, y800002 => step K (go K k y800000 y800001 n) k y800000 y800001 x18 y800002
def f (k : Nat) (y800000 : (List Int)) (y800001 : (List Int)) (n : Nat) (x18 : Int) (y800002 : (List Int)) : Option (Int × (List Int)) := go (fun x18 y800002 => some (x18, y800002)) k y800000 y800001 n x18 y800002
theorem step_nat {X Y : Type} (h : X → Option Y) (K : Int → (List Int) → Option X) (G : Int → (List Int) → Option X) (k : Nat) (y800000 : (List Int)) (y800001 : (List Int)) (x18 : Int) (y800002 : (List Int)) : Option.bind (step K G k y800000 y800001 x18 y800002) h = step (fun x18 y800002 => Option.bind (K x18 y800002) h) (fun x18 y800002 => Option.bind (G x18 y800002) h) k y800000 y800001 x18 y800002 := by
  simp only [step, bif_bind, sel_bind', Option.bind_assoc, Option.bind_none, Option.bind_some]
theorem go_nat {X Y : Type} (h : X → Option Y) (K : Int → (List Int) → Option X) (k : Nat) (y800000 : (List Int)) (y800001 : (List Int)) (n : Nat) : ∀ (x18 : Int) (y800002 : (List Int)), Option.bind (go K k y800000 y800001 n x18 y800002) h = go (fun x18 y800002 => Option.bind (K x18 y800002) h) k y800000 y800001 n x18 y800002 := by
  induction n with
  | zero => intros; rfl
  | succ n ih => intro x18 y800002; show Option.bind (step K (go K k y800000 y800001 n) k y800000 y800001 x18 y800002) h = step (fun x18 y800002 => Option.bind (K x18 y800002) h) (go (fun x18 y800002 => Option.bind (K x18 y800002) h) k y800000 y800001 n) k y800000 y800001 x18 y800002; rw [step_nat h]; simp only [ih]
abbrev S : List (Nat × Sh) := [(2, .ptr 800000), (3, .ptr 800001), (17, .ptr 800002), (18, .data (.int .i64))]
abbrev H : List (Nat × ESh) := [(800000, .cell (.data (.arr .u8 32))), (800001, .cell (.data (.arr .u32 8))), (800002, .cell (.data (.arr .u8 32)))]
abbrev cl : List (Place × Nat × Hint) := []
abbrev hn : List (Nat × Hint) := [(2, .any), (3, .any), (17, .any), (18, .any)]
abbrev kp : List Nat := []
abbrev rc : List (Place × Nat × Hint) := []
abbrev rs : List (Nat × Hint) := []
abbrev ri : List Nat := []
def KX (d : (Unit × Unit × Unit × Int × Unit)) (e : ((List Int) × (List Int) × (List Int) × Unit)) (v : (Int × (List Int))) : St := ⟨mkS S ((), (), (), v.1, ()), mkH H (e.1, e.2.1, v.2, ())⟩
def sum (k : Nat) : LoopSum := sigLoopX S cl hn kp H 12 (fun (d : (Unit × Unit × Unit × Int × Unit)) (e : ((List Int) × (List Int) × (List Int) × Unit)) => f k e.1 e.2.1 k d.2.2.2.1 e.2.2.1) KX
end l12
def tree {X : Type} (K : (List Int) → Option X) (k : Nat) (a0 : (List Int)) : Option X :=
  (Option.bind (trailheadref01_padded.f k a0) (fun r1 => (Option.bind (trailheadref01_Of.l0.f k r1 ([0, 0, 0, 0, 0, 0, 0, 0, 0, 0, 0, 0, 0, 0, 0, 0, 0, 0, 0, 0, 0, 0, 0, 0, 0, 0, 0, 0, 0, 0, 0, 0] : (List Int)) k (0 : Int) ([1779033703, 3144134277, 1013904242, 2773480762, 1359893119, 2600822924, 528734635, 1541459225] : (List Int))) (fun r18 => (Option.bind (trailheadref01_Of.l12.f k ([0, 0, 0, 0, 0, 0, 0, 0, 0, 0, 0, 0, 0, 0, 0, 0, 0, 0, 0, 0, 0, 0, 0, 0, 0, 0, 0, 0, 0, 0, 0, 0] : (List Int)) r18.2 k (0 : Int) ([0, 0, 0, 0, 0, 0, 0, 0, 0, 0, 0, 0, 0, 0, 0, 0, 0, 0, 0, 0, 0, 0, 0, 0, 0, 0, 0, 0, 0, 0, 0, 0] : (List Int))) (fun r19 => (K r19.2)))))))
def f (k : Nat) (a0 : (List Int)) : Option (List Int) := tree (fun b0 => some b0) k a0
theorem tree_nat {X Y : Type} (h : X → Option Y) (K : (List Int) → Option X) (k : Nat) (a0 : (List Int)) : Option.bind (tree K k a0) h = tree (fun b0 => Option.bind (K b0) h) k a0 := by
  simp only [tree, bif_bind, sel_bind', Option.bind_assoc, Option.bind_none, Option.bind_some]
abbrev ps : List Sh := [.data .str]
abbrev hs : List (Nat × ESh) := []
abbrev hi : List Nat := hs.map (·.1)
abbrev fi : List Nat := []
abbrev cl : List (Place × Nat × Hint) := []
abbrev hn : List Hint := [.any]
def val (t : (List Int)) : AV := Sh.mk (.data (.arr .u8 32)) t
def wr (t : (List Int)) : Heap := []
def callee (k : Nat) : Callee := sigCallee ps hs (fun (d : ((List Int) × Unit)) (e : Unit) => f k d.1) val wr
def E (k : Nat) : Env := ⟨fnTab [(67, [trailheadref01_padded.callee k]), (68, [trailheadref01_right.callee k]), (69, [trailheadref01_k.callee k])], loopTab [(4, l4.sum k), (2, l2.sum k), (6, l6.sum k), (8, l8.sum k), (10, l10.sum k), (0, l0.sum k), (12, l12.sum k)], natsTab [], natTab []⟩
theorem fE (k : Nat) : ∀ f, ∀ c ∈ (E k).fn f, CalleeOK Tryz.prog f c := fnTab_ok ⟨⟨trailheadref01_padded.ok k, trivial⟩, ⟨trailheadref01_right.ok k, trivial⟩, ⟨trailheadref01_k.ok k, trivial⟩, trivial⟩
namespace l4
theorem round (k : Nat) (d : (Unit × Unit × (List Int) × Int × Unit × Int × Int × Unit)) (e : ((List Int) × (List Int) × (List Int) × Unit)) (G : St → Option (Ex × St)) : roundK Tryz.prog (E k) 225 4 (subC (bodyOf Tryz.f57) [1, 1, 1, 0, 1, 0, 0, 1, 0, 0, 1, 0, 1, 0, 0, 1, 0, 0, 1, 0, 0]) (recast cl hn kp) (finBy cl hn kp rc rs ri) G ⟨mkS S d, mkH H e⟩ =
    step (fun x8 y800002 => some (.exit 4, KX d e (x8, y800002))) (fun x8 y800002 => G ⟨mkS S ((), (), d.2.2.1, d.2.2.2.1, (), d.2.2.2.2.2.1, x8, ()), mkH H (e.1, e.2.1, y800002, ())⟩) k d.2.2.1 d.2.2.2.1 d.2.2.2.2.2.1 e.1 e.2.1 d.2.2.2.2.2.2.1 e.2.2.1 := by kernel_rfl
theorem it (k n : Nat) (d : (Unit × Unit × (List Int) × Int × Unit × Int × Int × Unit)) (e : ((List Int) × (List Int) × (List Int) × Unit)) : loopIt Tryz.prog (E k) 225 4 (subC (bodyOf Tryz.f57) [1, 1, 1, 0, 1, 0, 0, 1, 0, 0, 1, 0, 1, 0, 0, 1, 0, 0, 1, 0, 0]) (recast cl hn kp) (finBy cl hn kp rc rs ri) n ⟨mkS S d, mkH H e⟩ = go (fun x8 y800002 => some (.exit 4, KX d e (x8, y800002))) k d.2.2.1 d.2.2.2.1 d.2.2.2.2.2.1 e.1 e.2.1 n d.2.2.2.2.2.2.1 e.2.2.1 :=
  loopIt_eq (D := (Unit × Unit × (List Int) × Int × Unit × Int × Int × Unit) × ((List Int) × (List Int) × (List Int) × Unit)) (fun p => ⟨mkS S p.1, mkH H p.2⟩) (fun F p => step (fun x8 y800002 => some (.exit 4, KX p.1 p.2 (x8, y800002))) (fun x8 y800002 => F (((), (), p.1.2.2.1, p.1.2.2.2.1, (), p.1.2.2.2.2.2.1, x8, ()), (p.2.1, p.2.2.1, y800002, ()))) k p.1.2.2.1 p.1.2.2.2.1 p.1.2.2.2.2.2.1 p.2.1 p.2.2.1 p.1.2.2.2.2.2.2.1 p.2.2.2.1) (fun n p => go (fun x8 y800002 => some (.exit 4, KX p.1 p.2 (x8, y800002))) k p.1.2.2.1 p.1.2.2.2.1 p.1.2.2.2.2.2.1 p.2.1 p.2.2.1 n p.1.2.2.2.2.2.2.1 p.2.2.2.1) (fun _ => rfl) (fun _ _ => rfl) (fun G p => round k p.1 p.2 G) n (d, e)
theorem ok (k : Nat) : LoopOK Tryz.prog 225 (subC (bodyOf Tryz.f57) [1, 1, 1, 0, 1, 0, 0, 1, 0, 0, 1, 0, 1, 0, 0, 1, 0, 0, 1, 0, 0]) (sum k) :=
  loop_sigX hm (fE k) (loopsOK_of [] (by kernel_rfl) trivial) S cl hn kp H 4 (fun (d : (Unit × Unit × (List Int) × Int × Unit × Int × Int × Unit)) (e : ((List Int) × (List Int) × (List Int) × Unit)) => f k d.2.2.1 d.2.2.2.1 d.2.2.2.2.2.1 e.1 e.2.1 k d.2.2.2.2.2.2.1 e.2.2.1) KX cl hn kp rc rs ri k
    (fun d e => (it k k d e).trans (go_nat (fun v => some (Ex.exit 4, KX d e v)) (fun x8 y800002 => some (x8, y800002)) k d.2.2.1 d.2.2.2.1 d.2.2.2.2.2.1 e.1 e.2.1 k d.2.2.2.2.2.2.1 e.2.2.1).symm)
end l4
namespace l2
theorem round (k : Nat) (d : (Unit × Unit × (List Int) × Int × Unit × Int × Unit)) (e : ((List Int) × (List Int) × (List Int) × Unit)) (G : St → Option (Ex × St)) : roundK Tryz.prog (E k) 225 2 (subC (bodyOf Tryz.f57) [1, 1, 1, 0, 1, 0, 0, 1, 0, 0, 1, 0, 1, 0, 0]) (recast cl hn kp) (finBy cl hn kp rc rs ri) G ⟨mkS S d, mkH H e⟩ =
    step (fun x7 y800002 => some (.exit 2, KX d e (x7, y800002))) (fun x7 y800002 => G ⟨mkS S ((), (), d.2.2.1, d.2.2.2.1, (), x7, ()), mkH H (e.1, e.2.1, y800002, ())⟩) k d.2.2.1 d.2.2.2.1 e.1 e.2.1 d.2.2.2.2.2.1 e.2.2.1 := by kernel_rfl
theorem it (k n : Nat) (d : (Unit × Unit × (List Int) × Int × Unit × Int × Unit)) (e : ((List Int) × (List Int) × (List Int) × Unit)) : loopIt Tryz.prog (E k) 225 2 (subC (bodyOf Tryz.f57) [1, 1, 1, 0, 1, 0, 0, 1, 0, 0, 1, 0, 1, 0, 0]) (recast cl hn kp) (finBy cl hn kp rc rs ri) n ⟨mkS S d, mkH H e⟩ = go (fun x7 y800002 => some (.exit 2, KX d e (x7, y800002))) k d.2.2.1 d.2.2.2.1 e.1 e.2.1 n d.2.2.2.2.2.1 e.2.2.1 :=
  loopIt_eq (D := (Unit × Unit × (List Int) × Int × Unit × Int × Unit) × ((List Int) × (List Int) × (List Int) × Unit)) (fun p => ⟨mkS S p.1, mkH H p.2⟩) (fun F p => step (fun x7 y800002 => some (.exit 2, KX p.1 p.2 (x7, y800002))) (fun x7 y800002 => F (((), (), p.1.2.2.1, p.1.2.2.2.1, (), x7, ()), (p.2.1, p.2.2.1, y800002, ()))) k p.1.2.2.1 p.1.2.2.2.1 p.2.1 p.2.2.1 p.1.2.2.2.2.2.1 p.2.2.2.1) (fun n p => go (fun x7 y800002 => some (.exit 2, KX p.1 p.2 (x7, y800002))) k p.1.2.2.1 p.1.2.2.2.1 p.2.1 p.2.2.1 n p.1.2.2.2.2.2.1 p.2.2.2.1) (fun _ => rfl) (fun _ _ => rfl) (fun G p => round k p.1 p.2 G) n (d, e)
theorem ok (k : Nat) : LoopOK Tryz.prog 225 (subC (bodyOf Tryz.f57) [1, 1, 1, 0, 1, 0, 0, 1, 0, 0, 1, 0, 1, 0, 0]) (sum k) :=
  loop_sigX hm (fE k) (loopsOK_of [(4, subC (bodyOf Tryz.f57) [1, 1, 1, 0, 1, 0, 0, 1, 0, 0, 1, 0, 1, 0, 0, 1, 0, 0, 1, 0, 0])] (by kernel_rfl) ⟨of_loop (l4.sum k) rfl (l4.ok k), trivial⟩) S cl hn kp H 2 (fun (d : (Unit × Unit × (List Int) × Int × Unit × Int × Unit)) (e : ((List Int) × (List Int) × (List Int) × Unit)) => f k d.2.2.1 d.2.2.2.1 e.1 e.2.1 k d.2.2.2.2.2.1 e.2.2.1) KX cl hn kp rc rs ri k
    (fun d e => (it k k d e).trans (go_nat (fun v => some (Ex.exit 2, KX d e v)) (fun x7 y800002 => some (x7, y800002)) k d.2.2.1 d.2.2.2.1 e.1 e.2.1 k d.2.2.2.2.2.1 e.2.2.1).symm)
end l2
namespace l6
theorem round (k : Nat) (d : (Unit × Unit × (List Int) × Int × Unit × Int × Unit)) (e : ((List Int) × (List Int) × (List Int) × Unit)) (G : St → Option (Ex × St)) : roundK Tryz.prog (E k) 225 6 (subC (bodyOf Tryz.f57) [1, 1, 1, 0, 1, 0, 0, 1, 0, 0, 1, 1, 0, 1, 0, 0]) (recast cl hn kp) (finBy cl hn kp rc rs ri) G ⟨mkS S d, mkH H e⟩ =
    step (fun x9 y800002 => some (.exit 6, KX d e (x9, y800002))) (fun x9 y800002 => G ⟨mkS S ((), (), d.2.2.1, d.2.2.2.1, (), x9, ()), mkH H (e.1, e.2.1, y800002, ())⟩) k d.2.2.1 d.2.2.2.1 e.1 e.2.1 d.2.2.2.2.2.1 e.2.2.1 := by kernel_rfl
theorem it (k n : Nat) (d : (Unit × Unit × (List Int) × Int × Unit × Int × Unit)) (e : ((List Int) × (List Int) × (List Int) × Unit)) : loopIt Tryz.prog (E k) 225 6 (subC (bodyOf Tryz.f57) [1, 1, 1, 0, 1, 0, 0, 1, 0, 0, 1, 1, 0, 1, 0, 0]) (recast cl hn kp) (finBy cl hn kp rc rs ri) n ⟨mkS S d, mkH H e⟩ = go (fun x9 y800002 => some (.exit 6, KX d e (x9, y800002))) k d.2.2.1 d.2.2.2.1 e.1 e.2.1 n d.2.2.2.2.2.1 e.2.2.1 :=
  loopIt_eq (D := (Unit × Unit × (List Int) × Int × Unit × Int × Unit) × ((List Int) × (List Int) × (List Int) × Unit)) (fun p => ⟨mkS S p.1, mkH H p.2⟩) (fun F p => step (fun x9 y800002 => some (.exit 6, KX p.1 p.2 (x9, y800002))) (fun x9 y800002 => F (((), (), p.1.2.2.1, p.1.2.2.2.1, (), x9, ()), (p.2.1, p.2.2.1, y800002, ()))) k p.1.2.2.1 p.1.2.2.2.1 p.2.1 p.2.2.1 p.1.2.2.2.2.2.1 p.2.2.2.1) (fun n p => go (fun x9 y800002 => some (.exit 6, KX p.1 p.2 (x9, y800002))) k p.1.2.2.1 p.1.2.2.2.1 p.2.1 p.2.2.1 n p.1.2.2.2.2.2.1 p.2.2.2.1) (fun _ => rfl) (fun _ _ => rfl) (fun G p => round k p.1 p.2 G) n (d, e)
theorem ok (k : Nat) : LoopOK Tryz.prog 225 (subC (bodyOf Tryz.f57) [1, 1, 1, 0, 1, 0, 0, 1, 0, 0, 1, 1, 0, 1, 0, 0]) (sum k) :=
  loop_sigX hm (fE k) (loopsOK_of [] (by kernel_rfl) trivial) S cl hn kp H 6 (fun (d : (Unit × Unit × (List Int) × Int × Unit × Int × Unit)) (e : ((List Int) × (List Int) × (List Int) × Unit)) => f k d.2.2.1 d.2.2.2.1 e.1 e.2.1 k d.2.2.2.2.2.1 e.2.2.1) KX cl hn kp rc rs ri k
    (fun d e => (it k k d e).trans (go_nat (fun v => some (Ex.exit 6, KX d e v)) (fun x9 y800002 => some (x9, y800002)) k d.2.2.1 d.2.2.2.1 e.1 e.2.1 k d.2.2.2.2.2.1 e.2.2.1).symm)
end l6
namespace l8
theorem round (k : Nat) (d : (Unit × Unit × (List Int) × Int × Unit × Unit × Int × Unit)) (e : ((List Int) × (List Int) × (List Int) × (List Int) × Unit)) (G : St → Option (Ex × St)) : roundK Tryz.prog (E k) 225 8 (subC (bodyOf Tryz.f57) [1, 1, 1, 0, 1, 0, 0, 1, 0, 0, 1, 1, 1, 1, 0, 1, 0, 0]) (recast cl hn kp) (finBy cl hn kp rc rs ri) G ⟨mkS S d, mkH H e⟩ =
    step (fun x13 y800003 => some (.exit 8, KX d e (x13, y800003))) (fun x13 y800003 => G ⟨mkS S ((), (), d.2.2.1, d.2.2.2.1, (), (), x13, ()), mkH H (e.1, e.2.1, e.2.2.1, y800003, ())⟩) k d.2.2.1 d.2.2.2.1 e.1 e.2.1 e.2.2.1 d.2.2.2.2.2.2.1 e.2.2.2.1 := by kernel_rfl
theorem it (k n : Nat) (d : (Unit × Unit × (List Int) × Int × Unit × Unit × Int × Unit)) (e : ((List Int) × (List Int) × (List Int) × (List Int) × Unit)) : loopIt Tryz.prog (E k) 225 8 (subC (bodyOf Tryz.f57) [1, 1, 1, 0, 1, 0, 0, 1, 0, 0, 1, 1, 1, 1, 0, 1, 0, 0]) (recast cl hn kp) (finBy cl hn kp rc rs ri) n ⟨mkS S d, mkH H e⟩ = go (fun x13 y800003 => some (.exit 8, KX d e (x13, y800003))) k d.2.2.1 d.2.2.2.1 e.1 e.2.1 e.2.2.1 n d.2.2.2.2.2.2.1 e.2.2.2.1 :=
  loopIt_eq (D := (Unit × Unit × (List Int) × Int × Unit × Unit × Int × Unit) × ((List Int) × (List Int) × (List Int) × (List Int) × Unit)) (fun p => ⟨mkS S p.1, mkH H p.2⟩) (fun F p => step (fun x13 y800003 => some (.exit 8, KX p.1 p.2 (x13, y800003))) (fun x13 y800003 => F (((), (), p.1.2.2.1, p.1.2.2.2.1, (), (), x13, ()), (p.2.1, p.2.2.1, p.2.2.2.1, y800003, ()))) k p.1.2.2.1 p.1.2.2.2.1 p.2.1 p.2.2.1 p.2.2.2.1 p.1.2.2.2.2.2.2.1 p.2.2.2.2.1) (fun n p => go (fun x13 y800003 => some (.exit 8, KX p.1 p.2 (x13, y800003))) k p.1.2.2.1 p.1.2.2.2.1 p.2.1 p.2.2.1 p.2.2.2.1 n p.1.2.2.2.2.2.2.1 p.2.2.2.2.1) (fun _ => rfl) (fun _ _ => rfl) (fun G p => round k p.1 p.2 G) n (d, e)
theorem ok (k : Nat) : LoopOK Tryz.prog 225 (subC (bodyOf Tryz.f57) [1, 1, 1, 0, 1, 0, 0, 1, 0, 0, 1, 1, 1, 1, 0, 1, 0, 0]) (sum k) :=
  loop_sigX hm (fE k) (loopsOK_of [] (by kernel_rfl) trivial) S cl hn kp H 8 (fun (d : (Unit × Unit × (List Int) × Int × Unit × Unit × Int × Unit)) (e : ((List Int) × (List Int) × (List Int) × (List Int) × Unit)) => f k d.2.2.1 d.2.2.2.1 e.1 e.2.1 e.2.2.1 k d.2.2.2.2.2.2.1 e.2.2.2.1) KX cl hn kp rc rs ri k
    (fun d e => (it k k d e).trans (go_nat (fun v => some (Ex.exit 8, KX d e v)) (fun x13 y800003 => some (x13, y800003)) k d.2.2.1 d.2.2.2.1 e.1 e.2.1 e.2.2.1 k d.2.2.2.2.2.2.1 e.2.2.2.1).symm)
end l8
namespace l10
theorem round (k : Nat) (d : (Unit × Unit × (List Int) × Int × Unit × Int × Unit)) (e : ((List Int) × (List Int) × (List Int) × Unit)) (G : St → Option (Ex × St)) : roundK Tryz.prog (E k) 225 10 (subC (bodyOf Tryz.f57) [1, 1, 1, 0, 1, 0, 0, 1, 0, 0, 1, 1, 1, 1, 1, 1, 0, 0]) (recast cl hn kp) (finBy cl hn kp rc rs ri) G ⟨mkS S d, mkH H e⟩ =
    step (fun x16 y800001 => some (.exit 10, KX d e (x16, y800001))) (fun x16 y800001 => G ⟨mkS S ((), (), d.2.2.1, d.2.2.2.1, (), x16, ()), mkH H (e.1, y800001, e.2.2.1, ())⟩) k d.2.2.1 d.2.2.2.1 e.1 e.2.2.1 d.2.2.2.2.2.1 e.2.1 := by kernel_rfl
theorem it (k n : Nat) (d : (Unit × Unit × (List Int) × Int × Unit × Int × Unit)) (e : ((List Int) × (List Int) × (List Int) × Unit)) : loopIt Tryz.prog (E k) 225 10 (subC (bodyOf Tryz.f57) [1, 1, 1, 0, 1, 0, 0, 1, 0, 0, 1, 1, 1, 1, 1, 1, 0, 0]) (recast cl hn kp) (finBy cl hn kp rc rs ri) n ⟨mkS S d, mkH H e⟩ = go (fun x16 y800001 => some (.exit 10, KX d e (x16, y800001))) k d.2.2.1 d.2.2.2.1 e.1 e.2.2.1 n d.2.2.2.2.2.1 e.2.1 :=
  loopIt_eq (D := (Unit × Unit × (List Int) × Int × Unit × Int × Unit) × ((List Int) × (List Int) × (List Int) × Unit)) (fun p => ⟨mkS S p.1, mkH H p.2⟩) (fun F p => step (fun x16 y800001 => some (.exit 10, KX p.1 p.2 (x16, y800001))) (fun x16 y800001 => F (((), (), p.1.2.2.1, p.1.2.2.2.1, (), x16, ()), (p.2.1, y800001, p.2.2.2.1, ()))) k p.1.2.2.1 p.1.2.2.2.1 p.2.1 p.2.2.2.1 p.1.2.2.2.2.2.1 p.2.2.1) (fun n p => go (fun x16 y800001 => some (.exit 10, KX p.1 p.2 (x16, y800001))) k p.1.2.2.1 p.1.2.2.2.1 p.2.1 p.2.2.2.1 n p.1.2.2.2.2.2.1 p.2.2.1) (fun _ => rfl) (fun _ _ => rfl) (fun G p => round k p.1 p.2 G) n (d, e)
theorem ok (k : Nat) : LoopOK Tryz.prog 225 (subC (bodyOf Tryz.f57) [1, 1, 1, 0, 1, 0, 0, 1, 0, 0, 1, 1, 1, 1, 1, 1, 0, 0]) (sum k) :=
  loop_sigX hm (fE k) (loopsOK_of [] (by kernel_rfl) trivial) S cl hn kp H 10 (fun (d : (Unit × Unit × (List Int) × Int × Unit × Int × Unit)) (e : ((List Int) × (List Int) × (List Int) × Unit)) => f k d.2.2.1 d.2.2.2.1 e.1 e.2.2.1 k d.2.2.2.2.2.1 e.2.1) KX cl hn kp rc rs ri k
    (fun d e => (it k k d e).trans (go_nat (fun v => some (Ex.exit 10, KX d e v)) (fun x16 y800001 => some (x16, y800001)) k d.2.2.1 d.2.2.2.1 e.1 e.2.2.1 k d.2.2.2.2.2.1 e.2.1).symm)
end l10
namespace l0
theorem round (k : Nat) (d : (Unit × Unit × (List Int) × Int × Unit)) (e : ((List Int) × (List Int) × Unit)) (G : St → Option (Ex × St)) : roundK Tryz.prog (E k) 225 0 (subC (bodyOf Tryz.f57) [1, 1, 1, 0, 1, 0, 0]) (recast cl hn kp) (finBy cl hn kp rc rs ri) G ⟨mkS S d, mkH H e⟩ =
    step (fun x5 y800001 => some (.exit 0, KX d e (x5, y800001))) (fun x5 y800001 => G ⟨mkS S ((), (), d.2.2.1, x5, ()), mkH H (e.1, y800001, ())⟩) k d.2.2.1 e.1 d.2.2.2.1 e.2.1 := by kernel_rfl
theorem it (k n : Nat) (d : (Unit × Unit × (List Int) × Int × Unit)) (e : ((List Int) × (List Int) × Unit)) : loopIt Tryz.prog (E k) 225 0 (subC (bodyOf Tryz.f57) [1, 1, 1, 0, 1, 0, 0]) (recast cl hn kp) (finBy cl hn kp rc rs ri) n ⟨mkS S d, mkH H e⟩ = go (fun x5 y800001 => some (.exit 0, KX d e (x5, y800001))) k d.2.2.1 e.1 n d.2.2.2.1 e.2.1 :=
  loopIt_eq (D := (Unit × Unit × (List Int) × Int × Unit) × ((List Int) × (List Int) × Unit)) (fun p => ⟨mkS S p.1, mkH H p.2⟩) (fun F p => step (fun x5 y800001 => some (.exit 0, KX p.1 p.2 (x5, y800001))) (fun x5 y800001 => F (((), (), p.1.2.2.1, x5, ()), (p.2.1, y800001, ()))) k p.1.2.2.1 p.2.1 p.1.2.2.2.1 p.2.2.1) (fun n p => go (fun x5 y800001 => some (.exit 0, KX p.1 p.2 (x5, y800001))) k p.1.2.2.1 p.2.1 n p.1.2.2.2.1 p.2.2.1) (fun _ => rfl) (fun _ _ => rfl) (fun G p => round k p.1 p.2 G) n (d, e)
theorem ok (k : Nat) : LoopOK Tryz.prog 225 (subC (bodyOf Tryz.f57) [1, 1, 1, 0, 1, 0, 0]) (sum k) :=
  loop_sigX hm (fE k) (loopsOK_of [(2, subC (bodyOf Tryz.f57) [1, 1, 1, 0, 1, 0, 0, 1, 0, 0, 1, 0, 1, 0, 0]), (6, subC (bodyOf Tryz.f57) [1, 1, 1, 0, 1, 0, 0, 1, 0, 0, 1, 1, 0, 1, 0, 0]), (8, subC (bodyOf Tryz.f57) [1, 1, 1, 0, 1, 0, 0, 1, 0, 0, 1, 1, 1, 1, 0, 1, 0, 0]), (10, subC (bodyOf Tryz.f57) [1, 1, 1, 0, 1, 0, 0, 1, 0, 0, 1, 1, 1, 1, 1, 1, 0, 0])] (by kernel_rfl) ⟨of_loop (l2.sum k) rfl (l2.ok k), ⟨of_loop (l6.sum k) rfl (l6.ok k), ⟨of_loop (l8.sum k) rfl (l8.ok k), ⟨of_loop (l10.sum k) rfl (l10.ok k), trivial⟩⟩⟩⟩) S cl hn kp H 0 (fun (d : (Unit × Unit × (List Int) × Int × Unit)) (e : ((List Int) × (List Int) × Unit)) => f k d.2.2.1 e.1 k d.2.2.2.1 e.2.1) KX cl hn kp rc rs ri k
    (fun d e => (it k k d e).trans (go_nat (fun v => some (Ex.exit 0, KX d e v)) (fun x5 y800001 => some (x5, y800001)) k d.2.2.1 e.1 k d.2.2.2.1 e.2.1).symm)
end l0
namespace l12
theorem round (k : Nat) (d : (Unit × Unit × Unit × Int × Unit)) (e : ((List Int) × (List Int) × (List Int) × Unit)) (G : St → Option (Ex × St)) : roundK Tryz.prog (E k) 225 12 (subC (bodyOf Tryz.f57) [1, 1, 1, 1, 1, 0, 1, 0, 0]) (recast cl hn kp) (finBy cl hn kp rc rs ri) G ⟨mkS S d, mkH H e⟩ =
    step (fun x18 y800002 => some (.exit 12, KX d e (x18, y800002))) (fun x18 y800002 => G ⟨mkS S ((), (), (), x18, ()), mkH H (e.1, e.2.1, y800002, ())⟩) k e.1 e.2.1 d.2.2.2.1 e.2.2.1 := by kernel_rfl
theorem it (k n : Nat) (d : (Unit × Unit × Unit × Int × Unit)) (e : ((List Int) × (List Int) × (List Int) × Unit)) : loopIt Tryz.prog (E k) 225 12 (subC (bodyOf Tryz.f57) [1, 1, 1, 1, 1, 0, 1, 0, 0]) (recast cl hn kp) (finBy cl hn kp rc rs ri) n ⟨mkS S d, mkH H e⟩ = go (fun x18 y800002 => some (.exit 12, KX d e (x18, y800002))) k e.1 e.2.1 n d.2.2.2.1 e.2.2.1 :=
  loopIt_eq (D := (Unit × Unit × Unit × Int × Unit) × ((List Int) × (List Int) × (List Int) × Unit)) (fun p => ⟨mkS S p.1, mkH H p.2⟩) (fun F p => step (fun x18 y800002 => some (.exit 12, KX p.1 p.2 (x18, y800002))) (fun x18 y800002 => F (((), (), (), x18, ()), (p.2.1, p.2.2.1, y800002, ()))) k p.2.1 p.2.2.1 p.1.2.2.2.1 p.2.2.2.1) (fun n p => go (fun x18 y800002 => some (.exit 12, KX p.1 p.2 (x18, y800002))) k p.2.1 p.2.2.1 n p.1.2.2.2.1 p.2.2.2.1) (fun _ => rfl) (fun _ _ => rfl) (fun G p => round k p.1 p.2 G) n (d, e)
theorem ok (k : Nat) : LoopOK Tryz.prog 225 (subC (bodyOf Tryz.f57) [1, 1, 1, 1, 1, 0, 1, 0, 0]) (sum k) :=
  loop_sigX hm (fE k) (loopsOK_of [] (by kernel_rfl) trivial) S cl hn kp H 12 (fun (d : (Unit × Unit × Unit × Int × Unit)) (e : ((List Int) × (List Int) × (List Int) × Unit)) => f k e.1 e.2.1 k d.2.2.2.1 e.2.2.1) KX cl hn kp rc rs ri k
    (fun d e => (it k k d e).trans (go_nat (fun v => some (Ex.exit 12, KX d e v)) (fun x18 y800002 => some (x18, y800002)) k e.1 e.2.1 k d.2.2.2.1 e.2.2.1).symm)
end l12
theorem run (k : Nat) (d : ((List Int) × Unit)) (e : Unit) : runFn Tryz.prog (E k) 225 (bodyOf Tryz.f57) Tryz.f57.results.toList cl hn hi (mkL ps d) (mkH hs e) =
    tree (fun b0 => leafFn hs fi e val wr b0) k d.1 := by kernel_rfl
theorem run_f (k : Nat) (d : ((List Int) × Unit)) (e : Unit) : runFn Tryz.prog (E k) 225 (bodyOf Tryz.f57) Tryz.f57.results.toList cl hn hi (mkL ps d) (mkH hs e) = (f k d.1).bind (leafFn hs fi e val wr) :=
  (run k d e).trans (tree_nat (leafFn hs fi e val wr) (fun b0 => some b0) k d.1).symm
theorem fnIs : FnIs Tryz.prog 57 Tryz.f57 (bodyOf Tryz.f57) 225 := ⟨by kernel_rfl, by kernel_rfl, by kernel_rfl, by kernel_rfl⟩
theorem ok (k : Nat) : CalleeOK Tryz.prog 57 (callee k) :=
  callee_sig (T := (List Int)) fnIs hm (fE k) (loopsOK_of [(0, subC (bodyOf Tryz.f57) [1, 1, 1, 0, 1, 0, 0]), (12, subC (bodyOf Tryz.f57) [1, 1, 1, 1, 1, 0, 1, 0, 0])] (by kernel_rfl) ⟨of_loop (l0.sum k) rfl (l0.ok k), ⟨of_loop (l12.sum k) rfl (l12.ok k), trivial⟩⟩) ps hs cl hn fi (fun (d : ((List Int) × Unit)) (e : Unit) => f k d.1) val wr rfl (fun _ => rfl) (run_f k)
end trailheadref01_Of
namespace trailheadref01_Double
namespace l0
def step {X : Type} (K : (List Int) → Int → Option X) (G : (List Int) → Int → Option X) (k : Nat) (y800000 : (List Int)) (y800001 : (List Int)) (x4 : (List Int)) (x5 : Int) : Option X :=
  (bif (decide (x5 < (32 : Int))) then (bif (decide (0 ≤ x5)) then (bif (decide (x5 < 32)) then (bif (decide ((Int.toNat x5) < 32)) then (bif (fits ((List.length x4) + (List.length (toStr ([(List.getD y800001 (Int.toNat x5) 0)] : (List Int)))))) then (G (x4 ++ (toStr ([(List.getD y800001 (Int.toNat x5) 0)] : (List Int)))) (addI .i64 x5 1)) else none) else none) else none) else none) else (K x4 x5))
def go {X : Type} (K : (List Int) → Int → Option X) (k : Nat) (y800000 : (List Int)) (y800001 : (List Int)) : Nat → (List Int) → Int → Option X
  | 0, _, _ => none
  | n + 1, x4, x5 => step K (go K k y800000 y800001 n) k y800000 y800001 x4 x5
def f (k : Nat) (y800000 : (List Int)) (y800001 : (List Int)) (n : Nat) (x4 : (List Int)) (x5 : Int) : Option ((List Int) × Int) := go (fun x4 x5 => some (x4, x5)) k y800000 y800001 n x4 x5
theorem step_nat {X Y : Type} (h : X → Option Y) (K : (List Int) → Int → Option X) (G : (List Int) → Int → Option X) (k : Nat) (y800000 : (List Int)) (y800001 : (List Int)) (x4 : (List Int)) (x5 : Int) : Option.bind (step K G k y800000 y800001 x4 x5) h = step (fun x4 x5 => Option.bind (K x4 x5) h) (fun x4 x5 => Option.bind (G x4 x5) h) k y800000 y800001 x4 x5 := by
  simp only [step, bif_bind, sel_bind', Option.bind_assoc, Option.bind_none, Option.bind_some]
theorem go_nat {X Y : Type} (h : X → Option Y) (K : (List Int) → Int → Option X) (k : Nat) (y800000 : (List Int)) (y800001 : (List Int)) (n : Nat) : ∀ (x4 : (List Int)) (x5 : Int), Option.bind (go K k y800000 y800001 n x4 x5) h = go (fun x4 x5 => Option.bind (K x4 x5) h) k y800000 y800001 n x4 x5 := by
  induction n with
  | zero => intros; rfl
  | succ n ih => intro x4 x5; show Option.bind (step K (go K k y800000 y800001 n) k y800000 y800001 x4 x5) h = step (fun x4 x5 => Option.bind (K x4 x5) h) (go (fun x4 x5 => Option.bind (K x4 x5) h) k y800000 y800001 n) k y800000 y800001 x4 x5; rw [step_nat h]; simp only [ih]
abbrev S : List (Nat × Sh) := [(2, .ptr 800000), (3, .ptr 800001), (4, .data .str), (5, .data (.int .i64))]
abbrev H : List (Nat × ESh) := [(800000, .cell (.data (.arr .u8 32))), (800001, .cell (.data (.arr .u8 32)))]
abbrev cl : List (Place × Nat × Hint) := []
abbrev hn : List (Nat × Hint) := [(2, .any), (3, .any), (4, .any), (5, .any)]
abbrev kp : List Nat := []
abbrev rc : List (Place × Nat × Hint) := []
abbrev rs : List (Nat × Hint) := []
abbrev ri : List Nat := []
def KX (d : (Unit × Unit × (List Int) × Int × Unit)) (e : ((List Int) × (List Int) × Unit)) (v : ((List Int) × Int)) : St := ⟨mkS S ((), (), v.1, v.2, ()), mkH H (e.1, e.2.1, ())⟩
def sum (k : Nat) : LoopSum := sigLoopX S cl hn kp H 0 (fun (d : (Unit × Unit × (List Int) × Int × Unit)) (e : ((List Int) × (List Int) × Unit)) => f k e.1 e.2.1 k d.2.2.1 d.2.2.2.1) KX
end l0
def tree {X : Type} (K : (List Int) → Option X) (k : Nat) (a0 : (List Int)) : Option X :=
  (Option.bind (trailheadref01_Of.f k a0) (fun r1 => (Option.bind (trailheadref01_Double.l0.f k ([0, 0, 0, 0, 0, 0, 0, 0, 0, 0, 0, 0, 0, 0, 0, 0, 0, 0, 0, 0, 0, 0, 0, 0, 0, 0, 0, 0, 0, 0, 0, 0] : (List Int)) r1 k ([] : (List Int)) (0 : Int)) (fun r2 => (Option.bind (trailheadref01_Of.f k r2.1) (fun r3 => (K r3)))))))
def f (k : Nat) (a0 : (List Int)) : Option (List Int) := tree (fun b0 => some b0) k a0
theorem tree_nat {X Y : Type} (h : X → Option Y) (K : (List Int) → Option X) (k : Nat) (a0 : (List Int)) : Option.bind (tree K k a0) h = tree (fun b0 => Option.bind (K b0) h) k a0 := by
  simp only [tree, bif_bind, sel_bind', Option.bind_assoc, Option.bind_none, Option.bind_some]
abbrev ps : List Sh := [.data .str]
abbrev hs : List (Nat × ESh) := []
abbrev hi : List Nat := hs.map (·.1)
abbrev fi : List Nat := []
abbrev cl : List (Place × Nat × Hint) := []
abbrev hn : List Hint := [.any]
def val (t : (List Int)) : AV := Sh.mk (.data (.arr .u8 32)) t
def wr (t : (List Int)) : Heap := []
def callee (k : Nat) : Callee := sigCallee ps hs (fun (d : ((List Int) × Unit)) (e : Unit) => f k d.1) val wr
def E (k : Nat) : Env := ⟨fnTab [(57, [trailheadref01_Of.callee k])], loopTab [(0, l0.sum k)], natsTab [], natTab []⟩
theorem fE (k : Nat) : ∀ f, ∀ c ∈ (E k).fn f, CalleeOK Tryz.prog f c := fnTab_ok ⟨⟨trailheadref01_Of.ok k, trivial⟩, trivial⟩
namespace l0
theorem round (k : Nat) (d : (Unit × Unit × (List Int) × Int × Unit)) (e : ((List Int) × (List Int) × Unit)) (G : St → Option (Ex × St)) : roundK Tryz.prog (E k) 21 0 (subC (bodyOf Tryz.f36) [1, 1, 1, 0, 1, 0, 0]) (recast cl hn kp) (finBy cl hn kp rc rs ri) G ⟨mkS S d, mkH H e⟩ =
    step (fun x4 x5 => some (.exit 0, KX d e (x4, x5))) (fun x4 x5 => G ⟨mkS S ((), (), x4, x5, ()), mkH H (e.1, e.2.1, ())⟩) k e.1 e.2.1 d.2.2.1 d.2.2.2.1 := by kernel_rfl
theorem it (k n : Nat) (d : (Unit × Unit × (List Int) × Int × Unit)) (e : ((List Int) × (List Int) × Unit)) : loopIt Tryz.prog (E k) 21 0 (subC (bodyOf Tryz.f36) [1, 1, 1, 0, 1, 0, 0]) (recast cl hn kp) (finBy cl hn kp rc rs ri) n ⟨mkS S d, mkH H e⟩ = go (fun x4 x5 => some (.exit 0, KX d e (x4, x5))) k e.1 e.2.1 n d.2.2.1 d.2.2.2.1 :=
  loopIt_eq (D := (Unit × Unit × (List Int) × Int × Unit) × ((List Int) × (List Int) × Unit)) (fun p => ⟨mkS S p.1, mkH H p.2⟩) (fun F p => step (fun x4 x5 => some (.exit 0, KX p.1 p.2 (x4, x5))) (fun x4 x5 => F (((), (), x4, x5, ()), (p.2.1, p.2.2.1, ()))) k p.2.1 p.2.2.1 p.1.2.2.1 p.1.2.2.2.1) (fun n p => go (fun x4 x5 => some (.exit 0, KX p.1 p.2 (x4, x5))) k p.2.1 p.2.2.1 n p.1.2.2.1 p.1.2.2.2.1) (fun _ => rfl) (fun _ _ => rfl) (fun G p => round k p.1 p.2 G) n (d, e)
theorem ok (k : Nat) : LoopOK Tryz.prog 21 (subC (bodyOf Tryz.f36) [1, 1, 1, 0, 1, 0, 0]) (sum k) :=
  loop_sigX hm (fE k) (loopsOK_of [] (by kernel_rfl) trivial) S cl hn kp H 0 (fun (d : (Unit × Unit × (List Int) × Int × Unit)) (e : ((List Int) × (List Int) × Unit)) => f k e.1 e.2.1 k d.2.2.1 d.2.2.2.1) KX cl hn kp rc rs ri k
    (fun d e => (it k k d e).trans (go_nat (fun v => some (Ex.exit 0, KX d e v)) (fun x4 x5 => some (x4, x5)) k e.1 e.2.1 k d.2.2.1 d.2.2.2.1).symm)
end l0
theorem run (k : Nat) (d : ((List Int) × Unit)) (e : Unit) : runFn Tryz.prog (E k) 21 (bodyOf Tryz.f36) Tryz.f36.results.toList cl hn hi (mkL ps d) (mkH hs e) =
    tree (fun b0 => leafFn hs fi e val wr b0) k d.1 := by kernel_rfl
theorem run_f (k : Nat) (d : ((List Int) × Unit)) (e : Unit) : runFn Tryz.prog (E k) 21 (bodyOf Tryz.f36) Tryz.f36.results.toList cl hn hi (mkL ps d) (mkH hs e) = (f k d.1).bind (leafFn hs fi e val wr) :=
  (run k d e).trans (tree_nat (leafFn hs fi e val wr) (fun b0 => some b0) k d.1).symm
theorem fnIs : FnIs Tryz.prog 36 Tryz.f36 (bodyOf Tryz.f36) 21 := ⟨by kernel_rfl, by kernel_rfl, by kernel_rfl, by kernel_rfl⟩
theorem ok (k : Nat) : CalleeOK Tryz.prog 36 (callee k) :=
  callee_sig (T := (List Int)) fnIs hm (fE k) (loopsOK_of [(0, subC (bodyOf Tryz.f36) [1, 1, 1, 0, 1, 0, 0])] (by kernel_rfl) ⟨of_loop (l0.sum k) rfl (l0.ok k), trivial⟩) ps hs cl hn fi (fun (d : ((List Int) × Unit)) (e : Unit) => f k d.1) val wr rfl (fun _ => rfl) (run_f k)
end trailheadref01_Double
namespace trailheadref05_Name
namespace l0
def step {X : Type} (K : (List Int) → Int → Option X) (G : (List Int) → Int → Option X) (k : Nat) (y800000 : (List Int)) (x3 : (List Int)) (x4 : Int) : Option X :=
  (bif (decide (x4 < (32 : Int))) then (bif (decide (0 ≤ x4)) then (bif (decide (x4 < 32)) then (bif (decide ((Int.toNat x4) < 32)) then (bif (fits ((List.length x3) + (List.length (toStr ([(List.getD y800000 (Int.toNat x4) 0)] : (List Int)))))) then (G (x3 ++ (toStr ([(List.getD y800000 (Int.toNat x4) 0)] : (List Int)))) (addI .i64 x4 1)) else none) else none) else none) else none) else (K x3 x4))
def go {X : Type} (K : (List Int) → Int → Option X) (k : Nat) (y800000 : (List Int)) : Nat → (List Int) → Int → Option X
  | 0, _, _ => none
  | n + 1, x3, x4 => step K (go K k y800000 n) k y800000 x3 x4
def f (k : Nat) (y800000 : (List Int)) (n : Nat) (x3 : (List Int)) (x4 : Int) : Option ((List Int) × Int) := go (fun x3 x4 => some (x3, x4)) k y800000 n x3 x4
theorem step_nat {X Y : Type} (h : X → Option Y) (K : (List Int) → Int → Option X) (G : (List Int) → Int → Option X) (k : Nat) (y800000 : (List Int)) (x3 : (List Int)) (x4 : Int) : Option.bind (step K G k y800000 x3 x4) h = step (fun x3 x4 => Option.bind (K x3 x4) h) (fun x3 x4 => Option.bind (G x3 x4) h) k y800000 x3 x4 := by
  simp only [step, bif_bind, sel_bind', Option.bind_assoc, Option.bind_none, Option.bind_some]
theorem go_nat {X Y : Type} (h : X → Option Y) (K : (List Int) → Int → Option X) (k : Nat) (y800000 : (List Int)) (n : Nat) : ∀ (x3 : (List Int)) (x4 : Int), Option.bind (go K k y800000 n x3 x4) h = go (fun x3 x4 => Option.bind (K x3 x4) h) k y800000 n x3 x4 := by
  induction n with
  | zero => intros; rfl
  | succ n ih => intro x3 x4; show Option.bind (step K (go K k y800000 n) k y800000 x3 x4) h = step (fun x3 x4 => Option.bind (K x3 x4) h) (go (fun x3 x4 => Option.bind (K x3 x4) h) k y800000 n) k y800000 x3 x4; rw [step_nat h]; simp only [ih]
abbrev S : List (Nat × Sh) := [(1, .ptr 800000), (3, .data .str), (4, .data (.int .i64))]
abbrev H : List (Nat × ESh) := [(800000, .cell (.data (.arr .u8 32)))]
abbrev cl : List (Place × Nat × Hint) := []
abbrev hn : List (Nat × Hint) := [(1, .any), (3, .any), (4, .any)]
abbrev kp : List Nat := []
abbrev rc : List (Place × Nat × Hint) := []
abbrev rs : List (Nat × Hint) := []
abbrev ri : List Nat := []
def KX (d : (Unit × (List Int) × Int × Unit)) (e : ((List Int) × Unit)) (v : ((List Int) × Int)) : St := ⟨mkS S ((), v.1, v.2, ()), mkH H (e.1, ())⟩
def sum (k : Nat) : LoopSum := sigLoopX S cl hn kp H 0 (fun (d : (Unit × (List Int) × Int × Unit)) (e : ((List Int) × Unit)) => f k e.1 k d.2.1 d.2.2.1) KX
end l0
def tree {X : Type} (K : (List Int) → Option X) (k : Nat) (a0 : (List Int)) : Option X :=
  (Option.bind (trailheadref05_Name.l0.f k a0 k ([] : (List Int)) (0 : Int)) (fun r1 => (K r1.1)))
def f (k : Nat) (a0 : (List Int)) : Option (List Int) := tree (fun b0 => some b0) k a0
theorem tree_nat {X Y : Type} (h : X → Option Y) (K : (List Int) → Option X) (k : Nat) (a0 : (List Int)) : Option.bind (tree K k a0) h = tree (fun b0 => Option.bind (K b0) h) k a0 := by
  simp only [tree, bif_bind, sel_bind', Option.bind_assoc, Option.bind_none, Option.bind_some]
abbrev ps : List Sh := [.data (.arr .u8 32)]
abbrev hs : List (Nat × ESh) := []
abbrev hi : List Nat := hs.map (·.1)
abbrev fi : List Nat := []
abbrev cl : List (Place × Nat × Hint) := []
abbrev hn : List Hint := [.any]
def val (t : (List Int)) : AV := Sh.mk (.data .str) t
def wr (t : (List Int)) : Heap := []
def callee (k : Nat) : Callee := sigCallee ps hs (fun (d : ((List Int) × Unit)) (e : Unit) => f k d.1) val wr
def E (k : Nat) : Env := ⟨fnTab [], loopTab [(0, l0.sum k)], natsTab [], natTab []⟩
theorem fE (k : Nat) : ∀ f, ∀ c ∈ (E k).fn f, CalleeOK Tryz.prog f c := fnTab_ok trivial
namespace l0
theorem round (k : Nat) (d : (Unit × (List Int) × Int × Unit)) (e : ((List Int) × Unit)) (G : St → Option (Ex × St)) : roundK Tryz.prog (E k) 17 0 (subC (bodyOf Tryz.f26) [1, 1, 0, 1, 0, 0]) (recast cl hn kp) (finBy cl hn kp rc rs ri) G ⟨mkS S d, mkH H e⟩ =
    step (fun x3 x4 => some (.exit 0, KX d e (x3, x4))) (fun x3 x4 => G ⟨mkS S ((), x3, x4, ()), mkH H (e.1, ())⟩) k e.1 d.2.1 d.2.2.1 := by kernel_rfl
theorem it (k n : Nat) (d : (Unit × (List Int) × Int × Unit)) (e : ((List Int) × Unit)) : loopIt Tryz.prog (E k) 17 0 (subC (bodyOf Tryz.f26) [1, 1, 0, 1, 0, 0]) (recast cl hn kp) (finBy cl hn kp rc rs ri) n ⟨mkS S d, mkH H e⟩ = go (fun x3 x4 => some (.exit 0, KX d e (x3, x4))) k e.1 n d.2.1 d.2.2.1 :=
  loopIt_eq (D := (Unit × (List Int) × Int × Unit) × ((List Int) × Unit)) (fun p => ⟨mkS S p.1, mkH H p.2⟩) (fun F p => step (fun x3 x4 => some (.exit 0, KX p.1 p.2 (x3, x4))) (fun x3 x4 => F (((), x3, x4, ()), (p.2.1, ()))) k p.2.1 p.1.2.1 p.1.2.2.1) (fun n p => go (fun x3 x4 => some (.exit 0, KX p.1 p.2 (x3, x4))) k p.2.1 n p.1.2.1 p.1.2.2.1) (fun _ => rfl) (fun _ _ => rfl) (fun G p => round k p.1 p.2 G) n (d, e)
theorem ok (k : Nat) : LoopOK Tryz.prog 17 (subC (bodyOf Tryz.f26) [1, 1, 0, 1, 0, 0]) (sum k) :=
  loop_sigX hm (fE k) (loopsOK_of [] (by kernel_rfl) trivial) S cl hn kp H 0 (fun (d : (Unit × (List Int) × Int × Unit)) (e : ((List Int) × Unit)) => f k e.1 k d.2.1 d.2.2.1) KX cl hn kp rc rs ri k
    (fun d e => (it k k d e).trans (go_nat (fun v => some (Ex.exit 0, KX d e v)) (fun x3 x4 => some (x3, x4)) k e.1 k d.2.1 d.2.2.1).symm)
end l0
theorem run (k : Nat) (d : ((List Int) × Unit)) (e : Unit) : runFn Tryz.prog (E k) 17 (bodyOf Tryz.f26) Tryz.f26.results.toList cl hn hi (mkL ps d) (mkH hs e) =
    tree (fun b0 => leafFn hs fi e val wr b0) k d.1 := by kernel_rfl
theorem run_f (k : Nat) (d : ((List Int) × Unit)) (e : Unit) : runFn Tryz.prog (E k) 17 (bodyOf Tryz.f26) Tryz.f26.results.toList cl hn hi (mkL ps d) (mkH hs e) = (f k d.1).bind (leafFn hs fi e val wr) :=
  (run k d e).trans (tree_nat (leafFn hs fi e val wr) (fun b0 => some b0) k d.1).symm
theorem fnIs : FnIs Tryz.prog 26 Tryz.f26 (bodyOf Tryz.f26) 17 := ⟨by kernel_rfl, by kernel_rfl, by kernel_rfl, by kernel_rfl⟩
theorem ok (k : Nat) : CalleeOK Tryz.prog 26 (callee k) :=
  callee_sig (T := (List Int)) fnIs hm (fE k) (loopsOK_of [(0, subC (bodyOf Tryz.f26) [1, 1, 0, 1, 0, 0])] (by kernel_rfl) ⟨of_loop (l0.sum k) rfl (l0.ok k), trivial⟩) ps hs cl hn fi (fun (d : ((List Int) × Unit)) (e : Unit) => f k d.1) val wr rfl (fun _ => rfl) (run_f k)
end trailheadref05_Name
namespace trailheadref05_Number
namespace l0
def step {X : Type} (K : Int → (List Int) → Int → Option X) (G : Int → (List Int) → Int → Option X) (k : Nat) (x0 : Int) (x5 : Int) (x6 : (List Int)) (x7 : Int) : Option X :=
  (bif (decide (x7 < (mnI (mxI x0 1) 8))) then (bif (fits ((List.length x6) + (List.length (toStr ([(IntKind.wrap .u8 (remI x5 256))] : (List Int)))))) then (G (quoI .u64 x5 256) (x6 ++ (toStr ([(IntKind.wrap .u8 (remI x5 256))] : (List Int)))) (addI .i64 x7 1)) else none) else (K x5 x6 x7))
def go {X : Type} (K : Int → (List Int) → Int → Option X) (k : Nat) (x0 : Int) : Nat → Int → (List Int) → Int → Option X
  | 0, _, _, _ => none
  | n + 1, x5, x6, x7 => step K (go K k x0 n) k x0 x5 x6 x7
def f (k : Nat) (x0 : Int) (n : Nat) (x5 : Int) (x6 : (List Int)) (x7 : Int) : Option (Int × ((List Int) × Int)) := go (fun x5 x6 x7 => some (x5, x6, x7)) k x0 n x5 x6 x7
theorem step_nat {X Y : Type} (h : X → Option Y) (K : Int → (List Int) → Int → Option X) (G : Int → (List Int) → Int → Option X) (k : Nat) (x0 : Int) (x5 : Int) (x6 : (List Int)) (x7 : Int) : Option.bind (step K G k x0 x5 x6 x7) h = step (fun x5 x6 x7 => Option.bind (K x5 x6 x7) h) (fun x5 x6 x7 => Option.bind (G x5 x6 x7) h) k x0 x5 x6 x7 := by
  simp only [step, bif_bind, sel_bind', Option.bind_assoc, Option.bind_none, Option.bind_some]
theorem go_nat {X Y : Type} (h : X → Option Y) (K : Int → (List Int) → Int → Option X) (k : Nat) (x0 : Int) (n : Nat) : ∀ (x5 : Int) (x6 : (List Int)) (x7 : Int), Option.bind (go K k x0 n x5 x6 x7) h = go (fun x5 x6 x7 => Option.bind (K x5 x6 x7) h) k x0 n x5 x6 x7 := by
  induction n with
  | zero => intros; rfl
  | succ n ih => intro x5 x6 x7; show Option.bind (step K (go K k x0 n) k x0 x5 x6 x7) h = step (fun x5 x6 x7 => Option.bind (K x5 x6 x7) h) (go (fun x5 x6 x7 => Option.bind (K x5 x6 x7) h) k x0 n) k x0 x5 x6 x7; rw [step_nat h]; simp only [ih]
abbrev S : List (Nat × Sh) := [(0, .data (.int .i64)), (5, .data (.int .u64)), (6, .data .str), (7, .data (.int .i64))]
abbrev H : List (Nat × ESh) := []
abbrev cl : List (Place × Nat × Hint) := []
abbrev hn : List (Nat × Hint) := [(0, .any), (5, .any), (6, .any), (7, .any)]
abbrev kp : List Nat := []
abbrev rc : List (Place × Nat × Hint) := []
abbrev rs : List (Nat × Hint) := []
abbrev ri : List Nat := []
def KX (d : (Int × Int × (List Int) × Int × Unit)) (e : Unit) (v : (Int × ((List Int) × Int))) : St := ⟨mkS S (d.1, v.1, v.2.1, v.2.2, ()), mkH H (())⟩
def sum (k : Nat) : LoopSum := sigLoopX S cl hn kp H 0 (fun (d : (Int × Int × (List Int) × Int × Unit)) (e : Unit) => f k d.1 k d.2.1 d.2.2.1 d.2.2.2.1) KX
end l0
def tree {X : Type} (K : (List Int) → Option X) (k : Nat) (a0 : Int) (a1 : Int) : Option X :=
  (Option.bind (trailheadref05_Number.l0.f k a0 k (IntKind.wrap .u64 a1) ([] : (List Int)) (0 : Int)) (fun r1 => (K r1.2.1)))
def f (k : Nat) (a0 : Int) (a1 : Int) : Option (List Int) := tree (fun b0 => some b0) k a0 a1
theorem tree_nat {X Y : Type} (h : X → Option Y) (K : (List Int) → Option X) (k : Nat) (a0 : Int) (a1 : Int) : Option.bind (tree K k a0 a1) h = tree (fun b0 => Option.bind (K b0) h) k a0 a1 := by
  simp only [tree, bif_bind, sel_bind', Option.bind_assoc, Option.bind_none, Option.bind_some]
abbrev ps : List Sh := [.data (.int .i64), .data (.int .i64)]
abbrev hs : List (Nat × ESh) := []
abbrev hi : List Nat := hs.map (·.1)
abbrev fi : List Nat := []
abbrev cl : List (Place × Nat × Hint) := []
abbrev hn : List Hint := [.any]
def val (t : (List Int)) : AV := Sh.mk (.data .str) t
def wr (t : (List Int)) : Heap := []
def callee (k : Nat) : Callee := sigCallee ps hs (fun (d : (Int × Int × Unit)) (e : Unit) => f k d.1 d.2.1) val wr
def E (k : Nat) : Env := ⟨fnTab [], loopTab [(0, l0.sum k)], natsTab [], natTab []⟩
theorem fE (k : Nat) : ∀ f, ∀ c ∈ (E k).fn f, CalleeOK Tryz.prog f c := fnTab_ok trivial
namespace l0
theorem round (k : Nat) (d : (Int × Int × (List Int) × Int × Unit)) (e : Unit) (G : St → Option (Ex × St)) : roundK Tryz.prog (E k) 27 0 (subC (bodyOf Tryz.f24) [1, 1, 1, 0, 1, 0, 0]) (recast cl hn kp) (finBy cl hn kp rc rs ri) G ⟨mkS S d, mkH H e⟩ =
    step (fun x5 x6 x7 => some (.exit 0, KX d e (x5, x6, x7))) (fun x5 x6 x7 => G ⟨mkS S (d.1, x5, x6, x7, ()), mkH H (())⟩) k d.1 d.2.1 d.2.2.1 d.2.2.2.1 := by kernel_rfl
theorem it (k n : Nat) (d : (Int × Int × (List Int) × Int × Unit)) (e : Unit) : loopIt Tryz.prog (E k) 27 0 (subC (bodyOf Tryz.f24) [1, 1, 1, 0, 1, 0, 0]) (recast cl hn kp) (finBy cl hn kp rc rs ri) n ⟨mkS S d, mkH H e⟩ = go (fun x5 x6 x7 => some (.exit 0, KX d e (x5, x6, x7))) k d.1 n d.2.1 d.2.2.1 d.2.2.2.1 :=
  loopIt_eq (D := (Int × Int × (List Int) × Int × Unit) × Unit) (fun p => ⟨mkS S p.1, mkH H p.2⟩) (fun F p => step (fun x5 x6 x7 => some (.exit 0, KX p.1 p.2 (x5, x6, x7))) (fun x5 x6 x7 => F ((p.1.1, x5, x6, x7, ()), (()))) k p.1.1 p.1.2.1 p.1.2.2.1 p.1.2.2.2.1) (fun n p => go (fun x5 x6 x7 => some (.exit 0, KX p.1 p.2 (x5, x6, x7))) k p.1.1 n p.1.2.1 p.1.2.2.1 p.1.2.2.2.1) (fun _ => rfl) (fun _ _ => rfl) (fun G p => round k p.1 p.2 G) n (d, e)
theorem ok (k : Nat) : LoopOK Tryz.prog 27 (subC (bodyOf Tryz.f24) [1, 1, 1, 0, 1, 0, 0]) (sum k) :=
  loop_sigX hm (fE k) (loopsOK_of [] (by kernel_rfl) trivial) S cl hn kp H 0 (fun (d : (Int × Int × (List Int) × Int × Unit)) (e : Unit) => f k d.1 k d.2.1 d.2.2.1 d.2.2.2.1) KX cl hn kp rc rs ri k
    (fun d e => (it k k d e).trans (go_nat (fun v => some (Ex.exit 0, KX d e v)) (fun x5 x6 x7 => some (x5, x6, x7)) k d.1 k d.2.1 d.2.2.1 d.2.2.2.1).symm)
end l0
theorem run (k : Nat) (d : (Int × Int × Unit)) (e : Unit) : runFn Tryz.prog (E k) 27 (bodyOf Tryz.f24) Tryz.f24.results.toList cl hn hi (mkL ps d) (mkH hs e) =
    tree (fun b0 => leafFn hs fi e val wr b0) k d.1 d.2.1 := by kernel_rfl
theorem run_f (k : Nat) (d : (Int × Int × Unit)) (e : Unit) : runFn Tryz.prog (E k) 27 (bodyOf Tryz.f24) Tryz.f24.results.toList cl hn hi (mkL ps d) (mkH hs e) = (f k d.1 d.2.1).bind (leafFn hs fi e val wr) :=
  (run k d e).trans (tree_nat (leafFn hs fi e val wr) (fun b0 => some b0) k d.1 d.2.1).symm
theorem fnIs : FnIs Tryz.prog 24 Tryz.f24 (bodyOf Tryz.f24) 27 := ⟨by kernel_rfl, by kernel_rfl, by kernel_rfl, by kernel_rfl⟩
theorem ok (k : Nat) : CalleeOK Tryz.prog 24 (callee k) :=
  callee_sig (T := (List Int)) fnIs hm (fE k) (loopsOK_of [(0, subC (bodyOf Tryz.f24) [1, 1, 1, 0, 1, 0, 0])] (by kernel_rfl) ⟨of_loop (l0.sum k) rfl (l0.ok k), trivial⟩) ps hs cl hn fi (fun (d : (Int × Int × Unit)) (e : Unit) => f k d.1 d.2.1) val wr rfl (fun _ => rfl) (run_f k)
end trailheadref05_Number
namespace trailheadref07_Bytes
namespace l0
def step {X : Type} (K : (List Int) → Option X) (G : (List Int) → Option X) (k : Nat) (x1 : (List Int)) (x5 : (List Int)) : Option X :=
  (bif (decide (((List.length x5) : Int) < (12 : Int))) then (bif (fits ((List.length x5) + 1)) then (G (x5 ++ ([0] : (List Int)))) else none) else (K x5))
def go {X : Type} (K : (List Int) → Option X) (k : Nat) (x1 : (List Int)) : Nat → (List Int) → Option X
  | 0, _ => none
  | n + 1, x5 => step K (go K k x1 n) k x1 x5
def f (k : Nat) (x1 : (List Int)) (n : Nat) (x5 : (List Int)) : Option (List Int) := go (fun x5 => some x5) k x1 n x5
theorem step_nat {X Y : Type} (h : X → Option Y) (K : (List Int) → Option X) (G : (List Int) → Option X) (k : Nat) (x1 : (List Int)) (x5 : (List Int)) : Option.bind (step K G k x1 x5) h = step (fun x5 => Option.bind (K x5) h) (fun x5 => Option.bind (G x5) h) k x1 x5 := by
  simp only [step, bif_bind, sel_bind', Option.bind_assoc, Option.bind_none, Option.bind_some]
theorem go_nat {X Y : Type} (h : X → Option Y) (K : (List Int) → Option X) (k : Nat) (x1 : (List Int)) (n : Nat) : ∀ (x5 : (List Int)), Option.bind (go K k x1 n x5) h = go (fun x5 => Option.bind (K x5) h) k x1 n x5 := by
  induction n with
  | zero => intros; rfl
  | succ n ih => intro x5; show Option.bind (step K (go K k x1 n) k x1 x5) h = step (fun x5 => Option.bind (K x5) h) (go (fun x5 => Option.bind (K x5) h) k x1 n) k x1 x5; rw [step_nat h]; simp only [ih]
abbrev S : List (Nat × Sh) := [(1, .data .str), (5, .data .str)]
abbrev H : List (Nat × ESh) := []
abbrev cl : List (Place × Nat × Hint) := []
abbrev hn : List (Nat × Hint) := [(1, .any), (5, .any)]
abbrev kp : List Nat := []
abbrev rc : List (Place × Nat × Hint) := []
abbrev rs : List (Nat × Hint) := []
abbrev ri : List Nat := []
def KX (d : ((List Int) × (List Int) × Unit)) (e : Unit) (v : (List Int)) : St := ⟨mkS S (d.1, v, ()), mkH H (())⟩
def sum (k : Nat) : LoopSum := sigLoopX S cl hn kp H 0 (fun (d : ((List Int) × (List Int) × Unit)) (e : Unit) => f k d.1 k d.2.1) KX
end l0
def tree {X : Type} (K : (List Int) → Option X) (k : Nat) (a0 : (List Int)) (a1 : (List Int)) : Option X :=
  (Option.bind (trailheadref07_Bytes.l0.f k a1 k a0) (fun r1 => (Option.bind (trailheadref01_Double.f k a1) (fun r2 => (Option.bind (trailheadref05_Name.f k r2) (fun r3 => (bif (fits (4 + (List.length r1))) then (Option.bind (trailheadref05_Number.f k (4 : Int) ((List.length a1) : Int)) (fun r4 => (bif (fits ((List.length (([84, 65, 73, 76] : (List Int)) ++ r1)) + (List.length r4))) then (bif (decide (4 ≤ ((List.length r3) : Int))) then (bif (fits ((List.length ((([84, 65, 73, 76] : (List Int)) ++ r1) ++ r4)) + (List.length (List.take 4 r3)))) then (bif (fits ((List.length (((([84, 65, 73, 76] : (List Int)) ++ r1) ++ r4) ++ (List.take 4 r3))) + (List.length a1))) then (K ((((([84, 65, 73, 76] : (List Int)) ++ r1) ++ r4) ++ (List.take 4 r3)) ++ a1)) else none) else none) else none) else none))) else none)))))))
def f (k : Nat) (a0 : (List Int)) (a1 : (List Int)) : Option (List Int) := tree (fun b0 => some b0) k a0 a1
theorem tree_nat {X Y : Type} (h : X → Option Y) (K : (List Int) → Option X) (k : Nat) (a0 : (List Int)) (a1 : (List Int)) : Option.bind (tree K k a0 a1) h = tree (fun b0 => Option.bind (K b0) h) k a0 a1 := by
  simp only [tree, bif_bind, sel_bind', Option.bind_assoc, Option.bind_none, Option.bind_some]
abbrev ps : List Sh := [.data .str, .data .str]
abbrev hs : List (Nat × ESh) := []
abbrev hi : List Nat := hs.map (·.1)
abbrev fi : List Nat := []
abbrev cl : List (Place × Nat × Hint) := []
abbrev hn : List Hint := [.any]
def val (t : (List Int)) : AV := Sh.mk (.data .str) t
def wr (t : (List Int)) : Heap := []
def callee (k : Nat) : Callee := sigCallee ps hs (fun (d : ((List Int) × (List Int) × Unit)) (e : Unit) => f k d.1 d.2.1) val wr
def E (k : Nat) : Env := ⟨fnTab [(36, [trailheadref01_Double.callee k]), (26, [trailheadref05_Name.callee k]), (24, [trailheadref05_Number.callee k])], loopTab [(0, l0.sum k)], natsTab [], natTab []⟩
theorem fE (k : Nat) : ∀ f, ∀ c ∈ (E k).fn f, CalleeOK Tryz.prog f c := fnTab_ok ⟨⟨trailheadref01_Double.ok k, trivial⟩, ⟨trailheadref05_Name.ok k, trivial⟩, ⟨trailheadref05_Number.ok k, trivial⟩, trivial⟩
namespace l0
theorem round (k : Nat) (d : ((List Int) × (List Int) × Unit)) (e : Unit) (G : St → Option (Ex × St)) : roundK Tryz.prog (E k) 27 0 (subC (bodyOf Tryz.f12) [1, 1, 0, 0, 0]) (recast cl hn kp) (finBy cl hn kp rc rs ri) G ⟨mkS S d, mkH H e⟩ =
    step (fun x5 => some (.exit 0, KX d e x5)) (fun x5 => G ⟨mkS S (d.1, x5, ()), mkH H (())⟩) k d.1 d.2.1 := by kernel_rfl
theorem it (k n : Nat) (d : ((List Int) × (List Int) × Unit)) (e : Unit) : loopIt Tryz.prog (E k) 27 0 (subC (bodyOf Tryz.f12) [1, 1, 0, 0, 0]) (recast cl hn kp) (finBy cl hn kp rc rs ri) n ⟨mkS S d, mkH H e⟩ = go (fun x5 => some (.exit 0, KX d e x5)) k d.1 n d.2.1 :=
  loopIt_eq (D := ((List Int) × (List Int) × Unit) × Unit) (fun p => ⟨mkS S p.1, mkH H p.2⟩) (fun F p => step (fun x5 => some (.exit 0, KX p.1 p.2 x5)) (fun x5 => F ((p.1.1, x5, ()), (()))) k p.1.1 p.1.2.1) (fun n p => go (fun x5 => some (.exit 0, KX p.1 p.2 x5)) k p.1.1 n p.1.2.1) (fun _ => rfl) (fun _ _ => rfl) (fun G p => round k p.1 p.2 G) n (d, e)
theorem ok (k : Nat) : LoopOK Tryz.prog 27 (subC (bodyOf Tryz.f12) [1, 1, 0, 0, 0]) (sum k) :=
  loop_sigX hm (fE k) (loopsOK_of [] (by kernel_rfl) trivial) S cl hn kp H 0 (fun (d : ((List Int) × (List Int) × Unit)) (e : Unit) => f k d.1 k d.2.1) KX cl hn kp rc rs ri k
    (fun d e => (it k k d e).trans (go_nat (fun v => some (Ex.exit 0, KX d e v)) (fun x5 => some x5) k d.1 k d.2.1).symm)
end l0
theorem run (k : Nat) (d : ((List Int) × (List Int) × Unit)) (e : Unit) : runFn Tryz.prog (E k) 27 (bodyOf Tryz.f12) Tryz.f12.results.toList cl hn hi (mkL ps d) (mkH hs e) =
    tree (fun b0 => leafFn hs fi e val wr b0) k d.1 d.2.1 := by kernel_rfl
theorem run_f (k : Nat) (d : ((List Int) × (List Int) × Unit)) (e : Unit) : runFn Tryz.prog (E k) 27 (bodyOf Tryz.f12) Tryz.f12.results.toList cl hn hi (mkL ps d) (mkH hs e) = (f k d.1 d.2.1).bind (leafFn hs fi e val wr) :=
  (run k d e).trans (tree_nat (leafFn hs fi e val wr) (fun b0 => some b0) k d.1 d.2.1).symm
theorem fnIs : FnIs Tryz.prog 12 Tryz.f12 (bodyOf Tryz.f12) 27 := ⟨by kernel_rfl, by kernel_rfl, by kernel_rfl, by kernel_rfl⟩
theorem ok (k : Nat) : CalleeOK Tryz.prog 12 (callee k) :=
  callee_sig (T := (List Int)) fnIs hm (fE k) (loopsOK_of [(0, subC (bodyOf Tryz.f12) [1, 1, 0, 0, 0])] (by kernel_rfl) ⟨of_loop (l0.sum k) rfl (l0.ok k), trivial⟩) ps hs cl hn fi (fun (d : ((List Int) × (List Int) × Unit)) (e : Unit) => f k d.1 d.2.1) val wr rfl (fun _ => rfl) (run_f k)
end trailheadref07_Bytes
namespace slices_Index_string_string
namespace l0
def step {X : Type} (K : Int → Option X) (Q : Int → Option X) (G : Int → Option X) (k : Nat) (x1 : (List Int)) (x7 : Int) (y0 : (List (List Int))) (x8 : Int) : Option X :=
  (bif (decide (x8 < x7)) then (bif (decide (0 ≤ x8)) then (bif (decide (x8 < ((List.length y0) : Int))) then (bif (decide ((Int.toNat x8) < (List.length y0))) then (bif (decide (x1 = (List.getD y0 (Int.toNat x8) ([] : (List Int))))) then (Q x8) else (G (addI .i64 x8 1))) else none) else none) else none) else (K x8))
def go {X : Type} (K : Int → Option X) (Q : Int → Option X) (k : Nat) (x1 : (List Int)) (x7 : Int) (y0 : (List (List Int))) : Nat → Int → Option X
  | 0, _ => none
  | n + 1, x8 => step K Q (go K Q k x1 x7 y0 n) k x1 x7 y0 x8
def f (k : Nat) (x1 : (List Int)) (x7 : Int) (y0 : (List (List Int))) (n : Nat) (x8 : Int) : Option (Int ⊕ Int) := go (fun x8 => some (.inl x8)) (fun q0 => some (.inr q0)) k x1 x7 y0 n x8
theorem step_nat {X Y : Type} (h : X → Option Y) (K : Int → Option X) (Q : Int → Option X) (G : Int → Option X) (k : Nat) (x1 : (List Int)) (x7 : Int) (y0 : (List (List Int))) (x8 : Int) : Option.bind (step K Q G k x1 x7 y0 x8) h = step (fun x8 => Option.bind (K x8) h) (fun q0 => Option.bind (Q q0) h) (fun x8 => Option.bind (G x8) h) k x1 x7 y0 x8 := by
  simp only [step, bif_bind, sel_bind', Option.bind_assoc, Option.bind_none, Option.bind_some]
theorem go_nat {X Y : Type} (h : X → Option Y) (K : Int → Option X) (Q : Int → Option X) (k : Nat) (x1 : (List Int)) (x7 : Int) (y0 : (List (List Int))) (n : Nat) : ∀ (x8 : Int), Option.bind (go K Q k x1 x7 y0 n x8) h = go (fun x8 => Option.bind (K x8) h) (fun q0 => Option.bind (Q q0) h) k x1 x7 y0 n x8 := by
  induction n with
  | zero => intros; rfl
  | succ n ih => intro x8; show Option.bind (step K Q (go K Q k x1 x7 y0 n) k x1 x7 y0 x8) h = step (fun x8 => Option.bind (K x8) h) (fun q0 => Option.bind (Q q0) h) (go (fun x8 => Option.bind (K x8) h) (fun q0 => Option.bind (Q q0) h) k x1 x7 y0 n) k x1 x7 y0 x8; rw [step_nat h]; simp only [ih]
abbrev S : List (Nat × Sh) := [(0, .vec 0), (1, .data .str), (7, .data (.int .i64)), (8, .data (.int .i64))]
abbrev H : List (Nat × ESh) := [(0, .rows 0 9 .str)]
abbrev cl : List (Place × Nat × Hint) := []
abbrev hn : List (Nat × Hint) := [(0, .any), (1, .any), (7, .any), (8, .any)]
abbrev kp : List Nat := [0]
abbrev rc : List (Place × Nat × Hint) := []
abbrev rs : List (Nat × Hint) := [(4, .any)]
abbrev ri : List Nat := [0]
def KX (d : (Unit × (List Int) × Int × Int × Unit)) (e : ((List (List Int)) × Unit)) (v : Int) : St := ⟨mkS S ((), d.2.1, d.2.2.1, v, ()), mkH H (e.1, ())⟩
abbrev RS : List (Nat × Sh) := [(4, .data (.int .i64))]
abbrev RH : List (Nat × ESh) := [(0, .rows 0 9 .str)]
def RX (d : (Unit × (List Int) × Int × Int × Unit)) (e : ((List (List Int)) × Unit)) (v : Int) : St := ⟨mkS RS (v, ()), mkH RH (e.1, ())⟩
def sum (k : Nat) : LoopSum := sigLoop S cl hn kp H 0 (fun (d : (Unit × (List Int) × Int × Int × Unit)) (e : ((List (List Int)) × Unit)) => f k d.2.1 d.2.2.1 e.1 k d.2.2.2.1) KX RX
end l0
def tree {X : Type} (K : Int → Option X) (k : Nat) (a1 : (List Int)) (m0 : (List (List Int))) : Option X :=
  (Option.bind (slices_Index_string_string.l0.f k a1 ((List.length m0) : Int) m0 k (0 : Int)) (fun r1 => sel r1 (fun v2 => (K ((-1) : Int))) (fun q3 => (K q3))))
def f (k : Nat) (a1 : (List Int)) (m0 : (List (List Int))) : Option Int := tree (fun b0 => some b0) k a1 m0
theorem tree_nat {X Y : Type} (h : X → Option Y) (K : Int → Option X) (k : Nat) (a1 : (List Int)) (m0 : (List (List Int))) : Option.bind (tree K k a1 m0) h = tree (fun b0 => Option.bind (K b0) h) k a1 m0 := by
  simp only [tree, bif_bind, sel_bind', Option.bind_assoc, Option.bind_none, Option.bind_some]
abbrev ps : List Sh := [.vec 0, .data .str]
abbrev hs : List (Nat × ESh) := [(0, .rows 0 9 .str)]
abbrev hi : List Nat := hs.map (·.1)
abbrev fi : List Nat := [0]
abbrev cl : List (Place × Nat × Hint) := []
abbrev hn : List Hint := [.any]
def val (t : Int) : AV := Sh.mk (.data (.int .i64)) t
def wr (t : Int) : Heap := []
def callee (k : Nat) : Callee := sigCallee ps hs (fun (d : (Unit × (List Int) × Unit)) (e : ((List (List Int)) × Unit)) => f k d.2.1 e.1) val wr
def E (k : Nat) : Env := ⟨fnTab [], loopTab [(0, l0.sum k)], natsTab [], natTab []⟩
theorem fE (k : Nat) : ∀ f, ∀ c ∈ (E k).fn f, CalleeOK Tryz.prog f c := fnTab_ok trivial
namespace l0
theorem round (k : Nat) (d : (Unit × (List Int) × Int × Int × Unit)) (e : ((List (List Int)) × Unit)) (G : St → Option (Ex × St)) : roundK Tryz.prog (E k) 19 0 (subC (bodyOf Tryz.f40) [1, 0, 1, 0, 0]) (recast cl hn kp) (finBy cl hn kp rc rs ri) G ⟨mkS S d, mkH H e⟩ =
    step (fun x8 => some (.exit 0, KX d e x8)) (fun q0 => some (.ret, RX d e q0)) (fun x8 => G ⟨mkS S ((), d.2.1, d.2.2.1, x8, ()), mkH H (e.1, ())⟩) k d.2.1 d.2.2.1 e.1 d.2.2.2.1 := by kernel_rfl
theorem it (k n : Nat) (d : (Unit × (List Int) × Int × Int × Unit)) (e : ((List (List Int)) × Unit)) : loopIt Tryz.prog (E k) 19 0 (subC (bodyOf Tryz.f40) [1, 0, 1, 0, 0]) (recast cl hn kp) (finBy cl hn kp rc rs ri) n ⟨mkS S d, mkH H e⟩ = go (fun x8 => some (.exit 0, KX d e x8)) (fun q0 => some (.ret, RX d e q0)) k d.2.1 d.2.2.1 e.1 n d.2.2.2.1 :=
  loopIt_eq (D := (Unit × (List Int) × Int × Int × Unit) × ((List (List Int)) × Unit)) (fun p => ⟨mkS S p.1, mkH H p.2⟩) (fun F p => step (fun x8 => some (.exit 0, KX p.1 p.2 x8)) (fun q0 => some (.ret, RX p.1 p.2 q0)) (fun x8 => F (((), p.1.2.1, p.1.2.2.1, x8, ()), (p.2.1, ()))) k p.1.2.1 p.1.2.2.1 p.2.1 p.1.2.2.2.1) (fun n p => go (fun x8 => some (.exit 0, KX p.1 p.2 x8)) (fun q0 => some (.ret, RX p.1 p.2 q0)) k p.1.2.1 p.1.2.2.1 p.2.1 n p.1.2.2.2.1) (fun _ => rfl) (fun _ _ => rfl) (fun G p => round k p.1 p.2 G) n (d, e)
theorem ok (k : Nat) : LoopOK Tryz.prog 19 (subC (bodyOf Tryz.f40) [1, 0, 1, 0, 0]) (sum k) :=
  loop_sig hm (fE k) (loopsOK_of [] (by kernel_rfl) trivial) S cl hn kp H 0 (fun (d : (Unit × (List Int) × Int × Int × Unit)) (e : ((List (List Int)) × Unit)) => f k d.2.1 d.2.2.1 e.1 k d.2.2.2.1) KX RX cl hn kp rc rs ri k
    (fun d e => (it k k d e).trans (go_nat (exitOf 0 (KX d e) (RX d e)) (fun x8 => some (.inl x8)) (fun q0 => some (.inr q0)) k d.2.1 d.2.2.1 e.1 k d.2.2.2.1).symm)
end l0
theorem run (k : Nat) (d : (Unit × (List Int) × Unit)) (e : ((List (List Int)) × Unit)) : runFn Tryz.prog (E k) 19 (bodyOf Tryz.f40) Tryz.f40.results.toList cl hn hi (mkL ps d) (mkH hs e) =
    tree (fun b0 => leafFn hs fi e val wr b0) k d.2.1 e.1 := by kernel_rfl
theorem run_f (k : Nat) (d : (Unit × (List Int) × Unit)) (e : ((List (List Int)) × Unit)) : runFn Tryz.prog (E k) 19 (bodyOf Tryz.f40) Tryz.f40.results.toList cl hn hi (mkL ps d) (mkH hs e) = (f k d.2.1 e.1).bind (leafFn hs fi e val wr) :=
  (run k d e).trans (tree_nat (leafFn hs fi e val wr) (fun b0 => some b0) k d.2.1 e.1).symm
theorem fnIs : FnIs Tryz.prog 40 Tryz.f40 (bodyOf Tryz.f40) 19 := ⟨by kernel_rfl, by kernel_rfl, by kernel_rfl, by kernel_rfl⟩
theorem ok (k : Nat) : CalleeOK Tryz.prog 40 (callee k) :=
  callee_sig (T := Int) fnIs hm (fE k) (loopsOK_of [(0, subC (bodyOf Tryz.f40) [1, 0, 1, 0, 0])] (by kernel_rfl) ⟨of_loop (l0.sum k) rfl (l0.ok k), trivial⟩) ps hs cl hn fi (fun (d : (Unit × (List Int) × Unit)) (e : ((List (List Int)) × Unit)) => f k d.2.1 e.1) val wr rfl (fun _ => rfl) (run_f k)
end slices_Index_string_string
namespace speech_Kind
def tree {X : Type} (K : Int → Option X) (k : Nat) (a0 : (List Int)) (m0 : T_9fe11e) : Option X :=
  (Option.bind (slices_Index_string_string.f k a0 (List.drop 1 (strsL (.pair .str (.pair .str (.pair .str (.pair .str (.pair .str (.pair .str (.pair .str (.pair .str .str)))))))) m0))) (fun r1 => (K (mxI (addI .i64 r1 1) 0))))
def f (k : Nat) (a0 : (List Int)) (m0 : T_9fe11e) : Option Int := tree (fun b0 => some b0) k a0 m0
theorem tree_nat {X Y : Type} (h : X → Option Y) (K : Int → Option X) (k : Nat) (a0 : (List Int)) (m0 : T_9fe11e) : Option.bind (tree K k a0 m0) h = tree (fun b0 => Option.bind (K b0) h) k a0 m0 := by
  simp only [tree, bif_bind, sel_bind', Option.bind_assoc, Option.bind_none, Option.bind_some]
abbrev ps : List Sh := [.data .str]
abbrev hs : List (Nat × ESh) := [(0, .glob 0 (.pair .str (.pair .str (.pair .str (.pair .str (.pair .str (.pair .str (.pair .str (.pair .str .str)))))))))]
abbrev hi : List Nat := hs.map (·.1)
abbrev fi : List Nat := [0]
abbrev cl : List (Place × Nat × Hint) := []
abbrev hn : List Hint := [.any]
def val (t : Int) : AV := Sh.mk (.data (.int .i64)) t
def wr (t : Int) : Heap := []
def callee (k : Nat) : Callee := sigCallee ps hs (fun (d : ((List Int) × Unit)) (e : (T_9fe11e × Unit)) => f k d.1 e.1) val wr
def E (k : Nat) : Env := ⟨fnTab [(40, [slices_Index_string_string.callee k])], loopTab [], natsTab [], natTab [(0, 0)]⟩
theorem fE (k : Nat) : ∀ f, ∀ c ∈ (E k).fn f, CalleeOK Tryz.prog f c := fnTab_ok ⟨⟨slices_Index_string_string.ok k, trivial⟩, trivial⟩
theorem run (k : Nat) (d : ((List Int) × Unit)) (e : (T_9fe11e × Unit)) : runFn Tryz.prog (E k) 8 (bodyOf Tryz.f14) Tryz.f14.results.toList cl hn hi (mkL ps d) (mkH hs e) =
    tree (fun b0 => leafFn hs fi e val wr b0) k d.1 e.1 := by kernel_rfl
theorem run_f (k : Nat) (d : ((List Int) × Unit)) (e : (T_9fe11e × Unit)) : runFn Tryz.prog (E k) 8 (bodyOf Tryz.f14) Tryz.f14.results.toList cl hn hi (mkL ps d) (mkH hs e) = (f k d.1 e.1).bind (leafFn hs fi e val wr) :=
  (run k d e).trans (tree_nat (leafFn hs fi e val wr) (fun b0 => some b0) k d.1 e.1).symm
theorem fnIs : FnIs Tryz.prog 14 Tryz.f14 (bodyOf Tryz.f14) 8 := ⟨by kernel_rfl, by kernel_rfl, by kernel_rfl, by kernel_rfl⟩
theorem ok (k : Nat) : CalleeOK Tryz.prog 14 (callee k) :=
  callee_sig (T := Int) fnIs hm (fE k) (loopsOK_of [] (by kernel_rfl) trivial) ps hs cl hn fi (fun (d : ((List Int) × Unit)) (e : (T_9fe11e × Unit)) => f k d.1 e.1) val wr rfl (fun _ => rfl) (run_f k)
end speech_Kind
namespace trailheadlaw08_alive
def tree {X : Type} (K : Bool → Option X) (k : Nat) (m0 : T_9fe11e) (m1 : (List Int)) (m2 : (List Int)) : Option X :=
  (Option.bind (speech_Bytes.f k ((2, (0, (0, (0, (0, ([], ([0, 0, 0, 0, 0, 0, 0, 0, 0, 0, 0, 0, 0, 0, 0, 0, 0, 0, 0, 0, 0, 0, 0, 0, 0, 0, 0, 0, 0, 0, 0, 0], []))))))) : T_85bbee) m0 m1 m2) (fun r1 => (bif (r1.2 == (0 : Int)) then (Option.bind (trailheadref07_Bytes.f k ([118, 101, 114, 97, 99, 107] : (List Int)) ([] : (List Int))) (fun r2 => (bif (decide (r1.1 = r2)) then (Option.bind (speech_Kind.f k ([105, 110, 118] : (List Int)) m0) (fun r3 => (K (r3 == (5 : Int))))) else (K false)))) else (K false))))
def f (k : Nat) (m0 : T_9fe11e) (m1 : (List Int)) (m2 : (List Int)) : Option Bool := tree (fun b0 => some b0) k m0 m1 m2
theorem tree_nat {X Y : Type} (h : X → Option Y) (K : Bool → Option X) (k : Nat) (m0 : T_9fe11e) (m1 : (List Int)) (m2 : (List Int)) : Option.bind (tree K k m0 m1 m2) h = tree (fun b0 => Option.bind (K b0) h) k m0 m1 m2 := by
  simp only [tree, bif_bind, sel_bind', Option.bind_assoc, Option.bind_none, Option.bind_some]
abbrev ps : List Sh := []
abbrev hs : List (Nat × ESh) := [(0, .glob 0 (.pair .str (.pair .str (.pair .str (.pair .str (.pair .str (.pair .str (.pair .str (.pair .str .str))))))))), (1, .glob 2 (.arr .u32 8)), (2, .glob 3 (.arr .u32 64))]
abbrev hi : List Nat := hs.map (·.1)
abbrev fi : List Nat := [0, 1, 2]
abbrev cl : List (Place × Nat × Hint) := []
abbrev hn : List Hint := [.any]
def val (t : Bool) : AV := Sh.mk (.data .bool) t
def wr (t : Bool) : Heap := []
def callee (k : Nat) : Callee := sigCallee ps hs (fun (d : Unit) (e : (T_9fe11e × (List Int) × (List Int) × Unit)) => f k e.1 e.2.1 e.2.2.1) val wr
def E (k : Nat) : Env := ⟨fnTab [(7, [speech_Bytes.callee k]), (12, [trailheadref07_Bytes.callee k]), (14, [speech_Kind.callee k])], loopTab [], natsTab [(7, [0, 1, 2]), (14, [0])], natTab [(0, 0), (2, 1), (3, 2)]⟩
theorem fE (k : Nat) : ∀ f, ∀ c ∈ (E k).fn f, CalleeOK Tryz.prog f c := fnTab_ok ⟨⟨speech_Bytes.ok k, trivial⟩, ⟨trailheadref07_Bytes.ok k, trivial⟩, ⟨speech_Kind.ok k, trivial⟩, trivial⟩
theorem run (k : Nat) (d : Unit) (e : (T_9fe11e × (List Int) × (List Int) × Unit)) : runFn Tryz.prog (E k) 19 (bodyOf Tryz.f4) Tryz.f4.results.toList cl hn hi (mkL ps d) (mkH hs e) =
    tree (fun b0 => leafFn hs fi e val wr b0) k e.1 e.2.1 e.2.2.1 := by kernel_rfl
theorem run_f (k : Nat) (d : Unit) (e : (T_9fe11e × (List Int) × (List Int) × Unit)) : runFn Tryz.prog (E k) 19 (bodyOf Tryz.f4) Tryz.f4.results.toList cl hn hi (mkL ps d) (mkH hs e) = (f k e.1 e.2.1 e.2.2.1).bind (leafFn hs fi e val wr) :=
  (run k d e).trans (tree_nat (leafFn hs fi e val wr) (fun b0 => some b0) k e.1 e.2.1 e.2.2.1).symm
theorem fnIs : FnIs Tryz.prog 4 Tryz.f4 (bodyOf Tryz.f4) 19 := ⟨by kernel_rfl, by kernel_rfl, by kernel_rfl, by kernel_rfl⟩
theorem ok (k : Nat) : CalleeOK Tryz.prog 4 (callee k) :=
  callee_sig (T := Bool) fnIs hm (fE k) (loopsOK_of [] (by kernel_rfl) trivial) ps hs cl hn fi (fun (d : Unit) (e : (T_9fe11e × (List Int) × (List Int) × Unit)) => f k e.1 e.2.1 e.2.2.1) val wr rfl (fun _ => rfl) (run_f k)
end trailheadlaw08_alive
namespace trailheadlaw08_great
def tree {X : Type} (K : Bool → Option X) (k : Nat) (a0 : T_85bbee) : Option X :=
  (bif (decide (((List.length a0.2.2.2.2.2.1) : Int) > (200 : Int))) then (K true) else (K (decide (((List.length a0.2.2.2.2.2.2.2) : Int) > (100 : Int)))))
def f (k : Nat) (a0 : T_85bbee) : Option Bool := tree (fun b0 => some b0) k a0
theorem tree_nat {X Y : Type} (h : X → Option Y) (K : Bool → Option X) (k : Nat) (a0 : T_85bbee) : Option.bind (tree K k a0) h = tree (fun b0 => Option.bind (K b0) h) k a0 := by
  simp only [tree, bif_bind, sel_bind', Option.bind_assoc, Option.bind_none, Option.bind_some]
abbrev ps : List Sh := [.data (.pair (.int .i64) (.pair (.int .i64) (.pair (.int .i64) (.pair (.int .i64) (.pair (.int .i64) (.pair (.row 24 (.arr .u8 32)) (.pair (.arr .u8 32) (.row 44 (.pair (.int .i64) (.pair (.arr .u8 32) (.pair (.arr .u8 32) (.pair (.int .i64) (.pair (.int .i64) (.int .i64))))))))))))))]
abbrev hs : List (Nat × ESh) := []
abbrev hi : List Nat := hs.map (·.1)
abbrev fi : List Nat := []
abbrev cl : List (Place × Nat × Hint) := []
abbrev hn : List Hint := [.any]
def val (t : Bool) : AV := Sh.mk (.data .bool) t
def wr (t : Bool) : Heap := []
def callee (k : Nat) : Callee := sigCallee ps hs (fun (d : (T_85bbee × Unit)) (e : Unit) => f k d.1) val wr
def E (k : Nat) : Env := ⟨fnTab [], loopTab [], natsTab [], natTab []⟩
theorem fE (k : Nat) : ∀ f, ∀ c ∈ (E k).fn f, CalleeOK Tryz.prog f c := fnTab_ok trivial
theorem run (k : Nat) (d : (T_85bbee × Unit)) (e : Unit) : runFn Tryz.prog (E k) 13 (bodyOf Tryz.f5) Tryz.f5.results.toList cl hn hi (mkL ps d) (mkH hs e) =
    tree (fun b0 => leafFn hs fi e val wr b0) k d.1 := by kernel_rfl
theorem run_f (k : Nat) (d : (T_85bbee × Unit)) (e : Unit) : runFn Tryz.prog (E k) 13 (bodyOf Tryz.f5) Tryz.f5.results.toList cl hn hi (mkL ps d) (mkH hs e) = (f k d.1).bind (leafFn hs fi e val wr) :=
  (run k d e).trans (tree_nat (leafFn hs fi e val wr) (fun b0 => some b0) k d.1).symm
theorem fnIs : FnIs Tryz.prog 5 Tryz.f5 (bodyOf Tryz.f5) 13 := ⟨by kernel_rfl, by kernel_rfl, by kernel_rfl, by kernel_rfl⟩
theorem ok (k : Nat) : CalleeOK Tryz.prog 5 (callee k) :=
  callee_sig (T := Bool) fnIs hm (fE k) (loopsOK_of [] (by kernel_rfl) trivial) ps hs cl hn fi (fun (d : (T_85bbee × Unit)) (e : Unit) => f k d.1) val wr rfl (fun _ => rfl) (run_f k)
end trailheadlaw08_great
namespace trailheadref08_in
def tree {X : Type} (K : Bool → Option X) (k : Nat) (a0 : Int) (a1 : Int) : Option X :=
  (bif (decide (a0 ≥ (0 : Int))) then (bif (decide ((IntKind.wrap .u64 (mulI .i64 8 a1)) < 0)) then none else (K ((shrI .i64 a0 (IntKind.wrap .u64 (mulI .i64 8 a1))) == (0 : Int)))) else (K false))
def f (k : Nat) (a0 : Int) (a1 : Int) : Option Bool := tree (fun b0 => some b0) k a0 a1
theorem tree_nat {X Y : Type} (h : X → Option Y) (K : Bool → Option X) (k : Nat) (a0 : Int) (a1 : Int) : Option.bind (tree K k a0 a1) h = tree (fun b0 => Option.bind (K b0) h) k a0 a1 := by
  simp only [tree, bif_bind, sel_bind', Option.bind_assoc, Option.bind_none, Option.bind_some]
abbrev ps : List Sh := [.data (.int .i64), .data (.int .i64)]
abbrev hs : List (Nat × ESh) := []
abbrev hi : List Nat := hs.map (·.1)
abbrev fi : List Nat := []
abbrev cl : List (Place × Nat × Hint) := []
abbrev hn : List Hint := [.any]
def val (t : Bool) : AV := Sh.mk (.data .bool) t
def wr (t : Bool) : Heap := []
def callee (k : Nat) : Callee := sigCallee ps hs (fun (d : (Int × Int × Unit)) (e : Unit) => f k d.1 d.2.1) val wr
def E (k : Nat) : Env := ⟨fnTab [], loopTab [], natsTab [], natTab []⟩
theorem fE (k : Nat) : ∀ f, ∀ c ∈ (E k).fn f, CalleeOK Tryz.prog f c := fnTab_ok trivial
theorem run (k : Nat) (d : (Int × Int × Unit)) (e : Unit) : runFn Tryz.prog (E k) 15 (bodyOf Tryz.f15) Tryz.f15.results.toList cl hn hi (mkL ps d) (mkH hs e) =
    tree (fun b0 => leafFn hs fi e val wr b0) k d.1 d.2.1 := by kernel_rfl
theorem run_f (k : Nat) (d : (Int × Int × Unit)) (e : Unit) : runFn Tryz.prog (E k) 15 (bodyOf Tryz.f15) Tryz.f15.results.toList cl hn hi (mkL ps d) (mkH hs e) = (f k d.1 d.2.1).bind (leafFn hs fi e val wr) :=
  (run k d e).trans (tree_nat (leafFn hs fi e val wr) (fun b0 => some b0) k d.1 d.2.1).symm
theorem fnIs : FnIs Tryz.prog 15 Tryz.f15 (bodyOf Tryz.f15) 15 := ⟨by kernel_rfl, by kernel_rfl, by kernel_rfl, by kernel_rfl⟩
theorem ok (k : Nat) : CalleeOK Tryz.prog 15 (callee k) :=
  callee_sig (T := Bool) fnIs hm (fE k) (loopsOK_of [] (by kernel_rfl) trivial) ps hs cl hn fi (fun (d : (Int × Int × Unit)) (e : Unit) => f k d.1 d.2.1) val wr rfl (fun _ => rfl) (run_f k)
end trailheadref08_in
namespace trailheadref06_Good
def tree {X : Type} (K : Bool → Option X) (k : Nat) (a0 : T_3d5633) : Option X :=
  (bif (decide (a0.1 ≥ ((-2147483648) : Int))) then (bif (decide (a0.1 ≤ (2147483647 : Int))) then (bif (decide (a0.2.2.2.1 ≥ (0 : Int))) then (bif (decide (a0.2.2.2.1 < (4294967296 : Int))) then (bif (decide (a0.2.2.2.2.1 ≥ (0 : Int))) then (bif (decide (a0.2.2.2.2.1 < (4294967296 : Int))) then (bif (decide (a0.2.2.2.2.2 ≥ (0 : Int))) then (K (decide (a0.2.2.2.2.2 < (4294967296 : Int)))) else (K false)) else (K false)) else (K false)) else (K false)) else (K false)) else (K false)) else (K false))
def f (k : Nat) (a0 : T_3d5633) : Option Bool := tree (fun b0 => some b0) k a0
theorem tree_nat {X Y : Type} (h : X → Option Y) (K : Bool → Option X) (k : Nat) (a0 : T_3d5633) : Option.bind (tree K k a0) h = tree (fun b0 => Option.bind (K b0) h) k a0 := by
  simp only [tree, bif_bind, sel_bind', Option.bind_assoc, Option.bind_none, Option.bind_some]
abbrev ps : List Sh := [.data (.pair (.int .i64) (.pair (.arr .u8 32) (.pair (.arr .u8 32) (.pair (.int .i64) (.pair (.int .i64) (.int .i64))))))]
abbrev hs : List (Nat × ESh) := []
abbrev hi : List Nat := hs.map (·.1)
abbrev fi : List Nat := []
abbrev cl : List (Place × Nat × Hint) := []
abbrev hn : List Hint := [.any]
def val (t : Bool) : AV := Sh.mk (.data .bool) t
def wr (t : Bool) : Heap := []
def callee (k : Nat) : Callee := sigCallee ps hs (fun (d : (T_3d5633 × Unit)) (e : Unit) => f k d.1) val wr
def E (k : Nat) : Env := ⟨fnTab [], loopTab [], natsTab [], natTab []⟩
theorem fE (k : Nat) : ∀ f, ∀ c ∈ (E k).fn f, CalleeOK Tryz.prog f c := fnTab_ok trivial
theorem run (k : Nat) (d : (T_3d5633 × Unit)) (e : Unit) : runFn Tryz.prog (E k) 45 (bodyOf Tryz.f16) Tryz.f16.results.toList cl hn hi (mkL ps d) (mkH hs e) =
    tree (fun b0 => leafFn hs fi e val wr b0) k d.1 := by kernel_rfl
theorem run_f (k : Nat) (d : (T_3d5633 × Unit)) (e : Unit) : runFn Tryz.prog (E k) 45 (bodyOf Tryz.f16) Tryz.f16.results.toList cl hn hi (mkL ps d) (mkH hs e) = (f k d.1).bind (leafFn hs fi e val wr) :=
  (run k d e).trans (tree_nat (leafFn hs fi e val wr) (fun b0 => some b0) k d.1).symm
theorem fnIs : FnIs Tryz.prog 16 Tryz.f16 (bodyOf Tryz.f16) 45 := ⟨by kernel_rfl, by kernel_rfl, by kernel_rfl, by kernel_rfl⟩
theorem ok (k : Nat) : CalleeOK Tryz.prog 16 (callee k) :=
  callee_sig (T := Bool) fnIs hm (fE k) (loopsOK_of [] (by kernel_rfl) trivial) ps hs cl hn fi (fun (d : (T_3d5633 × Unit)) (e : Unit) => f k d.1) val wr rfl (fun _ => rfl) (run_f k)
end trailheadref06_Good
namespace trailheadref08_Good
namespace l1
def step {X : Type} (K : Int → Option X) (Q : Bool → Option X) (G : Int → Option X) (k : Nat) (x42 : Int) (y800000 : T_85bbee) (y800001 : (List T_3d5633)) (x43 : Int) : Option X :=
  (bif (decide (x43 < x42)) then (bif (decide (0 ≤ x43)) then (bif (decide (x43 < ((List.length y800001) : Int))) then (bif (decide ((Int.toNat x43) < (List.length y800001))) then (Option.bind (trailheadref06_Good.f k ((((List.getD y800001 (Int.toNat x43) dfl_31f8ee)).1, ((((List.getD y800001 (Int.toNat x43) dfl_31f8ee)).2).1, (((((List.getD y800001 (Int.toNat x43) dfl_31f8ee)).2).2).1, ((((((List.getD y800001 (Int.toNat x43) dfl_31f8ee)).2).2).2).1, ((((((List.getD y800001 (Int.toNat x43) dfl_31f8ee)).2).2).2).2))))) : T_3d5633)) (fun r6 => (bif (!r6) then (Q false) else (G (addI .i64 x43 1))))) else none) else none) else none) else (K x43))
def go {X : Type} (K : Int → Option X) (Q : Bool → Option X) (k : Nat) (x42 : Int) (y800000 : T_85bbee) (y800001 : (List T_3d5633)) : Nat → Int → Option X
  | 0, _ => none
  | n + 1, x43 => step K Q (go K Q k x42 y800000 y800001 n) k x42 y800000 y800001 x43
def f (k : Nat) (x42 : Int) (y800000 : T_85bbee) (y800001 : (List T_3d5633)) (n : Nat) (x43 : Int) : Option (Int ⊕ Bool) := go (fun x43 => some (.inl x43)) (fun q0 => some (.inr q0)) k x42 y800000 y800001 n x43
theorem step_nat {X Y : Type} (h : X → Option Y) (K : Int → Option X) (Q : Bool → Option X) (G : Int → Option X) (k : Nat) (x42 : Int) (y800000 : T_85bbee) (y800001 : (List T_3d5633)) (x43 : Int) : Option.bind (step K Q G k x42 y800000 y800001 x43) h = step (fun x43 => Option.bind (K x43) h) (fun q0 => Option.bind (Q q0) h) (fun x43 => Option.bind (G x43) h) k x42 y800000 y800001 x43 := by
  simp only [step, bif_bind, sel_bind', Option.bind_assoc, Option.bind_none, Option.bind_some]
theorem go_nat {X Y : Type} (h : X → Option Y) (K : Int → Option X) (Q : Bool → Option X) (k : Nat) (x42 : Int) (y800000 : T_85bbee) (y800001 : (List T_3d5633)) (n : Nat) : ∀ (x43 : Int), Option.bind (go K Q k x42 y800000 y800001 n x43) h = go (fun x43 => Option.bind (K x43) h) (fun q0 => Option.bind (Q q0) h) k x42 y800000 y800001 n x43 := by
  induction n with
  | zero => intros; rfl
  | succ n ih => intro x43; show Option.bind (step K Q (go K Q k x42 y800000 y800001 n) k x42 y800000 y800001 x43) h = step (fun x43 => Option.bind (K x43) h) (fun q0 => Option.bind (Q q0) h) (go (fun x43 => Option.bind (K x43) h) (fun q0 => Option.bind (Q q0) h) k x42 y800000 y800001 n) k x42 y800000 y800001 x43; rw [step_nat h]; simp only [ih]
abbrev S : List (Nat × Sh) := [(1, .ptr 800000), (41, .vec 800001), (42, .data (.int .i64)), (43, .data (.int .i64))]
abbrev H : List (Nat × ESh) := [(800000, .cell (.data (.pair (.int .i64) (.pair (.int .i64) (.pair (.int .i64) (.pair (.int .i64) (.pair (.int .i64) (.pair (.row 24 (.arr .u8 32)) (.pair (.arr .u8 32) (.row 44 (.pair (.int .i64) (.pair (.arr .u8 32) (.pair (.arr .u8 32) (.pair (.int .i64) (.pair (.int .i64) (.int .i64)))))))))))))))), (800001, .rows 0 44 (.pair (.int .i64) (.pair (.arr .u8 32) (.pair (.arr .u8 32) (.pair (.int .i64) (.pair (.int .i64) (.int .i64)))))))]
abbrev cl : List (Place × Nat × Hint) := []
abbrev hn : List (Nat × Hint) := [(1, .any), (41, .any), (42, .any), (43, .any)]
abbrev kp : List Nat := []
abbrev rc : List (Place × Nat × Hint) := []
abbrev rs : List (Nat × Hint) := [(2, .any)]
abbrev ri : List Nat := []
def KX (d : (Unit × Unit × Int × Int × Unit)) (e : (T_85bbee × (List T_3d5633) × Unit)) (v : Int) : St := ⟨mkS S ((), (), d.2.2.1, v, ()), mkH H (e.1, e.2.1, ())⟩
abbrev RS : List (Nat × Sh) := [(2, .data .bool)]
abbrev RH : List (Nat × ESh) := []
def RX (d : (Unit × Unit × Int × Int × Unit)) (e : (T_85bbee × (List T_3d5633) × Unit)) (v : Bool) : St := ⟨mkS RS (v, ()), mkH RH (())⟩
def sum (k : Nat) : LoopSum := sigLoop S cl hn kp H 1 (fun (d : (Unit × Unit × Int × Int × Unit)) (e : (T_85bbee × (List T_3d5633) × Unit)) => f k d.2.2.1 e.1 e.2.1 k d.2.2.2.1) KX RX
end l1
def tree {X : Type} (K : Bool → Option X) (k : Nat) (a0 : T_85bbee) : Option X :=
  (bif (a0.1 == (1 : Int)) then (Option.bind (trailheadref08_in.f k a0.2.1 (4 : Int)) (fun r1 => (bif r1 then (Option.bind (trailheadref08_in.f k a0.2.2.2.1 (4 : Int)) (fun r2 => (bif r2 then (Option.bind (trailheadref08_in.f k a0.2.2.1 (7 : Int)) (fun r3 => (bif r3 then (Option.bind (trailheadref08_in.f k a0.2.2.2.2.1 (7 : Int)) (fun r4 => (K r4))) else (K false)))) else (K false)))) else (K false)))) else (bif (a0.1 == (3 : Int)) then (Option.bind (trailheadref08_in.f k a0.2.1 (4 : Int)) (fun r5 => (bif r5 then (K (decide (((List.length a0.2.2.2.2.2.1) : Int) ≤ (32 : Int)))) else (K false)))) else (bif (a0.1 == (4 : Int)) then (Option.bind (trailheadref08_Good.l1.f k ((List.length a0.2.2.2.2.2.2.2) : Int) a0 a0.2.2.2.2.2.2.2 k (0 : Int)) (fun r7 => sel r7 (fun v8 => (K (decide (((List.length a0.2.2.2.2.2.2.2) : Int) ≤ (64 : Int))))) (fun q9 => (K q9)))) else (bif (a0.1 == (5 : Int)) then (K (decide (((List.length a0.2.2.2.2.2.1) : Int) ≤ (32 : Int)))) else (bif (a0.1 == (6 : Int)) then (bif (a0.1 == (6 : Int)) then (Option.bind (trailheadref08_in.f k a0.2.2.2.2.1 (7 : Int)) (fun r10 => (K r10))) else (bif (a0.1 == (2 : Int)) then (K true) else (K (a0.1 == (8 : Int))))) else (bif (a0.1 == (7 : Int)) then (Option.bind (trailheadref08_in.f k a0.2.2.2.2.1 (7 : Int)) (fun r11 => (K r11))) else (bif (a0.1 == (2 : Int)) then (K true) else (K (a0.1 == (8 : Int))))))))))
def f (k : Nat) (a0 : T_85bbee) : Option Bool := tree (fun b0 => some b0) k a0
theorem tree_nat {X Y : Type} (h : X → Option Y) (K : Bool → Option X) (k : Nat) (a0 : T_85bbee) : Option.bind (tree K k a0) h = tree (fun b0 => Option.bind (K b0) h) k a0 := by
  simp only [tree, bif_bind, sel_bind', Option.bind_assoc, Option.bind_none, Option.bind_some]
abbrev ps : List Sh := [.data (.pair (.int .i64) (.pair (.int .i64) (.pair (.int .i64) (.pair (.int .i64) (.pair (.int .i64) (.pair (.row 24 (.arr .u8 32)) (.pair (.arr .u8 32) (.row 44 (.pair (.int .i64) (.pair (.arr .u8 32) (.pair (.arr .u8 32) (.pair (.int .i64) (.pair (.int .i64) (.int .i64))))))))))))))]
abbrev hs : List (Nat × ESh) := []
abbrev hi : List Nat := hs.map (·.1)
abbrev fi : List Nat := []
abbrev cl : List (Place × Nat × Hint) := []
abbrev hn : List Hint := [.any]
def val (t : Bool) : AV := Sh.mk (.data .bool) t
def wr (t : Bool) : Heap := []
def callee (k : Nat) : Callee := sigCallee ps hs (fun (d : (T_85bbee × Unit)) (e : Unit) => f k d.1) val wr
def E (k : Nat) : Env := ⟨fnTab [(15, [trailheadref08_in.callee k]), (16, [trailheadref06_Good.callee k])], loopTab [(1, l1.sum k)], natsTab [], natTab []⟩
theorem fE (k : Nat) : ∀ f, ∀ c ∈ (E k).fn f, CalleeOK Tryz.prog f c := fnTab_ok ⟨⟨trailheadref08_in.ok k, trivial⟩, ⟨trailheadref06_Good.ok k, trivial⟩, trivial⟩
namespace l1
theorem round (k : Nat) (d : (Unit × Unit × Int × Int × Unit)) (e : (T_85bbee × (List T_3d5633) × Unit)) (G : St → Option (Ex × St)) : roundK Tryz.prog (E k) 75 1 (subC (bodyOf Tryz.f6) [1, 0, 1, 0, 1, 1, 1, 1, 1, 0, 0, 1, 0, 0]) (recast cl hn kp) (finBy cl hn kp rc rs ri) G ⟨mkS S d, mkH H e⟩ =
    step (fun x43 => some (.exit 1, KX d e x43)) (fun q0 => some (.ret, RX d e q0)) (fun x43 => G ⟨mkS S ((), (), d.2.2.1, x43, ()), mkH H (e.1, e.2.1, ())⟩) k d.2.2.1 e.1 e.2.1 d.2.2.2.1 := by kernel_rfl
theorem it (k n : Nat) (d : (Unit × Unit × Int × Int × Unit)) (e : (T_85bbee × (List T_3d5633) × Unit)) : loopIt Tryz.prog (E k) 75 1 (subC (bodyOf Tryz.f6) [1, 0, 1, 0, 1, 1, 1, 1, 1, 0, 0, 1, 0, 0]) (recast cl hn kp) (finBy cl hn kp rc rs ri) n ⟨mkS S d, mkH H e⟩ = go (fun x43 => some (.exit 1, KX d e x43)) (fun q0 => some (.ret, RX d e q0)) k d.2.2.1 e.1 e.2.1 n d.2.2.2.1 :=
  loopIt_eq (D := (Unit × Unit × Int × Int × Unit) × (T_85bbee × (List T_3d5633) × Unit)) (fun p => ⟨mkS S p.1, mkH H p.2⟩) (fun F p => step (fun x43 => some (.exit 1, KX p.1 p.2 x43)) (fun q0 => some (.ret, RX p.1 p.2 q0)) (fun x43 => F (((), (), p.1.2.2.1, x43, ()), (p.2.1, p.2.2.1, ()))) k p.1.2.2.1 p.2.1 p.2.2.1 p.1.2.2.2.1) (fun n p => go (fun x43 => some (.exit 1, KX p.1 p.2 x43)) (fun q0 => some (.ret, RX p.1 p.2 q0)) k p.1.2.2.1 p.2.1 p.2.2.1 n p.1.2.2.2.1) (fun _ => rfl) (fun _ _ => rfl) (fun G p => round k p.1 p.2 G) n (d, e)
theorem ok (k : Nat) : LoopOK Tryz.prog 75 (subC (bodyOf Tryz.f6) [1, 0, 1, 0, 1, 1, 1, 1, 1, 0, 0, 1, 0, 0]) (sum k) :=
  loop_sig hm (fE k) (loopsOK_of [] (by kernel_rfl) trivial) S cl hn kp H 1 (fun (d : (Unit × Unit × Int × Int × Unit)) (e : (T_85bbee × (List T_3d5633) × Unit)) => f k d.2.2.1 e.1 e.2.1 k d.2.2.2.1) KX RX cl hn kp rc rs ri k
    (fun d e => (it k k d e).trans (go_nat (exitOf 1 (KX d e) (RX d e)) (fun x43 => some (.inl x43)) (fun q0 => some (.inr q0)) k d.2.2.1 e.1 e.2.1 k d.2.2.2.1).symm)
end l1
theorem run (k : Nat) (d : (T_85bbee × Unit)) (e : Unit) : runFn Tryz.prog (E k) 75 (bodyOf Tryz.f6) Tryz.f6.results.toList cl hn hi (mkL ps d) (mkH hs e) =
    tree (fun b0 => leafFn hs fi e val wr b0) k d.1 := by kernel_rfl
theorem run_f (k : Nat) (d : (T_85bbee × Unit)) (e : Unit) : runFn Tryz.prog (E k) 75 (bodyOf Tryz.f6) Tryz.f6.results.toList cl hn hi (mkL ps d) (mkH hs e) = (f k d.1).bind (leafFn hs fi e val wr) :=
  (run k d e).trans (tree_nat (leafFn hs fi e val wr) (fun b0 => some b0) k d.1).symm
theorem fnIs : FnIs Tryz.prog 6 Tryz.f6 (bodyOf Tryz.f6) 75 := ⟨by kernel_rfl, by kernel_rfl, by kernel_rfl, by kernel_rfl⟩
theorem ok (k : Nat) : CalleeOK Tryz.prog 6 (callee k) :=
  callee_sig (T := Bool) fnIs hm (fE k) (loopsOK_of [(1, subC (bodyOf Tryz.f6) [1, 0, 1, 0, 1, 1, 1, 1, 1, 0, 0, 1, 0, 0])] (by kernel_rfl) ⟨of_loop (l1.sum k) rfl (l1.ok k), trivial⟩) ps hs cl hn fi (fun (d : (T_85bbee × Unit)) (e : Unit) => f k d.1) val wr rfl (fun _ => rfl) (run_f k)
end trailheadref08_Good
namespace trailheadref05_Count
def tree {X : Type} (K : (List Int) → Option X) (k : Nat) (a0 : Int) : Option X :=
  (bif (decide (a0 < (0 : Int))) then (K ([0] : (List Int))) else (bif (decide (a0 < (253 : Int))) then (Option.bind (trailheadref05_Number.f k (1 : Int) a0) (fun r1 => (K r1))) else (bif (decide (a0 < (65536 : Int))) then (Option.bind (trailheadref05_Number.f k (2 : Int) a0) (fun r2 => (bif (fits (1 + (List.length r2))) then (K (([253] : (List Int)) ++ r2)) else none))) else (bif (decide (a0 < (4294967296 : Int))) then (Option.bind (trailheadref05_Number.f k (4 : Int) a0) (fun r3 => (bif (fits (1 + (List.length r3))) then (K (([254] : (List Int)) ++ r3)) else none))) else (Option.bind (trailheadref05_Number.f k (8 : Int) a0) (fun r4 => (bif (fits (1 + (List.length r4))) then (K (([255] : (List Int)) ++ r4)) else none)))))))
def f (k : Nat) (a0 : Int) : Option (List Int) := tree (fun b0 => some b0) k a0
theorem tree_nat {X Y : Type} (h : X → Option Y) (K : (List Int) → Option X) (k : Nat) (a0 : Int) : Option.bind (tree K k a0) h = tree (fun b0 => Option.bind (K b0) h) k a0 := by
  simp only [tree, bif_bind, sel_bind', Option.bind_assoc, Option.bind_none, Option.bind_some]
abbrev ps : List Sh := [.data (.int .i64)]
abbrev hs : List (Nat × ESh) := []
abbrev hi : List Nat := hs.map (·.1)
abbrev fi : List Nat := []
abbrev cl : List (Place × Nat × Hint) := []
abbrev hn : List Hint := [.any]
def val (t : (List Int)) : AV := Sh.mk (.data .str) t
def wr (t : (List Int)) : Heap := []
def callee (k : Nat) : Callee := sigCallee ps hs (fun (d : (Int × Unit)) (e : Unit) => f k d.1) val wr
def E (k : Nat) : Env := ⟨fnTab [(24, [trailheadref05_Number.callee k])], loopTab [], natsTab [], natTab []⟩
theorem fE (k : Nat) : ∀ f, ∀ c ∈ (E k).fn f, CalleeOK Tryz.prog f c := fnTab_ok ⟨⟨trailheadref05_Number.ok k, trivial⟩, trivial⟩
theorem run (k : Nat) (d : (Int × Unit)) (e : Unit) : runFn Tryz.prog (E k) 22 (bodyOf Tryz.f25) Tryz.f25.results.toList cl hn hi (mkL ps d) (mkH hs e) =
    tree (fun b0 => leafFn hs fi e val wr b0) k d.1 := by kernel_rfl
theorem run_f (k : Nat) (d : (Int × Unit)) (e : Unit) : runFn Tryz.prog (E k) 22 (bodyOf Tryz.f25) Tryz.f25.results.toList cl hn hi (mkL ps d) (mkH hs e) = (f k d.1).bind (leafFn hs fi e val wr) :=
  (run k d e).trans (tree_nat (leafFn hs fi e val wr) (fun b0 => some b0) k d.1).symm
theorem fnIs : FnIs Tryz.prog 25 Tryz.f25 (bodyOf Tryz.f25) 22 := ⟨by kernel_rfl, by kernel_rfl, by kernel_rfl, by kernel_rfl⟩
theorem ok (k : Nat) : CalleeOK Tryz.prog 25 (callee k) :=
  callee_sig (T := (List Int)) fnIs hm (fE k) (loopsOK_of [] (by kernel_rfl) trivial) ps hs cl hn fi (fun (d : (Int × Unit)) (e : Unit) => f k d.1) val wr rfl (fun _ => rfl) (run_f k)
end trailheadref05_Count
namespace trailheadref06_Bytes
def tree {X : Type} (K : (List Int) → Option X) (k : Nat) (a0 : T_3d5633) : Option X :=
  (Option.bind (trailheadref05_Number.f k (4 : Int) a0.1) (fun r1 => (Option.bind (trailheadref05_Name.f k a0.2.1) (fun r2 => (bif (fits ((List.length r1) + (List.length r2))) then (Option.bind (trailheadref05_Name.f k a0.2.2.1) (fun r3 => (bif (fits ((List.length (r1 ++ r2)) + (List.length r3))) then (Option.bind (trailheadref05_Number.f k (4 : Int) a0.2.2.2.1) (fun r4 => (bif (fits ((List.length ((r1 ++ r2) ++ r3)) + (List.length r4))) then (Option.bind (trailheadref05_Number.f k (4 : Int) a0.2.2.2.2.1) (fun r5 => (bif (fits ((List.length (((r1 ++ r2) ++ r3) ++ r4)) + (List.length r5))) then (Option.bind (trailheadref05_Number.f k (4 : Int) a0.2.2.2.2.2) (fun r6 => (bif (fits ((List.length ((((r1 ++ r2) ++ r3) ++ r4) ++ r5)) + (List.length r6))) then (K (((((r1 ++ r2) ++ r3) ++ r4) ++ r5) ++ r6)) else none))) else none))) else none))) else none))) else none)))))
def f (k : Nat) (a0 : T_3d5633) : Option (List Int) := tree (fun b0 => some b0) k a0
theorem tree_nat {X Y : Type} (h : X → Option Y) (K : (List Int) → Option X) (k : Nat) (a0 : T_3d5633) : Option.bind (tree K k a0) h = tree (fun b0 => Option.bind (K b0) h) k a0 := by
  simp only [tree, bif_bind, sel_bind', Option.bind_assoc, Option.bind_none, Option.bind_some]
abbrev ps : List Sh := [.data (.pair (.int .i64) (.pair (.arr .u8 32) (.pair (.arr .u8 32) (.pair (.int .i64) (.pair (.int .i64) (.int .i64))))))]
abbrev hs : List (Nat × ESh) := []
abbrev hi : List Nat := hs.map (·.1)
abbrev fi : List Nat := []
abbrev cl : List (Place × Nat × Hint) := []
abbrev hn : List Hint := [.any]
def val (t : (List Int)) : AV := Sh.mk (.data .str) t
def wr (t : (List Int)) : Heap := []
def callee (k : Nat) : Callee := sigCallee ps hs (fun (d : (T_3d5633 × Unit)) (e : Unit) => f k d.1) val wr
def E (k : Nat) : Env := ⟨fnTab [(24, [trailheadref05_Number.callee k]), (26, [trailheadref05_Name.callee k])], loopTab [], natsTab [], natTab []⟩
theorem fE (k : Nat) : ∀ f, ∀ c ∈ (E k).fn f, CalleeOK Tryz.prog f c := fnTab_ok ⟨⟨trailheadref05_Number.ok k, trivial⟩, ⟨trailheadref05_Name.ok k, trivial⟩, trivial⟩
theorem run (k : Nat) (d : (T_3d5633 × Unit)) (e : Unit) : runFn Tryz.prog (E k) 28 (bodyOf Tryz.f27) Tryz.f27.results.toList cl hn hi (mkL ps d) (mkH hs e) =
    tree (fun b0 => leafFn hs fi e val wr b0) k d.1 := by kernel_rfl
theorem run_f (k : Nat) (d : (T_3d5633 × Unit)) (e : Unit) : runFn Tryz.prog (E k) 28 (bodyOf Tryz.f27) Tryz.f27.results.toList cl hn hi (mkL ps d) (mkH hs e) = (f k d.1).bind (leafFn hs fi e val wr) :=
  (run k d e).trans (tree_nat (leafFn hs fi e val wr) (fun b0 => some b0) k d.1).symm
theorem fnIs : FnIs Tryz.prog 27 Tryz.f27 (bodyOf Tryz.f27) 28 := ⟨by kernel_rfl, by kernel_rfl, by kernel_rfl, by kernel_rfl⟩
theorem ok (k : Nat) : CalleeOK Tryz.prog 27 (callee k) :=
  callee_sig (T := (List Int)) fnIs hm (fE k) (loopsOK_of [] (by kernel_rfl) trivial) ps hs cl hn fi (fun (d : (T_3d5633 × Unit)) (e : Unit) => f k d.1) val wr rfl (fun _ => rfl) (run_f k)
end trailheadref06_Bytes
namespace trailheadref08_Payload
namespace l1
def step {X : Type} (K : (List Int) → Int → Option X) (G : (List Int) → Int → Option X) (k : Nat) (x41 : Int) (y800000 : T_85bbee) (y800001 : (List (List Int))) (x3 : (List Int)) (x42 : Int) : Option X :=
  (bif (decide (x42 < x41)) then (bif (decide (0 ≤ x42)) then (bif (decide (x42 < ((List.length y800001) : Int))) then (bif (decide ((Int.toNat x42) < (List.length y800001))) then (Option.bind (trailheadref05_Name.f k (List.getD y800001 (Int.toNat x42) (List.replicate 32 0 : (List Int)))) (fun r7 => (bif (fits ((List.length x3) + (List.length r7))) then (G (x3 ++ r7) (addI .i64 x42 1)) else none))) else none) else none) else none) else (K x3 x42))
def go {X : Type} (K : (List Int) → Int → Option X) (k : Nat) (x41 : Int) (y800000 : T_85bbee) (y800001 : (List (List Int))) : Nat → (List Int) → Int → Option X
  | 0, _, _ => none
  | n + 1, x3, x42 => step K (go K k x41 y800000 y800001 n) k x41 y800000 y800001 x3 x42
def f (k : Nat) (x41 : Int) (y800000 : T_85bbee) (y800001 : (List (List Int))) (n : Nat) (x3 : (List Int)) (x42 : Int) : Option ((List Int) × Int) := go (fun x3 x42 => some (x3, x42)) k x41 y800000 y800001 n x3 x42
theorem step_nat {X Y : Type} (h : X → Option Y) (K : (List Int) → Int → Option X) (G : (List Int) → Int → Option X) (k : Nat) (x41 : Int) (y800000 : T_85bbee) (y800001 : (List (List Int))) (x3 : (List Int)) (x42 : Int) : Option.bind (step K G k x41 y800000 y800001 x3 x42) h = step (fun x3 x42 => Option.bind (K x3 x42) h) (fun x3 x42 => Option.bind (G x3 x42) h) k x41 y800000 y800001 x3 x42 := by
  simp only [step, bif_bind, sel_bind', Option.bind_assoc, Option.bind_none, Option.bind_some]
theorem go_nat {X Y : Type} (h : X → Option Y) (K : (List Int) → Int → Option X) (k : Nat) (x41 : Int) (y800000 : T_85bbee) (y800001 : (List (List Int))) (n : Nat) : ∀ (x3 : (List Int)) (x42 : Int), Option.bind (go K k x41 y800000 y800001 n x3 x42) h = go (fun x3 x42 => Option.bind (K x3 x42) h) k x41 y800000 y800001 n x3 x42 := by
  induction n with
  | zero => intros; rfl
  | succ n ih => intro x3 x42; show Option.bind (step K (go K k x41 y800000 y800001 n) k x41 y800000 y800001 x3 x42) h = step (fun x3 x42 => Option.bind (K x3 x42) h) (go (fun x3 x42 => Option.bind (K x3 x42) h) k x41 y800000 y800001 n) k x41 y800000 y800001 x3 x42; rw [step_nat h]; simp only [ih]
abbrev S : List (Nat × Sh) := [(1, .ptr 800000), (3, .data .str), (40, .vec 800001), (41, .data (.int .i64)), (42, .data (.int .i64))]
abbrev H : List (Nat × ESh) := [(800000, .cell (.data (.pair (.int .i64) (.pair (.int .i64) (.pair (.int .i64) (.pair (.int .i64) (.pair (.int .i64) (.pair (.row 24 (.arr .u8 32)) (.pair (.arr .u8 32) (.row 44 (.pair (.int .i64) (.pair (.arr .u8 32) (.pair (.arr .u8 32) (.pair (.int .i64) (.pair (.int .i64) (.int .i64)))))))))))))))), (800001, .rows 0 24 (.arr .u8 32))]
abbrev cl : List (Place × Nat × Hint) := []
abbrev hn : List (Nat × Hint) := [(1, .any), (3, .any), (40, .any), (41, .any), (42, .any)]
abbrev kp : List Nat := []
abbrev rc : List (Place × Nat × Hint) := []
abbrev rs : List (Nat × Hint) := []
abbrev ri : List Nat := []
def KX (d : (Unit × (List Int) × Unit × Int × Int × Unit)) (e : (T_85bbee × (List (List Int)) × Unit)) (v : ((List Int) × Int)) : St := ⟨mkS S ((), v.1, (), d.2.2.2.1, v.2, ()), mkH H (e.1, e.2.1, ())⟩
def sum (k : Nat) : LoopSum := sigLoopX S cl hn kp H 1 (fun (d : (Unit × (List Int) × Unit × Int × Int × Unit)) (e : (T_85bbee × (List (List Int)) × Unit)) => f k d.2.2.2.1 e.1 e.2.1 k d.2.1 d.2.2.2.2.1) KX
end l1
namespace l3
def step {X : Type} (K : (List Int) → Int → Option X) (G : (List Int) → Int → Option X) (k : Nat) (x64 : Int) (y800000 : (List T_3d5633)) (x3 : (List Int)) (x65 : Int) : Option X :=
  (bif (decide (x65 < x64)) then (bif (decide (0 ≤ x65)) then (bif (decide (x65 < ((List.length y800000) : Int))) then (bif (decide ((Int.toNat x65) < (List.length y800000))) then (Option.bind (trailheadref06_Bytes.f k ((((List.getD y800000 (Int.toNat x65) dfl_31f8ee)).1, ((((List.getD y800000 (Int.toNat x65) dfl_31f8ee)).2).1, (((((List.getD y800000 (Int.toNat x65) dfl_31f8ee)).2).2).1, ((((((List.getD y800000 (Int.toNat x65) dfl_31f8ee)).2).2).2).1, ((((((List.getD y800000 (Int.toNat x65) dfl_31f8ee)).2).2).2).2))))) : T_3d5633)) (fun r11 => (bif (fits ((List.length x3) + (List.length r11))) then (bif (fits ((List.length (x3 ++ r11)) + 1)) then (G ((x3 ++ r11) ++ ([0] : (List Int))) (addI .i64 x65 1)) else none) else none))) else none) else none) else none) else (K x3 x65))
def go {X : Type} (K : (List Int) → Int → Option X) (k : Nat) (x64 : Int) (y800000 : (List T_3d5633)) : Nat → (List Int) → Int → Option X
  | 0, _, _ => none
  | n + 1, x3, x65 => step K (go K k x64 y800000 n) k x64 y800000 x3 x65
def f (k : Nat) (x64 : Int) (y800000 : (List T_3d5633)) (n : Nat) (x3 : (List Int)) (x65 : Int) : Option ((List Int) × Int) := go (fun x3 x65 => some (x3, x65)) k x64 y800000 n x3 x65
theorem step_nat {X Y : Type} (h : X → Option Y) (K : (List Int) → Int → Option X) (G : (List Int) → Int → Option X) (k : Nat) (x64 : Int) (y800000 : (List T_3d5633)) (x3 : (List Int)) (x65 : Int) : Option.bind (step K G k x64 y800000 x3 x65) h = step (fun x3 x65 => Option.bind (K x3 x65) h) (fun x3 x65 => Option.bind (G x3 x65) h) k x64 y800000 x3 x65 := by
  simp only [step, bif_bind, sel_bind', Option.bind_assoc, Option.bind_none, Option.bind_some]
theorem go_nat {X Y : Type} (h : X → Option Y) (K : (List Int) → Int → Option X) (k : Nat) (x64 : Int) (y800000 : (List T_3d5633)) (n : Nat) : ∀ (x3 : (List Int)) (x65 : Int), Option.bind (go K k x64 y800000 n x3 x65) h = go (fun x3 x65 => Option.bind (K x3 x65) h) k x64 y800000 n x3 x65 := by
  induction n with
  | zero => intros; rfl
  | succ n ih => intro x3 x65; show Option.bind (step K (go K k x64 y800000 n) k x64 y800000 x3 x65) h = step (fun x3 x65 => Option.bind (K x3 x65) h) (go (fun x3 x65 => Option.bind (K x3 x65) h) k x64 y800000 n) k x64 y800000 x3 x65; rw [step_nat h]; simp only [ih]
abbrev S : List (Nat × Sh) := [(3, .data .str), (63, .vec 800000), (64, .data (.int .i64)), (65, .data (.int .i64))]
abbrev H : List (Nat × ESh) := [(800000, .rows 0 44 (.pair (.int .i64) (.pair (.arr .u8 32) (.pair (.arr .u8 32) (.pair (.int .i64) (.pair (.int .i64) (.int .i64)))))))]
abbrev cl : List (Place × Nat × Hint) := []
abbrev hn : List (Nat × Hint) := [(3, .any), (63, .any), (64, .any), (65, .any)]
abbrev kp : List Nat := []
abbrev rc : List (Place × Nat × Hint) := []
abbrev rs : List (Nat × Hint) := []
abbrev ri : List Nat := []
def KX (d : ((List Int) × Unit × Int × Int × Unit)) (e : ((List T_3d5633) × Unit)) (v : ((List Int) × Int)) : St := ⟨mkS S (v.1, (), d.2.2.1, v.2, ()), mkH H (e.1, ())⟩
def sum (k : Nat) : LoopSum := sigLoopX S cl hn kp H 3 (fun (d : ((List Int) × Unit × Int × Int × Unit)) (e : ((List T_3d5633) × Unit)) => f k d.2.2.1 e.1 k d.1 d.2.2.2.1) KX
end l3
namespace l5
def step {X : Type} (K : (List Int) → Int → Option X) (G : (List Int) → Int → Option X) (k : Nat) (x83 : Int) (y800000 : (List (List Int))) (x3 : (List Int)) (x84 : Int) : Option X :=
  (bif (decide (x84 < x83)) then (bif (decide (0 ≤ x84)) then (bif (decide (x84 < ((List.length y800000) : Int))) then (bif (decide ((Int.toNat x84) < (List.length y800000))) then (bif (fits ((List.length x3) + 4)) then (Option.bind (trailheadref05_Name.f k (List.getD y800000 (Int.toNat x84) (List.replicate 32 0 : (List Int)))) (fun r14 => (bif (fits ((List.length (x3 ++ ([2, 0, 0, 0] : (List Int)))) + (List.length r14))) then (G ((x3 ++ ([2, 0, 0, 0] : (List Int))) ++ r14) (addI .i64 x84 1)) else none))) else none) else none) else none) else none) else (K x3 x84))
def go {X : Type} (K : (List Int) → Int → Option X) (k : Nat) (x83 : Int) (y800000 : (List (List Int))) : Nat → (List Int) → Int → Option X
  | 0, _, _ => none
  | n + 1, x3, x84 => step K (go K k x83 y800000 n) k x83 y800000 x3 x84
def f (k : Nat) (x83 : Int) (y800000 : (List (List Int))) (n : Nat) (x3 : (List Int)) (x84 : Int) : Option ((List Int) × Int) := go (fun x3 x84 => some (x3, x84)) k x83 y800000 n x3 x84
theorem step_nat {X Y : Type} (h : X → Option Y) (K : (List Int) → Int → Option X) (G : (List Int) → Int → Option X) (k : Nat) (x83 : Int) (y800000 : (List (List Int))) (x3 : (List Int)) (x84 : Int) : Option.bind (step K G k x83 y800000 x3 x84) h = step (fun x3 x84 => Option.bind (K x3 x84) h) (fun x3 x84 => Option.bind (G x3 x84) h) k x83 y800000 x3 x84 := by
  simp only [step, bif_bind, sel_bind', Option.bind_assoc, Option.bind_none, Option.bind_some]
theorem go_nat {X Y : Type} (h : X → Option Y) (K : (List Int) → Int → Option X) (k : Nat) (x83 : Int) (y800000 : (List (List Int))) (n : Nat) : ∀ (x3 : (List Int)) (x84 : Int), Option.bind (go K k x83 y800000 n x3 x84) h = go (fun x3 x84 => Option.bind (K x3 x84) h) k x83 y800000 n x3 x84 := by
  induction n with
  | zero => intros; rfl
  | succ n ih => intro x3 x84; show Option.bind (step K (go K k x83 y800000 n) k x83 y800000 x3 x84) h = step (fun x3 x84 => Option.bind (K x3 x84) h) (go (fun x3 x84 => Option.bind (K x3 x84) h) k x83 y800000 n) k x83 y800000 x3 x84; rw [step_nat h]; simp only [ih]
abbrev S : List (Nat × Sh) := [(3, .data .str), (82, .vec 800000), (83, .data (.int .i64)), (84, .data (.int .i64))]
abbrev H : List (Nat × ESh) := [(800000, .rows 0 24 (.arr .u8 32))]
abbrev cl : List (Place × Nat × Hint) := []
abbrev hn : List (Nat × Hint) := [(3, .any), (82, .any), (83, .any), (84, .any)]
abbrev kp : List Nat := []
abbrev rc : List (Place × Nat × Hint) := []
abbrev rs : List (Nat × Hint) := []
abbrev ri : List Nat := []
def KX (d : ((List Int) × Unit × Int × Int × Unit)) (e : ((List (List Int)) × Unit)) (v : ((List Int) × Int)) : St := ⟨mkS S (v.1, (), d.2.2.1, v.2, ()), mkH H (e.1, ())⟩
def sum (k : Nat) : LoopSum := sigLoopX S cl hn kp H 5 (fun (d : ((List Int) × Unit × Int × Int × Unit)) (e : ((List (List Int)) × Unit)) => f k d.2.2.1 e.1 k d.1 d.2.2.2.1) KX
end l5
def tree {X : Type} (K : (List Int) → Option X) (k : Nat) (a0 : T_85bbee) : Option X :=
  (bif (a0.1 == (1 : Int)) then (Option.bind (trailheadref05_Number.f k (4 : Int) a0.2.1) (fun r1 => (Option.bind (trailheadref05_Number.f k (4 : Int) a0.2.2.2.1) (fun r2 => (bif (fits ((List.length r1) + (List.length r2))) then (Option.bind (trailheadref05_Number.f k (7 : Int) a0.2.2.1) (fun r3 => (bif (fits ((List.length (r1 ++ r2)) + (List.length r3))) then (Option.bind (trailheadref05_Number.f k (7 : Int) a0.2.2.2.2.1) (fun r4 => (bif (fits ((List.length ((r1 ++ r2) ++ r3)) + (List.length r4))) then (K (((r1 ++ r2) ++ r3) ++ r4)) else none))) else none))) else none))))) else (bif (a0.1 == (3 : Int)) then (Option.bind (trailheadref05_Number.f k (4 : Int) a0.2.1) (fun r5 => (Option.bind (trailheadref05_Count.f k ((List.length a0.2.2.2.2.2.1) : Int)) (fun r6 => (bif (fits ((List.length r5) + (List.length r6))) then (Option.bind (trailheadref08_Payload.l1.f k ((List.length a0.2.2.2.2.2.1) : Int) a0 a0.2.2.2.2.2.1 k (r5 ++ r6) (0 : Int)) (fun r8 => (Option.bind (trailheadref05_Name.f k a0.2.2.2.2.2.2.1) (fun r9 => (bif (fits ((List.length r8.1) + (List.length r9))) then (K (r8.1 ++ r9)) else none))))) else none))))) else (bif (a0.1 == (4 : Int)) then (Option.bind (trailheadref05_Count.f k ((List.length a0.2.2.2.2.2.2.2) : Int)) (fun r10 => (Option.bind (trailheadref08_Payload.l3.f k ((List.length a0.2.2.2.2.2.2.2) : Int) a0.2.2.2.2.2.2.2 k r10 (0 : Int)) (fun r12 => (K r12.1))))) else (bif (a0.1 == (5 : Int)) then (Option.bind (trailheadref05_Count.f k ((List.length a0.2.2.2.2.2.1) : Int)) (fun r13 => (Option.bind (trailheadref08_Payload.l5.f k ((List.length a0.2.2.2.2.2.1) : Int) a0.2.2.2.2.2.1 k r13 (0 : Int)) (fun r15 => (K r15.1))))) else (bif (a0.1 == (6 : Int)) then (bif (a0.1 == (6 : Int)) then (Option.bind (trailheadref05_Number.f k (7 : Int) a0.2.2.2.2.1) (fun r16 => (K r16))) else (K ([] : (List Int)))) else (bif (a0.1 == (7 : Int)) then (Option.bind (trailheadref05_Number.f k (7 : Int) a0.2.2.2.2.1) (fun r17 => (K r17))) else (K ([] : (List Int)))))))))
def f (k : Nat) (a0 : T_85bbee) : Option (List Int) := tree (fun b0 => some b0) k a0
theorem tree_nat {X Y : Type} (h : X → Option Y) (K : (List Int) → Option X) (k : Nat) (a0 : T_85bbee) : Option.bind (tree K k a0) h = tree (fun b0 => Option.bind (K b0) h) k a0 := by
  simp only [tree, bif_bind, sel_bind', Option.bind_assoc, Option.bind_none, Option.bind_some]
abbrev ps : List Sh := [.data (.pair (.int .i64) (.pair (.int .i64) (.pair (.int .i64) (.pair (.int .i64) (.pair (.int .i64) (.pair (.row 24 (.arr .u8 32)) (.pair (.arr .u8 32) (.row 44 (.pair (.int .i64) (.pair (.arr .u8 32) (.pair (.arr .u8 32) (.pair (.int .i64) (.pair (.int .i64) (.int .i64))))))))))))))]
abbrev hs : List (Nat × ESh) := []
abbrev hi : List Nat := hs.map (·.1)
abbrev fi : List Nat := []
abbrev cl : List (Place × Nat × Hint) := []
abbrev hn : List Hint := [.any]
def val (t : (List Int)) : AV := Sh.mk (.data .str) t
def wr (t : (List Int)) : Heap := []
def callee (k : Nat) : Callee := sigCallee ps hs (fun (d : (T_85bbee × Unit)) (e : Unit) => f k d.1) val wr
def E (k : Nat) : Env := ⟨fnTab [(24, [trailheadref05_Number.callee k]), (25, [trailheadref05_Count.callee k]), (26, [trailheadref05_Name.callee k]), (27, [trailheadref06_Bytes.callee k])], loopTab [(1, l1.sum k), (3, l3.sum k), (5, l5.sum k)], natsTab [], natTab []⟩
theorem fE (k : Nat) : ∀ f, ∀ c ∈ (E k).fn f, CalleeOK Tryz.prog f c := fnTab_ok ⟨⟨trailheadref05_Number.ok k, trivial⟩, ⟨trailheadref05_Count.ok k, trivial⟩, ⟨trailheadref05_Name.ok k, trivial⟩, ⟨trailheadref06_Bytes.ok k, trivial⟩, trivial⟩
namespace l1
theorem round (k : Nat) (d : (Unit × (List Int) × Unit × Int × Int × Unit)) (e : (T_85bbee × (List (List Int)) × Unit)) (G : St → Option (Ex × St)) : roundK Tryz.prog (E k) 101 1 (subC (bodyOf Tryz.f9) [1, 1, 0, 1, 0, 1, 1, 1, 0, 1, 0, 1, 0, 0]) (recast cl hn kp) (finBy cl hn kp rc rs ri) G ⟨mkS S d, mkH H e⟩ =
    step (fun x3 x42 => some (.exit 1, KX d e (x3, x42))) (fun x3 x42 => G ⟨mkS S ((), x3, (), d.2.2.2.1, x42, ()), mkH H (e.1, e.2.1, ())⟩) k d.2.2.2.1 e.1 e.2.1 d.2.1 d.2.2.2.2.1 := by kernel_rfl
theorem it (k n : Nat) (d : (Unit × (List Int) × Unit × Int × Int × Unit)) (e : (T_85bbee × (List (List Int)) × Unit)) : loopIt Tryz.prog (E k) 101 1 (subC (bodyOf Tryz.f9) [1, 1, 0, 1, 0, 1, 1, 1, 0, 1, 0, 1, 0, 0]) (recast cl hn kp) (finBy cl hn kp rc rs ri) n ⟨mkS S d, mkH H e⟩ = go (fun x3 x42 => some (.exit 1, KX d e (x3, x42))) k d.2.2.2.1 e.1 e.2.1 n d.2.1 d.2.2.2.2.1 :=
  loopIt_eq (D := (Unit × (List Int) × Unit × Int × Int × Unit) × (T_85bbee × (List (List Int)) × Unit)) (fun p => ⟨mkS S p.1, mkH H p.2⟩) (fun F p => step (fun x3 x42 => some (.exit 1, KX p.1 p.2 (x3, x42))) (fun x3 x42 => F (((), x3, (), p.1.2.2.2.1, x42, ()), (p.2.1, p.2.2.1, ()))) k p.1.2.2.2.1 p.2.1 p.2.2.1 p.1.2.1 p.1.2.2.2.2.1) (fun n p => go (fun x3 x42 => some (.exit 1, KX p.1 p.2 (x3, x42))) k p.1.2.2.2.1 p.2.1 p.2.2.1 n p.1.2.1 p.1.2.2.2.2.1) (fun _ => rfl) (fun _ _ => rfl) (fun G p => round k p.1 p.2 G) n (d, e)
theorem ok (k : Nat) : LoopOK Tryz.prog 101 (subC (bodyOf Tryz.f9) [1, 1, 0, 1, 0, 1, 1, 1, 0, 1, 0, 1, 0, 0]) (sum k) :=
  loop_sigX hm (fE k) (loopsOK_of [] (by kernel_rfl) trivial) S cl hn kp H 1 (fun (d : (Unit × (List Int) × Unit × Int × Int × Unit)) (e : (T_85bbee × (List (List Int)) × Unit)) => f k d.2.2.2.1 e.1 e.2.1 k d.2.1 d.2.2.2.2.1) KX cl hn kp rc rs ri k
    (fun d e => (it k k d e).trans (go_nat (fun v => some (Ex.exit 1, KX d e v)) (fun x3 x42 => some (x3, x42)) k d.2.2.2.1 e.1 e.2.1 k d.2.1 d.2.2.2.2.1).symm)
end l1
namespace l3
theorem round (k : Nat) (d : ((List Int) × Unit × Int × Int × Unit)) (e : ((List T_3d5633) × Unit)) (G : St → Option (Ex × St)) : roundK Tryz.prog (E k) 101 3 (subC (bodyOf Tryz.f9) [1, 1, 0, 1, 0, 1, 1, 1, 1, 1, 0, 1, 1, 0, 0]) (recast cl hn kp) (finBy cl hn kp rc rs ri) G ⟨mkS S d, mkH H e⟩ =
    step (fun x3 x65 => some (.exit 3, KX d e (x3, x65))) (fun x3 x65 => G ⟨mkS S (x3, (), d.2.2.1, x65, ()), mkH H (e.1, ())⟩) k d.2.2.1 e.1 d.1 d.2.2.2.1 := by kernel_rfl
theorem it (k n : Nat) (d : ((List Int) × Unit × Int × Int × Unit)) (e : ((List T_3d5633) × Unit)) : loopIt Tryz.prog (E k) 101 3 (subC (bodyOf Tryz.f9) [1, 1, 0, 1, 0, 1, 1, 1, 1, 1, 0, 1, 1, 0, 0]) (recast cl hn kp) (finBy cl hn kp rc rs ri) n ⟨mkS S d, mkH H e⟩ = go (fun x3 x65 => some (.exit 3, KX d e (x3, x65))) k d.2.2.1 e.1 n d.1 d.2.2.2.1 :=
  loopIt_eq (D := ((List Int) × Unit × Int × Int × Unit) × ((List T_3d5633) × Unit)) (fun p => ⟨mkS S p.1, mkH H p.2⟩) (fun F p => step (fun x3 x65 => some (.exit 3, KX p.1 p.2 (x3, x65))) (fun x3 x65 => F ((x3, (), p.1.2.2.1, x65, ()), (p.2.1, ()))) k p.1.2.2.1 p.2.1 p.1.1 p.1.2.2.2.1) (fun n p => go (fun x3 x65 => some (.exit 3, KX p.1 p.2 (x3, x65))) k p.1.2.2.1 p.2.1 n p.1.1 p.1.2.2.2.1) (fun _ => rfl) (fun _ _ => rfl) (fun G p => round k p.1 p.2 G) n (d, e)
theorem ok (k : Nat) : LoopOK Tryz.prog 101 (subC (bodyOf Tryz.f9) [1, 1, 0, 1, 0, 1, 1, 1, 1, 1, 0, 1, 1, 0, 0]) (sum k) :=
  loop_sigX hm (fE k) (loopsOK_of [] (by kernel_rfl) trivial) S cl hn kp H 3 (fun (d : ((List Int) × Unit × Int × Int × Unit)) (e : ((List T_3d5633) × Unit)) => f k d.2.2.1 e.1 k d.1 d.2.2.2.1) KX cl hn kp rc rs ri k
    (fun d e => (it k k d e).trans (go_nat (fun v => some (Ex.exit 3, KX d e v)) (fun x3 x65 => some (x3, x65)) k d.2.2.1 e.1 k d.1 d.2.2.2.1).symm)
end l3
namespace l5
theorem round (k : Nat) (d : ((List Int) × Unit × Int × Int × Unit)) (e : ((List (List Int)) × Unit)) (G : St → Option (Ex × St)) : roundK Tryz.prog (E k) 101 5 (subC (bodyOf Tryz.f9) [1, 1, 0, 1, 0, 1, 1, 1, 1, 1, 1, 1, 0, 1, 1, 0, 0]) (recast cl hn kp) (finBy cl hn kp rc rs ri) G ⟨mkS S d, mkH H e⟩ =
    step (fun x3 x84 => some (.exit 5, KX d e (x3, x84))) (fun x3 x84 => G ⟨mkS S (x3, (), d.2.2.1, x84, ()), mkH H (e.1, ())⟩) k d.2.2.1 e.1 d.1 d.2.2.2.1 := by kernel_rfl
theorem it (k n : Nat) (d : ((List Int) × Unit × Int × Int × Unit)) (e : ((List (List Int)) × Unit)) : loopIt Tryz.prog (E k) 101 5 (subC (bodyOf Tryz.f9) [1, 1, 0, 1, 0, 1, 1, 1, 1, 1, 1, 1, 0, 1, 1, 0, 0]) (recast cl hn kp) (finBy cl hn kp rc rs ri) n ⟨mkS S d, mkH H e⟩ = go (fun x3 x84 => some (.exit 5, KX d e (x3, x84))) k d.2.2.1 e.1 n d.1 d.2.2.2.1 :=
  loopIt_eq (D := ((List Int) × Unit × Int × Int × Unit) × ((List (List Int)) × Unit)) (fun p => ⟨mkS S p.1, mkH H p.2⟩) (fun F p => step (fun x3 x84 => some (.exit 5, KX p.1 p.2 (x3, x84))) (fun x3 x84 => F ((x3, (), p.1.2.2.1, x84, ()), (p.2.1, ()))) k p.1.2.2.1 p.2.1 p.1.1 p.1.2.2.2.1) (fun n p => go (fun x3 x84 => some (.exit 5, KX p.1 p.2 (x3, x84))) k p.1.2.2.1 p.2.1 n p.1.1 p.1.2.2.2.1) (fun _ => rfl) (fun _ _ => rfl) (fun G p => round k p.1 p.2 G) n (d, e)
theorem ok (k : Nat) : LoopOK Tryz.prog 101 (subC (bodyOf Tryz.f9) [1, 1, 0, 1, 0, 1, 1, 1, 1, 1, 1, 1, 0, 1, 1, 0, 0]) (sum k) :=
  loop_sigX hm (fE k) (loopsOK_of [] (by kernel_rfl) trivial) S cl hn kp H 5 (fun (d : ((List Int) × Unit × Int × Int × Unit)) (e : ((List (List Int)) × Unit)) => f k d.2.2.1 e.1 k d.1 d.2.2.2.1) KX cl hn kp rc rs ri k
    (fun d e => (it k k d e).trans (go_nat (fun v => some (Ex.exit 5, KX d e v)) (fun x3 x84 => some (x3, x84)) k d.2.2.1 e.1 k d.1 d.2.2.2.1).symm)
end l5
theorem run (k : Nat) (d : (T_85bbee × Unit)) (e : Unit) : runFn Tryz.prog (E k) 101 (bodyOf Tryz.f9) Tryz.f9.results.toList cl hn hi (mkL ps d) (mkH hs e) =
    tree (fun b0 => leafFn hs fi e val wr b0) k d.1 := by kernel_rfl
theorem run_f (k : Nat) (d : (T_85bbee × Unit)) (e : Unit) : runFn Tryz.prog (E k) 101 (bodyOf Tryz.f9) Tryz.f9.results.toList cl hn hi (mkL ps d) (mkH hs e) = (f k d.1).bind (leafFn hs fi e val wr) :=
  (run k d e).trans (tree_nat (leafFn hs fi e val wr) (fun b0 => some b0) k d.1).symm
theorem fnIs : FnIs Tryz.prog 9 Tryz.f9 (bodyOf Tryz.f9) 101 := ⟨by kernel_rfl, by kernel_rfl, by kernel_rfl, by kernel_rfl⟩
theorem ok (k : Nat) : CalleeOK Tryz.prog 9 (callee k) :=
  callee_sig (T := (List Int)) fnIs hm (fE k) (loopsOK_of [(1, subC (bodyOf Tryz.f9) [1, 1, 0, 1, 0, 1, 1, 1, 0, 1, 0, 1, 0, 0]), (3, subC (bodyOf Tryz.f9) [1, 1, 0, 1, 0, 1, 1, 1, 1, 1, 0, 1, 1, 0, 0]), (5, subC (bodyOf Tryz.f9) [1, 1, 0, 1, 0, 1, 1, 1, 1, 1, 1, 1, 0, 1, 1, 0, 0])] (by kernel_rfl) ⟨of_loop (l1.sum k) rfl (l1.ok k), ⟨of_loop (l3.sum k) rfl (l3.ok k), ⟨of_loop (l5.sum k) rfl (l5.ok k), trivial⟩⟩⟩) ps hs cl hn fi (fun (d : (T_85bbee × Unit)) (e : Unit) => f k d.1) val wr rfl (fun _ => rfl) (run_f k)
end trailheadref08_Payload
namespace trailheadref08_Word
def tree {X : Type} (K : (List Int) → Option X) (k : Nat) (a0 : Int) : Option X :=
  (bif (decide (a0 < (1 : Int))) then (K ([] : (List Int))) else (bif (decide (a0 > (8 : Int))) then (K ([] : (List Int))) else (bif (decide (0 ≤ (subI .i64 a0 1))) then (bif (decide ((subI .i64 a0 1) < (8 : Int))) then (K (List.getD ([([118, 101, 114, 115, 105, 111, 110] : (List Int)), ([118, 101, 114, 97, 99, 107] : (List Int)), ([103, 101, 116, 104, 101, 97, 100, 101, 114, 115] : (List Int)), ([104, 101, 97, 100, 101, 114, 115] : (List Int)), ([105, 110, 118] : (List Int)), ([112, 105, 110, 103] : (List Int)), ([112, 111, 110, 103] : (List Int)), ([115, 101, 110, 100, 104, 101, 97, 100, 101, 114, 115] : (List Int))] : (List (List Int))) (Int.toNat (subI .i64 a0 1)) ([] : (List Int)))) else none) else none)))
def f (k : Nat) (a0 : Int) : Option (List Int) := tree (fun b0 => some b0) k a0
theorem tree_nat {X Y : Type} (h : X → Option Y) (K : (List Int) → Option X) (k : Nat) (a0 : Int) : Option.bind (tree K k a0) h = tree (fun b0 => Option.bind (K b0) h) k a0 := by
  simp only [tree, bif_bind, sel_bind', Option.bind_assoc, Option.bind_none, Option.bind_some]
abbrev ps : List Sh := [.data (.int .i64)]
abbrev hs : List (Nat × ESh) := []
abbrev hi : List Nat := hs.map (·.1)
abbrev fi : List Nat := []
abbrev cl : List (Place × Nat × Hint) := []
abbrev hn : List Hint := [.any]
def val (t : (List Int)) : AV := Sh.mk (.data .str) t
def wr (t : (List Int)) : Heap := []
def callee (k : Nat) : Callee := sigCallee ps hs (fun (d : (Int × Unit)) (e : Unit) => f k d.1) val wr
def E (k : Nat) : Env := ⟨fnTab [], loopTab [], natsTab [], natTab []⟩
theorem fE (k : Nat) : ∀ f, ∀ c ∈ (E k).fn f, CalleeOK Tryz.prog f c := fnTab_ok trivial
theorem run (k : Nat) (d : (Int × Unit)) (e : Unit) : runFn Tryz.prog (E k) 13 (bodyOf Tryz.f10) Tryz.f10.results.toList cl hn hi (mkL ps d) (mkH hs e) =
    tree (fun b0 => leafFn hs fi e val wr b0) k d.1 := by kernel_rfl
theorem run_f (k : Nat) (d : (Int × Unit)) (e : Unit) : runFn Tryz.prog (E k) 13 (bodyOf Tryz.f10) Tryz.f10.results.toList cl hn hi (mkL ps d) (mkH hs e) = (f k d.1).bind (leafFn hs fi e val wr) :=
  (run k d e).trans (tree_nat (leafFn hs fi e val wr) (fun b0 => some b0) k d.1).symm
theorem fnIs : FnIs Tryz.prog 10 Tryz.f10 (bodyOf Tryz.f10) 13 := ⟨by kernel_rfl, by kernel_rfl, by kernel_rfl, by kernel_rfl⟩
theorem ok (k : Nat) : CalleeOK Tryz.prog 10 (callee k) :=
  callee_sig (T := (List Int)) fnIs hm (fE k) (loopsOK_of [] (by kernel_rfl) trivial) ps hs cl hn fi (fun (d : (Int × Unit)) (e : Unit) => f k d.1) val wr rfl (fun _ => rfl) (run_f k)
end trailheadref08_Word
namespace scroll_On
def tree {X : Type} (K : ((List Int) × Bool) → Option X) (k : Nat) (a0 : (List Int)) : Option X :=
  (K ((a0, false) : ((List Int) × Bool)))
def f (k : Nat) (a0 : (List Int)) : Option ((List Int) × Bool) := tree (fun b0 => some b0) k a0
theorem tree_nat {X Y : Type} (h : X → Option Y) (K : ((List Int) × Bool) → Option X) (k : Nat) (a0 : (List Int)) : Option.bind (tree K k a0) h = tree (fun b0 => Option.bind (K b0) h) k a0 := by
  simp only [tree, bif_bind, sel_bind', Option.bind_assoc, Option.bind_none, Option.bind_some]
abbrev ps : List Sh := [.data .str]
abbrev hs : List (Nat × ESh) := []
abbrev hi : List Nat := hs.map (·.1)
abbrev fi : List Nat := [900000]
abbrev cl : List (Place × Nat × Hint) := []
abbrev hn : List Hint := [.any]
def val (t : ((List Int) × Bool)) : AV := Sh.mk (.ptr 900000) ()
def wr (t : ((List Int) × Bool)) : Heap := [(900000, ESh.mk (.cell (.data (.pair .str .bool))) t)]
def callee (k : Nat) : Callee := sigCallee ps hs (fun (d : ((List Int) × Unit)) (e : Unit) => f k d.1) val wr
def E (k : Nat) : Env := ⟨fnTab [], loopTab [], natsTab [], natTab []⟩
theorem fE (k : Nat) : ∀ f, ∀ c ∈ (E k).fn f, CalleeOK Tryz.prog f c := fnTab_ok trivial
theorem run (k : Nat) (d : ((List Int) × Unit)) (e : Unit) : runFn Tryz.prog (E k) 6 (bodyOf Tryz.f28) Tryz.f28.results.toList cl hn hi (mkL ps d) (mkH hs e) =
    tree (fun b0 => leafFn hs fi e val wr b0) k d.1 := by kernel_rfl
theorem run_f (k : Nat) (d : ((List Int) × Unit)) (e : Unit) : runFn Tryz.prog (E k) 6 (bodyOf Tryz.f28) Tryz.f28.results.toList cl hn hi (mkL ps d) (mkH hs e) = (f k d.1).bind (leafFn hs fi e val wr) :=
  (run k d e).trans (tree_nat (leafFn hs fi e val wr) (fun b0 => some b0) k d.1).symm
theorem fnIs : FnIs Tryz.prog 28 Tryz.f28 (bodyOf Tryz.f28) 6 := ⟨by kernel_rfl, by kernel_rfl, by kernel_rfl, by kernel_rfl⟩
theorem ok (k : Nat) : CalleeOK Tryz.prog 28 (callee k) :=
  callee_sig (T := ((List Int) × Bool)) fnIs hm (fE k) (loopsOK_of [] (by kernel_rfl) trivial) ps hs cl hn fi (fun (d : ((List Int) × Unit)) (e : Unit) => f k d.1) val wr rfl (fun _ => rfl) (run_f k)
end scroll_On
namespace scroll_Eye_Blind
def tree {X : Type} (K : ((List Int) × Bool) → Option X) (k : Nat) (m0 : ((List Int) × Bool)) : Option X :=
  (K (([], true) : ((List Int) × Bool)))
def f (k : Nat) (m0 : ((List Int) × Bool)) : Option ((List Int) × Bool) := tree (fun b0 => some b0) k m0
theorem tree_nat {X Y : Type} (h : X → Option Y) (K : ((List Int) × Bool) → Option X) (k : Nat) (m0 : ((List Int) × Bool)) : Option.bind (tree K k m0) h = tree (fun b0 => Option.bind (K b0) h) k m0 := by
  simp only [tree, bif_bind, sel_bind', Option.bind_assoc, Option.bind_none, Option.bind_some]
abbrev ps : List Sh := [.ptr 0]
abbrev hs : List (Nat × ESh) := [(0, .cell (.data (.pair .str .bool)))]
abbrev hi : List Nat := hs.map (·.1)
abbrev fi : List Nat := [0]
abbrev cl : List (Place × Nat × Hint) := []
abbrev hn : List Hint := []
def val (t : ((List Int) × Bool)) : AV := .tnil
def wr (t : ((List Int) × Bool)) : Heap := [(0, ESh.mk (.cell (.data (.pair .str .bool))) t)]
def callee (k : Nat) : Callee := sigCallee ps hs (fun (d : (Unit × Unit)) (e : (((List Int) × Bool) × Unit)) => f k e.1) val wr
def E (k : Nat) : Env := ⟨fnTab [], loopTab [], natsTab [], natTab []⟩
theorem fE (k : Nat) : ∀ f, ∀ c ∈ (E k).fn f, CalleeOK Tryz.prog f c := fnTab_ok trivial
theorem run (k : Nat) (d : (Unit × Unit)) (e : (((List Int) × Bool) × Unit)) : runFn Tryz.prog (E k) 10 (bodyOf Tryz.f56) Tryz.f56.results.toList cl hn hi (mkL ps d) (mkH hs e) =
    tree (fun b0 => leafFn hs fi e val wr b0) k e.1 := by kernel_rfl
theorem run_f (k : Nat) (d : (Unit × Unit)) (e : (((List Int) × Bool) × Unit)) : runFn Tryz.prog (E k) 10 (bodyOf Tryz.f56) Tryz.f56.results.toList cl hn hi (mkL ps d) (mkH hs e) = (f k e.1).bind (leafFn hs fi e val wr) :=
  (run k d e).trans (tree_nat (leafFn hs fi e val wr) (fun b0 => some b0) k e.1).symm
theorem fnIs : FnIs Tryz.prog 56 Tryz.f56 (bodyOf Tryz.f56) 10 := ⟨by kernel_rfl, by kernel_rfl, by kernel_rfl, by kernel_rfl⟩
theorem ok (k : Nat) : CalleeOK Tryz.prog 56 (callee k) :=
  callee_sig (T := ((List Int) × Bool)) fnIs hm (fE k) (loopsOK_of [] (by kernel_rfl) trivial) ps hs cl hn fi (fun (d : (Unit × Unit)) (e : (((List Int) × Bool) × Unit)) => f k e.1) val wr rfl (fun _ => rfl) (run_f k)
end scroll_Eye_Blind
namespace scroll_Eye_Raw
def tree {X : Type} (K : (List Int) → ((List Int) × Bool) → Option X) (k : Nat) (a1 : Int) (m0 : ((List Int) × Bool)) : Option X :=
  (bif m0.2 then (Option.bind (scroll_Eye_Blind.f k m0) (fun r1 => (K ([] : (List Int)) r1))) else (bif (decide (a1 < (0 : Int))) then (Option.bind (scroll_Eye_Blind.f k m0) (fun r2 => (K ([] : (List Int)) r2))) else (bif (decide (a1 > ((List.length m0.1) : Int))) then (Option.bind (scroll_Eye_Blind.f k m0) (fun r3 => (K ([] : (List Int)) r3))) else (bif (decide (0 ≤ a1)) then (bif (decide (a1 ≤ ((List.length m0.1) : Int))) then (bif (decide (0 ≤ a1)) then (bif (decide (a1 ≤ ((List.length m0.1) : Int))) then (K (List.take (Int.toNat a1) m0.1) (((List.drop (Int.toNat a1) m0.1), m0.2) : ((List Int) × Bool))) else none) else none) else none) else none))))
def f (k : Nat) (a1 : Int) (m0 : ((List Int) × Bool)) : Option ((List Int) × ((List Int) × Bool)) := tree (fun b0 b1 => some (b0, b1)) k a1 m0
theorem tree_nat {X Y : Type} (h : X → Option Y) (K : (List Int) → ((List Int) × Bool) → Option X) (k : Nat) (a1 : Int) (m0 : ((List Int) × Bool)) : Option.bind (tree K k a1 m0) h = tree (fun b0 b1 => Option.bind (K b0 b1) h) k a1 m0 := by
  simp only [tree, bif_bind, sel_bind', Option.bind_assoc, Option.bind_none, Option.bind_some]
abbrev ps : List Sh := [.ptr 0, .data (.int .i64)]
abbrev hs : List (Nat × ESh) := [(0, .cell (.data (.pair .str .bool)))]
abbrev hi : List Nat := hs.map (·.1)
abbrev fi : List Nat := [0]
abbrev cl : List (Place × Nat × Hint) := []
abbrev hn : List Hint := [.any]
def val (t : ((List Int) × ((List Int) × Bool))) : AV := Sh.mk (.data .str) t.1
def wr (t : ((List Int) × ((List Int) × Bool))) : Heap := [(0, ESh.mk (.cell (.data (.pair .str .bool))) t.2)]
def callee (k : Nat) : Callee := sigCallee ps hs (fun (d : (Unit × Int × Unit)) (e : (((List Int) × Bool) × Unit)) => f k d.2.1 e.1) val wr
def E (k : Nat) : Env := ⟨fnTab [(56, [scroll_Eye_Blind.callee k])], loopTab [], natsTab [], natTab []⟩
theorem fE (k : Nat) : ∀ f, ∀ c ∈ (E k).fn f, CalleeOK Tryz.prog f c := fnTab_ok ⟨⟨scroll_Eye_Blind.ok k, trivial⟩, trivial⟩
theorem run (k : Nat) (d : (Unit × Int × Unit)) (e : (((List Int) × Bool) × Unit)) : runFn Tryz.prog (E k) 45 (bodyOf Tryz.f52) Tryz.f52.results.toList cl hn hi (mkL ps d) (mkH hs e) =
    tree (fun b0 b1 => leafFn hs fi e val wr (b0, b1)) k d.2.1 e.1 := by kernel_rfl
theorem run_f (k : Nat) (d : (Unit × Int × Unit)) (e : (((List Int) × Bool) × Unit)) : runFn Tryz.prog (E k) 45 (bodyOf Tryz.f52) Tryz.f52.results.toList cl hn hi (mkL ps d) (mkH hs e) = (f k d.2.1 e.1).bind (leafFn hs fi e val wr) :=
  (run k d e).trans (tree_nat (leafFn hs fi e val wr) (fun b0 b1 => some (b0, b1)) k d.2.1 e.1).symm
theorem fnIs : FnIs Tryz.prog 52 Tryz.f52 (bodyOf Tryz.f52) 45 := ⟨by kernel_rfl, by kernel_rfl, by kernel_rfl, by kernel_rfl⟩
theorem ok (k : Nat) : CalleeOK Tryz.prog 52 (callee k) :=
  callee_sig (T := ((List Int) × ((List Int) × Bool))) fnIs hm (fE k) (loopsOK_of [] (by kernel_rfl) trivial) ps hs cl hn fi (fun (d : (Unit × Int × Unit)) (e : (((List Int) × Bool) × Unit)) => f k d.2.1 e.1) val wr rfl (fun _ => rfl) (run_f k)
end scroll_Eye_Raw
namespace scroll_Eye_Get
namespace l0
def step {X : Type} (K : Int → Int → Option X) (G : Int → Int → Option X) (k : Nat) (x5 : (List Int)) (x14 : Int) (y0 : ((List Int) × Bool)) (x6 : Int) (x15 : Int) : Option X :=
  (bif (decide (x15 < x14)) then (bif (decide (0 ≤ x15)) then (bif (decide (x15 < ((List.length x5) : Int))) then (bif (decide ((mulI .i64 8 x15) < 0)) then none else (G (orI .i64 x6 (shlI .i64 (IntKind.wrap .i64 (List.getD x5 (Int.toNat x15) 0)) (mulI .i64 8 x15))) (addI .i64 x15 1))) else none) else none) else (K x6 x15))
def go {X : Type} (K : Int → Int → Option X) (k : Nat) (x5 : (List Int)) (x14 : Int) (y0 : ((List Int) × Bool)) : Nat → Int → Int → Option X
  | 0, _, _ => none
  | n + 1, x6, x15 => step K (go K k x5 x14 y0 n) k x5 x14 y0 x6 x15
def f (k : Nat) (x5 : (List Int)) (x14 : Int) (y0 : ((List Int) × Bool)) (n : Nat) (x6 : Int) (x15 : Int) : Option (Int × Int) := go (fun x6 x15 => some (x6, x15)) k x5 x14 y0 n x6 x15
theorem step_nat {X Y : Type} (h : X → Option Y) (K : Int → Int → Option X) (G : Int → Int → Option X) (k : Nat) (x5 : (List Int)) (x14 : Int) (y0 : ((List Int) × Bool)) (x6 : Int) (x15 : Int) : Option.bind (step K G k x5 x14 y0 x6 x15) h = step (fun x6 x15 => Option.bind (K x6 x15) h) (fun x6 x15 => Option.bind (G x6 x15) h) k x5 x14 y0 x6 x15 := by
  simp only [step, bif_bind, sel_bind', Option.bind_assoc, Option.bind_none, Option.bind_some]
theorem go_nat {X Y : Type} (h : X → Option Y) (K : Int → Int → Option X) (k : Nat) (x5 : (List Int)) (x14 : Int) (y0 : ((List Int) × Bool)) (n : Nat) : ∀ (x6 : Int) (x15 : Int), Option.bind (go K k x5 x14 y0 n x6 x15) h = go (fun x6 x15 => Option.bind (K x6 x15) h) k x5 x14 y0 n x6 x15 := by
  induction n with
  | zero => intros; rfl
  | succ n ih => intro x6 x15; show Option.bind (step K (go K k x5 x14 y0 n) k x5 x14 y0 x6 x15) h = step (fun x6 x15 => Option.bind (K x6 x15) h) (go (fun x6 x15 => Option.bind (K x6 x15) h) k x5 x14 y0 n) k x5 x14 y0 x6 x15; rw [step_nat h]; simp only [ih]
abbrev S : List (Nat × Sh) := [(5, .data .str), (6, .data (.int .i64)), (14, .data (.int .i64)), (15, .data (.int .i64))]
abbrev H : List (Nat × ESh) := [(0, .cell (.data (.pair .str .bool)))]
abbrev cl : List (Place × Nat × Hint) := []
abbrev hn : List (Nat × Hint) := [(5, .any), (6, .any), (14, .any), (15, .any)]
abbrev kp : List Nat := [0]
abbrev rc : List (Place × Nat × Hint) := []
abbrev rs : List (Nat × Hint) := []
abbrev ri : List Nat := [0]
def KX (d : ((List Int) × Int × Int × Int × Unit)) (e : (((List Int) × Bool) × Unit)) (v : (Int × Int)) : St := ⟨mkS S (d.1, v.1, d.2.2.1, v.2, ()), mkH H (e.1, ())⟩
def sum (k : Nat) : LoopSum := sigLoopX S cl hn kp H 0 (fun (d : ((List Int) × Int × Int × Int × Unit)) (e : (((List Int) × Bool) × Unit)) => f k d.1 d.2.2.1 e.1 k d.2.1 d.2.2.2.1) KX
end l0
def tree {X : Type} (K : Int → ((List Int) × Bool) → Option X) (k : Nat) (a1 : Int) (m0 : ((List Int) × Bool)) : Option X :=
  (Option.bind (scroll_Eye_Raw.f k (mnI (mxI a1 1) 7) m0) (fun r1 => (Option.bind (scroll_Eye_Get.l0.f k r1.1 ((List.length r1.1) : Int) r1.2 k (0 : Int) (0 : Int)) (fun r2 => (K r2.1 r1.2)))))
def f (k : Nat) (a1 : Int) (m0 : ((List Int) × Bool)) : Option (Int × ((List Int) × Bool)) := tree (fun b0 b1 => some (b0, b1)) k a1 m0
theorem tree_nat {X Y : Type} (h : X → Option Y) (K : Int → ((List Int) × Bool) → Option X) (k : Nat) (a1 : Int) (m0 : ((List Int) × Bool)) : Option.bind (tree K k a1 m0) h = tree (fun b0 b1 => Option.bind (K b0 b1) h) k a1 m0 := by
  simp only [tree, bif_bind, sel_bind', Option.bind_assoc, Option.bind_none, Option.bind_some]
abbrev ps : List Sh := [.ptr 0, .data (.int .i64)]
abbrev hs : List (Nat × ESh) := [(0, .cell (.data (.pair .str .bool)))]
abbrev hi : List Nat := hs.map (·.1)
abbrev fi : List Nat := [0]
abbrev cl : List (Place × Nat × Hint) := []
abbrev hn : List Hint := [.any]
def val (t : (Int × ((List Int) × Bool))) : AV := Sh.mk (.data (.int .i64)) t.1
def wr (t : (Int × ((List Int) × Bool))) : Heap := [(0, ESh.mk (.cell (.data (.pair .str .bool))) t.2)]
def callee (k : Nat) : Callee := sigCallee ps hs (fun (d : (Unit × Int × Unit)) (e : (((List Int) × Bool) × Unit)) => f k d.2.1 e.1) val wr
def E (k : Nat) : Env := ⟨fnTab [(52, [scroll_Eye_Raw.callee k])], loopTab [(0, l0.sum k)], natsTab [], natTab []⟩
theorem fE (k : Nat) : ∀ f, ∀ c ∈ (E k).fn f, CalleeOK Tryz.prog f c := fnTab_ok ⟨⟨scroll_Eye_Raw.ok k, trivial⟩, trivial⟩
namespace l0
theorem round (k : Nat) (d : ((List Int) × Int × Int × Int × Unit)) (e : (((List Int) × Bool) × Unit)) (G : St → Option (Ex × St)) : roundK Tryz.prog (E k) 29 0 (subC (bodyOf Tryz.f29) [1, 1, 0, 1, 0, 0]) (recast cl hn kp) (finBy cl hn kp rc rs ri) G ⟨mkS S d, mkH H e⟩ =
    step (fun x6 x15 => some (.exit 0, KX d e (x6, x15))) (fun x6 x15 => G ⟨mkS S (d.1, x6, d.2.2.1, x15, ()), mkH H (e.1, ())⟩) k d.1 d.2.2.1 e.1 d.2.1 d.2.2.2.1 := by kernel_rfl
theorem it (k n : Nat) (d : ((List Int) × Int × Int × Int × Unit)) (e : (((List Int) × Bool) × Unit)) : loopIt Tryz.prog (E k) 29 0 (subC (bodyOf Tryz.f29) [1, 1, 0, 1, 0, 0]) (recast cl hn kp) (finBy cl hn kp rc rs ri) n ⟨mkS S d, mkH H e⟩ = go (fun x6 x15 => some (.exit 0, KX d e (x6, x15))) k d.1 d.2.2.1 e.1 n d.2.1 d.2.2.2.1 :=
  loopIt_eq (D := ((List Int) × Int × Int × Int × Unit) × (((List Int) × Bool) × Unit)) (fun p => ⟨mkS S p.1, mkH H p.2⟩) (fun F p => step (fun x6 x15 => some (.exit 0, KX p.1 p.2 (x6, x15))) (fun x6 x15 => F ((p.1.1, x6, p.1.2.2.1, x15, ()), (p.2.1, ()))) k p.1.1 p.1.2.2.1 p.2.1 p.1.2.1 p.1.2.2.2.1) (fun n p => go (fun x6 x15 => some (.exit 0, KX p.1 p.2 (x6, x15))) k p.1.1 p.1.2.2.1 p.2.1 n p.1.2.1 p.1.2.2.2.1) (fun _ => rfl) (fun _ _ => rfl) (fun G p => round k p.1 p.2 G) n (d, e)
theorem ok (k : Nat) : LoopOK Tryz.prog 29 (subC (bodyOf Tryz.f29) [1, 1, 0, 1, 0, 0]) (sum k) :=
  loop_sigX hm (fE k) (loopsOK_of [] (by kernel_rfl) trivial) S cl hn kp H 0 (fun (d : ((List Int) × Int × Int × Int × Unit)) (e : (((List Int) × Bool) × Unit)) => f k d.1 d.2.2.1 e.1 k d.2.1 d.2.2.2.1) KX cl hn kp rc rs ri k
    (fun d e => (it k k d e).trans (go_nat (fun v => some (Ex.exit 0, KX d e v)) (fun x6 x15 => some (x6, x15)) k d.1 d.2.2.1 e.1 k d.2.1 d.2.2.2.1).symm)
end l0
theorem run (k : Nat) (d : (Unit × Int × Unit)) (e : (((List Int) × Bool) × Unit)) : runFn Tryz.prog (E k) 29 (bodyOf Tryz.f29) Tryz.f29.results.toList cl hn hi (mkL ps d) (mkH hs e) =
    tree (fun b0 b1 => leafFn hs fi e val wr (b0, b1)) k d.2.1 e.1 := by kernel_rfl
theorem run_f (k : Nat) (d : (Unit × Int × Unit)) (e : (((List Int) × Bool) × Unit)) : runFn Tryz.prog (E k) 29 (bodyOf Tryz.f29) Tryz.f29.results.toList cl hn hi (mkL ps d) (mkH hs e) = (f k d.2.1 e.1).bind (leafFn hs fi e val wr) :=
  (run k d e).trans (tree_nat (leafFn hs fi e val wr) (fun b0 b1 => some (b0, b1)) k d.2.1 e.1).symm
theorem fnIs : FnIs Tryz.prog 29 Tryz.f29 (bodyOf Tryz.f29) 29 := ⟨by kernel_rfl, by kernel_rfl, by kernel_rfl, by kernel_rfl⟩
theorem ok (k : Nat) : CalleeOK Tryz.prog 29 (callee k) :=
  callee_sig (T := (Int × ((List Int) × Bool))) fnIs hm (fE k) (loopsOK_of [(0, subC (bodyOf Tryz.f29) [1, 1, 0, 1, 0, 0])] (by kernel_rfl) ⟨of_loop (l0.sum k) rfl (l0.ok k), trivial⟩) ps hs cl hn fi (fun (d : (Unit × Int × Unit)) (e : (((List Int) × Bool) × Unit)) => f k d.2.1 e.1) val wr rfl (fun _ => rfl) (run_f k)
end scroll_Eye_Get
namespace scroll_Eye_Done
def tree {X : Type} (K : Bool → Option X) (k : Nat) (m0 : ((List Int) × Bool)) : Option X :=
  (bif (!m0.2) then (K (decide (m0.1 = ([] : (List Int))))) else (K false))
def f (k : Nat) (m0 : ((List Int) × Bool)) : Option Bool := tree (fun b0 => some b0) k m0
theorem tree_nat {X Y : Type} (h : X → Option Y) (K : Bool → Option X) (k : Nat) (m0 : ((List Int) × Bool)) : Option.bind (tree K k m0) h = tree (fun b0 => Option.bind (K b0) h) k m0 := by
  simp only [tree, bif_bind, sel_bind', Option.bind_assoc, Option.bind_none, Option.bind_some]
abbrev ps : List Sh := [.ptr 0]
abbrev hs : List (Nat × ESh) := [(0, .cell (.data (.pair .str .bool)))]
abbrev hi : List Nat := hs.map (·.1)
abbrev fi : List Nat := [0]
abbrev cl : List (Place × Nat × Hint) := []
abbrev hn : List Hint := [.any]
def val (t : Bool) : AV := Sh.mk (.data .bool) t
def wr (t : Bool) : Heap := []
def callee (k : Nat) : Callee := sigCallee ps hs (fun (d : (Unit × Unit)) (e : (((List Int) × Bool) × Unit)) => f k e.1) val wr
def E (k : Nat) : Env := ⟨fnTab [], loopTab [], natsTab [], natTab []⟩
theorem fE (k : Nat) : ∀ f, ∀ c ∈ (E k).fn f, CalleeOK Tryz.prog f c := fnTab_ok trivial
theorem run (k : Nat) (d : (Unit × Unit)) (e : (((List Int) × Bool) × Unit)) : runFn Tryz.prog (E k) 19 (bodyOf Tryz.f35) Tryz.f35.results.toList cl hn hi (mkL ps d) (mkH hs e) =
    tree (fun b0 => leafFn hs fi e val wr b0) k e.1 := by kernel_rfl
theorem run_f (k : Nat) (d : (Unit × Unit)) (e : (((List Int) × Bool) × Unit)) : runFn Tryz.prog (E k) 19 (bodyOf Tryz.f35) Tryz.f35.results.toList cl hn hi (mkL ps d) (mkH hs e) = (f k e.1).bind (leafFn hs fi e val wr) :=
  (run k d e).trans (tree_nat (leafFn hs fi e val wr) (fun b0 => some b0) k e.1).symm
theorem fnIs : FnIs Tryz.prog 35 Tryz.f35 (bodyOf Tryz.f35) 19 := ⟨by kernel_rfl, by kernel_rfl, by kernel_rfl, by kernel_rfl⟩
theorem ok (k : Nat) : CalleeOK Tryz.prog 35 (callee k) :=
  callee_sig (T := Bool) fnIs hm (fE k) (loopsOK_of [] (by kernel_rfl) trivial) ps hs cl hn fi (fun (d : (Unit × Unit)) (e : (((List Int) × Bool) × Unit)) => f k e.1) val wr rfl (fun _ => rfl) (run_f k)
end scroll_Eye_Done
namespace scroll_Eye_Wide
def tree {X : Type} (K : Int → ((List Int) × Bool) → Option X) (k : Nat) (m0 : ((List Int) × Bool)) : Option X :=
  (Option.bind (scroll_Eye_Get.f k (4 : Int) m0) (fun r1 => (Option.bind (scroll_Eye_Get.f k (4 : Int) r1.2) (fun r2 => (bif (decide (r2.1 ≥ (2147483648 : Int))) then (Option.bind (scroll_Eye_Blind.f k r2.2) (fun r3 => (K (0 : Int) r3))) else (K (orI .i64 (shlI .i64 r2.1 32) r1.1) r2.2))))))
def f (k : Nat) (m0 : ((List Int) × Bool)) : Option (Int × ((List Int) × Bool)) := tree (fun b0 b1 => some (b0, b1)) k m0
theorem tree_nat {X Y : Type} (h : X → Option Y) (K : Int → ((List Int) × Bool) → Option X) (k : Nat) (m0 : ((List Int) × Bool)) : Option.bind (tree K k m0) h = tree (fun b0 b1 => Option.bind (K b0 b1) h) k m0 := by
  simp only [tree, bif_bind, sel_bind', Option.bind_assoc, Option.bind_none, Option.bind_some]
abbrev ps : List Sh := [.ptr 0]
abbrev hs : List (Nat × ESh) := [(0, .cell (.data (.pair .str .bool)))]
abbrev hi : List Nat := hs.map (·.1)
abbrev fi : List Nat := [0]
abbrev cl : List (Place × Nat × Hint) := []
abbrev hn : List Hint := [.any]
def val (t : (Int × ((List Int) × Bool))) : AV := Sh.mk (.data (.int .i64)) t.1
def wr (t : (Int × ((List Int) × Bool))) : Heap := [(0, ESh.mk (.cell (.data (.pair .str .bool))) t.2)]
def callee (k : Nat) : Callee := sigCallee ps hs (fun (d : (Unit × Unit)) (e : (((List Int) × Bool) × Unit)) => f k e.1) val wr
def E (k : Nat) : Env := ⟨fnTab [(29, [scroll_Eye_Get.callee k]), (56, [scroll_Eye_Blind.callee k])], loopTab [], natsTab [], natTab []⟩
theorem fE (k : Nat) : ∀ f, ∀ c ∈ (E k).fn f, CalleeOK Tryz.prog f c := fnTab_ok ⟨⟨scroll_Eye_Get.ok k, trivial⟩, ⟨scroll_Eye_Blind.ok k, trivial⟩, trivial⟩
theorem run (k : Nat) (d : (Unit × Unit)) (e : (((List Int) × Bool) × Unit)) : runFn Tryz.prog (E k) 17 (bodyOf Tryz.f66) Tryz.f66.results.toList cl hn hi (mkL ps d) (mkH hs e) =
    tree (fun b0 b1 => leafFn hs fi e val wr (b0, b1)) k e.1 := by kernel_rfl
theorem run_f (k : Nat) (d : (Unit × Unit)) (e : (((List Int) × Bool) × Unit)) : runFn Tryz.prog (E k) 17 (bodyOf Tryz.f66) Tryz.f66.results.toList cl hn hi (mkL ps d) (mkH hs e) = (f k e.1).bind (leafFn hs fi e val wr) :=
  (run k d e).trans (tree_nat (leafFn hs fi e val wr) (fun b0 b1 => some (b0, b1)) k e.1).symm
theorem fnIs : FnIs Tryz.prog 66 Tryz.f66 (bodyOf Tryz.f66) 17 := ⟨by kernel_rfl, by kernel_rfl, by kernel_rfl, by kernel_rfl⟩
theorem ok (k : Nat) : CalleeOK Tryz.prog 66 (callee k) :=
  callee_sig (T := (Int × ((List Int) × Bool))) fnIs hm (fE k) (loopsOK_of [] (by kernel_rfl) trivial) ps hs cl hn fi (fun (d : (Unit × Unit)) (e : (((List Int) × Bool) × Unit)) => f k e.1) val wr rfl (fun _ => rfl) (run_f k)
end scroll_Eye_Wide
namespace scroll_Eye_Count
def tree {X : Type} (K : Int → ((List Int) × Bool) → Option X) (k : Nat) (a1 : Int) (m0 : ((List Int) × Bool)) : Option X :=
  (Option.bind (scroll_Eye_Get.f k (1 : Int) m0) (fun r1 => (bif (r1.1 == (253 : Int)) then (Option.bind (scroll_Eye_Get.f k (2 : Int) r1.2) (fun r2 => (bif (decide (r2.1 < (253 : Int))) then (Option.bind (scroll_Eye_Blind.f k r2.2) (fun r3 => (K (0 : Int) r3))) else (bif (decide (r2.1 > a1)) then (Option.bind (scroll_Eye_Blind.f k r2.2) (fun r4 => (K (0 : Int) r4))) else (K r2.1 r2.2))))) else (bif (r1.1 == (254 : Int)) then (Option.bind (scroll_Eye_Get.f k (4 : Int) r1.2) (fun r5 => (bif (decide (r5.1 < (65536 : Int))) then (Option.bind (scroll_Eye_Blind.f k r5.2) (fun r6 => (K (0 : Int) r6))) else (bif (decide (r5.1 > a1)) then (Option.bind (scroll_Eye_Blind.f k r5.2) (fun r7 => (K (0 : Int) r7))) else (K r5.1 r5.2))))) else (bif (r1.1 == (255 : Int)) then (Option.bind (scroll_Eye_Wide.f k r1.2) (fun r8 => (bif (decide (r8.1 < (4294967296 : Int))) then (Option.bind (scroll_Eye_Blind.f k r8.2) (fun r9 => (K (0 : Int) r9))) else (bif (decide (r8.1 > a1)) then (Option.bind (scroll_Eye_Blind.f k r8.2) (fun r10 => (K (0 : Int) r10))) else (K r8.1 r8.2))))) else (bif (decide (r1.1 < (0 : Int))) then (Option.bind (scroll_Eye_Blind.f k r1.2) (fun r11 => (K (0 : Int) r11))) else (bif (decide (r1.1 > a1)) then (Option.bind (scroll_Eye_Blind.f k r1.2) (fun r12 => (K (0 : Int) r12))) else (K r1.1 r1.2))))))))
def f (k : Nat) (a1 : Int) (m0 : ((List Int) × Bool)) : Option (Int × ((List Int) × Bool)) := tree (fun b0 b1 => some (b0, b1)) k a1 m0
theorem tree_nat {X Y : Type} (h : X → Option Y) (K : Int → ((List Int) × Bool) → Option X) (k : Nat) (a1 : Int) (m0 : ((List Int) × Bool)) : Option.bind (tree K k a1 m0) h = tree (fun b0 b1 => Option.bind (K b0 b1) h) k a1 m0 := by
  simp only [tree, bif_bind, sel_bind', Option.bind_assoc, Option.bind_none, Option.bind_some]
abbrev ps : List Sh := [.ptr 0, .data (.int .i64)]
abbrev hs : List (Nat × ESh) := [(0, .cell (.data (.pair .str .bool)))]
abbrev hi : List Nat := hs.map (·.1)
abbrev fi : List Nat := [0]
abbrev cl : List (Place × Nat × Hint) := []
abbrev hn : List Hint := [.any]
def val (t : (Int × ((List Int) × Bool))) : AV := Sh.mk (.data (.int .i64)) t.1
def wr (t : (Int × ((List Int) × Bool))) : Heap := [(0, ESh.mk (.cell (.data (.pair .str .bool))) t.2)]
def callee (k : Nat) : Callee := sigCallee ps hs (fun (d : (Unit × Int × Unit)) (e : (((List Int) × Bool) × Unit)) => f k d.2.1 e.1) val wr
def E (k : Nat) : Env := ⟨fnTab [(29, [scroll_Eye_Get.callee k]), (56, [scroll_Eye_Blind.callee k]), (66, [scroll_Eye_Wide.callee k])], loopTab [], natsTab [], natTab []⟩
theorem fE (k : Nat) : ∀ f, ∀ c ∈ (E k).fn f, CalleeOK Tryz.prog f c := fnTab_ok ⟨⟨scroll_Eye_Get.ok k, trivial⟩, ⟨scroll_Eye_Blind.ok k, trivial⟩, ⟨scroll_Eye_Wide.ok k, trivial⟩, trivial⟩
theorem run (k : Nat) (d : (Unit × Int × Unit)) (e : (((List Int) × Bool) × Unit)) : runFn Tryz.prog (E k) 33 (bodyOf Tryz.f53) Tryz.f53.results.toList cl hn hi (mkL ps d) (mkH hs e) =
    tree (fun b0 b1 => leafFn hs fi e val wr (b0, b1)) k d.2.1 e.1 := by kernel_rfl
theorem run_f (k : Nat) (d : (Unit × Int × Unit)) (e : (((List Int) × Bool) × Unit)) : runFn Tryz.prog (E k) 33 (bodyOf Tryz.f53) Tryz.f53.results.toList cl hn hi (mkL ps d) (mkH hs e) = (f k d.2.1 e.1).bind (leafFn hs fi e val wr) :=
  (run k d e).trans (tree_nat (leafFn hs fi e val wr) (fun b0 b1 => some (b0, b1)) k d.2.1 e.1).symm
theorem fnIs : FnIs Tryz.prog 53 Tryz.f53 (bodyOf Tryz.f53) 33 := ⟨by kernel_rfl, by kernel_rfl, by kernel_rfl, by kernel_rfl⟩
theorem ok (k : Nat) : CalleeOK Tryz.prog 53 (callee k) :=
  callee_sig (T := (Int × ((List Int) × Bool))) fnIs hm (fE k) (loopsOK_of [] (by kernel_rfl) trivial) ps hs cl hn fi (fun (d : (Unit × Int × Unit)) (e : (((List Int) × Bool) × Unit)) => f k d.2.1 e.1) val wr rfl (fun _ => rfl) (run_f k)
end scroll_Eye_Count
namespace scroll_Eye_Name
def tree {X : Type} (K : (List Int) → ((List Int) × Bool) → Option X) (k : Nat) (m0 : ((List Int) × Bool)) : Option X :=
  (Option.bind (scroll_Eye_Raw.f k (32 : Int) m0) (fun r1 => (K ((List.take 32 r1.1) ++ (List.drop (min (List.length r1.1) 32) ([0, 0, 0, 0, 0, 0, 0, 0, 0, 0, 0, 0, 0, 0, 0, 0, 0, 0, 0, 0, 0, 0, 0, 0, 0, 0, 0, 0, 0, 0, 0, 0] : (List Int)))) r1.2)))
def f (k : Nat) (m0 : ((List Int) × Bool)) : Option ((List Int) × ((List Int) × Bool)) := tree (fun b0 b1 => some (b0, b1)) k m0
theorem tree_nat {X Y : Type} (h : X → Option Y) (K : (List Int) → ((List Int) × Bool) → Option X) (k : Nat) (m0 : ((List Int) × Bool)) : Option.bind (tree K k m0) h = tree (fun b0 b1 => Option.bind (K b0 b1) h) k m0 := by
  simp only [tree, bif_bind, sel_bind', Option.bind_assoc, Option.bind_none, Option.bind_some]
abbrev ps : List Sh := [.ptr 0]
abbrev hs : List (Nat × ESh) := [(0, .cell (.data (.pair .str .bool)))]
abbrev hi : List Nat := hs.map (·.1)
abbrev fi : List Nat := [0]
abbrev cl : List (Place × Nat × Hint) := []
abbrev hn : List Hint := [.any]
def val (t : ((List Int) × ((List Int) × Bool))) : AV := Sh.mk (.data (.arr .u8 32)) t.1
def wr (t : ((List Int) × ((List Int) × Bool))) : Heap := [(0, ESh.mk (.cell (.data (.pair .str .bool))) t.2)]
def callee (k : Nat) : Callee := sigCallee ps hs (fun (d : (Unit × Unit)) (e : (((List Int) × Bool) × Unit)) => f k e.1) val wr
def E (k : Nat) : Env := ⟨fnTab [(52, [scroll_Eye_Raw.callee k])], loopTab [], natsTab [], natTab []⟩
theorem fE (k : Nat) : ∀ f, ∀ c ∈ (E k).fn f, CalleeOK Tryz.prog f c := fnTab_ok ⟨⟨scroll_Eye_Raw.ok k, trivial⟩, trivial⟩
theorem run (k : Nat) (d : (Unit × Unit)) (e : (((List Int) × Bool) × Unit)) : runFn Tryz.prog (E k) 9 (bodyOf Tryz.f31) Tryz.f31.results.toList cl hn hi (mkL ps d) (mkH hs e) =
    tree (fun b0 b1 => leafFn hs fi e val wr (b0, b1)) k e.1 := by kernel_rfl
theorem run_f (k : Nat) (d : (Unit × Unit)) (e : (((List Int) × Bool) × Unit)) : runFn Tryz.prog (E k) 9 (bodyOf Tryz.f31) Tryz.f31.results.toList cl hn hi (mkL ps d) (mkH hs e) = (f k e.1).bind (leafFn hs fi e val wr) :=
  (run k d e).trans (tree_nat (leafFn hs fi e val wr) (fun b0 b1 => some (b0, b1)) k e.1).symm
theorem fnIs : FnIs Tryz.prog 31 Tryz.f31 (bodyOf Tryz.f31) 9 := ⟨by kernel_rfl, by kernel_rfl, by kernel_rfl, by kernel_rfl⟩
theorem ok (k : Nat) : CalleeOK Tryz.prog 31 (callee k) :=
  callee_sig (T := ((List Int) × ((List Int) × Bool))) fnIs hm (fE k) (loopsOK_of [] (by kernel_rfl) trivial) ps hs cl hn fi (fun (d : (Unit × Unit)) (e : (((List Int) × Bool) × Unit)) => f k e.1) val wr rfl (fun _ => rfl) (run_f k)
end scroll_Eye_Name
namespace scroll_Eye_Bad
def tree {X : Type} (K : Bool → Option X) (k : Nat) (m0 : ((List Int) × Bool)) : Option X :=
  (K m0.2)
def f (k : Nat) (m0 : ((List Int) × Bool)) : Option Bool := tree (fun b0 => some b0) k m0
theorem tree_nat {X Y : Type} (h : X → Option Y) (K : Bool → Option X) (k : Nat) (m0 : ((List Int) × Bool)) : Option.bind (tree K k m0) h = tree (fun b0 => Option.bind (K b0) h) k m0 := by
  simp only [tree, bif_bind, sel_bind', Option.bind_assoc, Option.bind_none, Option.bind_some]
abbrev ps : List Sh := [.ptr 0]
abbrev hs : List (Nat × ESh) := [(0, .cell (.data (.pair .str .bool)))]
abbrev hi : List Nat := hs.map (·.1)
abbrev fi : List Nat := [0]
abbrev cl : List (Place × Nat × Hint) := []
abbrev hn : List Hint := [.any]
def val (t : Bool) : AV := Sh.mk (.data .bool) t
def wr (t : Bool) : Heap := []
def callee (k : Nat) : Callee := sigCallee ps hs (fun (d : (Unit × Unit)) (e : (((List Int) × Bool) × Unit)) => f k e.1) val wr
def E (k : Nat) : Env := ⟨fnTab [], loopTab [], natsTab [], natTab []⟩
theorem fE (k : Nat) : ∀ f, ∀ c ∈ (E k).fn f, CalleeOK Tryz.prog f c := fnTab_ok trivial
theorem run (k : Nat) (d : (Unit × Unit)) (e : (((List Int) × Bool) × Unit)) : runFn Tryz.prog (E k) 11 (bodyOf Tryz.f54) Tryz.f54.results.toList cl hn hi (mkL ps d) (mkH hs e) =
    tree (fun b0 => leafFn hs fi e val wr b0) k e.1 := by kernel_rfl
theorem run_f (k : Nat) (d : (Unit × Unit)) (e : (((List Int) × Bool) × Unit)) : runFn Tryz.prog (E k) 11 (bodyOf Tryz.f54) Tryz.f54.results.toList cl hn hi (mkL ps d) (mkH hs e) = (f k e.1).bind (leafFn hs fi e val wr) :=
  (run k d e).trans (tree_nat (leafFn hs fi e val wr) (fun b0 => some b0) k e.1).symm
theorem fnIs : FnIs Tryz.prog 54 Tryz.f54 (bodyOf Tryz.f54) 11 := ⟨by kernel_rfl, by kernel_rfl, by kernel_rfl, by kernel_rfl⟩
theorem ok (k : Nat) : CalleeOK Tryz.prog 54 (callee k) :=
  callee_sig (T := Bool) fnIs hm (fE k) (loopsOK_of [] (by kernel_rfl) trivial) ps hs cl hn fi (fun (d : (Unit × Unit)) (e : (((List Int) × Bool) × Unit)) => f k e.1) val wr rfl (fun _ => rfl) (run_f k)
end scroll_Eye_Bad
end Go.Proofs.YtkgpjplncfginaaGreatDoor.Sy
