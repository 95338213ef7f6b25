/- What the Go functions come to, on data: printed by sypr.py. -/
import Derived.Test.YtodjcmbkbijliaaSy18
import Derived.Test.YtodjcmbkbijliaaProg
namespace Go.Proofs.Ytodjcmbkbijliaa.Sy
open Go Go.Proofs
set_option maxRecDepth 100000
set_option linter.unusedVariables false
set_option linter.unusedSimpArgs false

theorem hm : Try.prog.follows .mixedOrders = true := by kernel_rfl
namespace scroll_Pen_Put
namespace l2
def step {X : Type} (K : Int → (List Int) → Option X) (G : Int → (List Int) → Option X) (k : Nat) (x1 : Int) (x7 : Int) (x10 : Int) (x11 : Int) (x12 : Bool) (x13 : Nat) (x14 : Int) (x15 : Int) (x16 : Int) (x17 : Int) (y1 : (List Int)) (x18 : Int) (y800002 : (List Int)) : Option X :=
  (bif (decide (x18 < x17)) then (bif (decide ((mulI .i64 8 x18) < 0)) then none else (bif (fits (((List.length y800002) + 1) * 1)) then (G (addI .i64 x18 1) (y800002 ++ ([(IntKind.wrap .u8 (shrI .i64 x7 (mulI .i64 8 x18)))] : (List Int)))) else none)) else (K x18 y800002))
def go {X : Type} (K : Int → (List Int) → Option X) (k : Nat) (x1 : Int) (x7 : Int) (x10 : Int) (x11 : Int) (x12 : Bool) (x13 : Nat) (x14 : Int) (x15 : Int) (x16 : Int) (x17 : Int) (y1 : (List Int)) : Nat → Int → (List Int) → Option X
  | 0, _, _ => none
  | n + 1, x18, y800002 => step K (go K k x1 x7 x10 x11 x12 x13 x14 x15 x16 x17 y1 n) k x1 x7 x10 x11 x12 x13 x14 x15 x16 x17 y1 x18 y800002
def f (k : Nat) (x1 : Int) (x7 : Int) (x10 : Int) (x11 : Int) (x12 : Bool) (x13 : Nat) (x14 : Int) (x15 : Int) (x16 : Int) (x17 : Int) (y1 : (List Int)) (n : Nat) (x18 : Int) (y800002 : (List Int)) : Option (Int × (List Int)) := go (fun x18 y800002 => some (x18, y800002)) k x1 x7 x10 x11 x12 x13 x14 x15 x16 x17 y1 n x18 y800002
theorem step_nat {X Y : Type} (h : X → Option Y) (K : Int → (List Int) → Option X) (G : Int → (List Int) → Option X) (k : Nat) (x1 : Int) (x7 : Int) (x10 : Int) (x11 : Int) (x12 : Bool) (x13 : Nat) (x14 : Int) (x15 : Int) (x16 : Int) (x17 : Int) (y1 : (List Int)) (x18 : Int) (y800002 : (List Int)) : Option.bind (step K G k x1 x7 x10 x11 x12 x13 x14 x15 x16 x17 y1 x18 y800002) h = step (fun x18 y800002 => Option.bind (K x18 y800002) h) (fun x18 y800002 => Option.bind (G x18 y800002) h) k x1 x7 x10 x11 x12 x13 x14 x15 x16 x17 y1 x18 y800002 := by
  simp only [step, bif_bind, sel_bind', Option.bind_assoc, Option.bind_none, Option.bind_some]
theorem go_nat {X Y : Type} (h : X → Option Y) (K : Int → (List Int) → Option X) (k : Nat) (x1 : Int) (x7 : Int) (x10 : Int) (x11 : Int) (x12 : Bool) (x13 : Nat) (x14 : Int) (x15 : Int) (x16 : Int) (x17 : Int) (y1 : (List Int)) (n : Nat) : ∀ (x18 : Int) (y800002 : (List Int)), Option.bind (go K k x1 x7 x10 x11 x12 x13 x14 x15 x16 x17 y1 n x18 y800002) h = go (fun x18 y800002 => Option.bind (K x18 y800002) h) k x1 x7 x10 x11 x12 x13 x14 x15 x16 x17 y1 n x18 y800002 := by
  induction n with
  | zero => intros; rfl
  | succ n ih => intro x18 y800002; show Option.bind (step K (go K k x1 x7 x10 x11 x12 x13 x14 x15 x16 x17 y1 n) k x1 x7 x10 x11 x12 x13 x14 x15 x16 x17 y1 x18 y800002) h = step (fun x18 y800002 => Option.bind (K x18 y800002) h) (go (fun x18 y800002 => Option.bind (K x18 y800002) h) k x1 x7 x10 x11 x12 x13 x14 x15 x16 x17 y1 n) k x1 x7 x10 x11 x12 x13 x14 x15 x16 x17 y1 x18 y800002; rw [step_nat h]; simp only [ih]
abbrev S : List (Nat × Sh) := [(0, .ptr 0), (1, .data (.int .i64)), (7, .data (.int .i64)), (9, .vec 1), (10, .data (.int .i64)), (11, .data (.int .i64)), (12, .data .bool), (13, .pdy 1 0 1), (14, .data (.int .i64)), (15, .data (.int .i64)), (16, .data (.int .i64)), (17, .data (.int .i64)), (18, .data (.int .i64))]
abbrev H : List (Nat × ESh) := [(0, .cell (.one (.vec 800002))), (1, .rows 2 3 (.int .i64)), (800002, .rows 2 5 (.int .u8))]
abbrev cl : List (Place × Nat × Hint) := [(.id 0, 0, (.row 2 5 (.int .u8)))]
abbrev hn : List (Nat × Hint) := [(0, .any), (1, .any), (7, .any), (9, .any), (10, .any), (11, .any), (12, .any), (13, .any), (14, .any), (15, .any), (16, .any), (17, .any), (18, .any)]
abbrev kp : List Nat := [0, 1]
abbrev rc : List (Place × Nat × Hint) := []
abbrev rs : List (Nat × Hint) := []
abbrev ri : List Nat := [0, 1]
def KX (d : (Unit × Int × Int × Unit × Int × Int × Bool × Nat × Int × Int × Int × Int × Int × Unit)) (e : (Unit × (List Int) × (List Int) × Unit)) (v : (Int × (List Int))) : St := ⟨mkS S ((), d.2.1, d.2.2.1, (), d.2.2.2.2.1, d.2.2.2.2.2.1, d.2.2.2.2.2.2.1, d.2.2.2.2.2.2.2.1, d.2.2.2.2.2.2.2.2.1, d.2.2.2.2.2.2.2.2.2.1, d.2.2.2.2.2.2.2.2.2.2.1, d.2.2.2.2.2.2.2.2.2.2.2.1, v.1, ()), mkH H ((), e.2.1, v.2, ())⟩
def sum (k : Nat) : LoopSum := sigLoopX S cl hn kp H 2 (fun (d : (Unit × Int × Int × Unit × Int × Int × Bool × Nat × Int × Int × Int × Int × Int × Unit)) (e : (Unit × (List Int) × (List Int) × Unit)) => f k d.2.1 d.2.2.1 d.2.2.2.2.1 d.2.2.2.2.2.1 d.2.2.2.2.2.2.1 d.2.2.2.2.2.2.2.1 d.2.2.2.2.2.2.2.2.1 d.2.2.2.2.2.2.2.2.2.1 d.2.2.2.2.2.2.2.2.2.2.1 d.2.2.2.2.2.2.2.2.2.2.2.1 e.2.1 k d.2.2.2.2.2.2.2.2.2.2.2.2.1 e.2.2.1) KX
end l2
namespace l0
def step {X : Type} (K : Int → (List Int) → Option X) (G : Int → (List Int) → Option X) (k : Nat) (x1 : Int) (x10 : Int) (y1 : (List Int)) (x11 : Int) (y800002 : (List Int)) : Option X :=
  (bif (decide (x11 < x10)) then (bif (decide (0 ≤ x11)) then (bif (decide (x11 < ((List.length y1) : Int))) then (bif (decide ((Int.toNat x11) < (List.length y1))) then (Option.bind (scroll_Pen_Put.l2.f k x1 (List.getD y1 (Int.toNat x11) (0 : Int)) x10 x11 (decide (x11 < x10)) (Int.toNat x11) (List.getD y1 (Int.toNat x11) (0 : Int)) x1 (mxI x1 1) (mnI (mxI x1 1) 8) y1 k (0 : Int) y800002) (fun r1 => (G (addI .i64 x11 1) r1.2))) else none) else none) else none) else (K x11 y800002))
def go {X : Type} (K : Int → (List Int) → Option X) (k : Nat) (x1 : Int) (x10 : Int) (y1 : (List Int)) : Nat → Int → (List Int) → Option X
  | 0, _, _ => none
  | n + 1, x11, y800002 => step K (go K k x1 x10 y1 n) k x1 x10 y1 x11 y800002
def f (k : Nat) (x1 : Int) (x10 : Int) (y1 : (List Int)) (n : Nat) (x11 : Int) (y800002 : (List Int)) : Option (Int × (List Int)) := go (fun x11 y800002 => some (x11, y800002)) k x1 x10 y1 n x11 y800002
theorem step_nat {X Y : Type} (h : X → Option Y) (K : Int → (List Int) → Option X) (G : Int → (List Int) → Option X) (k : Nat) (x1 : Int) (x10 : Int) (y1 : (List Int)) (x11 : Int) (y800002 : (List Int)) : Option.bind (step K G k x1 x10 y1 x11 y800002) h = step (fun x11 y800002 => Option.bind (K x11 y800002) h) (fun x11 y800002 => Option.bind (G x11 y800002) h) k x1 x10 y1 x11 y800002 := by
  simp only [step, bif_bind, sel_bind', Option.bind_assoc, Option.bind_none, Option.bind_some]
theorem go_nat {X Y : Type} (h : X → Option Y) (K : Int → (List Int) → Option X) (k : Nat) (x1 : Int) (x10 : Int) (y1 : (List Int)) (n : Nat) : ∀ (x11 : Int) (y800002 : (List Int)), Option.bind (go K k x1 x10 y1 n x11 y800002) h = go (fun x11 y800002 => Option.bind (K x11 y800002) h) k x1 x10 y1 n x11 y800002 := by
  induction n with
  | zero => intros; rfl
  | succ n ih => intro x11 y800002; show Option.bind (step K (go K k x1 x10 y1 n) k x1 x10 y1 x11 y800002) h = step (fun x11 y800002 => Option.bind (K x11 y800002) h) (go (fun x11 y800002 => Option.bind (K x11 y800002) h) k x1 x10 y1 n) k x1 x10 y1 x11 y800002; rw [step_nat h]; simp only [ih]
abbrev S : List (Nat × Sh) := [(0, .ptr 0), (1, .data (.int .i64)), (9, .vec 1), (10, .data (.int .i64)), (11, .data (.int .i64))]
abbrev H : List (Nat × ESh) := [(0, .cell (.one (.vec 800002))), (1, .rows 2 3 (.int .i64)), (800002, .rows 2 5 (.int .u8))]
abbrev cl : List (Place × Nat × Hint) := [(.id 0, 0, (.row 2 5 (.int .u8)))]
abbrev hn : List (Nat × Hint) := [(0, .any), (1, .any), (9, .any), (10, .any), (11, .any)]
abbrev kp : List Nat := [0, 1]
abbrev rc : List (Place × Nat × Hint) := []
abbrev rs : List (Nat × Hint) := []
abbrev ri : List Nat := [0, 1]
def KX (d : (Unit × Int × Unit × Int × Int × Unit)) (e : (Unit × (List Int) × (List Int) × Unit)) (v : (Int × (List Int))) : St := ⟨mkS S ((), d.2.1, (), d.2.2.2.1, v.1, ()), mkH H ((), e.2.1, v.2, ())⟩
def sum (k : Nat) : LoopSum := sigLoopX S cl hn kp H 0 (fun (d : (Unit × Int × Unit × Int × Int × Unit)) (e : (Unit × (List Int) × (List Int) × Unit)) => f k d.2.1 d.2.2.2.1 e.2.1 k d.2.2.2.2.1 e.2.2.1) KX
end l0
def tree {X : Type} (K : (List Int) → Option X) (k : Nat) (a1 : Int) (m1 : (List Int)) : Option X :=
  (Option.bind (scroll_Pen_Put.l0.f k a1 ((List.length m1) : Int) m1 k (0 : Int) ([] : (List Int))) (fun r2 => (K r2.2)))
def f (k : Nat) (a1 : Int) (m1 : (List Int)) : Option (List Int) := tree (fun b0 => some b0) k a1 m1
theorem tree_nat {X Y : Type} (h : X → Option Y) (K : (List Int) → Option X) (k : Nat) (a1 : Int) (m1 : (List Int)) : Option.bind (tree K k a1 m1) h = tree (fun b0 => Option.bind (K b0) h) k a1 m1 := by
  simp only [tree, bif_bind, sel_bind', Option.bind_assoc, Option.bind_none, Option.bind_some]
abbrev ps : List Sh := [.ptr 0, .data (.int .i64), .vec 1]
abbrev hs : List (Nat × ESh) := [(0, .cell (.one .nils)), (1, .rows 2 3 (.int .i64))]
abbrev hi : List Nat := hs.map (·.1)
abbrev fi : List Nat := [0, 1, 900002]
abbrev cl : List (Place × Nat × Hint) := []
abbrev hn : List Hint := []
def val (t : (List Int)) : AV := .tnil
def wr (t : (List Int)) : Heap := [(0, ESh.mk (.cell (.one (.vec 900002))) ()), (900002, ESh.mk (.rows 2 5 (.int .u8)) t)]
def callee (k : Nat) : Callee := sigCallee ps hs (fun (d : (Unit × Int × Unit × Unit)) (e : (Unit × (List Int) × Unit)) => f k d.2.1 e.2.1) val wr
def E (k : Nat) : Env := ⟨fnTab [], loopTab [(2, l2.sum k), (0, l0.sum k)], natsTab [], natTab []⟩
theorem fE (k : Nat) : ∀ f, ∀ c ∈ (E k).fn f, CalleeOK Try.prog f c := fnTab_ok trivial
namespace l2
theorem round (k : Nat) (d : (Unit × Int × Int × Unit × Int × Int × Bool × Nat × Int × Int × Int × Int × Int × Unit)) (e : (Unit × (List Int) × (List Int) × Unit)) (G : St → Option (Ex × St)) : roundK Try.prog (E k) 37 2 (subC (bodyOf Try.f21) [1, 0, 0, 1, 1, 0, 0, 1, 1, 0, 0]) (recast cl hn kp) (finBy cl hn kp rc rs ri) G ⟨mkS S d, mkH H e⟩ =
    step (fun x18 y800002 => some (.exit 2, KX d e (x18, y800002))) (fun x18 y800002 => G ⟨mkS S ((), d.2.1, d.2.2.1, (), d.2.2.2.2.1, d.2.2.2.2.2.1, d.2.2.2.2.2.2.1, d.2.2.2.2.2.2.2.1, d.2.2.2.2.2.2.2.2.1, d.2.2.2.2.2.2.2.2.2.1, d.2.2.2.2.2.2.2.2.2.2.1, d.2.2.2.2.2.2.2.2.2.2.2.1, x18, ()), mkH H ((), e.2.1, y800002, ())⟩) k d.2.1 d.2.2.1 d.2.2.2.2.1 d.2.2.2.2.2.1 d.2.2.2.2.2.2.1 d.2.2.2.2.2.2.2.1 d.2.2.2.2.2.2.2.2.1 d.2.2.2.2.2.2.2.2.2.1 d.2.2.2.2.2.2.2.2.2.2.1 d.2.2.2.2.2.2.2.2.2.2.2.1 e.2.1 d.2.2.2.2.2.2.2.2.2.2.2.2.1 e.2.2.1 := by kernel_rfl
theorem it (k n : Nat) (d : (Unit × Int × Int × Unit × Int × Int × Bool × Nat × Int × Int × Int × Int × Int × Unit)) (e : (Unit × (List Int) × (List Int) × Unit)) : loopIt Try.prog (E k) 37 2 (subC (bodyOf Try.f21) [1, 0, 0, 1, 1, 0, 0, 1, 1, 0, 0]) (recast cl hn kp) (finBy cl hn kp rc rs ri) n ⟨mkS S d, mkH H e⟩ = go (fun x18 y800002 => some (.exit 2, KX d e (x18, y800002))) k d.2.1 d.2.2.1 d.2.2.2.2.1 d.2.2.2.2.2.1 d.2.2.2.2.2.2.1 d.2.2.2.2.2.2.2.1 d.2.2.2.2.2.2.2.2.1 d.2.2.2.2.2.2.2.2.2.1 d.2.2.2.2.2.2.2.2.2.2.1 d.2.2.2.2.2.2.2.2.2.2.2.1 e.2.1 n d.2.2.2.2.2.2.2.2.2.2.2.2.1 e.2.2.1 :=
  loopIt_eq (D := (Unit × Int × Int × Unit × Int × Int × Bool × Nat × Int × Int × Int × Int × Int × Unit) × (Unit × (List Int) × (List Int) × Unit)) (fun p => ⟨mkS S p.1, mkH H p.2⟩) (fun F p => step (fun x18 y800002 => some (.exit 2, KX p.1 p.2 (x18, y800002))) (fun x18 y800002 => F (((), p.1.2.1, p.1.2.2.1, (), p.1.2.2.2.2.1, p.1.2.2.2.2.2.1, p.1.2.2.2.2.2.2.1, p.1.2.2.2.2.2.2.2.1, p.1.2.2.2.2.2.2.2.2.1, p.1.2.2.2.2.2.2.2.2.2.1, p.1.2.2.2.2.2.2.2.2.2.2.1, p.1.2.2.2.2.2.2.2.2.2.2.2.1, x18, ()), ((), p.2.2.1, y800002, ()))) k p.1.2.1 p.1.2.2.1 p.1.2.2.2.2.1 p.1.2.2.2.2.2.1 p.1.2.2.2.2.2.2.1 p.1.2.2.2.2.2.2.2.1 p.1.2.2.2.2.2.2.2.2.1 p.1.2.2.2.2.2.2.2.2.2.1 p.1.2.2.2.2.2.2.2.2.2.2.1 p.1.2.2.2.2.2.2.2.2.2.2.2.1 p.2.2.1 p.1.2.2.2.2.2.2.2.2.2.2.2.2.1 p.2.2.2.1) (fun n p => go (fun x18 y800002 => some (.exit 2, KX p.1 p.2 (x18, y800002))) k p.1.2.1 p.1.2.2.1 p.1.2.2.2.2.1 p.1.2.2.2.2.2.1 p.1.2.2.2.2.2.2.1 p.1.2.2.2.2.2.2.2.1 p.1.2.2.2.2.2.2.2.2.1 p.1.2.2.2.2.2.2.2.2.2.1 p.1.2.2.2.2.2.2.2.2.2.2.1 p.1.2.2.2.2.2.2.2.2.2.2.2.1 p.2.2.1 n p.1.2.2.2.2.2.2.2.2.2.2.2.2.1 p.2.2.2.1) (fun _ => rfl) (fun _ _ => rfl) (fun G p => round k p.1 p.2 G) n (d, e)
theorem ok (k : Nat) : LoopOK Try.prog 37 (subC (bodyOf Try.f21) [1, 0, 0, 1, 1, 0, 0, 1, 1, 0, 0]) (sum k) :=
  loop_sigX hm (fE k) (loopsOK_of [] (by kernel_rfl) trivial) S cl hn kp H 2 (fun (d : (Unit × Int × Int × Unit × Int × Int × Bool × Nat × Int × Int × Int × Int × Int × Unit)) (e : (Unit × (List Int) × (List Int) × Unit)) => f k d.2.1 d.2.2.1 d.2.2.2.2.1 d.2.2.2.2.2.1 d.2.2.2.2.2.2.1 d.2.2.2.2.2.2.2.1 d.2.2.2.2.2.2.2.2.1 d.2.2.2.2.2.2.2.2.2.1 d.2.2.2.2.2.2.2.2.2.2.1 d.2.2.2.2.2.2.2.2.2.2.2.1 e.2.1 k d.2.2.2.2.2.2.2.2.2.2.2.2.1 e.2.2.1) KX cl hn kp rc rs ri k
    (fun d e => (it k k d e).trans (go_nat (fun v => some (Ex.exit 2, KX d e v)) (fun x18 y800002 => some (x18, y800002)) k d.2.1 d.2.2.1 d.2.2.2.2.1 d.2.2.2.2.2.1 d.2.2.2.2.2.2.1 d.2.2.2.2.2.2.2.1 d.2.2.2.2.2.2.2.2.1 d.2.2.2.2.2.2.2.2.2.1 d.2.2.2.2.2.2.2.2.2.2.1 d.2.2.2.2.2.2.2.2.2.2.2.1 e.2.1 k d.2.2.2.2.2.2.2.2.2.2.2.2.1 e.2.2.1).symm)
end l2
namespace l0
theorem round (k : Nat) (d : (Unit × Int × Unit × Int × Int × Unit)) (e : (Unit × (List Int) × (List Int) × Unit)) (G : St → Option (Ex × St)) : roundK Try.prog (E k) 37 0 (subC (bodyOf Try.f21) [1, 0, 0]) (recast cl hn kp) (finBy cl hn kp rc rs ri) G ⟨mkS S d, mkH H e⟩ =
    step (fun x11 y800002 => some (.exit 0, KX d e (x11, y800002))) (fun x11 y800002 => G ⟨mkS S ((), d.2.1, (), d.2.2.2.1, x11, ()), mkH H ((), e.2.1, y800002, ())⟩) k d.2.1 d.2.2.2.1 e.2.1 d.2.2.2.2.1 e.2.2.1 := by kernel_rfl
theorem it (k n : Nat) (d : (Unit × Int × Unit × Int × Int × Unit)) (e : (Unit × (List Int) × (List Int) × Unit)) : loopIt Try.prog (E k) 37 0 (subC (bodyOf Try.f21) [1, 0, 0]) (recast cl hn kp) (finBy cl hn kp rc rs ri) n ⟨mkS S d, mkH H e⟩ = go (fun x11 y800002 => some (.exit 0, KX d e (x11, y800002))) k d.2.1 d.2.2.2.1 e.2.1 n d.2.2.2.2.1 e.2.2.1 :=
  loopIt_eq (D := (Unit × Int × Unit × Int × Int × Unit) × (Unit × (List Int) × (List Int) × Unit)) (fun p => ⟨mkS S p.1, mkH H p.2⟩) (fun F p => step (fun x11 y800002 => some (.exit 0, KX p.1 p.2 (x11, y800002))) (fun x11 y800002 => F (((), p.1.2.1, (), p.1.2.2.2.1, x11, ()), ((), p.2.2.1, y800002, ()))) k p.1.2.1 p.1.2.2.2.1 p.2.2.1 p.1.2.2.2.2.1 p.2.2.2.1) (fun n p => go (fun x11 y800002 => some (.exit 0, KX p.1 p.2 (x11, y800002))) k p.1.2.1 p.1.2.2.2.1 p.2.2.1 n p.1.2.2.2.2.1 p.2.2.2.1) (fun _ => rfl) (fun _ _ => rfl) (fun G p => round k p.1 p.2 G) n (d, e)
theorem ok (k : Nat) : LoopOK Try.prog 37 (subC (bodyOf Try.f21) [1, 0, 0]) (sum k) :=
  loop_sigX hm (fE k) (loopsOK_of [(2, subC (bodyOf Try.f21) [1, 0, 0, 1, 1, 0, 0, 1, 1, 0, 0])] (by kernel_rfl) ⟨of_loop (l2.sum k) rfl (l2.ok k), trivial⟩) S cl hn kp H 0 (fun (d : (Unit × Int × Unit × Int × Int × Unit)) (e : (Unit × (List Int) × (List Int) × Unit)) => f k d.2.1 d.2.2.2.1 e.2.1 k d.2.2.2.2.1 e.2.2.1) KX cl hn kp rc rs ri k
    (fun d e => (it k k d e).trans (go_nat (fun v => some (Ex.exit 0, KX d e v)) (fun x11 y800002 => some (x11, y800002)) k d.2.1 d.2.2.2.1 e.2.1 k d.2.2.2.2.1 e.2.2.1).symm)
end l0
theorem run (k : Nat) (d : (Unit × Int × Unit × Unit)) (e : (Unit × (List Int) × Unit)) : runFn Try.prog (E k) 37 (bodyOf Try.f21) Try.f21.results.toList cl hn hi (mkL ps d) (mkH hs e) =
    tree (fun b0 => leafFn hs fi e val wr b0) k d.2.1 e.2.1 := by kernel_rfl
theorem run_f (k : Nat) (d : (Unit × Int × Unit × Unit)) (e : (Unit × (List Int) × Unit)) : runFn Try.prog (E k) 37 (bodyOf Try.f21) Try.f21.results.toList cl hn hi (mkL ps d) (mkH hs e) = (f k d.2.1 e.2.1).bind (leafFn hs fi e val wr) :=
  (run k d e).trans (tree_nat (leafFn hs fi e val wr) (fun b0 => some b0) k d.2.1 e.2.1).symm
theorem fnIs : FnIs Try.prog 21 Try.f21 (bodyOf Try.f21) 37 := ⟨by kernel_rfl, by kernel_rfl, by kernel_rfl, by kernel_rfl⟩
theorem ok (k : Nat) : CalleeOK Try.prog 21 (callee k) :=
  callee_sig (T := (List Int)) fnIs hm (fE k) (loopsOK_of [(0, subC (bodyOf Try.f21) [1, 0, 0])] (by kernel_rfl) ⟨of_loop (l0.sum k) rfl (l0.ok k), trivial⟩) ps hs cl hn fi (fun (d : (Unit × Int × Unit × Unit)) (e : (Unit × (List Int) × Unit)) => f k d.2.1 e.2.1) val wr rfl (fun _ => rfl) (run_f k)
end scroll_Pen_Put
namespace scroll_Pen_Put_v1
namespace l2
def step {X : Type} (K : Int → (List Int) → Option X) (G : Int → (List Int) → Option X) (k : Nat) (x1 : Int) (x7 : Int) (x10 : Int) (x11 : Int) (x12 : Bool) (x13 : Nat) (x14 : Int) (x15 : Int) (x16 : Int) (x17 : Int) (y1 : (List Int)) (x18 : Int) (y800003 : (List Int)) : Option X :=
  (bif (decide (x18 < x17)) then (bif (decide ((mulI .i64 8 x18) < 0)) then none else (bif (fits (((List.length y800003) + 1) * 1)) then (G (addI .i64 x18 1) (y800003 ++ ([(IntKind.wrap .u8 (shrI .i64 x7 (mulI .i64 8 x18)))] : (List Int)))) else none)) else (K x18 y800003))
def go {X : Type} (K : Int → (List Int) → Option X) (k : Nat) (x1 : Int) (x7 : Int) (x10 : Int) (x11 : Int) (x12 : Bool) (x13 : Nat) (x14 : Int) (x15 : Int) (x16 : Int) (x17 : Int) (y1 : (List Int)) : Nat → Int → (List Int) → Option X
  | 0, _, _ => none
  | n + 1, x18, y800003 => step K (go K k x1 x7 x10 x11 x12 x13 x14 x15 x16 x17 y1 n) k x1 x7 x10 x11 x12 x13 x14 x15 x16 x17 y1 x18 y800003
def f (k : Nat) (x1 : Int) (x7 : Int) (x10 : Int) (x11 : Int) (x12 : Bool) (x13 : Nat) (x14 : Int) (x15 : Int) (x16 : Int) (x17 : Int) (y1 : (List Int)) (n : Nat) (x18 : Int) (y800003 : (List Int)) : Option (Int × (List Int)) := go (fun x18 y800003 => some (x18, y800003)) k x1 x7 x10 x11 x12 x13 x14 x15 x16 x17 y1 n x18 y800003
theorem step_nat {X Y : Type} (h : X → Option Y) (K : Int → (List Int) → Option X) (G : Int → (List Int) → Option X) (k : Nat) (x1 : Int) (x7 : Int) (x10 : Int) (x11 : Int) (x12 : Bool) (x13 : Nat) (x14 : Int) (x15 : Int) (x16 : Int) (x17 : Int) (y1 : (List Int)) (x18 : Int) (y800003 : (List Int)) : Option.bind (step K G k x1 x7 x10 x11 x12 x13 x14 x15 x16 x17 y1 x18 y800003) h = step (fun x18 y800003 => Option.bind (K x18 y800003) h) (fun x18 y800003 => Option.bind (G x18 y800003) h) k x1 x7 x10 x11 x12 x13 x14 x15 x16 x17 y1 x18 y800003 := by
  simp only [step, bif_bind, sel_bind', Option.bind_assoc, Option.bind_none, Option.bind_some]
theorem go_nat {X Y : Type} (h : X → Option Y) (K : Int → (List Int) → Option X) (k : Nat) (x1 : Int) (x7 : Int) (x10 : Int) (x11 : Int) (x12 : Bool) (x13 : Nat) (x14 : Int) (x15 : Int) (x16 : Int) (x17 : Int) (y1 : (List Int)) (n : Nat) : ∀ (x18 : Int) (y800003 : (List Int)), Option.bind (go K k x1 x7 x10 x11 x12 x13 x14 x15 x16 x17 y1 n x18 y800003) h = go (fun x18 y800003 => Option.bind (K x18 y800003) h) k x1 x7 x10 x11 x12 x13 x14 x15 x16 x17 y1 n x18 y800003 := by
  induction n with
  | zero => intros; rfl
  | succ n ih => intro x18 y800003; show Option.bind (step K (go K k x1 x7 x10 x11 x12 x13 x14 x15 x16 x17 y1 n) k x1 x7 x10 x11 x12 x13 x14 x15 x16 x17 y1 x18 y800003) h = step (fun x18 y800003 => Option.bind (K x18 y800003) h) (go (fun x18 y800003 => Option.bind (K x18 y800003) h) k x1 x7 x10 x11 x12 x13 x14 x15 x16 x17 y1 n) k x1 x7 x10 x11 x12 x13 x14 x15 x16 x17 y1 x18 y800003; rw [step_nat h]; simp only [ih]
abbrev S : List (Nat × Sh) := [(0, .ptr 0), (1, .data (.int .i64)), (7, .data (.int .i64)), (9, .vec 1), (10, .data (.int .i64)), (11, .data (.int .i64)), (12, .data .bool), (13, .pdy 1 0 1), (14, .data (.int .i64)), (15, .data (.int .i64)), (16, .data (.int .i64)), (17, .data (.int .i64)), (18, .data (.int .i64))]
abbrev H : List (Nat × ESh) := [(0, .cell (.one (.vec 800003))), (1, .rows 2 3 (.int .i64)), (2, .dead), (800003, .rows 2 5 (.int .u8))]
abbrev cl : List (Place × Nat × Hint) := [(.id 0, 0, .move)]
abbrev hn : List (Nat × Hint) := [(0, .any), (1, .any), (7, .any), (9, .any), (10, .any), (11, .any), (12, .any), (13, .any), (14, .any), (15, .any), (16, .any), (17, .any), (18, .any)]
abbrev kp : List Nat := [0, 1, 2]
abbrev rc : List (Place × Nat × Hint) := []
abbrev rs : List (Nat × Hint) := []
abbrev ri : List Nat := [0, 1, 2]
def KX (d : (Unit × Int × Int × Unit × Int × Int × Bool × Nat × Int × Int × Int × Int × Int × Unit)) (e : (Unit × (List Int) × Unit × (List Int) × Unit)) (v : (Int × (List Int))) : St := ⟨mkS S ((), d.2.1, d.2.2.1, (), d.2.2.2.2.1, d.2.2.2.2.2.1, d.2.2.2.2.2.2.1, d.2.2.2.2.2.2.2.1, d.2.2.2.2.2.2.2.2.1, d.2.2.2.2.2.2.2.2.2.1, d.2.2.2.2.2.2.2.2.2.2.1, d.2.2.2.2.2.2.2.2.2.2.2.1, v.1, ()), mkH H ((), e.2.1, (), v.2, ())⟩
def sum (k : Nat) : LoopSum := sigLoopX S cl hn kp H 2 (fun (d : (Unit × Int × Int × Unit × Int × Int × Bool × Nat × Int × Int × Int × Int × Int × Unit)) (e : (Unit × (List Int) × Unit × (List Int) × Unit)) => f k d.2.1 d.2.2.1 d.2.2.2.2.1 d.2.2.2.2.2.1 d.2.2.2.2.2.2.1 d.2.2.2.2.2.2.2.1 d.2.2.2.2.2.2.2.2.1 d.2.2.2.2.2.2.2.2.2.1 d.2.2.2.2.2.2.2.2.2.2.1 d.2.2.2.2.2.2.2.2.2.2.2.1 e.2.1 k d.2.2.2.2.2.2.2.2.2.2.2.2.1 e.2.2.2.1) KX
end l2
namespace l0
def step {X : Type} (K : Int → (List Int) → Option X) (G : Int → (List Int) → Option X) (k : Nat) (x1 : Int) (x10 : Int) (y1 : (List Int)) (x11 : Int) (y800003 : (List Int)) : Option X :=
  (bif (decide (x11 < x10)) then (bif (decide (0 ≤ x11)) then (bif (decide (x11 < ((List.length y1) : Int))) then (bif (decide ((Int.toNat x11) < (List.length y1))) then (Option.bind (scroll_Pen_Put_v1.l2.f k x1 (List.getD y1 (Int.toNat x11) (0 : Int)) x10 x11 (decide (x11 < x10)) (Int.toNat x11) (List.getD y1 (Int.toNat x11) (0 : Int)) x1 (mxI x1 1) (mnI (mxI x1 1) 8) y1 k (0 : Int) y800003) (fun r1 => (G (addI .i64 x11 1) r1.2))) else none) else none) else none) else (K x11 y800003))
def go {X : Type} (K : Int → (List Int) → Option X) (k : Nat) (x1 : Int) (x10 : Int) (y1 : (List Int)) : Nat → Int → (List Int) → Option X
  | 0, _, _ => none
  | n + 1, x11, y800003 => step K (go K k x1 x10 y1 n) k x1 x10 y1 x11 y800003
def f (k : Nat) (x1 : Int) (x10 : Int) (y1 : (List Int)) (n : Nat) (x11 : Int) (y800003 : (List Int)) : Option (Int × (List Int)) := go (fun x11 y800003 => some (x11, y800003)) k x1 x10 y1 n x11 y800003
theorem step_nat {X Y : Type} (h : X → Option Y) (K : Int → (List Int) → Option X) (G : Int → (List Int) → Option X) (k : Nat) (x1 : Int) (x10 : Int) (y1 : (List Int)) (x11 : Int) (y800003 : (List Int)) : Option.bind (step K G k x1 x10 y1 x11 y800003) h = step (fun x11 y800003 => Option.bind (K x11 y800003) h) (fun x11 y800003 => Option.bind (G x11 y800003) h) k x1 x10 y1 x11 y800003 := by
  simp only [step, bif_bind, sel_bind', Option.bind_assoc, Option.bind_none, Option.bind_some]
theorem go_nat {X Y : Type} (h : X → Option Y) (K : Int → (List Int) → Option X) (k : Nat) (x1 : Int) (x10 : Int) (y1 : (List Int)) (n : Nat) : ∀ (x11 : Int) (y800003 : (List Int)), Option.bind (go K k x1 x10 y1 n x11 y800003) h = go (fun x11 y800003 => Option.bind (K x11 y800003) h) k x1 x10 y1 n x11 y800003 := by
  induction n with
  | zero => intros; rfl
  | succ n ih => intro x11 y800003; show Option.bind (step K (go K k x1 x10 y1 n) k x1 x10 y1 x11 y800003) h = step (fun x11 y800003 => Option.bind (K x11 y800003) h) (go (fun x11 y800003 => Option.bind (K x11 y800003) h) k x1 x10 y1 n) k x1 x10 y1 x11 y800003; rw [step_nat h]; simp only [ih]
abbrev S : List (Nat × Sh) := [(0, .ptr 0), (1, .data (.int .i64)), (9, .vec 1), (10, .data (.int .i64)), (11, .data (.int .i64))]
abbrev H : List (Nat × ESh) := [(0, .cell (.one (.vec 800003))), (1, .rows 2 3 (.int .i64)), (2, .dead), (800003, .rows 2 5 (.int .u8))]
abbrev cl : List (Place × Nat × Hint) := [(.id 0, 0, .move)]
abbrev hn : List (Nat × Hint) := [(0, .any), (1, .any), (9, .any), (10, .any), (11, .any)]
abbrev kp : List Nat := [0, 1, 2]
abbrev rc : List (Place × Nat × Hint) := []
abbrev rs : List (Nat × Hint) := []
abbrev ri : List Nat := [0, 1, 2]
def KX (d : (Unit × Int × Unit × Int × Int × Unit)) (e : (Unit × (List Int) × Unit × (List Int) × Unit)) (v : (Int × (List Int))) : St := ⟨mkS S ((), d.2.1, (), d.2.2.2.1, v.1, ()), mkH H ((), e.2.1, (), v.2, ())⟩
def sum (k : Nat) : LoopSum := sigLoopX S cl hn kp H 0 (fun (d : (Unit × Int × Unit × Int × Int × Unit)) (e : (Unit × (List Int) × Unit × (List Int) × Unit)) => f k d.2.1 d.2.2.2.1 e.2.1 k d.2.2.2.2.1 e.2.2.2.1) KX
end l0
def tree {X : Type} (K : (List Int) → Option X) (k : Nat) (a1 : Int) (m1 : (List Int)) (m2 : (List Int)) : Option X :=
  (Option.bind (scroll_Pen_Put_v1.l0.f k a1 ((List.length m1) : Int) m1 k (0 : Int) m2) (fun r2 => (K r2.2)))
def f (k : Nat) (a1 : Int) (m1 : (List Int)) (m2 : (List Int)) : Option (List Int) := tree (fun b0 => some b0) k a1 m1 m2
theorem tree_nat {X Y : Type} (h : X → Option Y) (K : (List Int) → Option X) (k : Nat) (a1 : Int) (m1 : (List Int)) (m2 : (List Int)) : Option.bind (tree K k a1 m1 m2) h = tree (fun b0 => Option.bind (K b0) h) k a1 m1 m2 := by
  simp only [tree, bif_bind, sel_bind', Option.bind_assoc, Option.bind_none, Option.bind_some]
abbrev ps : List Sh := [.ptr 0, .data (.int .i64), .vec 1]
abbrev hs : List (Nat × ESh) := [(0, .cell (.one (.vec 2))), (1, .rows 2 3 (.int .i64)), (2, .rows 2 5 (.int .u8))]
abbrev hi : List Nat := hs.map (·.1)
abbrev fi : List Nat := [0, 1, 2, 900003]
abbrev cl : List (Place × Nat × Hint) := []
abbrev hn : List Hint := []
def val (t : (List Int)) : AV := .tnil
def wr (t : (List Int)) : Heap := [(0, ESh.mk (.cell (.one (.vec 900003))) ()), (2, ESh.mk (.dead) ()), (900003, ESh.mk (.rows 2 5 (.int .u8)) t)]
def callee (k : Nat) : Callee := sigCallee ps hs (fun (d : (Unit × Int × Unit × Unit)) (e : (Unit × (List Int) × (List Int) × Unit)) => f k d.2.1 e.2.1 e.2.2.1) val wr
def E (k : Nat) : Env := ⟨fnTab [], loopTab [(2, l2.sum k), (0, l0.sum k)], natsTab [], natTab []⟩
theorem fE (k : Nat) : ∀ f, ∀ c ∈ (E k).fn f, CalleeOK Try.prog f c := fnTab_ok trivial
namespace l2
theorem round (k : Nat) (d : (Unit × Int × Int × Unit × Int × Int × Bool × Nat × Int × Int × Int × Int × Int × Unit)) (e : (Unit × (List Int) × Unit × (List Int) × Unit)) (G : St → Option (Ex × St)) : roundK Try.prog (E k) 37 2 (subC (bodyOf Try.f21) [1, 0, 0, 1, 1, 0, 0, 1, 1, 0, 0]) (recast cl hn kp) (finBy cl hn kp rc rs ri) G ⟨mkS S d, mkH H e⟩ =
    step (fun x18 y800003 => some (.exit 2, KX d e (x18, y800003))) (fun x18 y800003 => G ⟨mkS S ((), d.2.1, d.2.2.1, (), d.2.2.2.2.1, d.2.2.2.2.2.1, d.2.2.2.2.2.2.1, d.2.2.2.2.2.2.2.1, d.2.2.2.2.2.2.2.2.1, d.2.2.2.2.2.2.2.2.2.1, d.2.2.2.2.2.2.2.2.2.2.1, d.2.2.2.2.2.2.2.2.2.2.2.1, x18, ()), mkH H ((), e.2.1, (), y800003, ())⟩) k d.2.1 d.2.2.1 d.2.2.2.2.1 d.2.2.2.2.2.1 d.2.2.2.2.2.2.1 d.2.2.2.2.2.2.2.1 d.2.2.2.2.2.2.2.2.1 d.2.2.2.2.2.2.2.2.2.1 d.2.2.2.2.2.2.2.2.2.2.1 d.2.2.2.2.2.2.2.2.2.2.2.1 e.2.1 d.2.2.2.2.2.2.2.2.2.2.2.2.1 e.2.2.2.1 := by kernel_rfl
theorem it (k n : Nat) (d : (Unit × Int × Int × Unit × Int × Int × Bool × Nat × Int × Int × Int × Int × Int × Unit)) (e : (Unit × (List Int) × Unit × (List Int) × Unit)) : loopIt Try.prog (E k) 37 2 (subC (bodyOf Try.f21) [1, 0, 0, 1, 1, 0, 0, 1, 1, 0, 0]) (recast cl hn kp) (finBy cl hn kp rc rs ri) n ⟨mkS S d, mkH H e⟩ = go (fun x18 y800003 => some (.exit 2, KX d e (x18, y800003))) k d.2.1 d.2.2.1 d.2.2.2.2.1 d.2.2.2.2.2.1 d.2.2.2.2.2.2.1 d.2.2.2.2.2.2.2.1 d.2.2.2.2.2.2.2.2.1 d.2.2.2.2.2.2.2.2.2.1 d.2.2.2.2.2.2.2.2.2.2.1 d.2.2.2.2.2.2.2.2.2.2.2.1 e.2.1 n d.2.2.2.2.2.2.2.2.2.2.2.2.1 e.2.2.2.1 :=
  loopIt_eq (D := (Unit × Int × Int × Unit × Int × Int × Bool × Nat × Int × Int × Int × Int × Int × Unit) × (Unit × (List Int) × Unit × (List Int) × Unit)) (fun p => ⟨mkS S p.1, mkH H p.2⟩) (fun F p => step (fun x18 y800003 => some (.exit 2, KX p.1 p.2 (x18, y800003))) (fun x18 y800003 => F (((), p.1.2.1, p.1.2.2.1, (), p.1.2.2.2.2.1, p.1.2.2.2.2.2.1, p.1.2.2.2.2.2.2.1, p.1.2.2.2.2.2.2.2.1, p.1.2.2.2.2.2.2.2.2.1, p.1.2.2.2.2.2.2.2.2.2.1, p.1.2.2.2.2.2.2.2.2.2.2.1, p.1.2.2.2.2.2.2.2.2.2.2.2.1, x18, ()), ((), p.2.2.1, (), y800003, ()))) k p.1.2.1 p.1.2.2.1 p.1.2.2.2.2.1 p.1.2.2.2.2.2.1 p.1.2.2.2.2.2.2.1 p.1.2.2.2.2.2.2.2.1 p.1.2.2.2.2.2.2.2.2.1 p.1.2.2.2.2.2.2.2.2.2.1 p.1.2.2.2.2.2.2.2.2.2.2.1 p.1.2.2.2.2.2.2.2.2.2.2.2.1 p.2.2.1 p.1.2.2.2.2.2.2.2.2.2.2.2.2.1 p.2.2.2.2.1) (fun n p => go (fun x18 y800003 => some (.exit 2, KX p.1 p.2 (x18, y800003))) k p.1.2.1 p.1.2.2.1 p.1.2.2.2.2.1 p.1.2.2.2.2.2.1 p.1.2.2.2.2.2.2.1 p.1.2.2.2.2.2.2.2.1 p.1.2.2.2.2.2.2.2.2.1 p.1.2.2.2.2.2.2.2.2.2.1 p.1.2.2.2.2.2.2.2.2.2.2.1 p.1.2.2.2.2.2.2.2.2.2.2.2.1 p.2.2.1 n p.1.2.2.2.2.2.2.2.2.2.2.2.2.1 p.2.2.2.2.1) (fun _ => rfl) (fun _ _ => rfl) (fun G p => round k p.1 p.2 G) n (d, e)
theorem ok (k : Nat) : LoopOK Try.prog 37 (subC (bodyOf Try.f21) [1, 0, 0, 1, 1, 0, 0, 1, 1, 0, 0]) (sum k) :=
  loop_sigX hm (fE k) (loopsOK_of [] (by kernel_rfl) trivial) S cl hn kp H 2 (fun (d : (Unit × Int × Int × Unit × Int × Int × Bool × Nat × Int × Int × Int × Int × Int × Unit)) (e : (Unit × (List Int) × Unit × (List Int) × Unit)) => f k d.2.1 d.2.2.1 d.2.2.2.2.1 d.2.2.2.2.2.1 d.2.2.2.2.2.2.1 d.2.2.2.2.2.2.2.1 d.2.2.2.2.2.2.2.2.1 d.2.2.2.2.2.2.2.2.2.1 d.2.2.2.2.2.2.2.2.2.2.1 d.2.2.2.2.2.2.2.2.2.2.2.1 e.2.1 k d.2.2.2.2.2.2.2.2.2.2.2.2.1 e.2.2.2.1) KX cl hn kp rc rs ri k
    (fun d e => (it k k d e).trans (go_nat (fun v => some (Ex.exit 2, KX d e v)) (fun x18 y800003 => some (x18, y800003)) k d.2.1 d.2.2.1 d.2.2.2.2.1 d.2.2.2.2.2.1 d.2.2.2.2.2.2.1 d.2.2.2.2.2.2.2.1 d.2.2.2.2.2.2.2.2.1 d.2.2.2.2.2.2.2.2.2.1 d.2.2.2.2.2.2.2.2.2.2.1 d.2.2.2.2.2.2.2.2.2.2.2.1 e.2.1 k d.2.2.2.2.2.2.2.2.2.2.2.2.1 e.2.2.2.1).symm)
end l2
namespace l0
theorem round (k : Nat) (d : (Unit × Int × Unit × Int × Int × Unit)) (e : (Unit × (List Int) × Unit × (List Int) × Unit)) (G : St → Option (Ex × St)) : roundK Try.prog (E k) 37 0 (subC (bodyOf Try.f21) [1, 0, 0]) (recast cl hn kp) (finBy cl hn kp rc rs ri) G ⟨mkS S d, mkH H e⟩ =
    step (fun x11 y800003 => some (.exit 0, KX d e (x11, y800003))) (fun x11 y800003 => G ⟨mkS S ((), d.2.1, (), d.2.2.2.1, x11, ()), mkH H ((), e.2.1, (), y800003, ())⟩) k d.2.1 d.2.2.2.1 e.2.1 d.2.2.2.2.1 e.2.2.2.1 := by kernel_rfl
theorem it (k n : Nat) (d : (Unit × Int × Unit × Int × Int × Unit)) (e : (Unit × (List Int) × Unit × (List Int) × Unit)) : loopIt Try.prog (E k) 37 0 (subC (bodyOf Try.f21) [1, 0, 0]) (recast cl hn kp) (finBy cl hn kp rc rs ri) n ⟨mkS S d, mkH H e⟩ = go (fun x11 y800003 => some (.exit 0, KX d e (x11, y800003))) k d.2.1 d.2.2.2.1 e.2.1 n d.2.2.2.2.1 e.2.2.2.1 :=
  loopIt_eq (D := (Unit × Int × Unit × Int × Int × Unit) × (Unit × (List Int) × Unit × (List Int) × Unit)) (fun p => ⟨mkS S p.1, mkH H p.2⟩) (fun F p => step (fun x11 y800003 => some (.exit 0, KX p.1 p.2 (x11, y800003))) (fun x11 y800003 => F (((), p.1.2.1, (), p.1.2.2.2.1, x11, ()), ((), p.2.2.1, (), y800003, ()))) k p.1.2.1 p.1.2.2.2.1 p.2.2.1 p.1.2.2.2.2.1 p.2.2.2.2.1) (fun n p => go (fun x11 y800003 => some (.exit 0, KX p.1 p.2 (x11, y800003))) k p.1.2.1 p.1.2.2.2.1 p.2.2.1 n p.1.2.2.2.2.1 p.2.2.2.2.1) (fun _ => rfl) (fun _ _ => rfl) (fun G p => round k p.1 p.2 G) n (d, e)
theorem ok (k : Nat) : LoopOK Try.prog 37 (subC (bodyOf Try.f21) [1, 0, 0]) (sum k) :=
  loop_sigX hm (fE k) (loopsOK_of [(2, subC (bodyOf Try.f21) [1, 0, 0, 1, 1, 0, 0, 1, 1, 0, 0])] (by kernel_rfl) ⟨of_loop (l2.sum k) rfl (l2.ok k), trivial⟩) S cl hn kp H 0 (fun (d : (Unit × Int × Unit × Int × Int × Unit)) (e : (Unit × (List Int) × Unit × (List Int) × Unit)) => f k d.2.1 d.2.2.2.1 e.2.1 k d.2.2.2.2.1 e.2.2.2.1) KX cl hn kp rc rs ri k
    (fun d e => (it k k d e).trans (go_nat (fun v => some (Ex.exit 0, KX d e v)) (fun x11 y800003 => some (x11, y800003)) k d.2.1 d.2.2.2.1 e.2.1 k d.2.2.2.2.1 e.2.2.2.1).symm)
end l0
theorem run (k : Nat) (d : (Unit × Int × Unit × Unit)) (e : (Unit × (List Int) × (List Int) × Unit)) : runFn Try.prog (E k) 37 (bodyOf Try.f21) Try.f21.results.toList cl hn hi (mkL ps d) (mkH hs e) =
    tree (fun b0 => leafFn hs fi e val wr b0) k d.2.1 e.2.1 e.2.2.1 := by kernel_rfl
theorem run_f (k : Nat) (d : (Unit × Int × Unit × Unit)) (e : (Unit × (List Int) × (List Int) × Unit)) : runFn Try.prog (E k) 37 (bodyOf Try.f21) Try.f21.results.toList cl hn hi (mkL ps d) (mkH hs e) = (f k d.2.1 e.2.1 e.2.2.1).bind (leafFn hs fi e val wr) :=
  (run k d e).trans (tree_nat (leafFn hs fi e val wr) (fun b0 => some b0) k d.2.1 e.2.1 e.2.2.1).symm
theorem fnIs : FnIs Try.prog 21 Try.f21 (bodyOf Try.f21) 37 := ⟨by kernel_rfl, by kernel_rfl, by kernel_rfl, by kernel_rfl⟩
theorem ok (k : Nat) : CalleeOK Try.prog 21 (callee k) :=
  callee_sig (T := (List Int)) fnIs hm (fE k) (loopsOK_of [(0, subC (bodyOf Try.f21) [1, 0, 0])] (by kernel_rfl) ⟨of_loop (l0.sum k) rfl (l0.ok k), trivial⟩) ps hs cl hn fi (fun (d : (Unit × Int × Unit × Unit)) (e : (Unit × (List Int) × (List Int) × Unit)) => f k d.2.1 e.2.1 e.2.2.1) val wr rfl (fun _ => rfl) (run_f k)
end scroll_Pen_Put_v1
namespace scroll_Pen_Count
def tree {X : Type} (K : (List Int) → Option X) (k : Nat) (a1 : Int) : Option X :=
  (bif (decide (a1 ≤ (252 : Int))) then (Option.bind (scroll_Pen_Put.f k (1 : Int) ([(mxI a1 0)] : (List Int))) (fun r1 => (K r1))) else (bif (decide (a1 ≤ (65535 : Int))) then (Option.bind (scroll_Pen_Put.f k (1 : Int) ([253] : (List Int))) (fun r2 => (Option.bind (scroll_Pen_Put_v1.f k (2 : Int) ([a1] : (List Int)) r2) (fun r3 => (K r3))))) else (bif (decide (a1 ≤ (4294967295 : Int))) then (Option.bind (scroll_Pen_Put.f k (1 : Int) ([254] : (List Int))) (fun r4 => (Option.bind (scroll_Pen_Put_v1.f k (4 : Int) ([a1] : (List Int)) r4) (fun r5 => (K r5))))) else (Option.bind (scroll_Pen_Put.f k (1 : Int) ([255] : (List Int))) (fun r6 => (Option.bind (scroll_Pen_Put_v1.f k (8 : Int) ([a1] : (List Int)) r6) (fun r7 => (K r7))))))))
def f (k : Nat) (a1 : Int) : Option (List Int) := tree (fun b0 => some b0) k a1
theorem tree_nat {X Y : Type} (h : X → Option Y) (K : (List Int) → Option X) (k : Nat) (a1 : Int) : Option.bind (tree K k a1) h = tree (fun b0 => Option.bind (K b0) h) k a1 := by
  simp only [tree, bif_bind, sel_bind', Option.bind_assoc, Option.bind_none, Option.bind_some]
abbrev ps : List Sh := [.ptr 0, .data (.int .i64)]
abbrev hs : List (Nat × ESh) := [(0, .cell (.one .nils))]
abbrev hi : List Nat := hs.map (·.1)
abbrev fi : List Nat := [0, 900001]
abbrev cl : List (Place × Nat × Hint) := []
abbrev hn : List Hint := []
def val (t : (List Int)) : AV := .tnil
def wr (t : (List Int)) : Heap := [(0, ESh.mk (.cell (.one (.vec 900001))) ()), (900001, ESh.mk (.rows 2 5 (.int .u8)) t)]
def callee (k : Nat) : Callee := sigCallee ps hs (fun (d : (Unit × Int × Unit)) (e : (Unit × Unit)) => f k d.2.1) val wr
def E (k : Nat) : Env := ⟨fnTab [(21, [scroll_Pen_Put.callee k, scroll_Pen_Put_v1.callee k])], loopTab [], natsTab [], natTab []⟩
theorem fE (k : Nat) : ∀ f, ∀ c ∈ (E k).fn f, CalleeOK Try.prog f c := fnTab_ok ⟨⟨scroll_Pen_Put.ok k, scroll_Pen_Put_v1.ok k, trivial⟩, trivial⟩
theorem run (k : Nat) (d : (Unit × Int × Unit)) (e : (Unit × Unit)) : runFn Try.prog (E k) 39 (bodyOf Try.f31) Try.f31.results.toList cl hn hi (mkL ps d) (mkH hs e) =
    tree (fun b0 => leafFn hs fi e val wr b0) k d.2.1 := by kernel_rfl
theorem run_f (k : Nat) (d : (Unit × Int × Unit)) (e : (Unit × Unit)) : runFn Try.prog (E k) 39 (bodyOf Try.f31) Try.f31.results.toList cl hn hi (mkL ps d) (mkH hs e) = (f k d.2.1).bind (leafFn hs fi e val wr) :=
  (run k d e).trans (tree_nat (leafFn hs fi e val wr) (fun b0 => some b0) k d.2.1).symm
theorem fnIs : FnIs Try.prog 31 Try.f31 (bodyOf Try.f31) 39 := ⟨by kernel_rfl, by kernel_rfl, by kernel_rfl, by kernel_rfl⟩
theorem ok (k : Nat) : CalleeOK Try.prog 31 (callee k) :=
  callee_sig (T := (List Int)) fnIs hm (fE k) (loopsOK_of [] (by kernel_rfl) trivial) ps hs cl hn fi (fun (d : (Unit × Int × Unit)) (e : (Unit × Unit)) => f k d.2.1) val wr rfl (fun _ => rfl) (run_f k)
end scroll_Pen_Count
namespace scroll_Pen_Text
def tree {X : Type} (K : (List Int) → Option X) (k : Nat) (m1 : (List Int)) : Option X :=
  (K (toStr m1))
def f (k : Nat) (m1 : (List Int)) : Option (List Int) := tree (fun b0 => some b0) k m1
theorem tree_nat {X Y : Type} (h : X → Option Y) (K : (List Int) → Option X) (k : Nat) (m1 : (List Int)) : Option.bind (tree K k m1) h = tree (fun b0 => Option.bind (K b0) h) k m1 := by
  simp only [tree, bif_bind, sel_bind', Option.bind_assoc, Option.bind_none, Option.bind_some]
abbrev ps : List Sh := [.ptr 0]
abbrev hs : List (Nat × ESh) := [(0, .cell (.one (.vec 1))), (1, .rows 2 5 (.int .u8))]
abbrev hi : List Nat := hs.map (·.1)
abbrev fi : List Nat := [0, 1]
abbrev cl : List (Place × Nat × Hint) := []
abbrev hn : List Hint := [.any]
def val (t : (List Int)) : AV := Sh.mk (.data .str) t
def wr (t : (List Int)) : Heap := []
def callee (k : Nat) : Callee := sigCallee ps hs (fun (d : (Unit × Unit)) (e : (Unit × (List Int) × Unit)) => f k e.2.1) val wr
def E (k : Nat) : Env := ⟨fnTab [], loopTab [], natsTab [], natTab []⟩
theorem fE (k : Nat) : ∀ f, ∀ c ∈ (E k).fn f, CalleeOK Try.prog f c := fnTab_ok trivial
theorem run (k : Nat) (d : (Unit × Unit)) (e : (Unit × (List Int) × Unit)) : runFn Try.prog (E k) 8 (bodyOf Try.f17) Try.f17.results.toList cl hn hi (mkL ps d) (mkH hs e) =
    tree (fun b0 => leafFn hs fi e val wr b0) k e.2.1 := by kernel_rfl
theorem run_f (k : Nat) (d : (Unit × Unit)) (e : (Unit × (List Int) × Unit)) : runFn Try.prog (E k) 8 (bodyOf Try.f17) Try.f17.results.toList cl hn hi (mkL ps d) (mkH hs e) = (f k e.2.1).bind (leafFn hs fi e val wr) :=
  (run k d e).trans (tree_nat (leafFn hs fi e val wr) (fun b0 => some b0) k e.2.1).symm
theorem fnIs : FnIs Try.prog 17 Try.f17 (bodyOf Try.f17) 8 := ⟨by kernel_rfl, by kernel_rfl, by kernel_rfl, by kernel_rfl⟩
theorem ok (k : Nat) : CalleeOK Try.prog 17 (callee k) :=
  callee_sig (T := (List Int)) fnIs hm (fE k) (loopsOK_of [] (by kernel_rfl) trivial) ps hs cl hn fi (fun (d : (Unit × Unit)) (e : (Unit × (List Int) × Unit)) => f k e.2.1) val wr rfl (fun _ => rfl) (run_f k)
end scroll_Pen_Text
namespace scroll_On
def tree {X : Type} (K : ((List Int) × Bool) → Option X) (k : Nat) (a0 : (List Int)) : Option X :=
  (K ((a0, false) : ((List Int) × Bool)))
def f (k : Nat) (a0 : (List Int)) : Option ((List Int) × Bool) := tree (fun b0 => some b0) k a0
theorem tree_nat {X Y : Type} (h : X → Option Y) (K : ((List Int) × Bool) → Option X) (k : Nat) (a0 : (List Int)) : Option.bind (tree K k a0) h = tree (fun b0 => Option.bind (K b0) h) k a0 := by
  simp only [tree, bif_bind, sel_bind', Option.bind_assoc, Option.bind_none, Option.bind_some]
abbrev ps : List Sh := [.data .str]
abbrev hs : List (Nat × ESh) := []
abbrev hi : List Nat := hs.map (·.1)
abbrev fi : List Nat := [900000]
abbrev cl : List (Place × Nat × Hint) := []
abbrev hn : List Hint := [.any]
def val (t : ((List Int) × Bool)) : AV := Sh.mk (.ptr 900000) ()
def wr (t : ((List Int) × Bool)) : Heap := [(900000, ESh.mk (.cell (.data (.pair .str .bool))) t)]
def callee (k : Nat) : Callee := sigCallee ps hs (fun (d : ((List Int) × Unit)) (e : Unit) => f k d.1) val wr
def E (k : Nat) : Env := ⟨fnTab [], loopTab [], natsTab [], natTab []⟩
theorem fE (k : Nat) : ∀ f, ∀ c ∈ (E k).fn f, CalleeOK Try.prog f c := fnTab_ok trivial
theorem run (k : Nat) (d : ((List Int) × Unit)) (e : Unit) : runFn Try.prog (E k) 6 (bodyOf Try.f16) Try.f16.results.toList cl hn hi (mkL ps d) (mkH hs e) =
    tree (fun b0 => leafFn hs fi e val wr b0) k d.1 := by kernel_rfl
theorem run_f (k : Nat) (d : ((List Int) × Unit)) (e : Unit) : runFn Try.prog (E k) 6 (bodyOf Try.f16) Try.f16.results.toList cl hn hi (mkL ps d) (mkH hs e) = (f k d.1).bind (leafFn hs fi e val wr) :=
  (run k d e).trans (tree_nat (leafFn hs fi e val wr) (fun b0 => some b0) k d.1).symm
theorem fnIs : FnIs Try.prog 16 Try.f16 (bodyOf Try.f16) 6 := ⟨by kernel_rfl, by kernel_rfl, by kernel_rfl, by kernel_rfl⟩
theorem ok (k : Nat) : CalleeOK Try.prog 16 (callee k) :=
  callee_sig (T := ((List Int) × Bool)) fnIs hm (fE k) (loopsOK_of [] (by kernel_rfl) trivial) ps hs cl hn fi (fun (d : ((List Int) × Unit)) (e : Unit) => f k d.1) val wr rfl (fun _ => rfl) (run_f k)
end scroll_On
namespace scroll_Eye_Done
def tree {X : Type} (K : Bool → Option X) (k : Nat) (m0 : ((List Int) × Bool)) : Option X :=
  (bif (!m0.2) then (K (decide (m0.1 = ([] : (List Int))))) else (K false))
def f (k : Nat) (m0 : ((List Int) × Bool)) : Option Bool := tree (fun b0 => some b0) k m0
theorem tree_nat {X Y : Type} (h : X → Option Y) (K : Bool → Option X) (k : Nat) (m0 : ((List Int) × Bool)) : Option.bind (tree K k m0) h = tree (fun b0 => Option.bind (K b0) h) k m0 := by
  simp only [tree, bif_bind, sel_bind', Option.bind_assoc, Option.bind_none, Option.bind_some]
abbrev ps : List Sh := [.ptr 0]
abbrev hs : List (Nat × ESh) := [(0, .cell (.data (.pair .str .bool)))]
abbrev hi : List Nat := hs.map (·.1)
abbrev fi : List Nat := [0]
abbrev cl : List (Place × Nat × Hint) := []
abbrev hn : List Hint := [.any]
def val (t : Bool) : AV := Sh.mk (.data .bool) t
def wr (t : Bool) : Heap := []
def callee (k : Nat) : Callee := sigCallee ps hs (fun (d : (Unit × Unit)) (e : (((List Int) × Bool) × Unit)) => f k e.1) val wr
def E (k : Nat) : Env := ⟨fnTab [], loopTab [], natsTab [], natTab []⟩
theorem fE (k : Nat) : ∀ f, ∀ c ∈ (E k).fn f, CalleeOK Try.prog f c := fnTab_ok trivial
theorem run (k : Nat) (d : (Unit × Unit)) (e : (((List Int) × Bool) × Unit)) : runFn Try.prog (E k) 19 (bodyOf Try.f19) Try.f19.results.toList cl hn hi (mkL ps d) (mkH hs e) =
    tree (fun b0 => leafFn hs fi e val wr b0) k e.1 := by kernel_rfl
theorem run_f (k : Nat) (d : (Unit × Unit)) (e : (((List Int) × Bool) × Unit)) : runFn Try.prog (E k) 19 (bodyOf Try.f19) Try.f19.results.toList cl hn hi (mkL ps d) (mkH hs e) = (f k e.1).bind (leafFn hs fi e val wr) :=
  (run k d e).trans (tree_nat (leafFn hs fi e val wr) (fun b0 => some b0) k e.1).symm
theorem fnIs : FnIs Try.prog 19 Try.f19 (bodyOf Try.f19) 19 := ⟨by kernel_rfl, by kernel_rfl, by kernel_rfl, by kernel_rfl⟩
theorem ok (k : Nat) : CalleeOK Try.prog 19 (callee k) :=
  callee_sig (T := Bool) fnIs hm (fE k) (loopsOK_of [] (by kernel_rfl) trivial) ps hs cl hn fi (fun (d : (Unit × Unit)) (e : (((List Int) × Bool) × Unit)) => f k e.1) val wr rfl (fun _ => rfl) (run_f k)
end scroll_Eye_Done
namespace trailheadlaw05_alive
def tree {X : Type} (K : Bool → Option X) (k : Nat) : Option X :=
  (Option.bind (scroll_Pen_Count.f k (253 : Int)) (fun r1 => (Option.bind (scroll_Pen_Text.f k r1) (fun r2 => (bif (decide (r2 = ([253, 253, 0] : (List Int)))) then (Option.bind (scroll_On.f k ([] : (List Int))) (fun r3 => (Option.bind (scroll_Eye_Done.f k r3) (fun r4 => (bif r4 then (Option.bind (scroll_On.f k ([97] : (List Int))) (fun r5 => (Option.bind (scroll_Eye_Done.f k r5) (fun r6 => (K (!r6)))))) else (K false)))))) else (K false))))))
def f (k : Nat) : Option Bool := tree (fun b0 => some b0) k
theorem tree_nat {X Y : Type} (h : X → Option Y) (K : Bool → Option X) (k : Nat) : Option.bind (tree K k) h = tree (fun b0 => Option.bind (K b0) h) k := by
  simp only [tree, bif_bind, sel_bind', Option.bind_assoc, Option.bind_none, Option.bind_some]
abbrev ps : List Sh := []
abbrev hs : List (Nat × ESh) := []
abbrev hi : List Nat := hs.map (·.1)
abbrev fi : List Nat := []
abbrev cl : List (Place × Nat × Hint) := []
abbrev hn : List Hint := [.any]
def val (t : Bool) : AV := Sh.mk (.data .bool) t
def wr (t : Bool) : Heap := []
def callee (k : Nat) : Callee := sigCallee ps hs (fun (d : Unit) (e : Unit) => f k) val wr
def E (k : Nat) : Env := ⟨fnTab [(31, [scroll_Pen_Count.callee k]), (17, [scroll_Pen_Text.callee k]), (16, [scroll_On.callee k]), (19, [scroll_Eye_Done.callee k])], loopTab [], natsTab [], natTab []⟩
theorem fE (k : Nat) : ∀ f, ∀ c ∈ (E k).fn f, CalleeOK Try.prog f c := fnTab_ok ⟨⟨scroll_Pen_Count.ok k, trivial⟩, ⟨scroll_Pen_Text.ok k, trivial⟩, ⟨scroll_On.ok k, trivial⟩, ⟨scroll_Eye_Done.ok k, trivial⟩, trivial⟩
theorem run (k : Nat) (d : Unit) (e : Unit) : runFn Try.prog (E k) 18 (bodyOf Try.f12) Try.f12.results.toList cl hn hi (mkL ps d) (mkH hs e) =
    tree (fun b0 => leafFn hs fi e val wr b0) k := by kernel_rfl
theorem run_f (k : Nat) (d : Unit) (e : Unit) : runFn Try.prog (E k) 18 (bodyOf Try.f12) Try.f12.results.toList cl hn hi (mkL ps d) (mkH hs e) = (f k).bind (leafFn hs fi e val wr) :=
  (run k d e).trans (tree_nat (leafFn hs fi e val wr) (fun b0 => some b0) k).symm
theorem fnIs : FnIs Try.prog 12 Try.f12 (bodyOf Try.f12) 18 := ⟨by kernel_rfl, by kernel_rfl, by kernel_rfl, by kernel_rfl⟩
theorem ok (k : Nat) : CalleeOK Try.prog 12 (callee k) :=
  callee_sig (T := Bool) fnIs hm (fE k) (loopsOK_of [] (by kernel_rfl) trivial) ps hs cl hn fi (fun (d : Unit) (e : Unit) => f k) val wr rfl (fun _ => rfl) (run_f k)
end trailheadlaw05_alive
namespace trailheadlaw05_great
namespace l0
def step {X : Type} (K : Int → Int → Option X) (Q : Bool → Option X) (G : Int → Int → Option X) (k : Nat) (x2 : Bool) (x7 : Int) (y0 : (List (Int × (Int × (Int × ((List Int) × (List Int))))))) (x3 : Int) (x8 : Int) : Option X :=
  (bif (decide (x8 < x7)) then (bif (decide (0 ≤ x8)) then (bif (decide (x8 < ((List.length y0) : Int))) then (bif (decide ((Int.toNat x8) < (List.length y0))) then (bif (decide ((addI .i64 x3 ((List.length (((((List.getD y0 (Int.toNat x8) (((0 : Int), (((0 : Int), (((0 : Int), (((List.replicate 32 0 : (List Int)), ([] : (List Int))) : ((List Int) × (List Int)))) : (Int × ((List Int) × (List Int))))) : (Int × (Int × ((List Int) × (List Int)))))) : (Int × (Int × (Int × ((List Int) × (List Int)))))))).2).2).2).2) : Int)) > (4096 : Int))) then (Q true) else (G (addI .i64 x3 ((List.length (((((List.getD y0 (Int.toNat x8) (((0 : Int), (((0 : Int), (((0 : Int), (((List.replicate 32 0 : (List Int)), ([] : (List Int))) : ((List Int) × (List Int)))) : (Int × ((List Int) × (List Int))))) : (Int × (Int × ((List Int) × (List Int)))))) : (Int × (Int × (Int × ((List Int) × (List Int)))))))).2).2).2).2) : Int)) (addI .i64 x8 1))) else none) else none) else none) else (K x3 x8))
def go {X : Type} (K : Int → Int → Option X) (Q : Bool → Option X) (k : Nat) (x2 : Bool) (x7 : Int) (y0 : (List (Int × (Int × (Int × ((List Int) × (List Int))))))) : Nat → Int → Int → Option X
  | 0, _, _ => none
  | n + 1, x3, x8 => step K Q (go K Q k x2 x7 y0 n) k x2 x7 y0 x3 x8
def f (k : Nat) (x2 : Bool) (x7 : Int) (y0 : (List (Int × (Int × (Int × ((List Int) × (List Int))))))) (n : Nat) (x3 : Int) (x8 : Int) : Option ((Int × Int) ⊕ Bool) := go (fun x3 x8 => some (.inl (x3, x8))) (fun q0 => some (.inr q0)) k x2 x7 y0 n x3 x8
theorem step_nat {X Y : Type} (h : X → Option Y) (K : Int → Int → Option X) (Q : Bool → Option X) (G : Int → Int → Option X) (k : Nat) (x2 : Bool) (x7 : Int) (y0 : (List (Int × (Int × (Int × ((List Int) × (List Int))))))) (x3 : Int) (x8 : Int) : Option.bind (step K Q G k x2 x7 y0 x3 x8) h = step (fun x3 x8 => Option.bind (K x3 x8) h) (fun q0 => Option.bind (Q q0) h) (fun x3 x8 => Option.bind (G x3 x8) h) k x2 x7 y0 x3 x8 := by
  simp only [step, bif_bind, sel_bind', Option.bind_assoc, Option.bind_none, Option.bind_some]
theorem go_nat {X Y : Type} (h : X → Option Y) (K : Int → Int → Option X) (Q : Bool → Option X) (k : Nat) (x2 : Bool) (x7 : Int) (y0 : (List (Int × (Int × (Int × ((List Int) × (List Int))))))) (n : Nat) : ∀ (x3 : Int) (x8 : Int), Option.bind (go K Q k x2 x7 y0 n x3 x8) h = go (fun x3 x8 => Option.bind (K x3 x8) h) (fun q0 => Option.bind (Q q0) h) k x2 x7 y0 n x3 x8 := by
  induction n with
  | zero => intros; rfl
  | succ n ih => intro x3 x8; show Option.bind (step K Q (go K Q k x2 x7 y0 n) k x2 x7 y0 x3 x8) h = step (fun x3 x8 => Option.bind (K x3 x8) h) (fun q0 => Option.bind (Q q0) h) (go (fun x3 x8 => Option.bind (K x3 x8) h) (fun q0 => Option.bind (Q q0) h) k x2 x7 y0 n) k x2 x7 y0 x3 x8; rw [step_nat h]; simp only [ih]
abbrev S : List (Nat × Sh) := [(0, .vec 0), (2, .data .bool), (3, .data (.int .i64)), (6, .vec 0), (7, .data (.int .i64)), (8, .data (.int .i64))]
abbrev H : List (Nat × ESh) := [(0, .rows 0 59 (.pair (.int .i64) (.pair (.int .i64) (.pair (.int .i64) (.pair (.arr .u8 32) .str)))))]
abbrev cl : List (Place × Nat × Hint) := []
abbrev hn : List (Nat × Hint) := [(0, .any), (2, .any), (3, .any), (6, .any), (7, .any), (8, .any)]
abbrev kp : List Nat := [0]
abbrev rc : List (Place × Nat × Hint) := []
abbrev rs : List (Nat × Hint) := [(2, .any)]
abbrev ri : List Nat := [0]
def KX (d : (Unit × Bool × Int × Unit × Int × Int × Unit)) (e : ((List (Int × (Int × (Int × ((List Int) × (List Int)))))) × Unit)) (v : (Int × Int)) : St := ⟨mkS S ((), d.2.1, v.1, (), d.2.2.2.2.1, v.2, ()), mkH H (e.1, ())⟩
abbrev RS : List (Nat × Sh) := [(2, .data .bool)]
abbrev RH : List (Nat × ESh) := [(0, .rows 0 59 (.pair (.int .i64) (.pair (.int .i64) (.pair (.int .i64) (.pair (.arr .u8 32) .str)))))]
def RX (d : (Unit × Bool × Int × Unit × Int × Int × Unit)) (e : ((List (Int × (Int × (Int × ((List Int) × (List Int)))))) × Unit)) (v : Bool) : St := ⟨mkS RS (v, ()), mkH RH (e.1, ())⟩
def sum (k : Nat) : LoopSum := sigLoop S cl hn kp H 0 (fun (d : (Unit × Bool × Int × Unit × Int × Int × Unit)) (e : ((List (Int × (Int × (Int × ((List Int) × (List Int)))))) × Unit)) => f k d.2.1 d.2.2.2.2.1 e.1 k d.2.2.1 d.2.2.2.2.2.1) KX RX
end l0
def tree {X : Type} (K : Bool → Option X) (k : Nat) (m0 : (List (Int × (Int × (Int × ((List Int) × (List Int))))))) : Option X :=
  (Option.bind (trailheadlaw05_great.l0.f k false ((List.length m0) : Int) m0 k (0 : Int) (0 : Int)) (fun r1 => sel r1 (fun v2 => (K (decide (((List.length m0) : Int) > (40 : Int))))) (fun q3 => (K q3))))
def f (k : Nat) (m0 : (List (Int × (Int × (Int × ((List Int) × (List Int))))))) : Option Bool := tree (fun b0 => some b0) k m0
theorem tree_nat {X Y : Type} (h : X → Option Y) (K : Bool → Option X) (k : Nat) (m0 : (List (Int × (Int × (Int × ((List Int) × (List Int))))))) : Option.bind (tree K k m0) h = tree (fun b0 => Option.bind (K b0) h) k m0 := by
  simp only [tree, bif_bind, sel_bind', Option.bind_assoc, Option.bind_none, Option.bind_some]
abbrev ps : List Sh := [.vec 0]
abbrev hs : List (Nat × ESh) := [(0, .rows 0 59 (.pair (.int .i64) (.pair (.int .i64) (.pair (.int .i64) (.pair (.arr .u8 32) .str)))))]
abbrev hi : List Nat := hs.map (·.1)
abbrev fi : List Nat := [0]
abbrev cl : List (Place × Nat × Hint) := []
abbrev hn : List Hint := [.any]
def val (t : Bool) : AV := Sh.mk (.data .bool) t
def wr (t : Bool) : Heap := []
def callee (k : Nat) : Callee := sigCallee ps hs (fun (d : (Unit × Unit)) (e : ((List (Int × (Int × (Int × ((List Int) × (List Int)))))) × Unit)) => f k e.1) val wr
def E (k : Nat) : Env := ⟨fnTab [], loopTab [(0, l0.sum k)], natsTab [], natTab []⟩
theorem fE (k : Nat) : ∀ f, ∀ c ∈ (E k).fn f, CalleeOK Try.prog f c := fnTab_ok trivial
namespace l0
theorem round (k : Nat) (d : (Unit × Bool × Int × Unit × Int × Int × Unit)) (e : ((List (Int × (Int × (Int × ((List Int) × (List Int)))))) × Unit)) (G : St → Option (Ex × St)) : roundK Try.prog (E k) 23 0 (subC (bodyOf Try.f13) [1, 1, 0, 1, 0, 0]) (recast cl hn kp) (finBy cl hn kp rc rs ri) G ⟨mkS S d, mkH H e⟩ =
    step (fun x3 x8 => some (.exit 0, KX d e (x3, x8))) (fun q0 => some (.ret, RX d e q0)) (fun x3 x8 => G ⟨mkS S ((), d.2.1, x3, (), d.2.2.2.2.1, x8, ()), mkH H (e.1, ())⟩) k d.2.1 d.2.2.2.2.1 e.1 d.2.2.1 d.2.2.2.2.2.1 := by kernel_rfl
theorem it (k n : Nat) (d : (Unit × Bool × Int × Unit × Int × Int × Unit)) (e : ((List (Int × (Int × (Int × ((List Int) × (List Int)))))) × Unit)) : loopIt Try.prog (E k) 23 0 (subC (bodyOf Try.f13) [1, 1, 0, 1, 0, 0]) (recast cl hn kp) (finBy cl hn kp rc rs ri) n ⟨mkS S d, mkH H e⟩ = go (fun x3 x8 => some (.exit 0, KX d e (x3, x8))) (fun q0 => some (.ret, RX d e q0)) k d.2.1 d.2.2.2.2.1 e.1 n d.2.2.1 d.2.2.2.2.2.1 :=
  loopIt_eq (D := (Unit × Bool × Int × Unit × Int × Int × Unit) × ((List (Int × (Int × (Int × ((List Int) × (List Int)))))) × Unit)) (fun p => ⟨mkS S p.1, mkH H p.2⟩) (fun F p => step (fun x3 x8 => some (.exit 0, KX p.1 p.2 (x3, x8))) (fun q0 => some (.ret, RX p.1 p.2 q0)) (fun x3 x8 => F (((), p.1.2.1, x3, (), p.1.2.2.2.2.1, x8, ()), (p.2.1, ()))) k p.1.2.1 p.1.2.2.2.2.1 p.2.1 p.1.2.2.1 p.1.2.2.2.2.2.1) (fun n p => go (fun x3 x8 => some (.exit 0, KX p.1 p.2 (x3, x8))) (fun q0 => some (.ret, RX p.1 p.2 q0)) k p.1.2.1 p.1.2.2.2.2.1 p.2.1 n p.1.2.2.1 p.1.2.2.2.2.2.1) (fun _ => rfl) (fun _ _ => rfl) (fun G p => round k p.1 p.2 G) n (d, e)
theorem ok (k : Nat) : LoopOK Try.prog 23 (subC (bodyOf Try.f13) [1, 1, 0, 1, 0, 0]) (sum k) :=
  loop_sig hm (fE k) (loopsOK_of [] (by kernel_rfl) trivial) S cl hn kp H 0 (fun (d : (Unit × Bool × Int × Unit × Int × Int × Unit)) (e : ((List (Int × (Int × (Int × ((List Int) × (List Int)))))) × Unit)) => f k d.2.1 d.2.2.2.2.1 e.1 k d.2.2.1 d.2.2.2.2.2.1) KX RX cl hn kp rc rs ri k
    (fun d e => (it k k d e).trans (go_nat (exitOf 0 (KX d e) (RX d e)) (fun x3 x8 => some (.inl (x3, x8))) (fun q0 => some (.inr q0)) k d.2.1 d.2.2.2.2.1 e.1 k d.2.2.1 d.2.2.2.2.2.1).symm)
end l0
theorem run (k : Nat) (d : (Unit × Unit)) (e : ((List (Int × (Int × (Int × ((List Int) × (List Int)))))) × Unit)) : runFn Try.prog (E k) 23 (bodyOf Try.f13) Try.f13.results.toList cl hn hi (mkL ps d) (mkH hs e) =
    tree (fun b0 => leafFn hs fi e val wr b0) k e.1 := by kernel_rfl
theorem run_f (k : Nat) (d : (Unit × Unit)) (e : ((List (Int × (Int × (Int × ((List Int) × (List Int)))))) × Unit)) : runFn Try.prog (E k) 23 (bodyOf Try.f13) Try.f13.results.toList cl hn hi (mkL ps d) (mkH hs e) = (f k e.1).bind (leafFn hs fi e val wr) :=
  (run k d e).trans (tree_nat (leafFn hs fi e val wr) (fun b0 => some b0) k e.1).symm
theorem fnIs : FnIs Try.prog 13 Try.f13 (bodyOf Try.f13) 23 := ⟨by kernel_rfl, by kernel_rfl, by kernel_rfl, by kernel_rfl⟩
theorem ok (k : Nat) : CalleeOK Try.prog 13 (callee k) :=
  callee_sig (T := Bool) fnIs hm (fE k) (loopsOK_of [(0, subC (bodyOf Try.f13) [1, 1, 0, 1, 0, 0])] (by kernel_rfl) ⟨of_loop (l0.sum k) rfl (l0.ok k), trivial⟩) ps hs cl hn fi (fun (d : (Unit × Unit)) (e : ((List (Int × (Int × (Int × ((List Int) × (List Int)))))) × Unit)) => f k e.1) val wr rfl (fun _ => rfl) (run_f k)
end trailheadlaw05_great
namespace trailheadref05_Number
namespace l0
def step {X : Type} (K : Int → (List Int) → Int → Option X) (G : Int → (List Int) → Int → Option X) (k : Nat) (x0 : Int) (x4 : (List Int)) (x5 : Int) (x6 : (List Int)) (x7 : Int) : Option X :=
  (bif (decide (x7 < (mnI (mxI x0 1) 8))) then (bif (fits ((List.length x6) + (List.length (toStr ([(IntKind.wrap .u8 (remI x5 256))] : (List Int)))))) then (G (quoI .u64 x5 256) (x6 ++ (toStr ([(IntKind.wrap .u8 (remI x5 256))] : (List Int)))) (addI .i64 x7 1)) else none) else (K x5 x6 x7))
def go {X : Type} (K : Int → (List Int) → Int → Option X) (k : Nat) (x0 : Int) (x4 : (List Int)) : Nat → Int → (List Int) → Int → Option X
  | 0, _, _, _ => none
  | n + 1, x5, x6, x7 => step K (go K k x0 x4 n) k x0 x4 x5 x6 x7
def f (k : Nat) (x0 : Int) (x4 : (List Int)) (n : Nat) (x5 : Int) (x6 : (List Int)) (x7 : Int) : Option (Int × ((List Int) × Int)) := go (fun x5 x6 x7 => some (x5, x6, x7)) k x0 x4 n x5 x6 x7
theorem step_nat {X Y : Type} (h : X → Option Y) (K : Int → (List Int) → Int → Option X) (G : Int → (List Int) → Int → Option X) (k : Nat) (x0 : Int) (x4 : (List Int)) (x5 : Int) (x6 : (List Int)) (x7 : Int) : Option.bind (step K G k x0 x4 x5 x6 x7) h = step (fun x5 x6 x7 => Option.bind (K x5 x6 x7) h) (fun x5 x6 x7 => Option.bind (G x5 x6 x7) h) k x0 x4 x5 x6 x7 := by
  simp only [step, bif_bind, sel_bind', Option.bind_assoc, Option.bind_none, Option.bind_some]
theorem go_nat {X Y : Type} (h : X → Option Y) (K : Int → (List Int) → Int → Option X) (k : Nat) (x0 : Int) (x4 : (List Int)) (n : Nat) : ∀ (x5 : Int) (x6 : (List Int)) (x7 : Int), Option.bind (go K k x0 x4 n x5 x6 x7) h = go (fun x5 x6 x7 => Option.bind (K x5 x6 x7) h) k x0 x4 n x5 x6 x7 := by
  induction n with
  | zero => intros; rfl
  | succ n ih => intro x5 x6 x7; show Option.bind (step K (go K k x0 x4 n) k x0 x4 x5 x6 x7) h = step (fun x5 x6 x7 => Option.bind (K x5 x6 x7) h) (go (fun x5 x6 x7 => Option.bind (K x5 x6 x7) h) k x0 x4 n) k x0 x4 x5 x6 x7; rw [step_nat h]; simp only [ih]
abbrev S : List (Nat × Sh) := [(0, .data (.int .i64)), (4, .data .str), (5, .data (.int .u64)), (6, .data .str), (7, .data (.int .i64))]
abbrev H : List (Nat × ESh) := []
abbrev cl : List (Place × Nat × Hint) := []
abbrev hn : List (Nat × Hint) := [(0, .any), (4, .any), (5, .any), (6, .any), (7, .any)]
abbrev kp : List Nat := []
abbrev rc : List (Place × Nat × Hint) := []
abbrev rs : List (Nat × Hint) := []
abbrev ri : List Nat := []
def KX (d : (Int × (List Int) × Int × (List Int) × Int × Unit)) (e : Unit) (v : (Int × ((List Int) × Int))) : St := ⟨mkS S (d.1, d.2.1, v.1, v.2.1, v.2.2, ()), mkH H (())⟩
def sum (k : Nat) : LoopSum := sigLoopX S cl hn kp H 0 (fun (d : (Int × (List Int) × Int × (List Int) × Int × Unit)) (e : Unit) => f k d.1 d.2.1 k d.2.2.1 d.2.2.2.1 d.2.2.2.2.1) KX
end l0
def tree {X : Type} (K : (List Int) → Option X) (k : Nat) (a0 : Int) (a1 : Int) : Option X :=
  (Option.bind (trailheadref05_Number.l0.f k a0 ([] : (List Int)) k (IntKind.wrap .u64 a1) ([] : (List Int)) (0 : Int)) (fun r1 => (K r1.2.1)))
def f (k : Nat) (a0 : Int) (a1 : Int) : Option (List Int) := tree (fun b0 => some b0) k a0 a1
theorem tree_nat {X Y : Type} (h : X → Option Y) (K : (List Int) → Option X) (k : Nat) (a0 : Int) (a1 : Int) : Option.bind (tree K k a0 a1) h = tree (fun b0 => Option.bind (K b0) h) k a0 a1 := by
  simp only [tree, bif_bind, sel_bind', Option.bind_assoc, Option.bind_none, Option.bind_some]
abbrev ps : List Sh := [.data (.int .i64), .data (.int .i64)]
abbrev hs : List (Nat × ESh) := []
abbrev hi : List Nat := hs.map (·.1)
abbrev fi : List Nat := []
abbrev cl : List (Place × Nat × Hint) := []
abbrev hn : List Hint := [.any]
def val (t : (List Int)) : AV := Sh.mk (.data .str) t
def wr (t : (List Int)) : Heap := []
def callee (k : Nat) : Callee := sigCallee ps hs (fun (d : (Int × Int × Unit)) (e : Unit) => f k d.1 d.2.1) val wr
def E (k : Nat) : Env := ⟨fnTab [], loopTab [(0, l0.sum k)], natsTab [], natTab []⟩
theorem fE (k : Nat) : ∀ f, ∀ c ∈ (E k).fn f, CalleeOK Try.prog f c := fnTab_ok trivial
namespace l0
theorem round (k : Nat) (d : (Int × (List Int) × Int × (List Int) × Int × Unit)) (e : Unit) (G : St → Option (Ex × St)) : roundK Try.prog (E k) 27 0 (subC (bodyOf Try.f33) [1, 1, 1, 0, 1, 0, 0]) (recast cl hn kp) (finBy cl hn kp rc rs ri) G ⟨mkS S d, mkH H e⟩ =
    step (fun x5 x6 x7 => some (.exit 0, KX d e (x5, x6, x7))) (fun x5 x6 x7 => G ⟨mkS S (d.1, d.2.1, x5, x6, x7, ()), mkH H (())⟩) k d.1 d.2.1 d.2.2.1 d.2.2.2.1 d.2.2.2.2.1 := by kernel_rfl
theorem it (k n : Nat) (d : (Int × (List Int) × Int × (List Int) × Int × Unit)) (e : Unit) : loopIt Try.prog (E k) 27 0 (subC (bodyOf Try.f33) [1, 1, 1, 0, 1, 0, 0]) (recast cl hn kp) (finBy cl hn kp rc rs ri) n ⟨mkS S d, mkH H e⟩ = go (fun x5 x6 x7 => some (.exit 0, KX d e (x5, x6, x7))) k d.1 d.2.1 n d.2.2.1 d.2.2.2.1 d.2.2.2.2.1 :=
  loopIt_eq (D := (Int × (List Int) × Int × (List Int) × Int × Unit) × Unit) (fun p => ⟨mkS S p.1, mkH H p.2⟩) (fun F p => step (fun x5 x6 x7 => some (.exit 0, KX p.1 p.2 (x5, x6, x7))) (fun x5 x6 x7 => F ((p.1.1, p.1.2.1, x5, x6, x7, ()), (()))) k p.1.1 p.1.2.1 p.1.2.2.1 p.1.2.2.2.1 p.1.2.2.2.2.1) (fun n p => go (fun x5 x6 x7 => some (.exit 0, KX p.1 p.2 (x5, x6, x7))) k p.1.1 p.1.2.1 n p.1.2.2.1 p.1.2.2.2.1 p.1.2.2.2.2.1) (fun _ => rfl) (fun _ _ => rfl) (fun G p => round k p.1 p.2 G) n (d, e)
theorem ok (k : Nat) : LoopOK Try.prog 27 (subC (bodyOf Try.f33) [1, 1, 1, 0, 1, 0, 0]) (sum k) :=
  loop_sigX hm (fE k) (loopsOK_of [] (by kernel_rfl) trivial) S cl hn kp H 0 (fun (d : (Int × (List Int) × Int × (List Int) × Int × Unit)) (e : Unit) => f k d.1 d.2.1 k d.2.2.1 d.2.2.2.1 d.2.2.2.2.1) KX cl hn kp rc rs ri k
    (fun d e => (it k k d e).trans (go_nat (fun v => some (Ex.exit 0, KX d e v)) (fun x5 x6 x7 => some (x5, x6, x7)) k d.1 d.2.1 k d.2.2.1 d.2.2.2.1 d.2.2.2.2.1).symm)
end l0
theorem run (k : Nat) (d : (Int × Int × Unit)) (e : Unit) : runFn Try.prog (E k) 27 (bodyOf Try.f33) Try.f33.results.toList cl hn hi (mkL ps d) (mkH hs e) =
    tree (fun b0 => leafFn hs fi e val wr b0) k d.1 d.2.1 := by kernel_rfl
theorem run_f (k : Nat) (d : (Int × Int × Unit)) (e : Unit) : runFn Try.prog (E k) 27 (bodyOf Try.f33) Try.f33.results.toList cl hn hi (mkL ps d) (mkH hs e) = (f k d.1 d.2.1).bind (leafFn hs fi e val wr) :=
  (run k d e).trans (tree_nat (leafFn hs fi e val wr) (fun b0 => some b0) k d.1 d.2.1).symm
theorem fnIs : FnIs Try.prog 33 Try.f33 (bodyOf Try.f33) 27 := ⟨by kernel_rfl, by kernel_rfl, by kernel_rfl, by kernel_rfl⟩
theorem ok (k : Nat) : CalleeOK Try.prog 33 (callee k) :=
  callee_sig (T := (List Int)) fnIs hm (fE k) (loopsOK_of [(0, subC (bodyOf Try.f33) [1, 1, 1, 0, 1, 0, 0])] (by kernel_rfl) ⟨of_loop (l0.sum k) rfl (l0.ok k), trivial⟩) ps hs cl hn fi (fun (d : (Int × Int × Unit)) (e : Unit) => f k d.1 d.2.1) val wr rfl (fun _ => rfl) (run_f k)
end trailheadref05_Number
namespace scroll_Pen_Count_v1
def tree {X : Type} (K : (List Int) → Option X) (k : Nat) (a1 : Int) (m1 : (List Int)) : Option X :=
  (bif (decide (a1 ≤ (252 : Int))) then (Option.bind (scroll_Pen_Put_v1.f k (1 : Int) ([(mxI a1 0)] : (List Int)) m1) (fun r1 => (K r1))) else (bif (decide (a1 ≤ (65535 : Int))) then (Option.bind (scroll_Pen_Put_v1.f k (1 : Int) ([253] : (List Int)) m1) (fun r2 => (Option.bind (scroll_Pen_Put_v1.f k (2 : Int) ([a1] : (List Int)) r2) (fun r3 => (K r3))))) else (bif (decide (a1 ≤ (4294967295 : Int))) then (Option.bind (scroll_Pen_Put_v1.f k (1 : Int) ([254] : (List Int)) m1) (fun r4 => (Option.bind (scroll_Pen_Put_v1.f k (4 : Int) ([a1] : (List Int)) r4) (fun r5 => (K r5))))) else (Option.bind (scroll_Pen_Put_v1.f k (1 : Int) ([255] : (List Int)) m1) (fun r6 => (Option.bind (scroll_Pen_Put_v1.f k (8 : Int) ([a1] : (List Int)) r6) (fun r7 => (K r7))))))))
def f (k : Nat) (a1 : Int) (m1 : (List Int)) : Option (List Int) := tree (fun b0 => some b0) k a1 m1
theorem tree_nat {X Y : Type} (h : X → Option Y) (K : (List Int) → Option X) (k : Nat) (a1 : Int) (m1 : (List Int)) : Option.bind (tree K k a1 m1) h = tree (fun b0 => Option.bind (K b0) h) k a1 m1 := by
  simp only [tree, bif_bind, sel_bind', Option.bind_assoc, Option.bind_none, Option.bind_some]
abbrev ps : List Sh := [.ptr 0, .data (.int .i64)]
abbrev hs : List (Nat × ESh) := [(0, .cell (.one (.vec 1))), (1, .rows 2 5 (.int .u8))]
abbrev hi : List Nat := hs.map (·.1)
abbrev fi : List Nat := [0, 1, 900002]
abbrev cl : List (Place × Nat × Hint) := []
abbrev hn : List Hint := []
def val (t : (List Int)) : AV := .tnil
def wr (t : (List Int)) : Heap := [(0, ESh.mk (.cell (.one (.vec 900002))) ()), (1, ESh.mk (.dead) ()), (900002, ESh.mk (.rows 2 5 (.int .u8)) t)]
def callee (k : Nat) : Callee := sigCallee ps hs (fun (d : (Unit × Int × Unit)) (e : (Unit × (List Int) × Unit)) => f k d.2.1 e.2.1) val wr
def E (k : Nat) : Env := ⟨fnTab [(21, [scroll_Pen_Put_v1.callee k])], loopTab [], natsTab [], natTab []⟩
theorem fE (k : Nat) : ∀ f, ∀ c ∈ (E k).fn f, CalleeOK Try.prog f c := fnTab_ok ⟨⟨scroll_Pen_Put_v1.ok k, trivial⟩, trivial⟩
theorem run (k : Nat) (d : (Unit × Int × Unit)) (e : (Unit × (List Int) × Unit)) : runFn Try.prog (E k) 39 (bodyOf Try.f31) Try.f31.results.toList cl hn hi (mkL ps d) (mkH hs e) =
    tree (fun b0 => leafFn hs fi e val wr b0) k d.2.1 e.2.1 := by kernel_rfl
theorem run_f (k : Nat) (d : (Unit × Int × Unit)) (e : (Unit × (List Int) × Unit)) : runFn Try.prog (E k) 39 (bodyOf Try.f31) Try.f31.results.toList cl hn hi (mkL ps d) (mkH hs e) = (f k d.2.1 e.2.1).bind (leafFn hs fi e val wr) :=
  (run k d e).trans (tree_nat (leafFn hs fi e val wr) (fun b0 => some b0) k d.2.1 e.2.1).symm
theorem fnIs : FnIs Try.prog 31 Try.f31 (bodyOf Try.f31) 39 := ⟨by kernel_rfl, by kernel_rfl, by kernel_rfl, by kernel_rfl⟩
theorem ok (k : Nat) : CalleeOK Try.prog 31 (callee k) :=
  callee_sig (T := (List Int)) fnIs hm (fE k) (loopsOK_of [] (by kernel_rfl) trivial) ps hs cl hn fi (fun (d : (Unit × Int × Unit)) (e : (Unit × (List Int) × Unit)) => f k d.2.1 e.2.1) val wr rfl (fun _ => rfl) (run_f k)
end scroll_Pen_Count_v1
namespace trailheadref05_Count
def tree {X : Type} (K : (List Int) → Option X) (k : Nat) (a0 : Int) : Option X :=
  (bif (decide (a0 < (0 : Int))) then (K ([0] : (List Int))) else (bif (decide (a0 < (253 : Int))) then (Option.bind (trailheadref05_Number.f k (1 : Int) a0) (fun r1 => (K r1))) else (bif (decide (a0 < (65536 : Int))) then (Option.bind (trailheadref05_Number.f k (2 : Int) a0) (fun r2 => (bif (fits (1 + (List.length r2))) then (K (([253] : (List Int)) ++ r2)) else none))) else (bif (decide (a0 < (4294967296 : Int))) then (Option.bind (trailheadref05_Number.f k (4 : Int) a0) (fun r3 => (bif (fits (1 + (List.length r3))) then (K (([254] : (List Int)) ++ r3)) else none))) else (Option.bind (trailheadref05_Number.f k (8 : Int) a0) (fun r4 => (bif (fits (1 + (List.length r4))) then (K (([255] : (List Int)) ++ r4)) else none)))))))
def f (k : Nat) (a0 : Int) : Option (List Int) := tree (fun b0 => some b0) k a0
theorem tree_nat {X Y : Type} (h : X → Option Y) (K : (List Int) → Option X) (k : Nat) (a0 : Int) : Option.bind (tree K k a0) h = tree (fun b0 => Option.bind (K b0) h) k a0 := by
  simp only [tree, bif_bind, sel_bind', Option.bind_assoc, Option.bind_none, Option.bind_some]
abbrev ps : List Sh := [.data (.int .i64)]
abbrev hs : List (Nat × ESh) := []
abbrev hi : List Nat := hs.map (·.1)
abbrev fi : List Nat := []
abbrev cl : List (Place × Nat × Hint) := []
abbrev hn : List Hint := [.any]
def val (t : (List Int)) : AV := Sh.mk (.data .str) t
def wr (t : (List Int)) : Heap := []
def callee (k : Nat) : Callee := sigCallee ps hs (fun (d : (Int × Unit)) (e : Unit) => f k d.1) val wr
def E (k : Nat) : Env := ⟨fnTab [(33, [trailheadref05_Number.callee k])], loopTab [], natsTab [], natTab []⟩
theorem fE (k : Nat) : ∀ f, ∀ c ∈ (E k).fn f, CalleeOK Try.prog f c := fnTab_ok ⟨⟨trailheadref05_Number.ok k, trivial⟩, trivial⟩
theorem run (k : Nat) (d : (Int × Unit)) (e : Unit) : runFn Try.prog (E k) 22 (bodyOf Try.f47) Try.f47.results.toList cl hn hi (mkL ps d) (mkH hs e) =
    tree (fun b0 => leafFn hs fi e val wr b0) k d.1 := by kernel_rfl
theorem run_f (k : Nat) (d : (Int × Unit)) (e : Unit) : runFn Try.prog (E k) 22 (bodyOf Try.f47) Try.f47.results.toList cl hn hi (mkL ps d) (mkH hs e) = (f k d.1).bind (leafFn hs fi e val wr) :=
  (run k d e).trans (tree_nat (leafFn hs fi e val wr) (fun b0 => some b0) k d.1).symm
theorem fnIs : FnIs Try.prog 47 Try.f47 (bodyOf Try.f47) 22 := ⟨by kernel_rfl, by kernel_rfl, by kernel_rfl, by kernel_rfl⟩
theorem ok (k : Nat) : CalleeOK Try.prog 47 (callee k) :=
  callee_sig (T := (List Int)) fnIs hm (fE k) (loopsOK_of [] (by kernel_rfl) trivial) ps hs cl hn fi (fun (d : (Int × Unit)) (e : Unit) => f k d.1) val wr rfl (fun _ => rfl) (run_f k)
end trailheadref05_Count
namespace scroll_Pen_Names
namespace l0
def step {X : Type} (K : Int → (List Int) → Option X) (G : Int → (List Int) → Option X) (k : Nat) (x7 : Int) (y1 : (List (List Int))) (x8 : Int) (y800003 : (List Int)) : Option X :=
  (bif (decide (x8 < x7)) then (bif (decide (0 ≤ x8)) then (bif (decide (x8 < ((List.length y1) : Int))) then (bif (decide ((Int.toNat x8) < (List.length y1))) then (bif (fits (((List.length y800003) + (List.length (List.take 32 (List.getD y1 (Int.toNat x8) (List.replicate 32 0 : (List Int)))))) * 1)) then (G (addI .i64 x8 1) (y800003 ++ (List.take 32 (List.getD y1 (Int.toNat x8) (List.replicate 32 0 : (List Int)))))) else none) else none) else none) else none) else (K x8 y800003))
def go {X : Type} (K : Int → (List Int) → Option X) (k : Nat) (x7 : Int) (y1 : (List (List Int))) : Nat → Int → (List Int) → Option X
  | 0, _, _ => none
  | n + 1, x8, y800003 => step K (go K k x7 y1 n) k x7 y1 x8 y800003
def f (k : Nat) (x7 : Int) (y1 : (List (List Int))) (n : Nat) (x8 : Int) (y800003 : (List Int)) : Option (Int × (List Int)) := go (fun x8 y800003 => some (x8, y800003)) k x7 y1 n x8 y800003
theorem step_nat {X Y : Type} (h : X → Option Y) (K : Int → (List Int) → Option X) (G : Int → (List Int) → Option X) (k : Nat) (x7 : Int) (y1 : (List (List Int))) (x8 : Int) (y800003 : (List Int)) : Option.bind (step K G k x7 y1 x8 y800003) h = step (fun x8 y800003 => Option.bind (K x8 y800003) h) (fun x8 y800003 => Option.bind (G x8 y800003) h) k x7 y1 x8 y800003 := by
  simp only [step, bif_bind, sel_bind', Option.bind_assoc, Option.bind_none, Option.bind_some]
theorem go_nat {X Y : Type} (h : X → Option Y) (K : Int → (List Int) → Option X) (k : Nat) (x7 : Int) (y1 : (List (List Int))) (n : Nat) : ∀ (x8 : Int) (y800003 : (List Int)), Option.bind (go K k x7 y1 n x8 y800003) h = go (fun x8 y800003 => Option.bind (K x8 y800003) h) k x7 y1 n x8 y800003 := by
  induction n with
  | zero => intros; rfl
  | succ n ih => intro x8 y800003; show Option.bind (step K (go K k x7 y1 n) k x7 y1 x8 y800003) h = step (fun x8 y800003 => Option.bind (K x8 y800003) h) (go (fun x8 y800003 => Option.bind (K x8 y800003) h) k x7 y1 n) k x7 y1 x8 y800003; rw [step_nat h]; simp only [ih]
abbrev S : List (Nat × Sh) := [(0, .ptr 0), (6, .vec 1), (7, .data (.int .i64)), (8, .data (.int .i64))]
abbrev H : List (Nat × ESh) := [(0, .cell (.one (.vec 800003))), (1, .rows 2 39 (.arr .u8 32)), (2, .dead), (800003, .rows 2 5 (.int .u8))]
abbrev cl : List (Place × Nat × Hint) := [(.id 0, 0, .move)]
abbrev hn : List (Nat × Hint) := [(0, .any), (6, .any), (7, .any), (8, .any)]
abbrev kp : List Nat := [0, 1, 2]
abbrev rc : List (Place × Nat × Hint) := []
abbrev rs : List (Nat × Hint) := []
abbrev ri : List Nat := [0, 1, 2]
def KX (d : (Unit × Unit × Int × Int × Unit)) (e : (Unit × (List (List Int)) × Unit × (List Int) × Unit)) (v : (Int × (List Int))) : St := ⟨mkS S ((), (), d.2.2.1, v.1, ()), mkH H ((), e.2.1, (), v.2, ())⟩
def sum (k : Nat) : LoopSum := sigLoopX S cl hn kp H 0 (fun (d : (Unit × Unit × Int × Int × Unit)) (e : (Unit × (List (List Int)) × Unit × (List Int) × Unit)) => f k d.2.2.1 e.2.1 k d.2.2.2.1 e.2.2.2.1) KX
end l0
def tree {X : Type} (K : (List Int) → Option X) (k : Nat) (m1 : (List (List Int))) (m2 : (List Int)) : Option X :=
  (Option.bind (scroll_Pen_Names.l0.f k ((List.length m1) : Int) m1 k (0 : Int) m2) (fun r1 => (K r1.2)))
def f (k : Nat) (m1 : (List (List Int))) (m2 : (List Int)) : Option (List Int) := tree (fun b0 => some b0) k m1 m2
theorem tree_nat {X Y : Type} (h : X → Option Y) (K : (List Int) → Option X) (k : Nat) (m1 : (List (List Int))) (m2 : (List Int)) : Option.bind (tree K k m1 m2) h = tree (fun b0 => Option.bind (K b0) h) k m1 m2 := by
  simp only [tree, bif_bind, sel_bind', Option.bind_assoc, Option.bind_none, Option.bind_some]
abbrev ps : List Sh := [.ptr 0, .vec 1]
abbrev hs : List (Nat × ESh) := [(0, .cell (.one (.vec 2))), (1, .rows 2 39 (.arr .u8 32)), (2, .rows 2 5 (.int .u8))]
abbrev hi : List Nat := hs.map (·.1)
abbrev fi : List Nat := [0, 1, 2, 900003]
abbrev cl : List (Place × Nat × Hint) := []
abbrev hn : List Hint := []
def val (t : (List Int)) : AV := .tnil
def wr (t : (List Int)) : Heap := [(0, ESh.mk (.cell (.one (.vec 900003))) ()), (2, ESh.mk (.dead) ()), (900003, ESh.mk (.rows 2 5 (.int .u8)) t)]
def callee (k : Nat) : Callee := sigCallee ps hs (fun (d : (Unit × Unit × Unit)) (e : (Unit × (List (List Int)) × (List Int) × Unit)) => f k e.2.1 e.2.2.1) val wr
def E (k : Nat) : Env := ⟨fnTab [], loopTab [(0, l0.sum k)], natsTab [], natTab []⟩
theorem fE (k : Nat) : ∀ f, ∀ c ∈ (E k).fn f, CalleeOK Try.prog f c := fnTab_ok trivial
namespace l0
theorem round (k : Nat) (d : (Unit × Unit × Int × Int × Unit)) (e : (Unit × (List (List Int)) × Unit × (List Int) × Unit)) (G : St → Option (Ex × St)) : roundK Try.prog (E k) 22 0 (subC (bodyOf Try.f15) [1, 0, 0]) (recast cl hn kp) (finBy cl hn kp rc rs ri) G ⟨mkS S d, mkH H e⟩ =
    step (fun x8 y800003 => some (.exit 0, KX d e (x8, y800003))) (fun x8 y800003 => G ⟨mkS S ((), (), d.2.2.1, x8, ()), mkH H ((), e.2.1, (), y800003, ())⟩) k d.2.2.1 e.2.1 d.2.2.2.1 e.2.2.2.1 := by kernel_rfl
theorem it (k n : Nat) (d : (Unit × Unit × Int × Int × Unit)) (e : (Unit × (List (List Int)) × Unit × (List Int) × Unit)) : loopIt Try.prog (E k) 22 0 (subC (bodyOf Try.f15) [1, 0, 0]) (recast cl hn kp) (finBy cl hn kp rc rs ri) n ⟨mkS S d, mkH H e⟩ = go (fun x8 y800003 => some (.exit 0, KX d e (x8, y800003))) k d.2.2.1 e.2.1 n d.2.2.2.1 e.2.2.2.1 :=
  loopIt_eq (D := (Unit × Unit × Int × Int × Unit) × (Unit × (List (List Int)) × Unit × (List Int) × Unit)) (fun p => ⟨mkS S p.1, mkH H p.2⟩) (fun F p => step (fun x8 y800003 => some (.exit 0, KX p.1 p.2 (x8, y800003))) (fun x8 y800003 => F (((), (), p.1.2.2.1, x8, ()), ((), p.2.2.1, (), y800003, ()))) k p.1.2.2.1 p.2.2.1 p.1.2.2.2.1 p.2.2.2.2.1) (fun n p => go (fun x8 y800003 => some (.exit 0, KX p.1 p.2 (x8, y800003))) k p.1.2.2.1 p.2.2.1 n p.1.2.2.2.1 p.2.2.2.2.1) (fun _ => rfl) (fun _ _ => rfl) (fun G p => round k p.1 p.2 G) n (d, e)
theorem ok (k : Nat) : LoopOK Try.prog 22 (subC (bodyOf Try.f15) [1, 0, 0]) (sum k) :=
  loop_sigX hm (fE k) (loopsOK_of [] (by kernel_rfl) trivial) S cl hn kp H 0 (fun (d : (Unit × Unit × Int × Int × Unit)) (e : (Unit × (List (List Int)) × Unit × (List Int) × Unit)) => f k d.2.2.1 e.2.1 k d.2.2.2.1 e.2.2.2.1) KX cl hn kp rc rs ri k
    (fun d e => (it k k d e).trans (go_nat (fun v => some (Ex.exit 0, KX d e v)) (fun x8 y800003 => some (x8, y800003)) k d.2.2.1 e.2.1 k d.2.2.2.1 e.2.2.2.1).symm)
end l0
theorem run (k : Nat) (d : (Unit × Unit × Unit)) (e : (Unit × (List (List Int)) × (List Int) × Unit)) : runFn Try.prog (E k) 22 (bodyOf Try.f15) Try.f15.results.toList cl hn hi (mkL ps d) (mkH hs e) =
    tree (fun b0 => leafFn hs fi e val wr b0) k e.2.1 e.2.2.1 := by kernel_rfl
theorem run_f (k : Nat) (d : (Unit × Unit × Unit)) (e : (Unit × (List (List Int)) × (List Int) × Unit)) : runFn Try.prog (E k) 22 (bodyOf Try.f15) Try.f15.results.toList cl hn hi (mkL ps d) (mkH hs e) = (f k e.2.1 e.2.2.1).bind (leafFn hs fi e val wr) :=
  (run k d e).trans (tree_nat (leafFn hs fi e val wr) (fun b0 => some b0) k e.2.1 e.2.2.1).symm
theorem fnIs : FnIs Try.prog 15 Try.f15 (bodyOf Try.f15) 22 := ⟨by kernel_rfl, by kernel_rfl, by kernel_rfl, by kernel_rfl⟩
theorem ok (k : Nat) : CalleeOK Try.prog 15 (callee k) :=
  callee_sig (T := (List Int)) fnIs hm (fE k) (loopsOK_of [(0, subC (bodyOf Try.f15) [1, 0, 0])] (by kernel_rfl) ⟨of_loop (l0.sum k) rfl (l0.ok k), trivial⟩) ps hs cl hn fi (fun (d : (Unit × Unit × Unit)) (e : (Unit × (List (List Int)) × (List Int) × Unit)) => f k e.2.1 e.2.2.1) val wr rfl (fun _ => rfl) (run_f k)
end scroll_Pen_Names
namespace trailheadref05_Name
namespace l0
def step {X : Type} (K : (List Int) → Int → Option X) (G : (List Int) → Int → Option X) (k : Nat) (x2 : (List Int)) (y800000 : (List Int)) (x3 : (List Int)) (x4 : Int) : Option X :=
  (bif (decide (x4 < (32 : Int))) then (bif (decide (0 ≤ x4)) then (bif (decide (x4 < 32)) then (bif (decide ((Int.toNat x4) < 32)) then (bif (fits ((List.length x3) + (List.length (toStr ([(List.getD y800000 (Int.toNat x4) 0)] : (List Int)))))) then (G (x3 ++ (toStr ([(List.getD y800000 (Int.toNat x4) 0)] : (List Int)))) (addI .i64 x4 1)) else none) else none) else none) else none) else (K x3 x4))
def go {X : Type} (K : (List Int) → Int → Option X) (k : Nat) (x2 : (List Int)) (y800000 : (List Int)) : Nat → (List Int) → Int → Option X
  | 0, _, _ => none
  | n + 1, x3, x4 => step K (go K k x2 y800000 n) k x2 y800000 x3 x4
def f (k : Nat) (x2 : (List Int)) (y800000 : (List Int)) (n : Nat) (x3 : (List Int)) (x4 : Int) : Option ((List Int) × Int) := go (fun x3 x4 => some (x3, x4)) k x2 y800000 n x3 x4
theorem step_nat {X Y : Type} (h : X → Option Y) (K : (List Int) → Int → Option X) (G : (List Int) → Int → Option X) (k : Nat) (x2 : (List Int)) (y800000 : (List Int)) (x3 : (List Int)) (x4 : Int) : Option.bind (step K G k x2 y800000 x3 x4) h = step (fun x3 x4 => Option.bind (K x3 x4) h) (fun x3 x4 => Option.bind (G x3 x4) h) k x2 y800000 x3 x4 := by
  simp only [step, bif_bind, sel_bind', Option.bind_assoc, Option.bind_none, Option.bind_some]
theorem go_nat {X Y : Type} (h : X → Option Y) (K : (List Int) → Int → Option X) (k : Nat) (x2 : (List Int)) (y800000 : (List Int)) (n : Nat) : ∀ (x3 : (List Int)) (x4 : Int), Option.bind (go K k x2 y800000 n x3 x4) h = go (fun x3 x4 => Option.bind (K x3 x4) h) k x2 y800000 n x3 x4 := by
  induction n with
  | zero => intros; rfl
  | succ n ih => intro x3 x4; show Option.bind (step K (go K k x2 y800000 n) k x2 y800000 x3 x4) h = step (fun x3 x4 => Option.bind (K x3 x4) h) (go (fun x3 x4 => Option.bind (K x3 x4) h) k x2 y800000 n) k x2 y800000 x3 x4; rw [step_nat h]; simp only [ih]
abbrev S : List (Nat × Sh) := [(1, .ptr 800000), (2, .data .str), (3, .data .str), (4, .data (.int .i64))]
abbrev H : List (Nat × ESh) := [(800000, .cell (.data (.arr .u8 32)))]
abbrev cl : List (Place × Nat × Hint) := []
abbrev hn : List (Nat × Hint) := [(1, .any), (2, .any), (3, .any), (4, .any)]
abbrev kp : List Nat := []
abbrev rc : List (Place × Nat × Hint) := []
abbrev rs : List (Nat × Hint) := []
abbrev ri : List Nat := []
def KX (d : (Unit × (List Int) × (List Int) × Int × Unit)) (e : ((List Int) × Unit)) (v : ((List Int) × Int)) : St := ⟨mkS S ((), d.2.1, v.1, v.2, ()), mkH H (e.1, ())⟩
def sum (k : Nat) : LoopSum := sigLoopX S cl hn kp H 0 (fun (d : (Unit × (List Int) × (List Int) × Int × Unit)) (e : ((List Int) × Unit)) => f k d.2.1 e.1 k d.2.2.1 d.2.2.2.1) KX
end l0
def tree {X : Type} (K : (List Int) → Option X) (k : Nat) (a0 : (List Int)) : Option X :=
  (Option.bind (trailheadref05_Name.l0.f k ([] : (List Int)) a0 k ([] : (List Int)) (0 : Int)) (fun r1 => (K r1.1)))
def f (k : Nat) (a0 : (List Int)) : Option (List Int) := tree (fun b0 => some b0) k a0
theorem tree_nat {X Y : Type} (h : X → Option Y) (K : (List Int) → Option X) (k : Nat) (a0 : (List Int)) : Option.bind (tree K k a0) h = tree (fun b0 => Option.bind (K b0) h) k a0 := by
  simp only [tree, bif_bind, sel_bind', Option.bind_assoc, Option.bind_none, Option.bind_some]
abbrev ps : List Sh := [.data (.arr .u8 32)]
abbrev hs : List (Nat × ESh) := []
abbrev hi : List Nat := hs.map (·.1)
abbrev fi : List Nat := []
abbrev cl : List (Place × Nat × Hint) := []
abbrev hn : List Hint := [.any]
def val (t : (List Int)) : AV := Sh.mk (.data .str) t
def wr (t : (List Int)) : Heap := []
def callee (k : Nat) : Callee := sigCallee ps hs (fun (d : ((List Int) × Unit)) (e : Unit) => f k d.1) val wr
def E (k : Nat) : Env := ⟨fnTab [], loopTab [(0, l0.sum k)], natsTab [], natTab []⟩
theorem fE (k : Nat) : ∀ f, ∀ c ∈ (E k).fn f, CalleeOK Try.prog f c := fnTab_ok trivial
namespace l0
theorem round (k : Nat) (d : (Unit × (List Int) × (List Int) × Int × Unit)) (e : ((List Int) × Unit)) (G : St → Option (Ex × St)) : roundK Try.prog (E k) 17 0 (subC (bodyOf Try.f48) [1, 1, 0, 1, 0, 0]) (recast cl hn kp) (finBy cl hn kp rc rs ri) G ⟨mkS S d, mkH H e⟩ =
    step (fun x3 x4 => some (.exit 0, KX d e (x3, x4))) (fun x3 x4 => G ⟨mkS S ((), d.2.1, x3, x4, ()), mkH H (e.1, ())⟩) k d.2.1 e.1 d.2.2.1 d.2.2.2.1 := by kernel_rfl
theorem it (k n : Nat) (d : (Unit × (List Int) × (List Int) × Int × Unit)) (e : ((List Int) × Unit)) : loopIt Try.prog (E k) 17 0 (subC (bodyOf Try.f48) [1, 1, 0, 1, 0, 0]) (recast cl hn kp) (finBy cl hn kp rc rs ri) n ⟨mkS S d, mkH H e⟩ = go (fun x3 x4 => some (.exit 0, KX d e (x3, x4))) k d.2.1 e.1 n d.2.2.1 d.2.2.2.1 :=
  loopIt_eq (D := (Unit × (List Int) × (List Int) × Int × Unit) × ((List Int) × Unit)) (fun p => ⟨mkS S p.1, mkH H p.2⟩) (fun F p => step (fun x3 x4 => some (.exit 0, KX p.1 p.2 (x3, x4))) (fun x3 x4 => F (((), p.1.2.1, x3, x4, ()), (p.2.1, ()))) k p.1.2.1 p.2.1 p.1.2.2.1 p.1.2.2.2.1) (fun n p => go (fun x3 x4 => some (.exit 0, KX p.1 p.2 (x3, x4))) k p.1.2.1 p.2.1 n p.1.2.2.1 p.1.2.2.2.1) (fun _ => rfl) (fun _ _ => rfl) (fun G p => round k p.1 p.2 G) n (d, e)
theorem ok (k : Nat) : LoopOK Try.prog 17 (subC (bodyOf Try.f48) [1, 1, 0, 1, 0, 0]) (sum k) :=
  loop_sigX hm (fE k) (loopsOK_of [] (by kernel_rfl) trivial) S cl hn kp H 0 (fun (d : (Unit × (List Int) × (List Int) × Int × Unit)) (e : ((List Int) × Unit)) => f k d.2.1 e.1 k d.2.2.1 d.2.2.2.1) KX cl hn kp rc rs ri k
    (fun d e => (it k k d e).trans (go_nat (fun v => some (Ex.exit 0, KX d e v)) (fun x3 x4 => some (x3, x4)) k d.2.1 e.1 k d.2.2.1 d.2.2.2.1).symm)
end l0
theorem run (k : Nat) (d : ((List Int) × Unit)) (e : Unit) : runFn Try.prog (E k) 17 (bodyOf Try.f48) Try.f48.results.toList cl hn hi (mkL ps d) (mkH hs e) =
    tree (fun b0 => leafFn hs fi e val wr b0) k d.1 := by kernel_rfl
theorem run_f (k : Nat) (d : ((List Int) × Unit)) (e : Unit) : runFn Try.prog (E k) 17 (bodyOf Try.f48) Try.f48.results.toList cl hn hi (mkL ps d) (mkH hs e) = (f k d.1).bind (leafFn hs fi e val wr) :=
  (run k d e).trans (tree_nat (leafFn hs fi e val wr) (fun b0 => some b0) k d.1).symm
theorem fnIs : FnIs Try.prog 48 Try.f48 (bodyOf Try.f48) 17 := ⟨by kernel_rfl, by kernel_rfl, by kernel_rfl, by kernel_rfl⟩
theorem ok (k : Nat) : CalleeOK Try.prog 48 (callee k) :=
  callee_sig (T := (List Int)) fnIs hm (fE k) (loopsOK_of [(0, subC (bodyOf Try.f48) [1, 1, 0, 1, 0, 0])] (by kernel_rfl) ⟨of_loop (l0.sum k) rfl (l0.ok k), trivial⟩) ps hs cl hn fi (fun (d : ((List Int) × Unit)) (e : Unit) => f k d.1) val wr rfl (fun _ => rfl) (run_f k)
end trailheadref05_Name
namespace scroll_Pen_Raw
def tree {X : Type} (K : (List Int) → Option X) (k : Nat) (a1 : (List Int)) (m1 : (List Int)) : Option X :=
  (bif (fits (((List.length m1) + (List.length a1)) * 1)) then (K (m1 ++ a1)) else none)
def f (k : Nat) (a1 : (List Int)) (m1 : (List Int)) : Option (List Int) := tree (fun b0 => some b0) k a1 m1
theorem tree_nat {X Y : Type} (h : X → Option Y) (K : (List Int) → Option X) (k : Nat) (a1 : (List Int)) (m1 : (List Int)) : Option.bind (tree K k a1 m1) h = tree (fun b0 => Option.bind (K b0) h) k a1 m1 := by
  simp only [tree, bif_bind, sel_bind', Option.bind_assoc, Option.bind_none, Option.bind_some]
abbrev ps : List Sh := [.ptr 0, .data .str]
abbrev hs : List (Nat × ESh) := [(0, .cell (.one (.vec 1))), (1, .rows 2 5 (.int .u8))]
abbrev hi : List Nat := hs.map (·.1)
abbrev fi : List Nat := [0, 1, 900002]
abbrev cl : List (Place × Nat × Hint) := []
abbrev hn : List Hint := []
def val (t : (List Int)) : AV := .tnil
def wr (t : (List Int)) : Heap := [(0, ESh.mk (.cell (.one (.vec 900002))) ()), (1, ESh.mk (.dead) ()), (900002, ESh.mk (.rows 2 5 (.int .u8)) t)]
def callee (k : Nat) : Callee := sigCallee ps hs (fun (d : (Unit × (List Int) × Unit)) (e : (Unit × (List Int) × Unit)) => f k d.2.1 e.2.1) val wr
def E (k : Nat) : Env := ⟨fnTab [], loopTab [], natsTab [], natTab []⟩
theorem fE (k : Nat) : ∀ f, ∀ c ∈ (E k).fn f, CalleeOK Try.prog f c := fnTab_ok trivial
theorem run (k : Nat) (d : (Unit × (List Int) × Unit)) (e : (Unit × (List Int) × Unit)) : runFn Try.prog (E k) 13 (bodyOf Try.f22) Try.f22.results.toList cl hn hi (mkL ps d) (mkH hs e) =
    tree (fun b0 => leafFn hs fi e val wr b0) k d.2.1 e.2.1 := by kernel_rfl
theorem run_f (k : Nat) (d : (Unit × (List Int) × Unit)) (e : (Unit × (List Int) × Unit)) : runFn Try.prog (E k) 13 (bodyOf Try.f22) Try.f22.results.toList cl hn hi (mkL ps d) (mkH hs e) = (f k d.2.1 e.2.1).bind (leafFn hs fi e val wr) :=
  (run k d e).trans (tree_nat (leafFn hs fi e val wr) (fun b0 => some b0) k d.2.1 e.2.1).symm
theorem fnIs : FnIs Try.prog 22 Try.f22 (bodyOf Try.f22) 13 := ⟨by kernel_rfl, by kernel_rfl, by kernel_rfl, by kernel_rfl⟩
theorem ok (k : Nat) : CalleeOK Try.prog 22 (callee k) :=
  callee_sig (T := (List Int)) fnIs hm (fE k) (loopsOK_of [] (by kernel_rfl) trivial) ps hs cl hn fi (fun (d : (Unit × (List Int) × Unit)) (e : (Unit × (List Int) × Unit)) => f k d.2.1 e.2.1) val wr rfl (fun _ => rfl) (run_f k)
end scroll_Pen_Raw
namespace trailheadlaw05_put
namespace l0
def step {X : Type} (K : (List Int) → Int → (List Int) → Option X) (G : (List Int) → Int → (List Int) → Option X) (k : Nat) (x2 : (List Int)) (x3 : (List Int)) (x11 : Int) (y0 : (List (Int × (Int × (Int × ((List Int) × (List Int))))))) (x5 : (List Int)) (x12 : Int) (y800002 : (List Int)) : Option X :=
  (bif (decide (x12 < x11)) then (bif (decide (0 ≤ x12)) then (bif (decide (x12 < ((List.length y0) : Int))) then (bif (decide ((Int.toNat x12) < (List.length y0))) then (bif (((List.getD y0 (Int.toNat x12) (((0 : Int), (((0 : Int), (((0 : Int), (((List.replicate 32 0 : (List Int)), ([] : (List Int))) : ((List Int) × (List Int)))) : (Int × ((List Int) × (List Int))))) : (Int × (Int × ((List Int) × (List Int)))))) : (Int × (Int × (Int × ((List Int) × (List Int)))))))).1 == (0 : Int)) then (Option.bind (scroll_Pen_Put_v1.f k (((List.getD y0 (Int.toNat x12) (((0 : Int), (((0 : Int), (((0 : Int), (((List.replicate 32 0 : (List Int)), ([] : (List Int))) : ((List Int) × (List Int)))) : (Int × ((List Int) × (List Int))))) : (Int × (Int × ((List Int) × (List Int)))))) : (Int × (Int × (Int × ((List Int) × (List Int)))))))).2).1 ([((((List.getD y0 (Int.toNat x12) (((0 : Int), (((0 : Int), (((0 : Int), (((List.replicate 32 0 : (List Int)), ([] : (List Int))) : ((List Int) × (List Int)))) : (Int × ((List Int) × (List Int))))) : (Int × (Int × ((List Int) × (List Int)))))) : (Int × (Int × (Int × ((List Int) × (List Int)))))))).2).2).1, ((((List.getD y0 (Int.toNat x12) (((0 : Int), (((0 : Int), (((0 : Int), (((List.replicate 32 0 : (List Int)), ([] : (List Int))) : ((List Int) × (List Int)))) : (Int × ((List Int) × (List Int))))) : (Int × (Int × ((List Int) × (List Int)))))) : (Int × (Int × (Int × ((List Int) × (List Int)))))))).2).2).1] : (List Int)) y800002) (fun r1 => (Option.bind (trailheadref05_Number.f k (((List.getD y0 (Int.toNat x12) (((0 : Int), (((0 : Int), (((0 : Int), (((List.replicate 32 0 : (List Int)), ([] : (List Int))) : ((List Int) × (List Int)))) : (Int × ((List Int) × (List Int))))) : (Int × (Int × ((List Int) × (List Int)))))) : (Int × (Int × (Int × ((List Int) × (List Int)))))))).2).1 ((((List.getD y0 (Int.toNat x12) (((0 : Int), (((0 : Int), (((0 : Int), (((List.replicate 32 0 : (List Int)), ([] : (List Int))) : ((List Int) × (List Int)))) : (Int × ((List Int) × (List Int))))) : (Int × (Int × ((List Int) × (List Int)))))) : (Int × (Int × (Int × ((List Int) × (List Int)))))))).2).2).1) (fun r2 => (bif (fits ((List.length x5) + (List.length r2))) then (Option.bind (trailheadref05_Number.f k (((List.getD y0 (Int.toNat x12) (((0 : Int), (((0 : Int), (((0 : Int), (((List.replicate 32 0 : (List Int)), ([] : (List Int))) : ((List Int) × (List Int)))) : (Int × ((List Int) × (List Int))))) : (Int × (Int × ((List Int) × (List Int)))))) : (Int × (Int × (Int × ((List Int) × (List Int)))))))).2).1 ((((List.getD y0 (Int.toNat x12) (((0 : Int), (((0 : Int), (((0 : Int), (((List.replicate 32 0 : (List Int)), ([] : (List Int))) : ((List Int) × (List Int)))) : (Int × ((List Int) × (List Int))))) : (Int × (Int × ((List Int) × (List Int)))))) : (Int × (Int × (Int × ((List Int) × (List Int)))))))).2).2).1) (fun r3 => (bif (fits ((List.length (x5 ++ r2)) + (List.length r3))) then (G ((x5 ++ r2) ++ r3) (addI .i64 x12 1) r1) else none))) else none))))) else (bif (((List.getD y0 (Int.toNat x12) (((0 : Int), (((0 : Int), (((0 : Int), (((List.replicate 32 0 : (List Int)), ([] : (List Int))) : ((List Int) × (List Int)))) : (Int × ((List Int) × (List Int))))) : (Int × (Int × ((List Int) × (List Int)))))) : (Int × (Int × (Int × ((List Int) × (List Int)))))))).1 == (1 : Int)) then (Option.bind (scroll_Pen_Count_v1.f k ((((List.getD y0 (Int.toNat x12) (((0 : Int), (((0 : Int), (((0 : Int), (((List.replicate 32 0 : (List Int)), ([] : (List Int))) : ((List Int) × (List Int)))) : (Int × ((List Int) × (List Int))))) : (Int × (Int × ((List Int) × (List Int)))))) : (Int × (Int × (Int × ((List Int) × (List Int)))))))).2).2).1 y800002) (fun r4 => (Option.bind (trailheadref05_Count.f k ((((List.getD y0 (Int.toNat x12) (((0 : Int), (((0 : Int), (((0 : Int), (((List.replicate 32 0 : (List Int)), ([] : (List Int))) : ((List Int) × (List Int)))) : (Int × ((List Int) × (List Int))))) : (Int × (Int × ((List Int) × (List Int)))))) : (Int × (Int × (Int × ((List Int) × (List Int)))))))).2).2).1) (fun r5 => (bif (fits ((List.length x5) + (List.length r5))) then (G (x5 ++ r5) (addI .i64 x12 1) r4) else none))))) else (bif (((List.getD y0 (Int.toNat x12) (((0 : Int), (((0 : Int), (((0 : Int), (((List.replicate 32 0 : (List Int)), ([] : (List Int))) : ((List Int) × (List Int)))) : (Int × ((List Int) × (List Int))))) : (Int × (Int × ((List Int) × (List Int)))))) : (Int × (Int × (Int × ((List Int) × (List Int)))))))).1 == (2 : Int)) then (Option.bind (scroll_Pen_Names.f k ([(((((List.getD y0 (Int.toNat x12) (((0 : Int), (((0 : Int), (((0 : Int), (((List.replicate 32 0 : (List Int)), ([] : (List Int))) : ((List Int) × (List Int)))) : (Int × ((List Int) × (List Int))))) : (Int × (Int × ((List Int) × (List Int)))))) : (Int × (Int × (Int × ((List Int) × (List Int)))))))).2).2).2).1] : (List (List Int))) y800002) (fun r6 => (Option.bind (trailheadref05_Name.f k (((((List.getD y0 (Int.toNat x12) (((0 : Int), (((0 : Int), (((0 : Int), (((List.replicate 32 0 : (List Int)), ([] : (List Int))) : ((List Int) × (List Int)))) : (Int × ((List Int) × (List Int))))) : (Int × (Int × ((List Int) × (List Int)))))) : (Int × (Int × (Int × ((List Int) × (List Int)))))))).2).2).2).1) (fun r7 => (bif (fits ((List.length x5) + (List.length r7))) then (G (x5 ++ r7) (addI .i64 x12 1) r6) else none))))) else (bif (((List.getD y0 (Int.toNat x12) (((0 : Int), (((0 : Int), (((0 : Int), (((List.replicate 32 0 : (List Int)), ([] : (List Int))) : ((List Int) × (List Int)))) : (Int × ((List Int) × (List Int))))) : (Int × (Int × ((List Int) × (List Int)))))) : (Int × (Int × (Int × ((List Int) × (List Int)))))))).1 == (3 : Int)) then (Option.bind (scroll_Pen_Raw.f k (((((List.getD y0 (Int.toNat x12) (((0 : Int), (((0 : Int), (((0 : Int), (((List.replicate 32 0 : (List Int)), ([] : (List Int))) : ((List Int) × (List Int)))) : (Int × ((List Int) × (List Int))))) : (Int × (Int × ((List Int) × (List Int)))))) : (Int × (Int × (Int × ((List Int) × (List Int)))))))).2).2).2).2 y800002) (fun r8 => (bif (fits ((List.length x5) + (List.length (((((List.getD y0 (Int.toNat x12) (((0 : Int), (((0 : Int), (((0 : Int), (((List.replicate 32 0 : (List Int)), ([] : (List Int))) : ((List Int) × (List Int)))) : (Int × ((List Int) × (List Int))))) : (Int × (Int × ((List Int) × (List Int)))))) : (Int × (Int × (Int × ((List Int) × (List Int)))))))).2).2).2).2))) then (G (x5 ++ (((((List.getD y0 (Int.toNat x12) (((0 : Int), (((0 : Int), (((0 : Int), (((List.replicate 32 0 : (List Int)), ([] : (List Int))) : ((List Int) × (List Int)))) : (Int × ((List Int) × (List Int))))) : (Int × (Int × ((List Int) × (List Int)))))) : (Int × (Int × (Int × ((List Int) × (List Int)))))))).2).2).2).2) (addI .i64 x12 1) r8) else none))) else (G x5 (addI .i64 x12 1) y800002))))) else none) else none) else none) else (K x5 x12 y800002))
def go {X : Type} (K : (List Int) → Int → (List Int) → Option X) (k : Nat) (x2 : (List Int)) (x3 : (List Int)) (x11 : Int) (y0 : (List (Int × (Int × (Int × ((List Int) × (List Int))))))) : Nat → (List Int) → Int → (List Int) → Option X
  | 0, _, _, _ => none
  | n + 1, x5, x12, y800002 => step K (go K k x2 x3 x11 y0 n) k x2 x3 x11 y0 x5 x12 y800002
def f (k : Nat) (x2 : (List Int)) (x3 : (List Int)) (x11 : Int) (y0 : (List (Int × (Int × (Int × ((List Int) × (List Int))))))) (n : Nat) (x5 : (List Int)) (x12 : Int) (y800002 : (List Int)) : Option ((List Int) × (Int × (List Int))) := go (fun x5 x12 y800002 => some (x5, x12, y800002)) k x2 x3 x11 y0 n x5 x12 y800002
theorem step_nat {X Y : Type} (h : X → Option Y) (K : (List Int) → Int → (List Int) → Option X) (G : (List Int) → Int → (List Int) → Option X) (k : Nat) (x2 : (List Int)) (x3 : (List Int)) (x11 : Int) (y0 : (List (Int × (Int × (Int × ((List Int) × (List Int))))))) (x5 : (List Int)) (x12 : Int) (y800002 : (List Int)) : Option.bind (step K G k x2 x3 x11 y0 x5 x12 y800002) h = step (fun x5 x12 y800002 => Option.bind (K x5 x12 y800002) h) (fun x5 x12 y800002 => Option.bind (G x5 x12 y800002) h) k x2 x3 x11 y0 x5 x12 y800002 := by
  simp only [step, bif_bind, sel_bind', Option.bind_assoc, Option.bind_none, Option.bind_some]
theorem go_nat {X Y : Type} (h : X → Option Y) (K : (List Int) → Int → (List Int) → Option X) (k : Nat) (x2 : (List Int)) (x3 : (List Int)) (x11 : Int) (y0 : (List (Int × (Int × (Int × ((List Int) × (List Int))))))) (n : Nat) : ∀ (x5 : (List Int)) (x12 : Int) (y800002 : (List Int)), Option.bind (go K k x2 x3 x11 y0 n x5 x12 y800002) h = go (fun x5 x12 y800002 => Option.bind (K x5 x12 y800002) h) k x2 x3 x11 y0 n x5 x12 y800002 := by
  induction n with
  | zero => intros; rfl
  | succ n ih => intro x5 x12 y800002; show Option.bind (step K (go K k x2 x3 x11 y0 n) k x2 x3 x11 y0 x5 x12 y800002) h = step (fun x5 x12 y800002 => Option.bind (K x5 x12 y800002) h) (go (fun x5 x12 y800002 => Option.bind (K x5 x12 y800002) h) k x2 x3 x11 y0 n) k x2 x3 x11 y0 x5 x12 y800002; rw [step_nat h]; simp only [ih]
abbrev S : List (Nat × Sh) := [(2, .data .str), (3, .data .str), (4, .ptr 800001), (5, .data .str), (10, .vec 0), (11, .data (.int .i64)), (12, .data (.int .i64))]
abbrev H : List (Nat × ESh) := [(0, .rows 0 59 (.pair (.int .i64) (.pair (.int .i64) (.pair (.int .i64) (.pair (.arr .u8 32) .str))))), (800001, .cell (.one (.vec 800002))), (800002, .rows 2 5 (.int .u8))]
abbrev cl : List (Place × Nat × Hint) := [(.slot 4, 0, (.row 2 5 (.int .u8)))]
abbrev hn : List (Nat × Hint) := [(2, .any), (3, .any), (4, .any), (5, .any), (10, .any), (11, .any), (12, .any)]
abbrev kp : List Nat := [0]
abbrev rc : List (Place × Nat × Hint) := []
abbrev rs : List (Nat × Hint) := []
abbrev ri : List Nat := [0]
def KX (d : ((List Int) × (List Int) × Unit × (List Int) × Unit × Int × Int × Unit)) (e : ((List (Int × (Int × (Int × ((List Int) × (List Int)))))) × Unit × (List Int) × Unit)) (v : ((List Int) × (Int × (List Int)))) : St := ⟨mkS S (d.1, d.2.1, (), v.1, (), d.2.2.2.2.2.1, v.2.1, ()), mkH H (e.1, (), v.2.2, ())⟩
def sum (k : Nat) : LoopSum := sigLoopX S cl hn kp H 0 (fun (d : ((List Int) × (List Int) × Unit × (List Int) × Unit × Int × Int × Unit)) (e : ((List (Int × (Int × (Int × ((List Int) × (List Int)))))) × Unit × (List Int) × Unit)) => f k d.1 d.2.1 d.2.2.2.2.2.1 e.1 k d.2.2.2.1 d.2.2.2.2.2.2.1 e.2.2.1) KX
end l0
def tree {X : Type} (K : (List Int) → (List Int) → Option X) (k : Nat) (m0 : (List (Int × (Int × (Int × ((List Int) × (List Int))))))) : Option X :=
  (Option.bind (trailheadlaw05_put.l0.f k ([] : (List Int)) ([] : (List Int)) ((List.length m0) : Int) m0 k ([] : (List Int)) (0 : Int) ([] : (List Int))) (fun r9 => (Option.bind (scroll_Pen_Text.f k r9.2.2) (fun r10 => (K r10 r9.1)))))
def f (k : Nat) (m0 : (List (Int × (Int × (Int × ((List Int) × (List Int))))))) : Option ((List Int) × (List Int)) := tree (fun b0 b1 => some (b0, b1)) k m0
theorem tree_nat {X Y : Type} (h : X → Option Y) (K : (List Int) → (List Int) → Option X) (k : Nat) (m0 : (List (Int × (Int × (Int × ((List Int) × (List Int))))))) : Option.bind (tree K k m0) h = tree (fun b0 b1 => Option.bind (K b0 b1) h) k m0 := by
  simp only [tree, bif_bind, sel_bind', Option.bind_assoc, Option.bind_none, Option.bind_some]
abbrev ps : List Sh := [.vec 0]
abbrev hs : List (Nat × ESh) := [(0, .rows 0 59 (.pair (.int .i64) (.pair (.int .i64) (.pair (.int .i64) (.pair (.arr .u8 32) .str)))))]
abbrev hi : List Nat := hs.map (·.1)
abbrev fi : List Nat := [0]
abbrev cl : List (Place × Nat × Hint) := []
abbrev hn : List Hint := [.any, .any]
def val (t : ((List Int) × (List Int))) : AV := .tcons (Sh.mk (.data .str) t.1) (.tcons (Sh.mk (.data .str) t.2) .tnil)
def wr (t : ((List Int) × (List Int))) : Heap := []
def callee (k : Nat) : Callee := sigCallee ps hs (fun (d : (Unit × Unit)) (e : ((List (Int × (Int × (Int × ((List Int) × (List Int)))))) × Unit)) => f k e.1) val wr
def E (k : Nat) : Env := ⟨fnTab [(21, [scroll_Pen_Put_v1.callee k]), (33, [trailheadref05_Number.callee k]), (31, [scroll_Pen_Count_v1.callee k]), (47, [trailheadref05_Count.callee k]), (15, [scroll_Pen_Names.callee k]), (48, [trailheadref05_Name.callee k]), (22, [scroll_Pen_Raw.callee k]), (17, [scroll_Pen_Text.callee k])], loopTab [(0, l0.sum k)], natsTab [], natTab []⟩
theorem fE (k : Nat) : ∀ f, ∀ c ∈ (E k).fn f, CalleeOK Try.prog f c := fnTab_ok ⟨⟨scroll_Pen_Put_v1.ok k, trivial⟩, ⟨trailheadref05_Number.ok k, trivial⟩, ⟨scroll_Pen_Count_v1.ok k, trivial⟩, ⟨trailheadref05_Count.ok k, trivial⟩, ⟨scroll_Pen_Names.ok k, trivial⟩, ⟨trailheadref05_Name.ok k, trivial⟩, ⟨scroll_Pen_Raw.ok k, trivial⟩, ⟨scroll_Pen_Text.ok k, trivial⟩, trivial⟩
namespace l0
theorem round (k : Nat) (d : ((List Int) × (List Int) × Unit × (List Int) × Unit × Int × Int × Unit)) (e : ((List (Int × (Int × (Int × ((List Int) × (List Int)))))) × Unit × (List Int) × Unit)) (G : St → Option (Ex × St)) : roundK Try.prog (E k) 79 0 (subC (bodyOf Try.f14) [1, 1, 1, 0, 1, 0, 0]) (recast cl hn kp) (finBy cl hn kp rc rs ri) G ⟨mkS S d, mkH H e⟩ =
    step (fun x5 x12 y800002 => some (.exit 0, KX d e (x5, x12, y800002))) (fun x5 x12 y800002 => G ⟨mkS S (d.1, d.2.1, (), x5, (), d.2.2.2.2.2.1, x12, ()), mkH H (e.1, (), y800002, ())⟩) k d.1 d.2.1 d.2.2.2.2.2.1 e.1 d.2.2.2.1 d.2.2.2.2.2.2.1 e.2.2.1 := by kernel_rfl
theorem it (k n : Nat) (d : ((List Int) × (List Int) × Unit × (List Int) × Unit × Int × Int × Unit)) (e : ((List (Int × (Int × (Int × ((List Int) × (List Int)))))) × Unit × (List Int) × Unit)) : loopIt Try.prog (E k) 79 0 (subC (bodyOf Try.f14) [1, 1, 1, 0, 1, 0, 0]) (recast cl hn kp) (finBy cl hn kp rc rs ri) n ⟨mkS S d, mkH H e⟩ = go (fun x5 x12 y800002 => some (.exit 0, KX d e (x5, x12, y800002))) k d.1 d.2.1 d.2.2.2.2.2.1 e.1 n d.2.2.2.1 d.2.2.2.2.2.2.1 e.2.2.1 :=
  loopIt_eq (D := ((List Int) × (List Int) × Unit × (List Int) × Unit × Int × Int × Unit) × ((List (Int × (Int × (Int × ((List Int) × (List Int)))))) × Unit × (List Int) × Unit)) (fun p => ⟨mkS S p.1, mkH H p.2⟩) (fun F p => step (fun x5 x12 y800002 => some (.exit 0, KX p.1 p.2 (x5, x12, y800002))) (fun x5 x12 y800002 => F ((p.1.1, p.1.2.1, (), x5, (), p.1.2.2.2.2.2.1, x12, ()), (p.2.1, (), y800002, ()))) k p.1.1 p.1.2.1 p.1.2.2.2.2.2.1 p.2.1 p.1.2.2.2.1 p.1.2.2.2.2.2.2.1 p.2.2.2.1) (fun n p => go (fun x5 x12 y800002 => some (.exit 0, KX p.1 p.2 (x5, x12, y800002))) k p.1.1 p.1.2.1 p.1.2.2.2.2.2.1 p.2.1 n p.1.2.2.2.1 p.1.2.2.2.2.2.2.1 p.2.2.2.1) (fun _ => rfl) (fun _ _ => rfl) (fun G p => round k p.1 p.2 G) n (d, e)
theorem ok (k : Nat) : LoopOK Try.prog 79 (subC (bodyOf Try.f14) [1, 1, 1, 0, 1, 0, 0]) (sum k) :=
  loop_sigX hm (fE k) (loopsOK_of [] (by kernel_rfl) trivial) S cl hn kp H 0 (fun (d : ((List Int) × (List Int) × Unit × (List Int) × Unit × Int × Int × Unit)) (e : ((List (Int × (Int × (Int × ((List Int) × (List Int)))))) × Unit × (List Int) × Unit)) => f k d.1 d.2.1 d.2.2.2.2.2.1 e.1 k d.2.2.2.1 d.2.2.2.2.2.2.1 e.2.2.1) KX cl hn kp rc rs ri k
    (fun d e => (it k k d e).trans (go_nat (fun v => some (Ex.exit 0, KX d e v)) (fun x5 x12 y800002 => some (x5, x12, y800002)) k d.1 d.2.1 d.2.2.2.2.2.1 e.1 k d.2.2.2.1 d.2.2.2.2.2.2.1 e.2.2.1).symm)
end l0
theorem run (k : Nat) (d : (Unit × Unit)) (e : ((List (Int × (Int × (Int × ((List Int) × (List Int)))))) × Unit)) : runFn Try.prog (E k) 79 (bodyOf Try.f14) Try.f14.results.toList cl hn hi (mkL ps d) (mkH hs e) =
    tree (fun b0 b1 => leafFn hs fi e val wr (b0, b1)) k e.1 := by kernel_rfl
theorem run_f (k : Nat) (d : (Unit × Unit)) (e : ((List (Int × (Int × (Int × ((List Int) × (List Int)))))) × Unit)) : runFn Try.prog (E k) 79 (bodyOf Try.f14) Try.f14.results.toList cl hn hi (mkL ps d) (mkH hs e) = (f k e.1).bind (leafFn hs fi e val wr) :=
  (run k d e).trans (tree_nat (leafFn hs fi e val wr) (fun b0 b1 => some (b0, b1)) k e.1).symm
theorem fnIs : FnIs Try.prog 14 Try.f14 (bodyOf Try.f14) 79 := ⟨by kernel_rfl, by kernel_rfl, by kernel_rfl, by kernel_rfl⟩
theorem ok (k : Nat) : CalleeOK Try.prog 14 (callee k) :=
  callee_sig (T := ((List Int) × (List Int))) fnIs hm (fE k) (loopsOK_of [(0, subC (bodyOf Try.f14) [1, 1, 1, 0, 1, 0, 0])] (by kernel_rfl) ⟨of_loop (l0.sum k) rfl (l0.ok k), trivial⟩) ps hs cl hn fi (fun (d : (Unit × Unit)) (e : ((List (Int × (Int × (Int × ((List Int) × (List Int)))))) × Unit)) => f k e.1) val wr rfl (fun _ => rfl) (run_f k)
end trailheadlaw05_put
namespace trailheadlaw05_put_v1
namespace l0
def step {X : Type} (K : (List Int) → Int → (List Int) → Option X) (G : (List Int) → Int → (List Int) → Option X) (k : Nat) (x2 : (List Int)) (x3 : (List Int)) (x11 : Int) (y0 : (List (Int × (Int × (Int × ((List Int) × (List Int))))))) (x5 : (List Int)) (x12 : Int) (y800002 : (List Int)) : Option X :=
  (bif (decide (x12 < x11)) then (bif (decide (0 ≤ x12)) then (bif (decide (x12 < ((List.length y0) : Int))) then (bif (decide ((Int.toNat x12) < (List.length y0))) then (bif (((List.getD y0 (Int.toNat x12) (((0 : Int), (((0 : Int), (((0 : Int), (((List.replicate 32 0 : (List Int)), ([] : (List Int))) : ((List Int) × (List Int)))) : (Int × ((List Int) × (List Int))))) : (Int × (Int × ((List Int) × (List Int)))))) : (Int × (Int × (Int × ((List Int) × (List Int)))))))).1 == (0 : Int)) then (Option.bind (scroll_Pen_Put_v1.f k (((List.getD y0 (Int.toNat x12) (((0 : Int), (((0 : Int), (((0 : Int), (((List.replicate 32 0 : (List Int)), ([] : (List Int))) : ((List Int) × (List Int)))) : (Int × ((List Int) × (List Int))))) : (Int × (Int × ((List Int) × (List Int)))))) : (Int × (Int × (Int × ((List Int) × (List Int)))))))).2).1 ([((((List.getD y0 (Int.toNat x12) (((0 : Int), (((0 : Int), (((0 : Int), (((List.replicate 32 0 : (List Int)), ([] : (List Int))) : ((List Int) × (List Int)))) : (Int × ((List Int) × (List Int))))) : (Int × (Int × ((List Int) × (List Int)))))) : (Int × (Int × (Int × ((List Int) × (List Int)))))))).2).2).1, ((((List.getD y0 (Int.toNat x12) (((0 : Int), (((0 : Int), (((0 : Int), (((List.replicate 32 0 : (List Int)), ([] : (List Int))) : ((List Int) × (List Int)))) : (Int × ((List Int) × (List Int))))) : (Int × (Int × ((List Int) × (List Int)))))) : (Int × (Int × (Int × ((List Int) × (List Int)))))))).2).2).1] : (List Int)) y800002) (fun r1 => (Option.bind (trailheadref05_Number.f k (((List.getD y0 (Int.toNat x12) (((0 : Int), (((0 : Int), (((0 : Int), (((List.replicate 32 0 : (List Int)), ([] : (List Int))) : ((List Int) × (List Int)))) : (Int × ((List Int) × (List Int))))) : (Int × (Int × ((List Int) × (List Int)))))) : (Int × (Int × (Int × ((List Int) × (List Int)))))))).2).1 ((((List.getD y0 (Int.toNat x12) (((0 : Int), (((0 : Int), (((0 : Int), (((List.replicate 32 0 : (List Int)), ([] : (List Int))) : ((List Int) × (List Int)))) : (Int × ((List Int) × (List Int))))) : (Int × (Int × ((List Int) × (List Int)))))) : (Int × (Int × (Int × ((List Int) × (List Int)))))))).2).2).1) (fun r2 => (bif (fits ((List.length x5) + (List.length r2))) then (Option.bind (trailheadref05_Number.f k (((List.getD y0 (Int.toNat x12) (((0 : Int), (((0 : Int), (((0 : Int), (((List.replicate 32 0 : (List Int)), ([] : (List Int))) : ((List Int) × (List Int)))) : (Int × ((List Int) × (List Int))))) : (Int × (Int × ((List Int) × (List Int)))))) : (Int × (Int × (Int × ((List Int) × (List Int)))))))).2).1 ((((List.getD y0 (Int.toNat x12) (((0 : Int), (((0 : Int), (((0 : Int), (((List.replicate 32 0 : (List Int)), ([] : (List Int))) : ((List Int) × (List Int)))) : (Int × ((List Int) × (List Int))))) : (Int × (Int × ((List Int) × (List Int)))))) : (Int × (Int × (Int × ((List Int) × (List Int)))))))).2).2).1) (fun r3 => (bif (fits ((List.length (x5 ++ r2)) + (List.length r3))) then (G ((x5 ++ r2) ++ r3) (addI .i64 x12 1) r1) else none))) else none))))) else (bif (((List.getD y0 (Int.toNat x12) (((0 : Int), (((0 : Int), (((0 : Int), (((List.replicate 32 0 : (List Int)), ([] : (List Int))) : ((List Int) × (List Int)))) : (Int × ((List Int) × (List Int))))) : (Int × (Int × ((List Int) × (List Int)))))) : (Int × (Int × (Int × ((List Int) × (List Int)))))))).1 == (1 : Int)) then (Option.bind (scroll_Pen_Count_v1.f k ((((List.getD y0 (Int.toNat x12) (((0 : Int), (((0 : Int), (((0 : Int), (((List.replicate 32 0 : (List Int)), ([] : (List Int))) : ((List Int) × (List Int)))) : (Int × ((List Int) × (List Int))))) : (Int × (Int × ((List Int) × (List Int)))))) : (Int × (Int × (Int × ((List Int) × (List Int)))))))).2).2).1 y800002) (fun r4 => (Option.bind (trailheadref05_Count.f k ((((List.getD y0 (Int.toNat x12) (((0 : Int), (((0 : Int), (((0 : Int), (((List.replicate 32 0 : (List Int)), ([] : (List Int))) : ((List Int) × (List Int)))) : (Int × ((List Int) × (List Int))))) : (Int × (Int × ((List Int) × (List Int)))))) : (Int × (Int × (Int × ((List Int) × (List Int)))))))).2).2).1) (fun r5 => (bif (fits ((List.length x5) + (List.length r5))) then (G (x5 ++ r5) (addI .i64 x12 1) r4) else none))))) else (bif (((List.getD y0 (Int.toNat x12) (((0 : Int), (((0 : Int), (((0 : Int), (((List.replicate 32 0 : (List Int)), ([] : (List Int))) : ((List Int) × (List Int)))) : (Int × ((List Int) × (List Int))))) : (Int × (Int × ((List Int) × (List Int)))))) : (Int × (Int × (Int × ((List Int) × (List Int)))))))).1 == (2 : Int)) then (Option.bind (scroll_Pen_Names.f k ([(((((List.getD y0 (Int.toNat x12) (((0 : Int), (((0 : Int), (((0 : Int), (((List.replicate 32 0 : (List Int)), ([] : (List Int))) : ((List Int) × (List Int)))) : (Int × ((List Int) × (List Int))))) : (Int × (Int × ((List Int) × (List Int)))))) : (Int × (Int × (Int × ((List Int) × (List Int)))))))).2).2).2).1] : (List (List Int))) y800002) (fun r6 => (Option.bind (trailheadref05_Name.f k (((((List.getD y0 (Int.toNat x12) (((0 : Int), (((0 : Int), (((0 : Int), (((List.replicate 32 0 : (List Int)), ([] : (List Int))) : ((List Int) × (List Int)))) : (Int × ((List Int) × (List Int))))) : (Int × (Int × ((List Int) × (List Int)))))) : (Int × (Int × (Int × ((List Int) × (List Int)))))))).2).2).2).1) (fun r7 => (bif (fits ((List.length x5) + (List.length r7))) then (G (x5 ++ r7) (addI .i64 x12 1) r6) else none))))) else (bif (((List.getD y0 (Int.toNat x12) (((0 : Int), (((0 : Int), (((0 : Int), (((List.replicate 32 0 : (List Int)), ([] : (List Int))) : ((List Int) × (List Int)))) : (Int × ((List Int) × (List Int))))) : (Int × (Int × ((List Int) × (List Int)))))) : (Int × (Int × (Int × ((List Int) × (List Int)))))))).1 == (3 : Int)) then (Option.bind (scroll_Pen_Raw.f k (((((List.getD y0 (Int.toNat x12) (((0 : Int), (((0 : Int), (((0 : Int), (((List.replicate 32 0 : (List Int)), ([] : (List Int))) : ((List Int) × (List Int)))) : (Int × ((List Int) × (List Int))))) : (Int × (Int × ((List Int) × (List Int)))))) : (Int × (Int × (Int × ((List Int) × (List Int)))))))).2).2).2).2 y800002) (fun r8 => (bif (fits ((List.length x5) + (List.length (((((List.getD y0 (Int.toNat x12) (((0 : Int), (((0 : Int), (((0 : Int), (((List.replicate 32 0 : (List Int)), ([] : (List Int))) : ((List Int) × (List Int)))) : (Int × ((List Int) × (List Int))))) : (Int × (Int × ((List Int) × (List Int)))))) : (Int × (Int × (Int × ((List Int) × (List Int)))))))).2).2).2).2))) then (G (x5 ++ (((((List.getD y0 (Int.toNat x12) (((0 : Int), (((0 : Int), (((0 : Int), (((List.replicate 32 0 : (List Int)), ([] : (List Int))) : ((List Int) × (List Int)))) : (Int × ((List Int) × (List Int))))) : (Int × (Int × ((List Int) × (List Int)))))) : (Int × (Int × (Int × ((List Int) × (List Int)))))))).2).2).2).2) (addI .i64 x12 1) r8) else none))) else (G x5 (addI .i64 x12 1) y800002))))) else none) else none) else none) else (K x5 x12 y800002))
def go {X : Type} (K : (List Int) → Int → (List Int) → Option X) (k : Nat) (x2 : (List Int)) (x3 : (List Int)) (x11 : Int) (y0 : (List (Int × (Int × (Int × ((List Int) × (List Int))))))) : Nat → (List Int) → Int → (List Int) → Option X
  | 0, _, _, _ => none
  | n + 1, x5, x12, y800002 => step K (go K k x2 x3 x11 y0 n) k x2 x3 x11 y0 x5 x12 y800002
def f (k : Nat) (x2 : (List Int)) (x3 : (List Int)) (x11 : Int) (y0 : (List (Int × (Int × (Int × ((List Int) × (List Int))))))) (n : Nat) (x5 : (List Int)) (x12 : Int) (y800002 : (List Int)) : Option ((List Int) × (Int × (List Int))) := go (fun x5 x12 y800002 => some (x5, x12, y800002)) k x2 x3 x11 y0 n x5 x12 y800002
theorem step_nat {X Y : Type} (h : X → Option Y) (K : (List Int) → Int → (List Int) → Option X) (G : (List Int) → Int → (List Int) → Option X) (k : Nat) (x2 : (List Int)) (x3 : (List Int)) (x11 : Int) (y0 : (List (Int × (Int × (Int × ((List Int) × (List Int))))))) (x5 : (List Int)) (x12 : Int) (y800002 : (List Int)) : Option.bind (step K G k x2 x3 x11 y0 x5 x12 y800002) h = step (fun x5 x12 y800002 => Option.bind (K x5 x12 y800002) h) (fun x5 x12 y800002 => Option.bind (G x5 x12 y800002) h) k x2 x3 x11 y0 x5 x12 y800002 := by
  simp only [step, bif_bind, sel_bind', Option.bind_assoc, Option.bind_none, Option.bind_some]
theorem go_nat {X Y : Type} (h : X → Option Y) (K : (List Int) → Int → (List Int) → Option X) (k : Nat) (x2 : (List Int)) (x3 : (List Int)) (x11 : Int) (y0 : (List (Int × (Int × (Int × ((List Int) × (List Int))))))) (n : Nat) : ∀ (x5 : (List Int)) (x12 : Int) (y800002 : (List Int)), Option.bind (go K k x2 x3 x11 y0 n x5 x12 y800002) h = go (fun x5 x12 y800002 => Option.bind (K x5 x12 y800002) h) k x2 x3 x11 y0 n x5 x12 y800002 := by
  induction n with
  | zero => intros; rfl
  | succ n ih => intro x5 x12 y800002; show Option.bind (step K (go K k x2 x3 x11 y0 n) k x2 x3 x11 y0 x5 x12 y800002) h = step (fun x5 x12 y800002 => Option.bind (K x5 x12 y800002) h) (go (fun x5 x12 y800002 => Option.bind (K x5 x12 y800002) h) k x2 x3 x11 y0 n) k x2 x3 x11 y0 x5 x12 y800002; rw [step_nat h]; simp only [ih]
abbrev S : List (Nat × Sh) := [(2, .data .str), (3, .data .str), (4, .ptr 800001), (5, .data .str), (10, .vec 0), (11, .data (.int .i64)), (12, .data (.int .i64))]
abbrev H : List (Nat × ESh) := [(0, .rows 2 59 (.pair (.int .i64) (.pair (.int .i64) (.pair (.int .i64) (.pair (.arr .u8 32) .str))))), (800001, .cell (.one (.vec 800002))), (800002, .rows 2 5 (.int .u8))]
abbrev cl : List (Place × Nat × Hint) := [(.slot 4, 0, (.row 2 5 (.int .u8)))]
abbrev hn : List (Nat × Hint) := [(2, .any), (3, .any), (4, .any), (5, .any), (10, .any), (11, .any), (12, .any)]
abbrev kp : List Nat := [0]
abbrev rc : List (Place × Nat × Hint) := []
abbrev rs : List (Nat × Hint) := []
abbrev ri : List Nat := [0]
def KX (d : ((List Int) × (List Int) × Unit × (List Int) × Unit × Int × Int × Unit)) (e : ((List (Int × (Int × (Int × ((List Int) × (List Int)))))) × Unit × (List Int) × Unit)) (v : ((List Int) × (Int × (List Int)))) : St := ⟨mkS S (d.1, d.2.1, (), v.1, (), d.2.2.2.2.2.1, v.2.1, ()), mkH H (e.1, (), v.2.2, ())⟩
def sum (k : Nat) : LoopSum := sigLoopX S cl hn kp H 0 (fun (d : ((List Int) × (List Int) × Unit × (List Int) × Unit × Int × Int × Unit)) (e : ((List (Int × (Int × (Int × ((List Int) × (List Int)))))) × Unit × (List Int) × Unit)) => f k d.1 d.2.1 d.2.2.2.2.2.1 e.1 k d.2.2.2.1 d.2.2.2.2.2.2.1 e.2.2.1) KX
end l0
def tree {X : Type} (K : (List Int) → (List Int) → Option X) (k : Nat) (m0 : (List (Int × (Int × (Int × ((List Int) × (List Int))))))) : Option X :=
  (Option.bind (trailheadlaw05_put_v1.l0.f k ([] : (List Int)) ([] : (List Int)) ((List.length m0) : Int) m0 k ([] : (List Int)) (0 : Int) ([] : (List Int))) (fun r9 => (Option.bind (scroll_Pen_Text.f k r9.2.2) (fun r10 => (K r10 r9.1)))))
def f (k : Nat) (m0 : (List (Int × (Int × (Int × ((List Int) × (List Int))))))) : Option ((List Int) × (List Int)) := tree (fun b0 b1 => some (b0, b1)) k m0
theorem tree_nat {X Y : Type} (h : X → Option Y) (K : (List Int) → (List Int) → Option X) (k : Nat) (m0 : (List (Int × (Int × (Int × ((List Int) × (List Int))))))) : Option.bind (tree K k m0) h = tree (fun b0 b1 => Option.bind (K b0 b1) h) k m0 := by
  simp only [tree, bif_bind, sel_bind', Option.bind_assoc, Option.bind_none, Option.bind_some]
abbrev ps : List Sh := [.vec 0]
abbrev hs : List (Nat × ESh) := [(0, .rows 2 59 (.pair (.int .i64) (.pair (.int .i64) (.pair (.int .i64) (.pair (.arr .u8 32) .str)))))]
abbrev hi : List Nat := hs.map (·.1)
abbrev fi : List Nat := [0]
abbrev cl : List (Place × Nat × Hint) := []
abbrev hn : List Hint := [.any, .any]
def val (t : ((List Int) × (List Int))) : AV := .tcons (Sh.mk (.data .str) t.1) (.tcons (Sh.mk (.data .str) t.2) .tnil)
def wr (t : ((List Int) × (List Int))) : Heap := []
def callee (k : Nat) : Callee := sigCallee ps hs (fun (d : (Unit × Unit)) (e : ((List (Int × (Int × (Int × ((List Int) × (List Int)))))) × Unit)) => f k e.1) val wr
def E (k : Nat) : Env := ⟨fnTab [(21, [scroll_Pen_Put_v1.callee k]), (33, [trailheadref05_Number.callee k]), (31, [scroll_Pen_Count_v1.callee k]), (47, [trailheadref05_Count.callee k]), (15, [scroll_Pen_Names.callee k]), (48, [trailheadref05_Name.callee k]), (22, [scroll_Pen_Raw.callee k]), (17, [scroll_Pen_Text.callee k])], loopTab [(0, l0.sum k)], natsTab [], natTab []⟩
theorem fE (k : Nat) : ∀ f, ∀ c ∈ (E k).fn f, CalleeOK Try.prog f c := fnTab_ok ⟨⟨scroll_Pen_Put_v1.ok k, trivial⟩, ⟨trailheadref05_Number.ok k, trivial⟩, ⟨scroll_Pen_Count_v1.ok k, trivial⟩, ⟨trailheadref05_Count.ok k, trivial⟩, ⟨scroll_Pen_Names.ok k, trivial⟩, ⟨trailheadref05_Name.ok k, trivial⟩, ⟨scroll_Pen_Raw.ok k, trivial⟩, ⟨scroll_Pen_Text.ok k, trivial⟩, trivial⟩
namespace l0
theorem round (k : Nat) (d : ((List Int) × (List Int) × Unit × (List Int) × Unit × Int × Int × Unit)) (e : ((List (Int × (Int × (Int × ((List Int) × (List Int)))))) × Unit × (List Int) × Unit)) (G : St → Option (Ex × St)) : roundK Try.prog (E k) 79 0 (subC (bodyOf Try.f14) [1, 1, 1, 0, 1, 0, 0]) (recast cl hn kp) (finBy cl hn kp rc rs ri) G ⟨mkS S d, mkH H e⟩ =
    step (fun x5 x12 y800002 => some (.exit 0, KX d e (x5, x12, y800002))) (fun x5 x12 y800002 => G ⟨mkS S (d.1, d.2.1, (), x5, (), d.2.2.2.2.2.1, x12, ()), mkH H (e.1, (), y800002, ())⟩) k d.1 d.2.1 d.2.2.2.2.2.1 e.1 d.2.2.2.1 d.2.2.2.2.2.2.1 e.2.2.1 := by kernel_rfl
theorem it (k n : Nat) (d : ((List Int) × (List Int) × Unit × (List Int) × Unit × Int × Int × Unit)) (e : ((List (Int × (Int × (Int × ((List Int) × (List Int)))))) × Unit × (List Int) × Unit)) : loopIt Try.prog (E k) 79 0 (subC (bodyOf Try.f14) [1, 1, 1, 0, 1, 0, 0]) (recast cl hn kp) (finBy cl hn kp rc rs ri) n ⟨mkS S d, mkH H e⟩ = go (fun x5 x12 y800002 => some (.exit 0, KX d e (x5, x12, y800002))) k d.1 d.2.1 d.2.2.2.2.2.1 e.1 n d.2.2.2.1 d.2.2.2.2.2.2.1 e.2.2.1 :=
  loopIt_eq (D := ((List Int) × (List Int) × Unit × (List Int) × Unit × Int × Int × Unit) × ((List (Int × (Int × (Int × ((List Int) × (List Int)))))) × Unit × (List Int) × Unit)) (fun p => ⟨mkS S p.1, mkH H p.2⟩) (fun F p => step (fun x5 x12 y800002 => some (.exit 0, KX p.1 p.2 (x5, x12, y800002))) (fun x5 x12 y800002 => F ((p.1.1, p.1.2.1, (), x5, (), p.1.2.2.2.2.2.1, x12, ()), (p.2.1, (), y800002, ()))) k p.1.1 p.1.2.1 p.1.2.2.2.2.2.1 p.2.1 p.1.2.2.2.1 p.1.2.2.2.2.2.2.1 p.2.2.2.1) (fun n p => go (fun x5 x12 y800002 => some (.exit 0, KX p.1 p.2 (x5, x12, y800002))) k p.1.1 p.1.2.1 p.1.2.2.2.2.2.1 p.2.1 n p.1.2.2.2.1 p.1.2.2.2.2.2.2.1 p.2.2.2.1) (fun _ => rfl) (fun _ _ => rfl) (fun G p => round k p.1 p.2 G) n (d, e)
theorem ok (k : Nat) : LoopOK Try.prog 79 (subC (bodyOf Try.f14) [1, 1, 1, 0, 1, 0, 0]) (sum k) :=
  loop_sigX hm (fE k) (loopsOK_of [] (by kernel_rfl) trivial) S cl hn kp H 0 (fun (d : ((List Int) × (List Int) × Unit × (List Int) × Unit × Int × Int × Unit)) (e : ((List (Int × (Int × (Int × ((List Int) × (List Int)))))) × Unit × (List Int) × Unit)) => f k d.1 d.2.1 d.2.2.2.2.2.1 e.1 k d.2.2.2.1 d.2.2.2.2.2.2.1 e.2.2.1) KX cl hn kp rc rs ri k
    (fun d e => (it k k d e).trans (go_nat (fun v => some (Ex.exit 0, KX d e v)) (fun x5 x12 y800002 => some (x5, x12, y800002)) k d.1 d.2.1 d.2.2.2.2.2.1 e.1 k d.2.2.2.1 d.2.2.2.2.2.2.1 e.2.2.1).symm)
end l0
theorem run (k : Nat) (d : (Unit × Unit)) (e : ((List (Int × (Int × (Int × ((List Int) × (List Int)))))) × Unit)) : runFn Try.prog (E k) 79 (bodyOf Try.f14) Try.f14.results.toList cl hn hi (mkL ps d) (mkH hs e) =
    tree (fun b0 b1 => leafFn hs fi e val wr (b0, b1)) k e.1 := by kernel_rfl
theorem run_f (k : Nat) (d : (Unit × Unit)) (e : ((List (Int × (Int × (Int × ((List Int) × (List Int)))))) × Unit)) : runFn Try.prog (E k) 79 (bodyOf Try.f14) Try.f14.results.toList cl hn hi (mkL ps d) (mkH hs e) = (f k e.1).bind (leafFn hs fi e val wr) :=
  (run k d e).trans (tree_nat (leafFn hs fi e val wr) (fun b0 b1 => some (b0, b1)) k e.1).symm
theorem fnIs : FnIs Try.prog 14 Try.f14 (bodyOf Try.f14) 79 := ⟨by kernel_rfl, by kernel_rfl, by kernel_rfl, by kernel_rfl⟩
theorem ok (k : Nat) : CalleeOK Try.prog 14 (callee k) :=
  callee_sig (T := ((List Int) × (List Int))) fnIs hm (fE k) (loopsOK_of [(0, subC (bodyOf Try.f14) [1, 1, 1, 0, 1, 0, 0])] (by kernel_rfl) ⟨of_loop (l0.sum k) rfl (l0.ok k), trivial⟩) ps hs cl hn fi (fun (d : (Unit × Unit)) (e : ((List (Int × (Int × (Int × ((List Int) × (List Int)))))) × Unit)) => f k e.1) val wr rfl (fun _ => rfl) (run_f k)
end trailheadlaw05_put_v1
namespace trailheadlaw05_ScrollParts
def tree {X : Type} (K : Bool → Option X) (k : Nat) (m0 : (List (Int × (Int × (Int × ((List Int) × (List Int))))))) (m1 : (List (Int × (Int × (Int × ((List Int) × (List Int))))))) : Option X :=
  (Option.bind (trailheadlaw05_alive.f k) (fun r1 => (bif (!r1) then (K false) else (Option.bind (trailheadlaw05_great.f k m0) (fun r2 => (bif r2 then (K true) else (Option.bind (trailheadlaw05_great.f k m1) (fun r3 => (bif r3 then (K true) else (bif (decide ((addI .i64 ((List.length m0) : Int) ((List.length m1) : Int)) > (40 : Int))) then (K true) else (Option.bind (trailheadlaw05_put.f k m0) (fun r4 => (Option.bind (trailheadlaw05_put.f k m1) (fun r5 => (bif (fits ((0 + (List.length m0)) * 72)) then (bif (fits (((List.length (([] : (List (Int × (Int × (Int × ((List Int) × (List Int))))))) ++ m0)) + (List.length m1)) * 72)) then (Option.bind (trailheadlaw05_put_v1.f k ((([] : (List (Int × (Int × (Int × ((List Int) × (List Int))))))) ++ m0) ++ m1)) (fun r6 => (bif (fits ((List.length r4.1) + (List.length r5.1))) then (K (decide (r6.1 = (r4.1 ++ r5.1)))) else none))) else none) else none)))))))))))))))
def f (k : Nat) (m0 : (List (Int × (Int × (Int × ((List Int) × (List Int))))))) (m1 : (List (Int × (Int × (Int × ((List Int) × (List Int))))))) : Option Bool := tree (fun b0 => some b0) k m0 m1
theorem tree_nat {X Y : Type} (h : X → Option Y) (K : Bool → Option X) (k : Nat) (m0 : (List (Int × (Int × (Int × ((List Int) × (List Int))))))) (m1 : (List (Int × (Int × (Int × ((List Int) × (List Int))))))) : Option.bind (tree K k m0 m1) h = tree (fun b0 => Option.bind (K b0) h) k m0 m1 := by
  simp only [tree, bif_bind, sel_bind', Option.bind_assoc, Option.bind_none, Option.bind_some]
abbrev ps : List Sh := [.vec 0, .vec 1]
abbrev hs : List (Nat × ESh) := [(0, .rows 0 59 (.pair (.int .i64) (.pair (.int .i64) (.pair (.int .i64) (.pair (.arr .u8 32) .str))))), (1, .rows 0 59 (.pair (.int .i64) (.pair (.int .i64) (.pair (.int .i64) (.pair (.arr .u8 32) .str)))))]
abbrev hi : List Nat := hs.map (·.1)
abbrev fi : List Nat := [0, 1]
abbrev cl : List (Place × Nat × Hint) := []
abbrev hn : List Hint := [.any]
def val (t : Bool) : AV := Sh.mk (.data .bool) t
def wr (t : Bool) : Heap := []
def callee (k : Nat) : Callee := sigCallee ps hs (fun (d : (Unit × Unit × Unit)) (e : ((List (Int × (Int × (Int × ((List Int) × (List Int)))))) × (List (Int × (Int × (Int × ((List Int) × (List Int)))))) × Unit)) => f k e.1 e.2.1) val wr
def E (k : Nat) : Env := ⟨fnTab [(12, [trailheadlaw05_alive.callee k]), (13, [trailheadlaw05_great.callee k]), (14, [trailheadlaw05_put.callee k, trailheadlaw05_put_v1.callee k])], loopTab [], natsTab [], natTab []⟩
theorem fE (k : Nat) : ∀ f, ∀ c ∈ (E k).fn f, CalleeOK Try.prog f c := fnTab_ok ⟨⟨trailheadlaw05_alive.ok k, trivial⟩, ⟨trailheadlaw05_great.ok k, trivial⟩, ⟨trailheadlaw05_put.ok k, trailheadlaw05_put_v1.ok k, trivial⟩, trivial⟩
theorem run (k : Nat) (d : (Unit × Unit × Unit)) (e : ((List (Int × (Int × (Int × ((List Int) × (List Int)))))) × (List (Int × (Int × (Int × ((List Int) × (List Int)))))) × Unit)) : runFn Try.prog (E k) 51 (bodyOf Try.f3) Try.f3.results.toList cl hn hi (mkL ps d) (mkH hs e) =
    tree (fun b0 => leafFn hs fi e val wr b0) k e.1 e.2.1 := by kernel_rfl
theorem run_f (k : Nat) (d : (Unit × Unit × Unit)) (e : ((List (Int × (Int × (Int × ((List Int) × (List Int)))))) × (List (Int × (Int × (Int × ((List Int) × (List Int)))))) × Unit)) : runFn Try.prog (E k) 51 (bodyOf Try.f3) Try.f3.results.toList cl hn hi (mkL ps d) (mkH hs e) = (f k e.1 e.2.1).bind (leafFn hs fi e val wr) :=
  (run k d e).trans (tree_nat (leafFn hs fi e val wr) (fun b0 => some b0) k e.1 e.2.1).symm
theorem fnIs : FnIs Try.prog 3 Try.f3 (bodyOf Try.f3) 51 := ⟨by kernel_rfl, by kernel_rfl, by kernel_rfl, by kernel_rfl⟩
theorem ok (k : Nat) : CalleeOK Try.prog 3 (callee k) :=
  callee_sig (T := Bool) fnIs hm (fE k) (loopsOK_of [] (by kernel_rfl) trivial) ps hs cl hn fi (fun (d : (Unit × Unit × Unit)) (e : ((List (Int × (Int × (Int × ((List Int) × (List Int)))))) × (List (Int × (Int × (Int × ((List Int) × (List Int)))))) × Unit)) => f k e.1 e.2.1) val wr rfl (fun _ => rfl) (run_f k)
end trailheadlaw05_ScrollParts
namespace scroll_Pen_Names_v1
namespace l0
def step {X : Type} (K : Int → (List Int) → Option X) (G : Int → (List Int) → Option X) (k : Nat) (x7 : Int) (y1 : (List (List Int))) (x8 : Int) (y800002 : (List Int)) : Option X :=
  (bif (decide (x8 < x7)) then (bif (decide (0 ≤ x8)) then (bif (decide (x8 < ((List.length y1) : Int))) then (bif (decide ((Int.toNat x8) < (List.length y1))) then (bif (fits (((List.length y800002) + (List.length (List.take 32 (List.getD y1 (Int.toNat x8) (List.replicate 32 0 : (List Int)))))) * 1)) then (G (addI .i64 x8 1) (y800002 ++ (List.take 32 (List.getD y1 (Int.toNat x8) (List.replicate 32 0 : (List Int)))))) else none) else none) else none) else none) else (K x8 y800002))
def go {X : Type} (K : Int → (List Int) → Option X) (k : Nat) (x7 : Int) (y1 : (List (List Int))) : Nat → Int → (List Int) → Option X
  | 0, _, _ => none
  | n + 1, x8, y800002 => step K (go K k x7 y1 n) k x7 y1 x8 y800002
def f (k : Nat) (x7 : Int) (y1 : (List (List Int))) (n : Nat) (x8 : Int) (y800002 : (List Int)) : Option (Int × (List Int)) := go (fun x8 y800002 => some (x8, y800002)) k x7 y1 n x8 y800002
theorem step_nat {X Y : Type} (h : X → Option Y) (K : Int → (List Int) → Option X) (G : Int → (List Int) → Option X) (k : Nat) (x7 : Int) (y1 : (List (List Int))) (x8 : Int) (y800002 : (List Int)) : Option.bind (step K G k x7 y1 x8 y800002) h = step (fun x8 y800002 => Option.bind (K x8 y800002) h) (fun x8 y800002 => Option.bind (G x8 y800002) h) k x7 y1 x8 y800002 := by
  simp only [step, bif_bind, sel_bind', Option.bind_assoc, Option.bind_none, Option.bind_some]
theorem go_nat {X Y : Type} (h : X → Option Y) (K : Int → (List Int) → Option X) (k : Nat) (x7 : Int) (y1 : (List (List Int))) (n : Nat) : ∀ (x8 : Int) (y800002 : (List Int)), Option.bind (go K k x7 y1 n x8 y800002) h = go (fun x8 y800002 => Option.bind (K x8 y800002) h) k x7 y1 n x8 y800002 := by
  induction n with
  | zero => intros; rfl
  | succ n ih => intro x8 y800002; show Option.bind (step K (go K k x7 y1 n) k x7 y1 x8 y800002) h = step (fun x8 y800002 => Option.bind (K x8 y800002) h) (go (fun x8 y800002 => Option.bind (K x8 y800002) h) k x7 y1 n) k x7 y1 x8 y800002; rw [step_nat h]; simp only [ih]
abbrev S : List (Nat × Sh) := [(0, .ptr 0), (6, .vec 1), (7, .data (.int .i64)), (8, .data (.int .i64))]
abbrev H : List (Nat × ESh) := [(0, .cell (.one (.vec 800002))), (1, .rows 0 39 (.arr .u8 32)), (800002, .rows 2 5 (.int .u8))]
abbrev cl : List (Place × Nat × Hint) := [(.id 0, 0, (.row 2 5 (.int .u8)))]
abbrev hn : List (Nat × Hint) := [(0, .any), (6, .any), (7, .any), (8, .any)]
abbrev kp : List Nat := [0, 1]
abbrev rc : List (Place × Nat × Hint) := []
abbrev rs : List (Nat × Hint) := []
abbrev ri : List Nat := [0, 1]
def KX (d : (Unit × Unit × Int × Int × Unit)) (e : (Unit × (List (List Int)) × (List Int) × Unit)) (v : (Int × (List Int))) : St := ⟨mkS S ((), (), d.2.2.1, v.1, ()), mkH H ((), e.2.1, v.2, ())⟩
def sum (k : Nat) : LoopSum := sigLoopX S cl hn kp H 0 (fun (d : (Unit × Unit × Int × Int × Unit)) (e : (Unit × (List (List Int)) × (List Int) × Unit)) => f k d.2.2.1 e.2.1 k d.2.2.2.1 e.2.2.1) KX
end l0
def tree {X : Type} (K : (List Int) → Option X) (k : Nat) (m1 : (List (List Int))) : Option X :=
  (Option.bind (scroll_Pen_Names_v1.l0.f k ((List.length m1) : Int) m1 k (0 : Int) ([] : (List Int))) (fun r1 => (K r1.2)))
def f (k : Nat) (m1 : (List (List Int))) : Option (List Int) := tree (fun b0 => some b0) k m1
theorem tree_nat {X Y : Type} (h : X → Option Y) (K : (List Int) → Option X) (k : Nat) (m1 : (List (List Int))) : Option.bind (tree K k m1) h = tree (fun b0 => Option.bind (K b0) h) k m1 := by
  simp only [tree, bif_bind, sel_bind', Option.bind_assoc, Option.bind_none, Option.bind_some]
abbrev ps : List Sh := [.ptr 0, .vec 1]
abbrev hs : List (Nat × ESh) := [(0, .cell (.one .nils)), (1, .rows 0 39 (.arr .u8 32))]
abbrev hi : List Nat := hs.map (·.1)
abbrev fi : List Nat := [0, 1, 900002]
abbrev cl : List (Place × Nat × Hint) := []
abbrev hn : List Hint := []
def val (t : (List Int)) : AV := .tnil
def wr (t : (List Int)) : Heap := [(0, ESh.mk (.cell (.one (.vec 900002))) ()), (900002, ESh.mk (.rows 2 5 (.int .u8)) t)]
def callee (k : Nat) : Callee := sigCallee ps hs (fun (d : (Unit × Unit × Unit)) (e : (Unit × (List (List Int)) × Unit)) => f k e.2.1) val wr
def E (k : Nat) : Env := ⟨fnTab [], loopTab [(0, l0.sum k)], natsTab [], natTab []⟩
theorem fE (k : Nat) : ∀ f, ∀ c ∈ (E k).fn f, CalleeOK Try.prog f c := fnTab_ok trivial
namespace l0
theorem round (k : Nat) (d : (Unit × Unit × Int × Int × Unit)) (e : (Unit × (List (List Int)) × (List Int) × Unit)) (G : St → Option (Ex × St)) : roundK Try.prog (E k) 22 0 (subC (bodyOf Try.f15) [1, 0, 0]) (recast cl hn kp) (finBy cl hn kp rc rs ri) G ⟨mkS S d, mkH H e⟩ =
    step (fun x8 y800002 => some (.exit 0, KX d e (x8, y800002))) (fun x8 y800002 => G ⟨mkS S ((), (), d.2.2.1, x8, ()), mkH H ((), e.2.1, y800002, ())⟩) k d.2.2.1 e.2.1 d.2.2.2.1 e.2.2.1 := by kernel_rfl
theorem it (k n : Nat) (d : (Unit × Unit × Int × Int × Unit)) (e : (Unit × (List (List Int)) × (List Int) × Unit)) : loopIt Try.prog (E k) 22 0 (subC (bodyOf Try.f15) [1, 0, 0]) (recast cl hn kp) (finBy cl hn kp rc rs ri) n ⟨mkS S d, mkH H e⟩ = go (fun x8 y800002 => some (.exit 0, KX d e (x8, y800002))) k d.2.2.1 e.2.1 n d.2.2.2.1 e.2.2.1 :=
  loopIt_eq (D := (Unit × Unit × Int × Int × Unit) × (Unit × (List (List Int)) × (List Int) × Unit)) (fun p => ⟨mkS S p.1, mkH H p.2⟩) (fun F p => step (fun x8 y800002 => some (.exit 0, KX p.1 p.2 (x8, y800002))) (fun x8 y800002 => F (((), (), p.1.2.2.1, x8, ()), ((), p.2.2.1, y800002, ()))) k p.1.2.2.1 p.2.2.1 p.1.2.2.2.1 p.2.2.2.1) (fun n p => go (fun x8 y800002 => some (.exit 0, KX p.1 p.2 (x8, y800002))) k p.1.2.2.1 p.2.2.1 n p.1.2.2.2.1 p.2.2.2.1) (fun _ => rfl) (fun _ _ => rfl) (fun G p => round k p.1 p.2 G) n (d, e)
theorem ok (k : Nat) : LoopOK Try.prog 22 (subC (bodyOf Try.f15) [1, 0, 0]) (sum k) :=
  loop_sigX hm (fE k) (loopsOK_of [] (by kernel_rfl) trivial) S cl hn kp H 0 (fun (d : (Unit × Unit × Int × Int × Unit)) (e : (Unit × (List (List Int)) × (List Int) × Unit)) => f k d.2.2.1 e.2.1 k d.2.2.2.1 e.2.2.1) KX cl hn kp rc rs ri k
    (fun d e => (it k k d e).trans (go_nat (fun v => some (Ex.exit 0, KX d e v)) (fun x8 y800002 => some (x8, y800002)) k d.2.2.1 e.2.1 k d.2.2.2.1 e.2.2.1).symm)
end l0
theorem run (k : Nat) (d : (Unit × Unit × Unit)) (e : (Unit × (List (List Int)) × Unit)) : runFn Try.prog (E k) 22 (bodyOf Try.f15) Try.f15.results.toList cl hn hi (mkL ps d) (mkH hs e) =
    tree (fun b0 => leafFn hs fi e val wr b0) k e.2.1 := by kernel_rfl
theorem run_f (k : Nat) (d : (Unit × Unit × Unit)) (e : (Unit × (List (List Int)) × Unit)) : runFn Try.prog (E k) 22 (bodyOf Try.f15) Try.f15.results.toList cl hn hi (mkL ps d) (mkH hs e) = (f k e.2.1).bind (leafFn hs fi e val wr) :=
  (run k d e).trans (tree_nat (leafFn hs fi e val wr) (fun b0 => some b0) k e.2.1).symm
theorem fnIs : FnIs Try.prog 15 Try.f15 (bodyOf Try.f15) 22 := ⟨by kernel_rfl, by kernel_rfl, by kernel_rfl, by kernel_rfl⟩
theorem ok (k : Nat) : CalleeOK Try.prog 15 (callee k) :=
  callee_sig (T := (List Int)) fnIs hm (fE k) (loopsOK_of [(0, subC (bodyOf Try.f15) [1, 0, 0])] (by kernel_rfl) ⟨of_loop (l0.sum k) rfl (l0.ok k), trivial⟩) ps hs cl hn fi (fun (d : (Unit × Unit × Unit)) (e : (Unit × (List (List Int)) × Unit)) => f k e.2.1) val wr rfl (fun _ => rfl) (run_f k)
end scroll_Pen_Names_v1
namespace scroll_Eye_Blind
def tree {X : Type} (K : ((List Int) × Bool) → Option X) (k : Nat) (m0 : ((List Int) × Bool)) : Option X :=
  (K (([], true) : ((List Int) × Bool)))
def f (k : Nat) (m0 : ((List Int) × Bool)) : Option ((List Int) × Bool) := tree (fun b0 => some b0) k m0
theorem tree_nat {X Y : Type} (h : X → Option Y) (K : ((List Int) × Bool) → Option X) (k : Nat) (m0 : ((List Int) × Bool)) : Option.bind (tree K k m0) h = tree (fun b0 => Option.bind (K b0) h) k m0 := by
  simp only [tree, bif_bind, sel_bind', Option.bind_assoc, Option.bind_none, Option.bind_some]
abbrev ps : List Sh := [.ptr 0]
abbrev hs : List (Nat × ESh) := [(0, .cell (.data (.pair .str .bool)))]
abbrev hi : List Nat := hs.map (·.1)
abbrev fi : List Nat := [0]
abbrev cl : List (Place × Nat × Hint) := []
abbrev hn : List Hint := []
def val (t : ((List Int) × Bool)) : AV := .tnil
def wr (t : ((List Int) × Bool)) : Heap := [(0, ESh.mk (.cell (.data (.pair .str .bool))) t)]
def callee (k : Nat) : Callee := sigCallee ps hs (fun (d : (Unit × Unit)) (e : (((List Int) × Bool) × Unit)) => f k e.1) val wr
def E (k : Nat) : Env := ⟨fnTab [], loopTab [], natsTab [], natTab []⟩
theorem fE (k : Nat) : ∀ f, ∀ c ∈ (E k).fn f, CalleeOK Try.prog f c := fnTab_ok trivial
theorem run (k : Nat) (d : (Unit × Unit)) (e : (((List Int) × Bool) × Unit)) : runFn Try.prog (E k) 10 (bodyOf Try.f49) Try.f49.results.toList cl hn hi (mkL ps d) (mkH hs e) =
    tree (fun b0 => leafFn hs fi e val wr b0) k e.1 := by kernel_rfl
theorem run_f (k : Nat) (d : (Unit × Unit)) (e : (((List Int) × Bool) × Unit)) : runFn Try.prog (E k) 10 (bodyOf Try.f49) Try.f49.results.toList cl hn hi (mkL ps d) (mkH hs e) = (f k e.1).bind (leafFn hs fi e val wr) :=
  (run k d e).trans (tree_nat (leafFn hs fi e val wr) (fun b0 => some b0) k e.1).symm
theorem fnIs : FnIs Try.prog 49 Try.f49 (bodyOf Try.f49) 10 := ⟨by kernel_rfl, by kernel_rfl, by kernel_rfl, by kernel_rfl⟩
theorem ok (k : Nat) : CalleeOK Try.prog 49 (callee k) :=
  callee_sig (T := ((List Int) × Bool)) fnIs hm (fE k) (loopsOK_of [] (by kernel_rfl) trivial) ps hs cl hn fi (fun (d : (Unit × Unit)) (e : (((List Int) × Bool) × Unit)) => f k e.1) val wr rfl (fun _ => rfl) (run_f k)
end scroll_Eye_Blind
namespace scroll_Eye_Raw
def tree {X : Type} (K : (List Int) → ((List Int) × Bool) → Option X) (k : Nat) (a1 : Int) (m0 : ((List Int) × Bool)) : Option X :=
  (bif m0.2 then (Option.bind (scroll_Eye_Blind.f k m0) (fun r1 => (K ([] : (List Int)) r1))) else (bif (decide (a1 < (0 : Int))) then (Option.bind (scroll_Eye_Blind.f k m0) (fun r2 => (K ([] : (List Int)) r2))) else (bif (decide (a1 > ((List.length m0.1) : Int))) then (Option.bind (scroll_Eye_Blind.f k m0) (fun r3 => (K ([] : (List Int)) r3))) else (bif (decide (0 ≤ a1)) then (bif (decide (a1 ≤ ((List.length m0.1) : Int))) then (bif (decide (0 ≤ a1)) then (bif (decide (a1 ≤ ((List.length m0.1) : Int))) then (K (List.take (Int.toNat a1) m0.1) (((List.drop (Int.toNat a1) m0.1), m0.2) : ((List Int) × Bool))) else none) else none) else none) else none))))
def f (k : Nat) (a1 : Int) (m0 : ((List Int) × Bool)) : Option ((List Int) × ((List Int) × Bool)) := tree (fun b0 b1 => some (b0, b1)) k a1 m0
theorem tree_nat {X Y : Type} (h : X → Option Y) (K : (List Int) → ((List Int) × Bool) → Option X) (k : Nat) (a1 : Int) (m0 : ((List Int) × Bool)) : Option.bind (tree K k a1 m0) h = tree (fun b0 b1 => Option.bind (K b0 b1) h) k a1 m0 := by
  simp only [tree, bif_bind, sel_bind', Option.bind_assoc, Option.bind_none, Option.bind_some]
abbrev ps : List Sh := [.ptr 0, .data (.int .i64)]
abbrev hs : List (Nat × ESh) := [(0, .cell (.data (.pair .str .bool)))]
abbrev hi : List Nat := hs.map (·.1)
abbrev fi : List Nat := [0]
abbrev cl : List (Place × Nat × Hint) := []
abbrev hn : List Hint := [.any]
def val (t : ((List Int) × ((List Int) × Bool))) : AV := Sh.mk (.data .str) t.1
def wr (t : ((List Int) × ((List Int) × Bool))) : Heap := [(0, ESh.mk (.cell (.data (.pair .str .bool))) t.2)]
def callee (k : Nat) : Callee := sigCallee ps hs (fun (d : (Unit × Int × Unit)) (e : (((List Int) × Bool) × Unit)) => f k d.2.1 e.1) val wr
def E (k : Nat) : Env := ⟨fnTab [(49, [scroll_Eye_Blind.callee k])], loopTab [], natsTab [], natTab []⟩
theorem fE (k : Nat) : ∀ f, ∀ c ∈ (E k).fn f, CalleeOK Try.prog f c := fnTab_ok ⟨⟨scroll_Eye_Blind.ok k, trivial⟩, trivial⟩
theorem run (k : Nat) (d : (Unit × Int × Unit)) (e : (((List Int) × Bool) × Unit)) : runFn Try.prog (E k) 45 (bodyOf Try.f36) Try.f36.results.toList cl hn hi (mkL ps d) (mkH hs e) =
    tree (fun b0 b1 => leafFn hs fi e val wr (b0, b1)) k d.2.1 e.1 := by kernel_rfl
theorem run_f (k : Nat) (d : (Unit × Int × Unit)) (e : (((List Int) × Bool) × Unit)) : runFn Try.prog (E k) 45 (bodyOf Try.f36) Try.f36.results.toList cl hn hi (mkL ps d) (mkH hs e) = (f k d.2.1 e.1).bind (leafFn hs fi e val wr) :=
  (run k d e).trans (tree_nat (leafFn hs fi e val wr) (fun b0 b1 => some (b0, b1)) k d.2.1 e.1).symm
theorem fnIs : FnIs Try.prog 36 Try.f36 (bodyOf Try.f36) 45 := ⟨by kernel_rfl, by kernel_rfl, by kernel_rfl, by kernel_rfl⟩
theorem ok (k : Nat) : CalleeOK Try.prog 36 (callee k) :=
  callee_sig (T := ((List Int) × ((List Int) × Bool))) fnIs hm (fE k) (loopsOK_of [] (by kernel_rfl) trivial) ps hs cl hn fi (fun (d : (Unit × Int × Unit)) (e : (((List Int) × Bool) × Unit)) => f k d.2.1 e.1) val wr rfl (fun _ => rfl) (run_f k)
end scroll_Eye_Raw
namespace scroll_Eye_Name
def tree {X : Type} (K : (List Int) → ((List Int) × Bool) → Option X) (k : Nat) (m0 : ((List Int) × Bool)) : Option X :=
  (Option.bind (scroll_Eye_Raw.f k (32 : Int) m0) (fun r1 => (K ((List.take 32 r1.1) ++ (List.drop (min (List.length r1.1) 32) ([0, 0, 0, 0, 0, 0, 0, 0, 0, 0, 0, 0, 0, 0, 0, 0, 0, 0, 0, 0, 0, 0, 0, 0, 0, 0, 0, 0, 0, 0, 0, 0] : (List Int)))) r1.2)))
def f (k : Nat) (m0 : ((List Int) × Bool)) : Option ((List Int) × ((List Int) × Bool)) := tree (fun b0 b1 => some (b0, b1)) k m0
theorem tree_nat {X Y : Type} (h : X → Option Y) (K : (List Int) → ((List Int) × Bool) → Option X) (k : Nat) (m0 : ((List Int) × Bool)) : Option.bind (tree K k m0) h = tree (fun b0 b1 => Option.bind (K b0 b1) h) k m0 := by
  simp only [tree, bif_bind, sel_bind', Option.bind_assoc, Option.bind_none, Option.bind_some]
abbrev ps : List Sh := [.ptr 0]
abbrev hs : List (Nat × ESh) := [(0, .cell (.data (.pair .str .bool)))]
abbrev hi : List Nat := hs.map (·.1)
abbrev fi : List Nat := [0]
abbrev cl : List (Place × Nat × Hint) := []
abbrev hn : List Hint := [.any]
def val (t : ((List Int) × ((List Int) × Bool))) : AV := Sh.mk (.data (.arr .u8 32)) t.1
def wr (t : ((List Int) × ((List Int) × Bool))) : Heap := [(0, ESh.mk (.cell (.data (.pair .str .bool))) t.2)]
def callee (k : Nat) : Callee := sigCallee ps hs (fun (d : (Unit × Unit)) (e : (((List Int) × Bool) × Unit)) => f k e.1) val wr
def E (k : Nat) : Env := ⟨fnTab [(36, [scroll_Eye_Raw.callee k])], loopTab [], natsTab [], natTab []⟩
theorem fE (k : Nat) : ∀ f, ∀ c ∈ (E k).fn f, CalleeOK Try.prog f c := fnTab_ok ⟨⟨scroll_Eye_Raw.ok k, trivial⟩, trivial⟩
theorem run (k : Nat) (d : (Unit × Unit)) (e : (((List Int) × Bool) × Unit)) : runFn Try.prog (E k) 9 (bodyOf Try.f35) Try.f35.results.toList cl hn hi (mkL ps d) (mkH hs e) =
    tree (fun b0 b1 => leafFn hs fi e val wr (b0, b1)) k e.1 := by kernel_rfl
theorem run_f (k : Nat) (d : (Unit × Unit)) (e : (((List Int) × Bool) × Unit)) : runFn Try.prog (E k) 9 (bodyOf Try.f35) Try.f35.results.toList cl hn hi (mkL ps d) (mkH hs e) = (f k e.1).bind (leafFn hs fi e val wr) :=
  (run k d e).trans (tree_nat (leafFn hs fi e val wr) (fun b0 b1 => some (b0, b1)) k e.1).symm
theorem fnIs : FnIs Try.prog 35 Try.f35 (bodyOf Try.f35) 9 := ⟨by kernel_rfl, by kernel_rfl, by kernel_rfl, by kernel_rfl⟩
theorem ok (k : Nat) : CalleeOK Try.prog 35 (callee k) :=
  callee_sig (T := ((List Int) × ((List Int) × Bool))) fnIs hm (fE k) (loopsOK_of [] (by kernel_rfl) trivial) ps hs cl hn fi (fun (d : (Unit × Unit)) (e : (((List Int) × Bool) × Unit)) => f k e.1) val wr rfl (fun _ => rfl) (run_f k)
end scroll_Eye_Name
namespace scroll_Eye_Bad
def tree {X : Type} (K : Bool → Option X) (k : Nat) (m0 : ((List Int) × Bool)) : Option X :=
  (K m0.2)
def f (k : Nat) (m0 : ((List Int) × Bool)) : Option Bool := tree (fun b0 => some b0) k m0
theorem tree_nat {X Y : Type} (h : X → Option Y) (K : Bool → Option X) (k : Nat) (m0 : ((List Int) × Bool)) : Option.bind (tree K k m0) h = tree (fun b0 => Option.bind (K b0) h) k m0 := by
  simp only [tree, bif_bind, sel_bind', Option.bind_assoc, Option.bind_none, Option.bind_some]
abbrev ps : List Sh := [.ptr 0]
abbrev hs : List (Nat × ESh) := [(0, .cell (.data (.pair .str .bool)))]
abbrev hi : List Nat := hs.map (·.1)
abbrev fi : List Nat := [0]
abbrev cl : List (Place × Nat × Hint) := []
abbrev hn : List Hint := [.any]
def val (t : Bool) : AV := Sh.mk (.data .bool) t
def wr (t : Bool) : Heap := []
def callee (k : Nat) : Callee := sigCallee ps hs (fun (d : (Unit × Unit)) (e : (((List Int) × Bool) × Unit)) => f k e.1) val wr
def E (k : Nat) : Env := ⟨fnTab [], loopTab [], natsTab [], natTab []⟩
theorem fE (k : Nat) : ∀ f, ∀ c ∈ (E k).fn f, CalleeOK Try.prog f c := fnTab_ok trivial
theorem run (k : Nat) (d : (Unit × Unit)) (e : (((List Int) × Bool) × Unit)) : runFn Try.prog (E k) 11 (bodyOf Try.f20) Try.f20.results.toList cl hn hi (mkL ps d) (mkH hs e) =
    tree (fun b0 => leafFn hs fi e val wr b0) k e.1 := by kernel_rfl
theorem run_f (k : Nat) (d : (Unit × Unit)) (e : (((List Int) × Bool) × Unit)) : runFn Try.prog (E k) 11 (bodyOf Try.f20) Try.f20.results.toList cl hn hi (mkL ps d) (mkH hs e) = (f k e.1).bind (leafFn hs fi e val wr) :=
  (run k d e).trans (tree_nat (leafFn hs fi e val wr) (fun b0 => some b0) k e.1).symm
theorem fnIs : FnIs Try.prog 20 Try.f20 (bodyOf Try.f20) 11 := ⟨by kernel_rfl, by kernel_rfl, by kernel_rfl, by kernel_rfl⟩
theorem ok (k : Nat) : CalleeOK Try.prog 20 (callee k) :=
  callee_sig (T := Bool) fnIs hm (fE k) (loopsOK_of [] (by kernel_rfl) trivial) ps hs cl hn fi (fun (d : (Unit × Unit)) (e : (((List Int) × Bool) × Unit)) => f k e.1) val wr rfl (fun _ => rfl) (run_f k)
end scroll_Eye_Bad
namespace scroll_Eye_Names
namespace l0
def step {X : Type} (K : Int → ((List Int) × Bool) → (List (List Int)) → Option X) (Q : ((List Int) × Bool) → Option X) (G : Int → ((List Int) × Bool) → (List (List Int)) → Option X) (k : Nat) (x7 : Int) (x8 : Int) (y0 : ((List Int) × Bool)) (y800001 : (List (List Int))) : Option X :=
  (bif (decide (x8 < x7)) then (Option.bind (scroll_Eye_Name.f k y0) (fun r1 => (Option.bind (scroll_Eye_Bad.f k r1.2) (fun r2 => (bif r2 then (Q r1.2) else (bif (fits (((List.length y800001) + 1) * 32)) then (G (addI .i64 x8 1) r1.2 (y800001 ++ ([r1.1] : (List (List Int))))) else none)))))) else (K x8 y0 y800001))
def go {X : Type} (K : Int → ((List Int) × Bool) → (List (List Int)) → Option X) (Q : ((List Int) × Bool) → Option X) (k : Nat) (x7 : Int) : Nat → Int → ((List Int) × Bool) → (List (List Int)) → Option X
  | 0, _, _, _ => none
  | n + 1, x8, y0, y800001 => step K Q (go K Q k x7 n) k x7 x8 y0 y800001
def f (k : Nat) (x7 : Int) (n : Nat) (x8 : Int) (y0 : ((List Int) × Bool)) (y800001 : (List (List Int))) : Option ((Int × (((List Int) × Bool) × (List (List Int)))) ⊕ ((List Int) × Bool)) := go (fun x8 y0 y800001 => some (.inl (x8, y0, y800001))) (fun q0 => some (.inr q0)) k x7 n x8 y0 y800001
theorem step_nat {X Y : Type} (h : X → Option Y) (K : Int → ((List Int) × Bool) → (List (List Int)) → Option X) (Q : ((List Int) × Bool) → Option X) (G : Int → ((List Int) × Bool) → (List (List Int)) → Option X) (k : Nat) (x7 : Int) (x8 : Int) (y0 : ((List Int) × Bool)) (y800001 : (List (List Int))) : Option.bind (step K Q G k x7 x8 y0 y800001) h = step (fun x8 y0 y800001 => Option.bind (K x8 y0 y800001) h) (fun q0 => Option.bind (Q q0) h) (fun x8 y0 y800001 => Option.bind (G x8 y0 y800001) h) k x7 x8 y0 y800001 := by
  simp only [step, bif_bind, sel_bind', Option.bind_assoc, Option.bind_none, Option.bind_some]
theorem go_nat {X Y : Type} (h : X → Option Y) (K : Int → ((List Int) × Bool) → (List (List Int)) → Option X) (Q : ((List Int) × Bool) → Option X) (k : Nat) (x7 : Int) (n : Nat) : ∀ (x8 : Int) (y0 : ((List Int) × Bool)) (y800001 : (List (List Int))), Option.bind (go K Q k x7 n x8 y0 y800001) h = go (fun x8 y0 y800001 => Option.bind (K x8 y0 y800001) h) (fun q0 => Option.bind (Q q0) h) k x7 n x8 y0 y800001 := by
  induction n with
  | zero => intros; rfl
  | succ n ih => intro x8 y0 y800001; show Option.bind (step K Q (go K Q k x7 n) k x7 x8 y0 y800001) h = step (fun x8 y0 y800001 => Option.bind (K x8 y0 y800001) h) (fun q0 => Option.bind (Q q0) h) (go (fun x8 y0 y800001 => Option.bind (K x8 y0 y800001) h) (fun q0 => Option.bind (Q q0) h) k x7 n) k x7 x8 y0 y800001; rw [step_nat h]; simp only [ih]
abbrev S : List (Nat × Sh) := [(0, .ptr 0), (4, .nils), (5, .vec 800001), (7, .data (.int .i64)), (8, .data (.int .i64))]
abbrev H : List (Nat × ESh) := [(0, .cell (.data (.pair .str .bool))), (800001, .rows 2 39 (.arr .u8 32))]
abbrev cl : List (Place × Nat × Hint) := []
abbrev hn : List (Nat × Hint) := [(0, .any), (4, .any), (5, (.row 2 39 (.arr .u8 32))), (7, .any), (8, .any)]
abbrev kp : List Nat := [0]
abbrev rc : List (Place × Nat × Hint) := []
abbrev rs : List (Nat × Hint) := [(4, .any)]
abbrev ri : List Nat := [0]
def KX (d : (Unit × Unit × Unit × Int × Int × Unit)) (e : (((List Int) × Bool) × (List (List Int)) × Unit)) (v : (Int × (((List Int) × Bool) × (List (List Int))))) : St := ⟨mkS S ((), (), (), d.2.2.2.1, v.1, ()), mkH H (v.2.1, v.2.2, ())⟩
abbrev RS : List (Nat × Sh) := [(4, .nils)]
abbrev RH : List (Nat × ESh) := [(0, .cell (.data (.pair .str .bool)))]
def RX (d : (Unit × Unit × Unit × Int × Int × Unit)) (e : (((List Int) × Bool) × (List (List Int)) × Unit)) (v : ((List Int) × Bool)) : St := ⟨mkS RS ((), ()), mkH RH (v, ())⟩
def sum (k : Nat) : LoopSum := sigLoop S cl hn kp H 0 (fun (d : (Unit × Unit × Unit × Int × Int × Unit)) (e : (((List Int) × Bool) × (List (List Int)) × Unit)) => f k d.2.2.2.1 k d.2.2.2.2.1 e.1 e.2.1) KX RX
end l0
def tree {X : Type} (K : ((List Int) × Bool) → (List (List Int)) → Option X) (k : Nat) (a1 : Int) (m0 : ((List Int) × Bool)) : Option X :=
  (Option.bind (scroll_Eye_Names.l0.f k a1 k (0 : Int) m0 ([] : (List (List Int)))) (fun r3 => sel r3 (fun v4 => (K v4.2.1 v4.2.2)) (fun q5 => (K q5 ([] : (List (List Int)))))))
def f (k : Nat) (a1 : Int) (m0 : ((List Int) × Bool)) : Option (((List Int) × Bool) × (List (List Int))) := tree (fun b0 b1 => some (b0, b1)) k a1 m0
theorem tree_nat {X Y : Type} (h : X → Option Y) (K : ((List Int) × Bool) → (List (List Int)) → Option X) (k : Nat) (a1 : Int) (m0 : ((List Int) × Bool)) : Option.bind (tree K k a1 m0) h = tree (fun b0 b1 => Option.bind (K b0 b1) h) k a1 m0 := by
  simp only [tree, bif_bind, sel_bind', Option.bind_assoc, Option.bind_none, Option.bind_some]
abbrev ps : List Sh := [.ptr 0, .data (.int .i64)]
abbrev hs : List (Nat × ESh) := [(0, .cell (.data (.pair .str .bool)))]
abbrev hi : List Nat := hs.map (·.1)
abbrev fi : List Nat := [0, 900001]
abbrev cl : List (Place × Nat × Hint) := []
abbrev hn : List Hint := [(.row 2 39 (.arr .u8 32))]
def val (t : (((List Int) × Bool) × (List (List Int)))) : AV := Sh.mk (.vec 900001) ()
def wr (t : (((List Int) × Bool) × (List (List Int)))) : Heap := [(0, ESh.mk (.cell (.data (.pair .str .bool))) t.1), (900001, ESh.mk (.rows 2 39 (.arr .u8 32)) t.2)]
def callee (k : Nat) : Callee := sigCallee ps hs (fun (d : (Unit × Int × Unit)) (e : (((List Int) × Bool) × Unit)) => f k d.2.1 e.1) val wr
def E (k : Nat) : Env := ⟨fnTab [(35, [scroll_Eye_Name.callee k]), (20, [scroll_Eye_Bad.callee k])], loopTab [(0, l0.sum k)], natsTab [], natTab []⟩
theorem fE (k : Nat) : ∀ f, ∀ c ∈ (E k).fn f, CalleeOK Try.prog f c := fnTab_ok ⟨⟨scroll_Eye_Name.ok k, trivial⟩, ⟨scroll_Eye_Bad.ok k, trivial⟩, trivial⟩
namespace l0
theorem round (k : Nat) (d : (Unit × Unit × Unit × Int × Int × Unit)) (e : (((List Int) × Bool) × (List (List Int)) × Unit)) (G : St → Option (Ex × St)) : roundK Try.prog (E k) 20 0 (subC (bodyOf Try.f18) [1, 1, 0, 1, 0, 0]) (recast cl hn kp) (finBy cl hn kp rc rs ri) G ⟨mkS S d, mkH H e⟩ =
    step (fun x8 y0 y800001 => some (.exit 0, KX d e (x8, y0, y800001))) (fun q0 => some (.ret, RX d e q0)) (fun x8 y0 y800001 => G ⟨mkS S ((), (), (), d.2.2.2.1, x8, ()), mkH H (y0, y800001, ())⟩) k d.2.2.2.1 d.2.2.2.2.1 e.1 e.2.1 := by kernel_rfl
theorem it (k n : Nat) (d : (Unit × Unit × Unit × Int × Int × Unit)) (e : (((List Int) × Bool) × (List (List Int)) × Unit)) : loopIt Try.prog (E k) 20 0 (subC (bodyOf Try.f18) [1, 1, 0, 1, 0, 0]) (recast cl hn kp) (finBy cl hn kp rc rs ri) n ⟨mkS S d, mkH H e⟩ = go (fun x8 y0 y800001 => some (.exit 0, KX d e (x8, y0, y800001))) (fun q0 => some (.ret, RX d e q0)) k d.2.2.2.1 n d.2.2.2.2.1 e.1 e.2.1 :=
  loopIt_eq (D := (Unit × Unit × Unit × Int × Int × Unit) × (((List Int) × Bool) × (List (List Int)) × Unit)) (fun p => ⟨mkS S p.1, mkH H p.2⟩) (fun F p => step (fun x8 y0 y800001 => some (.exit 0, KX p.1 p.2 (x8, y0, y800001))) (fun q0 => some (.ret, RX p.1 p.2 q0)) (fun x8 y0 y800001 => F (((), (), (), p.1.2.2.2.1, x8, ()), (y0, y800001, ()))) k p.1.2.2.2.1 p.1.2.2.2.2.1 p.2.1 p.2.2.1) (fun n p => go (fun x8 y0 y800001 => some (.exit 0, KX p.1 p.2 (x8, y0, y800001))) (fun q0 => some (.ret, RX p.1 p.2 q0)) k p.1.2.2.2.1 n p.1.2.2.2.2.1 p.2.1 p.2.2.1) (fun _ => rfl) (fun _ _ => rfl) (fun G p => round k p.1 p.2 G) n (d, e)
theorem ok (k : Nat) : LoopOK Try.prog 20 (subC (bodyOf Try.f18) [1, 1, 0, 1, 0, 0]) (sum k) :=
  loop_sig hm (fE k) (loopsOK_of [] (by kernel_rfl) trivial) S cl hn kp H 0 (fun (d : (Unit × Unit × Unit × Int × Int × Unit)) (e : (((List Int) × Bool) × (List (List Int)) × Unit)) => f k d.2.2.2.1 k d.2.2.2.2.1 e.1 e.2.1) KX RX cl hn kp rc rs ri k
    (fun d e => (it k k d e).trans (go_nat (exitOf 0 (KX d e) (RX d e)) (fun x8 y0 y800001 => some (.inl (x8, y0, y800001))) (fun q0 => some (.inr q0)) k d.2.2.2.1 k d.2.2.2.2.1 e.1 e.2.1).symm)
end l0
theorem run (k : Nat) (d : (Unit × Int × Unit)) (e : (((List Int) × Bool) × Unit)) : runFn Try.prog (E k) 20 (bodyOf Try.f18) Try.f18.results.toList cl hn hi (mkL ps d) (mkH hs e) =
    tree (fun b0 b1 => leafFn hs fi e val wr (b0, b1)) k d.2.1 e.1 := by kernel_rfl
theorem run_f (k : Nat) (d : (Unit × Int × Unit)) (e : (((List Int) × Bool) × Unit)) : runFn Try.prog (E k) 20 (bodyOf Try.f18) Try.f18.results.toList cl hn hi (mkL ps d) (mkH hs e) = (f k d.2.1 e.1).bind (leafFn hs fi e val wr) :=
  (run k d e).trans (tree_nat (leafFn hs fi e val wr) (fun b0 b1 => some (b0, b1)) k d.2.1 e.1).symm
theorem fnIs : FnIs Try.prog 18 Try.f18 (bodyOf Try.f18) 20 := ⟨by kernel_rfl, by kernel_rfl, by kernel_rfl, by kernel_rfl⟩
theorem ok (k : Nat) : CalleeOK Try.prog 18 (callee k) :=
  callee_sig (T := (((List Int) × Bool) × (List (List Int)))) fnIs hm (fE k) (loopsOK_of [(0, subC (bodyOf Try.f18) [1, 1, 0, 1, 0, 0])] (by kernel_rfl) ⟨of_loop (l0.sum k) rfl (l0.ok k), trivial⟩) ps hs cl hn fi (fun (d : (Unit × Int × Unit)) (e : (((List Int) × Bool) × Unit)) => f k d.2.1 e.1) val wr rfl (fun _ => rfl) (run_f k)
end scroll_Eye_Names
namespace trailheadlaw05_ScrollNames
namespace l0
def step {X : Type} (K : Int → Option X) (Q : Bool → Option X) (G : Int → Option X) (k : Nat) (x1 : Int) (x4 : Bool) (x49 : Int) (y0 : (List (List Int))) (y800001 : ((List Int) × Bool)) (y800002 : (List (List Int))) (x50 : Int) : Option X :=
  (bif (decide (x50 < x49)) then (bif (decide (0 ≤ x50)) then (bif (decide (x50 < ((List.length y800002) : Int))) then (bif (decide ((Int.toNat x50) < (List.length y800002))) then (bif (decide (0 ≤ x50)) then (bif (decide (x50 < ((List.length y0) : Int))) then (bif (decide ((Int.toNat x50) < (List.length y0))) then (bif (!(decide ((List.getD y800002 (Int.toNat x50) (List.replicate 32 0 : (List Int))) = (List.getD y0 (Int.toNat x50) (List.replicate 32 0 : (List Int)))))) then (Q false) else (G (addI .i64 x50 1))) else none) else none) else none) else none) else none) else none) else (K x50))
def go {X : Type} (K : Int → Option X) (Q : Bool → Option X) (k : Nat) (x1 : Int) (x4 : Bool) (x49 : Int) (y0 : (List (List Int))) (y800001 : ((List Int) × Bool)) (y800002 : (List (List Int))) : Nat → Int → Option X
  | 0, _ => none
  | n + 1, x50 => step K Q (go K Q k x1 x4 x49 y0 y800001 y800002 n) k x1 x4 x49 y0 y800001 y800002 x50
def f (k : Nat) (x1 : Int) (x4 : Bool) (x49 : Int) (y0 : (List (List Int))) (y800001 : ((List Int) × Bool)) (y800002 : (List (List Int))) (n : Nat) (x50 : Int) : Option (Int ⊕ Bool) := go (fun x50 => some (.inl x50)) (fun q0 => some (.inr q0)) k x1 x4 x49 y0 y800001 y800002 n x50
theorem step_nat {X Y : Type} (h : X → Option Y) (K : Int → Option X) (Q : Bool → Option X) (G : Int → Option X) (k : Nat) (x1 : Int) (x4 : Bool) (x49 : Int) (y0 : (List (List Int))) (y800001 : ((List Int) × Bool)) (y800002 : (List (List Int))) (x50 : Int) : Option.bind (step K Q G k x1 x4 x49 y0 y800001 y800002 x50) h = step (fun x50 => Option.bind (K x50) h) (fun q0 => Option.bind (Q q0) h) (fun x50 => Option.bind (G x50) h) k x1 x4 x49 y0 y800001 y800002 x50 := by
  simp only [step, bif_bind, sel_bind', Option.bind_assoc, Option.bind_none, Option.bind_some]
theorem go_nat {X Y : Type} (h : X → Option Y) (K : Int → Option X) (Q : Bool → Option X) (k : Nat) (x1 : Int) (x4 : Bool) (x49 : Int) (y0 : (List (List Int))) (y800001 : ((List Int) × Bool)) (y800002 : (List (List Int))) (n : Nat) : ∀ (x50 : Int), Option.bind (go K Q k x1 x4 x49 y0 y800001 y800002 n x50) h = go (fun x50 => Option.bind (K x50) h) (fun q0 => Option.bind (Q q0) h) k x1 x4 x49 y0 y800001 y800002 n x50 := by
  induction n with
  | zero => intros; rfl
  | succ n ih => intro x50; show Option.bind (step K Q (go K Q k x1 x4 x49 y0 y800001 y800002 n) k x1 x4 x49 y0 y800001 y800002 x50) h = step (fun x50 => Option.bind (K x50) h) (fun q0 => Option.bind (Q q0) h) (go (fun x50 => Option.bind (K x50) h) (fun q0 => Option.bind (Q q0) h) k x1 x4 x49 y0 y800001 y800002 n) k x1 x4 x49 y0 y800001 y800002 x50; rw [step_nat h]; simp only [ih]
abbrev S : List (Nat × Sh) := [(0, .vec 0), (1, .data (.int .i64)), (4, .data .bool), (7, .ptr 800001), (8, .vec 800002), (49, .data (.int .i64)), (50, .data (.int .i64))]
abbrev H : List (Nat × ESh) := [(0, .rows 0 39 (.arr .u8 32)), (800001, .cell (.data (.pair .str .bool))), (800002, .rows 2 39 (.arr .u8 32))]
abbrev cl : List (Place × Nat × Hint) := []
abbrev hn : List (Nat × Hint) := [(0, .any), (1, .any), (4, .any), (7, .any), (8, .any), (49, .any), (50, .any)]
abbrev kp : List Nat := [0]
abbrev rc : List (Place × Nat × Hint) := []
abbrev rs : List (Nat × Hint) := [(4, .any)]
abbrev ri : List Nat := [0]
def KX (d : (Unit × Int × Bool × Unit × Unit × Int × Int × Unit)) (e : ((List (List Int)) × ((List Int) × Bool) × (List (List Int)) × Unit)) (v : Int) : St := ⟨mkS S ((), d.2.1, d.2.2.1, (), (), d.2.2.2.2.2.1, v, ()), mkH H (e.1, e.2.1, e.2.2.1, ())⟩
abbrev RS : List (Nat × Sh) := [(4, .data .bool)]
abbrev RH : List (Nat × ESh) := [(0, .rows 0 39 (.arr .u8 32))]
def RX (d : (Unit × Int × Bool × Unit × Unit × Int × Int × Unit)) (e : ((List (List Int)) × ((List Int) × Bool) × (List (List Int)) × Unit)) (v : Bool) : St := ⟨mkS RS (v, ()), mkH RH (e.1, ())⟩
def sum (k : Nat) : LoopSum := sigLoop S cl hn kp H 0 (fun (d : (Unit × Int × Bool × Unit × Unit × Int × Int × Unit)) (e : ((List (List Int)) × ((List Int) × Bool) × (List (List Int)) × Unit)) => f k d.2.1 d.2.2.1 d.2.2.2.2.2.1 e.1 e.2.1 e.2.2.1 k d.2.2.2.2.2.2.1) KX RX
end l0
def tree {X : Type} (K : Bool → Option X) (k : Nat) (a1 : Int) (m0 : (List (List Int))) : Option X :=
  (Option.bind (trailheadlaw05_alive.f k) (fun r1 => (bif (!r1) then (K false) else (bif (decide (((List.length m0) : Int) > (60 : Int))) then (K true) else (bif (decide (a1 < (1 : Int))) then (K true) else (bif (decide (a1 > (60 : Int))) then (K true) else (Option.bind (scroll_Pen_Names_v1.f k m0) (fun r2 => (Option.bind (scroll_Pen_Text.f k r2) (fun r3 => (Option.bind (scroll_On.f k r3) (fun r4 => (Option.bind (scroll_Pen_Text.f k r2) (fun r5 => (Option.bind (scroll_On.f k r5) (fun r6 => (Option.bind (scroll_Eye_Names.f k ((List.length m0) : Int) r4) (fun r7 => (bif (((List.length r7.2) : Int) != ((List.length m0) : Int)) then (K false) else (Option.bind (scroll_Eye_Done.f k r7.1) (fun r8 => (bif (!r8) then (K false) else (Option.bind (trailheadlaw05_ScrollNames.l0.f k a1 false ((List.length r7.2) : Int) m0 r6 r7.2 k (0 : Int)) (fun r9 => sel r9 (fun v10 => (Option.bind (scroll_Eye_Names.f k (addI .i64 ((List.length m0) : Int) a1) r6) (fun r12 => (bif (((List.length r12.2) : Int) == (0 : Int)) then (Option.bind (scroll_Eye_Bad.f k r12.1) (fun r13 => (bif r13 then (Option.bind (scroll_On.f k ([] : (List Int))) (fun r14 => (Option.bind (scroll_Eye_Names.f k (subI .i64 0 a1) r14) (fun r15 => (K (((List.length r15.2) : Int) == (0 : Int))))))) else (K false)))) else (K false))))) (fun q11 => (K q11))))))))))))))))))))))))))
def f (k : Nat) (a1 : Int) (m0 : (List (List Int))) : Option Bool := tree (fun b0 => some b0) k a1 m0
theorem tree_nat {X Y : Type} (h : X → Option Y) (K : Bool → Option X) (k : Nat) (a1 : Int) (m0 : (List (List Int))) : Option.bind (tree K k a1 m0) h = tree (fun b0 => Option.bind (K b0) h) k a1 m0 := by
  simp only [tree, bif_bind, sel_bind', Option.bind_assoc, Option.bind_none, Option.bind_some]
abbrev ps : List Sh := [.vec 0, .data (.int .i64)]
abbrev hs : List (Nat × ESh) := [(0, .rows 0 39 (.arr .u8 32))]
abbrev hi : List Nat := hs.map (·.1)
abbrev fi : List Nat := [0]
abbrev cl : List (Place × Nat × Hint) := []
abbrev hn : List Hint := [.any]
def val (t : Bool) : AV := Sh.mk (.data .bool) t
def wr (t : Bool) : Heap := []
def callee (k : Nat) : Callee := sigCallee ps hs (fun (d : (Unit × Int × Unit)) (e : ((List (List Int)) × Unit)) => f k d.2.1 e.1) val wr
def E (k : Nat) : Env := ⟨fnTab [(12, [trailheadlaw05_alive.callee k]), (15, [scroll_Pen_Names_v1.callee k]), (17, [scroll_Pen_Text.callee k]), (16, [scroll_On.callee k]), (18, [scroll_Eye_Names.callee k]), (19, [scroll_Eye_Done.callee k]), (20, [scroll_Eye_Bad.callee k])], loopTab [(0, l0.sum k)], natsTab [], natTab []⟩
theorem fE (k : Nat) : ∀ f, ∀ c ∈ (E k).fn f, CalleeOK Try.prog f c := fnTab_ok ⟨⟨trailheadlaw05_alive.ok k, trivial⟩, ⟨scroll_Pen_Names_v1.ok k, trivial⟩, ⟨scroll_Pen_Text.ok k, trivial⟩, ⟨scroll_On.ok k, trivial⟩, ⟨scroll_Eye_Names.ok k, trivial⟩, ⟨scroll_Eye_Done.ok k, trivial⟩, ⟨scroll_Eye_Bad.ok k, trivial⟩, trivial⟩
namespace l0
theorem round (k : Nat) (d : (Unit × Int × Bool × Unit × Unit × Int × Int × Unit)) (e : ((List (List Int)) × ((List Int) × Bool) × (List (List Int)) × Unit)) (G : St → Option (Ex × St)) : roundK Try.prog (E k) 83 0 (subC (bodyOf Try.f4) [1, 1, 1, 1, 1, 1, 1, 1, 0, 1, 0, 0]) (recast cl hn kp) (finBy cl hn kp rc rs ri) G ⟨mkS S d, mkH H e⟩ =
    step (fun x50 => some (.exit 0, KX d e x50)) (fun q0 => some (.ret, RX d e q0)) (fun x50 => G ⟨mkS S ((), d.2.1, d.2.2.1, (), (), d.2.2.2.2.2.1, x50, ()), mkH H (e.1, e.2.1, e.2.2.1, ())⟩) k d.2.1 d.2.2.1 d.2.2.2.2.2.1 e.1 e.2.1 e.2.2.1 d.2.2.2.2.2.2.1 := by kernel_rfl
theorem it (k n : Nat) (d : (Unit × Int × Bool × Unit × Unit × Int × Int × Unit)) (e : ((List (List Int)) × ((List Int) × Bool) × (List (List Int)) × Unit)) : loopIt Try.prog (E k) 83 0 (subC (bodyOf Try.f4) [1, 1, 1, 1, 1, 1, 1, 1, 0, 1, 0, 0]) (recast cl hn kp) (finBy cl hn kp rc rs ri) n ⟨mkS S d, mkH H e⟩ = go (fun x50 => some (.exit 0, KX d e x50)) (fun q0 => some (.ret, RX d e q0)) k d.2.1 d.2.2.1 d.2.2.2.2.2.1 e.1 e.2.1 e.2.2.1 n d.2.2.2.2.2.2.1 :=
  loopIt_eq (D := (Unit × Int × Bool × Unit × Unit × Int × Int × Unit) × ((List (List Int)) × ((List Int) × Bool) × (List (List Int)) × Unit)) (fun p => ⟨mkS S p.1, mkH H p.2⟩) (fun F p => step (fun x50 => some (.exit 0, KX p.1 p.2 x50)) (fun q0 => some (.ret, RX p.1 p.2 q0)) (fun x50 => F (((), p.1.2.1, p.1.2.2.1, (), (), p.1.2.2.2.2.2.1, x50, ()), (p.2.1, p.2.2.1, p.2.2.2.1, ()))) k p.1.2.1 p.1.2.2.1 p.1.2.2.2.2.2.1 p.2.1 p.2.2.1 p.2.2.2.1 p.1.2.2.2.2.2.2.1) (fun n p => go (fun x50 => some (.exit 0, KX p.1 p.2 x50)) (fun q0 => some (.ret, RX p.1 p.2 q0)) k p.1.2.1 p.1.2.2.1 p.1.2.2.2.2.2.1 p.2.1 p.2.2.1 p.2.2.2.1 n p.1.2.2.2.2.2.2.1) (fun _ => rfl) (fun _ _ => rfl) (fun G p => round k p.1 p.2 G) n (d, e)
theorem ok (k : Nat) : LoopOK Try.prog 83 (subC (bodyOf Try.f4) [1, 1, 1, 1, 1, 1, 1, 1, 0, 1, 0, 0]) (sum k) :=
  loop_sig hm (fE k) (loopsOK_of [] (by kernel_rfl) trivial) S cl hn kp H 0 (fun (d : (Unit × Int × Bool × Unit × Unit × Int × Int × Unit)) (e : ((List (List Int)) × ((List Int) × Bool) × (List (List Int)) × Unit)) => f k d.2.1 d.2.2.1 d.2.2.2.2.2.1 e.1 e.2.1 e.2.2.1 k d.2.2.2.2.2.2.1) KX RX cl hn kp rc rs ri k
    (fun d e => (it k k d e).trans (go_nat (exitOf 0 (KX d e) (RX d e)) (fun x50 => some (.inl x50)) (fun q0 => some (.inr q0)) k d.2.1 d.2.2.1 d.2.2.2.2.2.1 e.1 e.2.1 e.2.2.1 k d.2.2.2.2.2.2.1).symm)
end l0
theorem run (k : Nat) (d : (Unit × Int × Unit)) (e : ((List (List Int)) × Unit)) : runFn Try.prog (E k) 83 (bodyOf Try.f4) Try.f4.results.toList cl hn hi (mkL ps d) (mkH hs e) =
    tree (fun b0 => leafFn hs fi e val wr b0) k d.2.1 e.1 := by kernel_rfl
theorem run_f (k : Nat) (d : (Unit × Int × Unit)) (e : ((List (List Int)) × Unit)) : runFn Try.prog (E k) 83 (bodyOf Try.f4) Try.f4.results.toList cl hn hi (mkL ps d) (mkH hs e) = (f k d.2.1 e.1).bind (leafFn hs fi e val wr) :=
  (run k d e).trans (tree_nat (leafFn hs fi e val wr) (fun b0 => some b0) k d.2.1 e.1).symm
theorem fnIs : FnIs Try.prog 4 Try.f4 (bodyOf Try.f4) 83 := ⟨by kernel_rfl, by kernel_rfl, by kernel_rfl, by kernel_rfl⟩
theorem ok (k : Nat) : CalleeOK Try.prog 4 (callee k) :=
  callee_sig (T := Bool) fnIs hm (fE k) (loopsOK_of [(0, subC (bodyOf Try.f4) [1, 1, 1, 1, 1, 1, 1, 1, 0, 1, 0, 0])] (by kernel_rfl) ⟨of_loop (l0.sum k) rfl (l0.ok k), trivial⟩) ps hs cl hn fi (fun (d : (Unit × Int × Unit)) (e : ((List (List Int)) × Unit)) => f k d.2.1 e.1) val wr rfl (fun _ => rfl) (run_f k)
end trailheadlaw05_ScrollNames
namespace scroll_Eye_Get
namespace l0
def step {X : Type} (K : Int → Int → Option X) (G : Int → Int → Option X) (k : Nat) (x4 : Int) (x5 : (List Int)) (x14 : Int) (y0 : ((List Int) × Bool)) (x6 : Int) (x15 : Int) : Option X :=
  (bif (decide (x15 < x14)) then (bif (decide (0 ≤ x15)) then (bif (decide (x15 < ((List.length x5) : Int))) then (bif (decide ((mulI .i64 8 x15) < 0)) then none else (G (orI .i64 x6 (shlI .i64 (IntKind.wrap .i64 (List.getD x5 (Int.toNat x15) 0)) (mulI .i64 8 x15))) (addI .i64 x15 1))) else none) else none) else (K x6 x15))
def go {X : Type} (K : Int → Int → Option X) (k : Nat) (x4 : Int) (x5 : (List Int)) (x14 : Int) (y0 : ((List Int) × Bool)) : Nat → Int → Int → Option X
  | 0, _, _ => none
  | n + 1, x6, x15 => step K (go K k x4 x5 x14 y0 n) k x4 x5 x14 y0 x6 x15
def f (k : Nat) (x4 : Int) (x5 : (List Int)) (x14 : Int) (y0 : ((List Int) × Bool)) (n : Nat) (x6 : Int) (x15 : Int) : Option (Int × Int) := go (fun x6 x15 => some (x6, x15)) k x4 x5 x14 y0 n x6 x15
theorem step_nat {X Y : Type} (h : X → Option Y) (K : Int → Int → Option X) (G : Int → Int → Option X) (k : Nat) (x4 : Int) (x5 : (List Int)) (x14 : Int) (y0 : ((List Int) × Bool)) (x6 : Int) (x15 : Int) : Option.bind (step K G k x4 x5 x14 y0 x6 x15) h = step (fun x6 x15 => Option.bind (K x6 x15) h) (fun x6 x15 => Option.bind (G x6 x15) h) k x4 x5 x14 y0 x6 x15 := by
  simp only [step, bif_bind, sel_bind', Option.bind_assoc, Option.bind_none, Option.bind_some]
theorem go_nat {X Y : Type} (h : X → Option Y) (K : Int → Int → Option X) (k : Nat) (x4 : Int) (x5 : (List Int)) (x14 : Int) (y0 : ((List Int) × Bool)) (n : Nat) : ∀ (x6 : Int) (x15 : Int), Option.bind (go K k x4 x5 x14 y0 n x6 x15) h = go (fun x6 x15 => Option.bind (K x6 x15) h) k x4 x5 x14 y0 n x6 x15 := by
  induction n with
  | zero => intros; rfl
  | succ n ih => intro x6 x15; show Option.bind (step K (go K k x4 x5 x14 y0 n) k x4 x5 x14 y0 x6 x15) h = step (fun x6 x15 => Option.bind (K x6 x15) h) (go (fun x6 x15 => Option.bind (K x6 x15) h) k x4 x5 x14 y0 n) k x4 x5 x14 y0 x6 x15; rw [step_nat h]; simp only [ih]
abbrev S : List (Nat × Sh) := [(4, .data (.int .i64)), (5, .data .str), (6, .data (.int .i64)), (14, .data (.int .i64)), (15, .data (.int .i64))]
abbrev H : List (Nat × ESh) := [(0, .cell (.data (.pair .str .bool)))]
abbrev cl : List (Place × Nat × Hint) := []
abbrev hn : List (Nat × Hint) := [(4, .any), (5, .any), (6, .any), (14, .any), (15, .any)]
abbrev kp : List Nat := [0]
abbrev rc : List (Place × Nat × Hint) := []
abbrev rs : List (Nat × Hint) := []
abbrev ri : List Nat := [0]
def KX (d : (Int × (List Int) × Int × Int × Int × Unit)) (e : (((List Int) × Bool) × Unit)) (v : (Int × Int)) : St := ⟨mkS S (d.1, d.2.1, v.1, d.2.2.2.1, v.2, ()), mkH H (e.1, ())⟩
def sum (k : Nat) : LoopSum := sigLoopX S cl hn kp H 0 (fun (d : (Int × (List Int) × Int × Int × Int × Unit)) (e : (((List Int) × Bool) × Unit)) => f k d.1 d.2.1 d.2.2.2.1 e.1 k d.2.2.1 d.2.2.2.2.1) KX
end l0
def tree {X : Type} (K : Int → ((List Int) × Bool) → Option X) (k : Nat) (a1 : Int) (m0 : ((List Int) × Bool)) : Option X :=
  (Option.bind (scroll_Eye_Raw.f k (mnI (mxI a1 1) 7) m0) (fun r1 => (Option.bind (scroll_Eye_Get.l0.f k (0 : Int) r1.1 ((List.length r1.1) : Int) r1.2 k (0 : Int) (0 : Int)) (fun r2 => (K r2.1 r1.2)))))
def f (k : Nat) (a1 : Int) (m0 : ((List Int) × Bool)) : Option (Int × ((List Int) × Bool)) := tree (fun b0 b1 => some (b0, b1)) k a1 m0
theorem tree_nat {X Y : Type} (h : X → Option Y) (K : Int → ((List Int) × Bool) → Option X) (k : Nat) (a1 : Int) (m0 : ((List Int) × Bool)) : Option.bind (tree K k a1 m0) h = tree (fun b0 b1 => Option.bind (K b0 b1) h) k a1 m0 := by
  simp only [tree, bif_bind, sel_bind', Option.bind_assoc, Option.bind_none, Option.bind_some]
abbrev ps : List Sh := [.ptr 0, .data (.int .i64)]
abbrev hs : List (Nat × ESh) := [(0, .cell (.data (.pair .str .bool)))]
abbrev hi : List Nat := hs.map (·.1)
abbrev fi : List Nat := [0]
abbrev cl : List (Place × Nat × Hint) := []
abbrev hn : List Hint := [.any]
def val (t : (Int × ((List Int) × Bool))) : AV := Sh.mk (.data (.int .i64)) t.1
def wr (t : (Int × ((List Int) × Bool))) : Heap := [(0, ESh.mk (.cell (.data (.pair .str .bool))) t.2)]
def callee (k : Nat) : Callee := sigCallee ps hs (fun (d : (Unit × Int × Unit)) (e : (((List Int) × Bool) × Unit)) => f k d.2.1 e.1) val wr
def E (k : Nat) : Env := ⟨fnTab [(36, [scroll_Eye_Raw.callee k])], loopTab [(0, l0.sum k)], natsTab [], natTab []⟩
theorem fE (k : Nat) : ∀ f, ∀ c ∈ (E k).fn f, CalleeOK Try.prog f c := fnTab_ok ⟨⟨scroll_Eye_Raw.ok k, trivial⟩, trivial⟩
namespace l0
theorem round (k : Nat) (d : (Int × (List Int) × Int × Int × Int × Unit)) (e : (((List Int) × Bool) × Unit)) (G : St → Option (Ex × St)) : roundK Try.prog (E k) 29 0 (subC (bodyOf Try.f34) [1, 1, 0, 1, 0, 0]) (recast cl hn kp) (finBy cl hn kp rc rs ri) G ⟨mkS S d, mkH H e⟩ =
    step (fun x6 x15 => some (.exit 0, KX d e (x6, x15))) (fun x6 x15 => G ⟨mkS S (d.1, d.2.1, x6, d.2.2.2.1, x15, ()), mkH H (e.1, ())⟩) k d.1 d.2.1 d.2.2.2.1 e.1 d.2.2.1 d.2.2.2.2.1 := by kernel_rfl
theorem it (k n : Nat) (d : (Int × (List Int) × Int × Int × Int × Unit)) (e : (((List Int) × Bool) × Unit)) : loopIt Try.prog (E k) 29 0 (subC (bodyOf Try.f34) [1, 1, 0, 1, 0, 0]) (recast cl hn kp) (finBy cl hn kp rc rs ri) n ⟨mkS S d, mkH H e⟩ = go (fun x6 x15 => some (.exit 0, KX d e (x6, x15))) k d.1 d.2.1 d.2.2.2.1 e.1 n d.2.2.1 d.2.2.2.2.1 :=
  loopIt_eq (D := (Int × (List Int) × Int × Int × Int × Unit) × (((List Int) × Bool) × Unit)) (fun p => ⟨mkS S p.1, mkH H p.2⟩) (fun F p => step (fun x6 x15 => some (.exit 0, KX p.1 p.2 (x6, x15))) (fun x6 x15 => F ((p.1.1, p.1.2.1, x6, p.1.2.2.2.1, x15, ()), (p.2.1, ()))) k p.1.1 p.1.2.1 p.1.2.2.2.1 p.2.1 p.1.2.2.1 p.1.2.2.2.2.1) (fun n p => go (fun x6 x15 => some (.exit 0, KX p.1 p.2 (x6, x15))) k p.1.1 p.1.2.1 p.1.2.2.2.1 p.2.1 n p.1.2.2.1 p.1.2.2.2.2.1) (fun _ => rfl) (fun _ _ => rfl) (fun G p => round k p.1 p.2 G) n (d, e)
theorem ok (k : Nat) : LoopOK Try.prog 29 (subC (bodyOf Try.f34) [1, 1, 0, 1, 0, 0]) (sum k) :=
  loop_sigX hm (fE k) (loopsOK_of [] (by kernel_rfl) trivial) S cl hn kp H 0 (fun (d : (Int × (List Int) × Int × Int × Int × Unit)) (e : (((List Int) × Bool) × Unit)) => f k d.1 d.2.1 d.2.2.2.1 e.1 k d.2.2.1 d.2.2.2.2.1) KX cl hn kp rc rs ri k
    (fun d e => (it k k d e).trans (go_nat (fun v => some (Ex.exit 0, KX d e v)) (fun x6 x15 => some (x6, x15)) k d.1 d.2.1 d.2.2.2.1 e.1 k d.2.2.1 d.2.2.2.2.1).symm)
end l0
theorem run (k : Nat) (d : (Unit × Int × Unit)) (e : (((List Int) × Bool) × Unit)) : runFn Try.prog (E k) 29 (bodyOf Try.f34) Try.f34.results.toList cl hn hi (mkL ps d) (mkH hs e) =
    tree (fun b0 b1 => leafFn hs fi e val wr (b0, b1)) k d.2.1 e.1 := by kernel_rfl
theorem run_f (k : Nat) (d : (Unit × Int × Unit)) (e : (((List Int) × Bool) × Unit)) : runFn Try.prog (E k) 29 (bodyOf Try.f34) Try.f34.results.toList cl hn hi (mkL ps d) (mkH hs e) = (f k d.2.1 e.1).bind (leafFn hs fi e val wr) :=
  (run k d e).trans (tree_nat (leafFn hs fi e val wr) (fun b0 b1 => some (b0, b1)) k d.2.1 e.1).symm
theorem fnIs : FnIs Try.prog 34 Try.f34 (bodyOf Try.f34) 29 := ⟨by kernel_rfl, by kernel_rfl, by kernel_rfl, by kernel_rfl⟩
theorem ok (k : Nat) : CalleeOK Try.prog 34 (callee k) :=
  callee_sig (T := (Int × ((List Int) × Bool))) fnIs hm (fE k) (loopsOK_of [(0, subC (bodyOf Try.f34) [1, 1, 0, 1, 0, 0])] (by kernel_rfl) ⟨of_loop (l0.sum k) rfl (l0.ok k), trivial⟩) ps hs cl hn fi (fun (d : (Unit × Int × Unit)) (e : (((List Int) × Bool) × Unit)) => f k d.2.1 e.1) val wr rfl (fun _ => rfl) (run_f k)
end scroll_Eye_Get
namespace scroll_Eye_Wide
def tree {X : Type} (K : Int → ((List Int) × Bool) → Option X) (k : Nat) (m0 : ((List Int) × Bool)) : Option X :=
  (Option.bind (scroll_Eye_Get.f k (4 : Int) m0) (fun r1 => (Option.bind (scroll_Eye_Get.f k (4 : Int) r1.2) (fun r2 => (bif (decide (r2.1 ≥ (2147483648 : Int))) then (Option.bind (scroll_Eye_Blind.f k r2.2) (fun r3 => (K (0 : Int) r3))) else (K (orI .i64 (shlI .i64 r2.1 32) r1.1) r2.2))))))
def f (k : Nat) (m0 : ((List Int) × Bool)) : Option (Int × ((List Int) × Bool)) := tree (fun b0 b1 => some (b0, b1)) k m0
theorem tree_nat {X Y : Type} (h : X → Option Y) (K : Int → ((List Int) × Bool) → Option X) (k : Nat) (m0 : ((List Int) × Bool)) : Option.bind (tree K k m0) h = tree (fun b0 b1 => Option.bind (K b0 b1) h) k m0 := by
  simp only [tree, bif_bind, sel_bind', Option.bind_assoc, Option.bind_none, Option.bind_some]
abbrev ps : List Sh := [.ptr 0]
abbrev hs : List (Nat × ESh) := [(0, .cell (.data (.pair .str .bool)))]
abbrev hi : List Nat := hs.map (·.1)
abbrev fi : List Nat := [0]
abbrev cl : List (Place × Nat × Hint) := []
abbrev hn : List Hint := [.any]
def val (t : (Int × ((List Int) × Bool))) : AV := Sh.mk (.data (.int .i64)) t.1
def wr (t : (Int × ((List Int) × Bool))) : Heap := [(0, ESh.mk (.cell (.data (.pair .str .bool))) t.2)]
def callee (k : Nat) : Callee := sigCallee ps hs (fun (d : (Unit × Unit)) (e : (((List Int) × Bool) × Unit)) => f k e.1) val wr
def E (k : Nat) : Env := ⟨fnTab [(34, [scroll_Eye_Get.callee k]), (49, [scroll_Eye_Blind.callee k])], loopTab [], natsTab [], natTab []⟩
theorem fE (k : Nat) : ∀ f, ∀ c ∈ (E k).fn f, CalleeOK Try.prog f c := fnTab_ok ⟨⟨scroll_Eye_Get.ok k, trivial⟩, ⟨scroll_Eye_Blind.ok k, trivial⟩, trivial⟩
theorem run (k : Nat) (d : (Unit × Unit)) (e : (((List Int) × Bool) × Unit)) : runFn Try.prog (E k) 17 (bodyOf Try.f23) Try.f23.results.toList cl hn hi (mkL ps d) (mkH hs e) =
    tree (fun b0 b1 => leafFn hs fi e val wr (b0, b1)) k e.1 := by kernel_rfl
theorem run_f (k : Nat) (d : (Unit × Unit)) (e : (((List Int) × Bool) × Unit)) : runFn Try.prog (E k) 17 (bodyOf Try.f23) Try.f23.results.toList cl hn hi (mkL ps d) (mkH hs e) = (f k e.1).bind (leafFn hs fi e val wr) :=
  (run k d e).trans (tree_nat (leafFn hs fi e val wr) (fun b0 b1 => some (b0, b1)) k e.1).symm
theorem fnIs : FnIs Try.prog 23 Try.f23 (bodyOf Try.f23) 17 := ⟨by kernel_rfl, by kernel_rfl, by kernel_rfl, by kernel_rfl⟩
theorem ok (k : Nat) : CalleeOK Try.prog 23 (callee k) :=
  callee_sig (T := (Int × ((List Int) × Bool))) fnIs hm (fE k) (loopsOK_of [] (by kernel_rfl) trivial) ps hs cl hn fi (fun (d : (Unit × Unit)) (e : (((List Int) × Bool) × Unit)) => f k e.1) val wr rfl (fun _ => rfl) (run_f k)
end scroll_Eye_Wide
namespace scroll_Eye_Left
def tree {X : Type} (K : Int → Option X) (k : Nat) (m0 : ((List Int) × Bool)) : Option X :=
  (K ((List.length m0.1) : Int))
def f (k : Nat) (m0 : ((List Int) × Bool)) : Option Int := tree (fun b0 => some b0) k m0
theorem tree_nat {X Y : Type} (h : X → Option Y) (K : Int → Option X) (k : Nat) (m0 : ((List Int) × Bool)) : Option.bind (tree K k m0) h = tree (fun b0 => Option.bind (K b0) h) k m0 := by
  simp only [tree, bif_bind, sel_bind', Option.bind_assoc, Option.bind_none, Option.bind_some]
abbrev ps : List Sh := [.ptr 0]
abbrev hs : List (Nat × ESh) := [(0, .cell (.data (.pair .str .bool)))]
abbrev hi : List Nat := hs.map (·.1)
abbrev fi : List Nat := [0]
abbrev cl : List (Place × Nat × Hint) := []
abbrev hn : List Hint := [.any]
def val (t : Int) : AV := Sh.mk (.data (.int .i64)) t
def wr (t : Int) : Heap := []
def callee (k : Nat) : Callee := sigCallee ps hs (fun (d : (Unit × Unit)) (e : (((List Int) × Bool) × Unit)) => f k e.1) val wr
def E (k : Nat) : Env := ⟨fnTab [], loopTab [], natsTab [], natTab []⟩
theorem fE (k : Nat) : ∀ f, ∀ c ∈ (E k).fn f, CalleeOK Try.prog f c := fnTab_ok trivial
theorem run (k : Nat) (d : (Unit × Unit)) (e : (((List Int) × Bool) × Unit)) : runFn Try.prog (E k) 10 (bodyOf Try.f24) Try.f24.results.toList cl hn hi (mkL ps d) (mkH hs e) =
    tree (fun b0 => leafFn hs fi e val wr b0) k e.1 := by kernel_rfl
theorem run_f (k : Nat) (d : (Unit × Unit)) (e : (((List Int) × Bool) × Unit)) : runFn Try.prog (E k) 10 (bodyOf Try.f24) Try.f24.results.toList cl hn hi (mkL ps d) (mkH hs e) = (f k e.1).bind (leafFn hs fi e val wr) :=
  (run k d e).trans (tree_nat (leafFn hs fi e val wr) (fun b0 => some b0) k e.1).symm
theorem fnIs : FnIs Try.prog 24 Try.f24 (bodyOf Try.f24) 10 := ⟨by kernel_rfl, by kernel_rfl, by kernel_rfl, by kernel_rfl⟩
theorem ok (k : Nat) : CalleeOK Try.prog 24 (callee k) :=
  callee_sig (T := Int) fnIs hm (fE k) (loopsOK_of [] (by kernel_rfl) trivial) ps hs cl hn fi (fun (d : (Unit × Unit)) (e : (((List Int) × Bool) × Unit)) => f k e.1) val wr rfl (fun _ => rfl) (run_f k)
end scroll_Eye_Left
namespace trailheadlaw05_ScrollWide
def tree {X : Type} (K : Bool → Option X) (k : Nat) (a0 : Int) (a1 : (List Int)) : Option X :=
  (Option.bind (trailheadlaw05_alive.f k) (fun r1 => (bif (!r1) then (K false) else (bif (decide (((List.length a1) : Int) > (100 : Int))) then (K true) else (Option.bind (scroll_Pen_Put.f k (8 : Int) ([a0] : (List Int))) (fun r2 => (Option.bind (scroll_Pen_Raw.f k a1 r2) (fun r3 => (Option.bind (scroll_Pen_Text.f k r3) (fun r4 => (Option.bind (scroll_On.f k r4) (fun r5 => (Option.bind (scroll_Eye_Wide.f k r5) (fun r6 => (bif (decide (a0 < (0 : Int))) then (bif (r6.1 == (0 : Int)) then (Option.bind (scroll_Eye_Bad.f k r6.2) (fun r7 => (bif r7 then (Option.bind (scroll_Eye_Left.f k r6.2) (fun r8 => (K (r8 == (0 : Int))))) else (K false)))) else (K false)) else (bif (r6.1 == a0) then (Option.bind (scroll_Eye_Bad.f k r6.2) (fun r9 => (bif (!r9) then (Option.bind (scroll_Eye_Left.f k r6.2) (fun r10 => (K (r10 == ((List.length a1) : Int))))) else (K false)))) else (K false)))))))))))))))))
def f (k : Nat) (a0 : Int) (a1 : (List Int)) : Option Bool := tree (fun b0 => some b0) k a0 a1
theorem tree_nat {X Y : Type} (h : X → Option Y) (K : Bool → Option X) (k : Nat) (a0 : Int) (a1 : (List Int)) : Option.bind (tree K k a0 a1) h = tree (fun b0 => Option.bind (K b0) h) k a0 a1 := by
  simp only [tree, bif_bind, sel_bind', Option.bind_assoc, Option.bind_none, Option.bind_some]
abbrev ps : List Sh := [.data (.int .i64), .data .str]
abbrev hs : List (Nat × ESh) := []
abbrev hi : List Nat := hs.map (·.1)
abbrev fi : List Nat := []
abbrev cl : List (Place × Nat × Hint) := []
abbrev hn : List Hint := [.any]
def val (t : Bool) : AV := Sh.mk (.data .bool) t
def wr (t : Bool) : Heap := []
def callee (k : Nat) : Callee := sigCallee ps hs (fun (d : (Int × (List Int) × Unit)) (e : Unit) => f k d.1 d.2.1) val wr
def E (k : Nat) : Env := ⟨fnTab [(12, [trailheadlaw05_alive.callee k]), (21, [scroll_Pen_Put.callee k]), (22, [scroll_Pen_Raw.callee k]), (17, [scroll_Pen_Text.callee k]), (16, [scroll_On.callee k]), (23, [scroll_Eye_Wide.callee k]), (20, [scroll_Eye_Bad.callee k]), (24, [scroll_Eye_Left.callee k])], loopTab [], natsTab [], natTab []⟩
theorem fE (k : Nat) : ∀ f, ∀ c ∈ (E k).fn f, CalleeOK Try.prog f c := fnTab_ok ⟨⟨trailheadlaw05_alive.ok k, trivial⟩, ⟨scroll_Pen_Put.ok k, trivial⟩, ⟨scroll_Pen_Raw.ok k, trivial⟩, ⟨scroll_Pen_Text.ok k, trivial⟩, ⟨scroll_On.ok k, trivial⟩, ⟨scroll_Eye_Wide.ok k, trivial⟩, ⟨scroll_Eye_Bad.ok k, trivial⟩, ⟨scroll_Eye_Left.ok k, trivial⟩, trivial⟩
theorem run (k : Nat) (d : (Int × (List Int) × Unit)) (e : Unit) : runFn Try.prog (E k) 55 (bodyOf Try.f5) Try.f5.results.toList cl hn hi (mkL ps d) (mkH hs e) =
    tree (fun b0 => leafFn hs fi e val wr b0) k d.1 d.2.1 := by kernel_rfl
theorem run_f (k : Nat) (d : (Int × (List Int) × Unit)) (e : Unit) : runFn Try.prog (E k) 55 (bodyOf Try.f5) Try.f5.results.toList cl hn hi (mkL ps d) (mkH hs e) = (f k d.1 d.2.1).bind (leafFn hs fi e val wr) :=
  (run k d e).trans (tree_nat (leafFn hs fi e val wr) (fun b0 => some b0) k d.1 d.2.1).symm
theorem fnIs : FnIs Try.prog 5 Try.f5 (bodyOf Try.f5) 55 := ⟨by kernel_rfl, by kernel_rfl, by kernel_rfl, by kernel_rfl⟩
theorem ok (k : Nat) : CalleeOK Try.prog 5 (callee k) :=
  callee_sig (T := Bool) fnIs hm (fE k) (loopsOK_of [] (by kernel_rfl) trivial) ps hs cl hn fi (fun (d : (Int × (List Int) × Unit)) (e : Unit) => f k d.1 d.2.1) val wr rfl (fun _ => rfl) (run_f k)
end trailheadlaw05_ScrollWide
namespace scroll_Eye_Count
def tree {X : Type} (K : Int → ((List Int) × Bool) → Option X) (k : Nat) (a1 : Int) (m0 : ((List Int) × Bool)) : Option X :=
  (Option.bind (scroll_Eye_Get.f k (1 : Int) m0) (fun r1 => (bif (r1.1 == (253 : Int)) then (Option.bind (scroll_Eye_Get.f k (2 : Int) r1.2) (fun r2 => (bif (decide (r2.1 < (253 : Int))) then (Option.bind (scroll_Eye_Blind.f k r2.2) (fun r3 => (K (0 : Int) r3))) else (bif (decide (r2.1 > a1)) then (Option.bind (scroll_Eye_Blind.f k r2.2) (fun r4 => (K (0 : Int) r4))) else (K r2.1 r2.2))))) else (bif (r1.1 == (254 : Int)) then (Option.bind (scroll_Eye_Get.f k (4 : Int) r1.2) (fun r5 => (bif (decide (r5.1 < (65536 : Int))) then (Option.bind (scroll_Eye_Blind.f k r5.2) (fun r6 => (K (0 : Int) r6))) else (bif (decide (r5.1 > a1)) then (Option.bind (scroll_Eye_Blind.f k r5.2) (fun r7 => (K (0 : Int) r7))) else (K r5.1 r5.2))))) else (bif (r1.1 == (255 : Int)) then (Option.bind (scroll_Eye_Wide.f k r1.2) (fun r8 => (bif (decide (r8.1 < (4294967296 : Int))) then (Option.bind (scroll_Eye_Blind.f k r8.2) (fun r9 => (K (0 : Int) r9))) else (bif (decide (r8.1 > a1)) then (Option.bind (scroll_Eye_Blind.f k r8.2) (fun r10 => (K (0 : Int) r10))) else (K r8.1 r8.2))))) else (bif (decide (r1.1 < (0 : Int))) then (Option.bind (scroll_Eye_Blind.f k r1.2) (fun r11 => (K (0 : Int) r11))) else (bif (decide (r1.1 > a1)) then (Option.bind (scroll_Eye_Blind.f k r1.2) (fun r12 => (K (0 : Int) r12))) else (K r1.1 r1.2))))))))
def f (k : Nat) (a1 : Int) (m0 : ((List Int) × Bool)) : Option (Int × ((List Int) × Bool)) := tree (fun b0 b1 => some (b0, b1)) k a1 m0
theorem tree_nat {X Y : Type} (h : X → Option Y) (K : Int → ((List Int) × Bool) → Option X) (k : Nat) (a1 : Int) (m0 : ((List Int) × Bool)) : Option.bind (tree K k a1 m0) h = tree (fun b0 b1 => Option.bind (K b0 b1) h) k a1 m0 := by
  simp only [tree, bif_bind, sel_bind', Option.bind_assoc, Option.bind_none, Option.bind_some]
abbrev ps : List Sh := [.ptr 0, .data (.int .i64)]
abbrev hs : List (Nat × ESh) := [(0, .cell (.data (.pair .str .bool)))]
abbrev hi : List Nat := hs.map (·.1)
abbrev fi : List Nat := [0]
abbrev cl : List (Place × Nat × Hint) := []
abbrev hn : List Hint := [.any]
def val (t : (Int × ((List Int) × Bool))) : AV := Sh.mk (.data (.int .i64)) t.1
def wr (t : (Int × ((List Int) × Bool))) : Heap := [(0, ESh.mk (.cell (.data (.pair .str .bool))) t.2)]
def callee (k : Nat) : Callee := sigCallee ps hs (fun (d : (Unit × Int × Unit)) (e : (((List Int) × Bool) × Unit)) => f k d.2.1 e.1) val wr
def E (k : Nat) : Env := ⟨fnTab [(34, [scroll_Eye_Get.callee k]), (49, [scroll_Eye_Blind.callee k]), (23, [scroll_Eye_Wide.callee k])], loopTab [], natsTab [], natTab []⟩
theorem fE (k : Nat) : ∀ f, ∀ c ∈ (E k).fn f, CalleeOK Try.prog f c := fnTab_ok ⟨⟨scroll_Eye_Get.ok k, trivial⟩, ⟨scroll_Eye_Blind.ok k, trivial⟩, ⟨scroll_Eye_Wide.ok k, trivial⟩, trivial⟩
theorem run (k : Nat) (d : (Unit × Int × Unit)) (e : (((List Int) × Bool) × Unit)) : runFn Try.prog (E k) 33 (bodyOf Try.f29) Try.f29.results.toList cl hn hi (mkL ps d) (mkH hs e) =
    tree (fun b0 b1 => leafFn hs fi e val wr (b0, b1)) k d.2.1 e.1 := by kernel_rfl
theorem run_f (k : Nat) (d : (Unit × Int × Unit)) (e : (((List Int) × Bool) × Unit)) : runFn Try.prog (E k) 33 (bodyOf Try.f29) Try.f29.results.toList cl hn hi (mkL ps d) (mkH hs e) = (f k d.2.1 e.1).bind (leafFn hs fi e val wr) :=
  (run k d e).trans (tree_nat (leafFn hs fi e val wr) (fun b0 b1 => some (b0, b1)) k d.2.1 e.1).symm
theorem fnIs : FnIs Try.prog 29 Try.f29 (bodyOf Try.f29) 33 := ⟨by kernel_rfl, by kernel_rfl, by kernel_rfl, by kernel_rfl⟩
theorem ok (k : Nat) : CalleeOK Try.prog 29 (callee k) :=
  callee_sig (T := (Int × ((List Int) × Bool))) fnIs hm (fE k) (loopsOK_of [] (by kernel_rfl) trivial) ps hs cl hn fi (fun (d : (Unit × Int × Unit)) (e : (((List Int) × Bool) × Unit)) => f k d.2.1 e.1) val wr rfl (fun _ => rfl) (run_f k)
end scroll_Eye_Count
namespace trailheadref05_Back
namespace l0
def step {X : Type} (K : Int → Int → Option X) (G : Int → Int → Option X) (k : Nat) (x0 : (List Int)) (x2 : Int) (x3 : Bool) (x4 : Int) (x5 : Int) : Option X :=
  (bif (decide (x5 ≥ (0 : Int))) then (bif (decide (0 ≤ x5)) then (bif (decide (x5 < ((List.length x0) : Int))) then (G (addI .u64 (mulI .u64 x4 256) (IntKind.wrap .u64 (List.getD x0 (Int.toNat x5) 0))) (subI .i64 x5 1)) else none) else none) else (K x4 x5))
def go {X : Type} (K : Int → Int → Option X) (k : Nat) (x0 : (List Int)) (x2 : Int) (x3 : Bool) : Nat → Int → Int → Option X
  | 0, _, _ => none
  | n + 1, x4, x5 => step K (go K k x0 x2 x3 n) k x0 x2 x3 x4 x5
def f (k : Nat) (x0 : (List Int)) (x2 : Int) (x3 : Bool) (n : Nat) (x4 : Int) (x5 : Int) : Option (Int × Int) := go (fun x4 x5 => some (x4, x5)) k x0 x2 x3 n x4 x5
theorem step_nat {X Y : Type} (h : X → Option Y) (K : Int → Int → Option X) (G : Int → Int → Option X) (k : Nat) (x0 : (List Int)) (x2 : Int) (x3 : Bool) (x4 : Int) (x5 : Int) : Option.bind (step K G k x0 x2 x3 x4 x5) h = step (fun x4 x5 => Option.bind (K x4 x5) h) (fun x4 x5 => Option.bind (G x4 x5) h) k x0 x2 x3 x4 x5 := by
  simp only [step, bif_bind, sel_bind', Option.bind_assoc, Option.bind_none, Option.bind_some]
theorem go_nat {X Y : Type} (h : X → Option Y) (K : Int → Int → Option X) (k : Nat) (x0 : (List Int)) (x2 : Int) (x3 : Bool) (n : Nat) : ∀ (x4 : Int) (x5 : Int), Option.bind (go K k x0 x2 x3 n x4 x5) h = go (fun x4 x5 => Option.bind (K x4 x5) h) k x0 x2 x3 n x4 x5 := by
  induction n with
  | zero => intros; rfl
  | succ n ih => intro x4 x5; show Option.bind (step K (go K k x0 x2 x3 n) k x0 x2 x3 x4 x5) h = step (fun x4 x5 => Option.bind (K x4 x5) h) (go (fun x4 x5 => Option.bind (K x4 x5) h) k x0 x2 x3 n) k x0 x2 x3 x4 x5; rw [step_nat h]; simp only [ih]
abbrev S : List (Nat × Sh) := [(0, .data .str), (2, .data (.int .i64)), (3, .data .bool), (4, .data (.int .u64)), (5, .data (.int .i64))]
abbrev H : List (Nat × ESh) := []
abbrev cl : List (Place × Nat × Hint) := []
abbrev hn : List (Nat × Hint) := [(0, .any), (2, .any), (3, .any), (4, .any), (5, .any)]
abbrev kp : List Nat := []
abbrev rc : List (Place × Nat × Hint) := []
abbrev rs : List (Nat × Hint) := []
abbrev ri : List Nat := []
def KX (d : ((List Int) × Int × Bool × Int × Int × Unit)) (e : Unit) (v : (Int × Int)) : St := ⟨mkS S (d.1, d.2.1, d.2.2.1, v.1, v.2, ()), mkH H (())⟩
def sum (k : Nat) : LoopSum := sigLoopX S cl hn kp H 0 (fun (d : ((List Int) × Int × Bool × Int × Int × Unit)) (e : Unit) => f k d.1 d.2.1 d.2.2.1 k d.2.2.2.1 d.2.2.2.2.1) KX
end l0
def tree {X : Type} (K : Int → Bool → Option X) (k : Nat) (a0 : (List Int)) : Option X :=
  (Option.bind (trailheadref05_Back.l0.f k a0 (0 : Int) false k (0 : Int) (subI .i64 ((List.length a0) : Int) 1)) (fun r1 => (K (IntKind.wrap .i64 r1.1) (decide (r1.1 < (9223372036854775808 : Int))))))
def f (k : Nat) (a0 : (List Int)) : Option (Int × Bool) := tree (fun b0 b1 => some (b0, b1)) k a0
theorem tree_nat {X Y : Type} (h : X → Option Y) (K : Int → Bool → Option X) (k : Nat) (a0 : (List Int)) : Option.bind (tree K k a0) h = tree (fun b0 b1 => Option.bind (K b0 b1) h) k a0 := by
  simp only [tree, bif_bind, sel_bind', Option.bind_assoc, Option.bind_none, Option.bind_some]
abbrev ps : List Sh := [.data .str]
abbrev hs : List (Nat × ESh) := []
abbrev hi : List Nat := hs.map (·.1)
abbrev fi : List Nat := []
abbrev cl : List (Place × Nat × Hint) := []
abbrev hn : List Hint := [.any, .any]
def val (t : (Int × Bool)) : AV := .tcons (Sh.mk (.data (.int .i64)) t.1) (.tcons (Sh.mk (.data .bool) t.2) .tnil)
def wr (t : (Int × Bool)) : Heap := []
def callee (k : Nat) : Callee := sigCallee ps hs (fun (d : ((List Int) × Unit)) (e : Unit) => f k d.1) val wr
def E (k : Nat) : Env := ⟨fnTab [], loopTab [(0, l0.sum k)], natsTab [], natTab []⟩
theorem fE (k : Nat) : ∀ f, ∀ c ∈ (E k).fn f, CalleeOK Try.prog f c := fnTab_ok trivial
namespace l0
theorem round (k : Nat) (d : ((List Int) × Int × Bool × Int × Int × Unit)) (e : Unit) (G : St → Option (Ex × St)) : roundK Try.prog (E k) 24 0 (subC (bodyOf Try.f32) [1, 1, 0, 1, 0, 0]) (recast cl hn kp) (finBy cl hn kp rc rs ri) G ⟨mkS S d, mkH H e⟩ =
    step (fun x4 x5 => some (.exit 0, KX d e (x4, x5))) (fun x4 x5 => G ⟨mkS S (d.1, d.2.1, d.2.2.1, x4, x5, ()), mkH H (())⟩) k d.1 d.2.1 d.2.2.1 d.2.2.2.1 d.2.2.2.2.1 := by kernel_rfl
theorem it (k n : Nat) (d : ((List Int) × Int × Bool × Int × Int × Unit)) (e : Unit) : loopIt Try.prog (E k) 24 0 (subC (bodyOf Try.f32) [1, 1, 0, 1, 0, 0]) (recast cl hn kp) (finBy cl hn kp rc rs ri) n ⟨mkS S d, mkH H e⟩ = go (fun x4 x5 => some (.exit 0, KX d e (x4, x5))) k d.1 d.2.1 d.2.2.1 n d.2.2.2.1 d.2.2.2.2.1 :=
  loopIt_eq (D := ((List Int) × Int × Bool × Int × Int × Unit) × Unit) (fun p => ⟨mkS S p.1, mkH H p.2⟩) (fun F p => step (fun x4 x5 => some (.exit 0, KX p.1 p.2 (x4, x5))) (fun x4 x5 => F ((p.1.1, p.1.2.1, p.1.2.2.1, x4, x5, ()), (()))) k p.1.1 p.1.2.1 p.1.2.2.1 p.1.2.2.2.1 p.1.2.2.2.2.1) (fun n p => go (fun x4 x5 => some (.exit 0, KX p.1 p.2 (x4, x5))) k p.1.1 p.1.2.1 p.1.2.2.1 n p.1.2.2.2.1 p.1.2.2.2.2.1) (fun _ => rfl) (fun _ _ => rfl) (fun G p => round k p.1 p.2 G) n (d, e)
theorem ok (k : Nat) : LoopOK Try.prog 24 (subC (bodyOf Try.f32) [1, 1, 0, 1, 0, 0]) (sum k) :=
  loop_sigX hm (fE k) (loopsOK_of [] (by kernel_rfl) trivial) S cl hn kp H 0 (fun (d : ((List Int) × Int × Bool × Int × Int × Unit)) (e : Unit) => f k d.1 d.2.1 d.2.2.1 k d.2.2.2.1 d.2.2.2.2.1) KX cl hn kp rc rs ri k
    (fun d e => (it k k d e).trans (go_nat (fun v => some (Ex.exit 0, KX d e v)) (fun x4 x5 => some (x4, x5)) k d.1 d.2.1 d.2.2.1 k d.2.2.2.1 d.2.2.2.2.1).symm)
end l0
theorem run (k : Nat) (d : ((List Int) × Unit)) (e : Unit) : runFn Try.prog (E k) 24 (bodyOf Try.f32) Try.f32.results.toList cl hn hi (mkL ps d) (mkH hs e) =
    tree (fun b0 b1 => leafFn hs fi e val wr (b0, b1)) k d.1 := by kernel_rfl
theorem run_f (k : Nat) (d : ((List Int) × Unit)) (e : Unit) : runFn Try.prog (E k) 24 (bodyOf Try.f32) Try.f32.results.toList cl hn hi (mkL ps d) (mkH hs e) = (f k d.1).bind (leafFn hs fi e val wr) :=
  (run k d e).trans (tree_nat (leafFn hs fi e val wr) (fun b0 b1 => some (b0, b1)) k d.1).symm
theorem fnIs : FnIs Try.prog 32 Try.f32 (bodyOf Try.f32) 24 := ⟨by kernel_rfl, by kernel_rfl, by kernel_rfl, by kernel_rfl⟩
theorem ok (k : Nat) : CalleeOK Try.prog 32 (callee k) :=
  callee_sig (T := (Int × Bool)) fnIs hm (fE k) (loopsOK_of [(0, subC (bodyOf Try.f32) [1, 1, 0, 1, 0, 0])] (by kernel_rfl) ⟨of_loop (l0.sum k) rfl (l0.ok k), trivial⟩) ps hs cl hn fi (fun (d : ((List Int) × Unit)) (e : Unit) => f k d.1) val wr rfl (fun _ => rfl) (run_f k)
end trailheadref05_Back
namespace trailheadref05_Counted
def tree {X : Type} (K : Int → Int → Option X) (k : Nat) (a0 : (List Int)) (a1 : Int) : Option X :=
  (bif (((List.length a0) : Int) == (0 : Int)) then (K (0 : Int) (0 : Int)) else (bif (decide (0 < ((List.length a0) : Int))) then (bif ((List.getD a0 0 0) == (253 : Int)) then (bif (decide (0 < ((List.length a0) : Int))) then (bif ((List.getD a0 0 0) == (254 : Int)) then (bif (decide (0 < ((List.length a0) : Int))) then (bif ((List.getD a0 0 0) == (255 : Int)) then (bif (decide (0 < ((List.length a0) : Int))) then (bif (decide (((List.length a0) : Int) < (9 : Int))) then (K (0 : Int) (0 : Int)) else (bif (decide (9 ≤ ((List.length a0) : Int))) then (Option.bind (trailheadref05_Back.f k (List.drop 1 (List.take 9 a0))) (fun r1 => (bif (!r1.2) then (K (0 : Int) (0 : Int)) else (bif (decide (r1.1 > a1)) then (K (0 : Int) (0 : Int)) else (Option.bind (trailheadref05_Count.f k r1.1) (fun r2 => (bif (decide (9 ≤ ((List.length a0) : Int))) then (bif (!(decide (r2 = (List.take 9 a0)))) then (K (0 : Int) (0 : Int)) else (K r1.1 (9 : Int))) else none))))))) else none)) else none) else (bif (decide (0 < ((List.length a0) : Int))) then (bif (decide (((List.length a0) : Int) < (5 : Int))) then (K (0 : Int) (0 : Int)) else (bif (decide (5 ≤ ((List.length a0) : Int))) then (Option.bind (trailheadref05_Back.f k (List.drop 1 (List.take 5 a0))) (fun r3 => (bif (!r3.2) then (K (0 : Int) (0 : Int)) else (bif (decide (r3.1 > a1)) then (K (0 : Int) (0 : Int)) else (Option.bind (trailheadref05_Count.f k r3.1) (fun r4 => (bif (decide (5 ≤ ((List.length a0) : Int))) then (bif (!(decide (r4 = (List.take 5 a0)))) then (K (0 : Int) (0 : Int)) else (K r3.1 (5 : Int))) else none))))))) else none)) else none)) else none) else (bif (decide (0 < ((List.length a0) : Int))) then (bif ((List.getD a0 0 0) == (255 : Int)) then (bif (decide (0 < ((List.length a0) : Int))) then (bif (decide (((List.length a0) : Int) < (9 : Int))) then (K (0 : Int) (0 : Int)) else (bif (decide (9 ≤ ((List.length a0) : Int))) then (Option.bind (trailheadref05_Back.f k (List.drop 1 (List.take 9 a0))) (fun r5 => (bif (!r5.2) then (K (0 : Int) (0 : Int)) else (bif (decide (r5.1 > a1)) then (K (0 : Int) (0 : Int)) else (Option.bind (trailheadref05_Count.f k r5.1) (fun r6 => (bif (decide (9 ≤ ((List.length a0) : Int))) then (bif (!(decide (r6 = (List.take 9 a0)))) then (K (0 : Int) (0 : Int)) else (K r5.1 (9 : Int))) else none))))))) else none)) else none) else (bif (decide (0 < ((List.length a0) : Int))) then (bif (decide (((List.length a0) : Int) < (3 : Int))) then (K (0 : Int) (0 : Int)) else (bif (decide (3 ≤ ((List.length a0) : Int))) then (Option.bind (trailheadref05_Back.f k (List.drop 1 (List.take 3 a0))) (fun r7 => (bif (!r7.2) then (K (0 : Int) (0 : Int)) else (bif (decide (r7.1 > a1)) then (K (0 : Int) (0 : Int)) else (Option.bind (trailheadref05_Count.f k r7.1) (fun r8 => (bif (decide (3 ≤ ((List.length a0) : Int))) then (bif (!(decide (r8 = (List.take 3 a0)))) then (K (0 : Int) (0 : Int)) else (K r7.1 (3 : Int))) else none))))))) else none)) else none)) else none)) else none) else (bif (decide (0 < ((List.length a0) : Int))) then (bif ((List.getD a0 0 0) == (254 : Int)) then (bif (decide (0 < ((List.length a0) : Int))) then (bif ((List.getD a0 0 0) == (255 : Int)) then (bif (decide (0 < ((List.length a0) : Int))) then (bif (decide (((List.length a0) : Int) < (9 : Int))) then (K (0 : Int) (0 : Int)) else (bif (decide (9 ≤ ((List.length a0) : Int))) then (Option.bind (trailheadref05_Back.f k (List.drop 1 (List.take 9 a0))) (fun r9 => (bif (!r9.2) then (K (0 : Int) (0 : Int)) else (bif (decide (r9.1 > a1)) then (K (0 : Int) (0 : Int)) else (Option.bind (trailheadref05_Count.f k r9.1) (fun r10 => (bif (decide (9 ≤ ((List.length a0) : Int))) then (bif (!(decide (r10 = (List.take 9 a0)))) then (K (0 : Int) (0 : Int)) else (K r9.1 (9 : Int))) else none))))))) else none)) else none) else (bif (decide (0 < ((List.length a0) : Int))) then (bif (decide (((List.length a0) : Int) < (5 : Int))) then (K (0 : Int) (0 : Int)) else (bif (decide (5 ≤ ((List.length a0) : Int))) then (Option.bind (trailheadref05_Back.f k (List.drop 1 (List.take 5 a0))) (fun r11 => (bif (!r11.2) then (K (0 : Int) (0 : Int)) else (bif (decide (r11.1 > a1)) then (K (0 : Int) (0 : Int)) else (Option.bind (trailheadref05_Count.f k r11.1) (fun r12 => (bif (decide (5 ≤ ((List.length a0) : Int))) then (bif (!(decide (r12 = (List.take 5 a0)))) then (K (0 : Int) (0 : Int)) else (K r11.1 (5 : Int))) else none))))))) else none)) else none)) else none) else (bif (decide (0 < ((List.length a0) : Int))) then (bif ((List.getD a0 0 0) == (255 : Int)) then (bif (decide (0 < ((List.length a0) : Int))) then (bif (decide (((List.length a0) : Int) < (9 : Int))) then (K (0 : Int) (0 : Int)) else (bif (decide (9 ≤ ((List.length a0) : Int))) then (Option.bind (trailheadref05_Back.f k (List.drop 1 (List.take 9 a0))) (fun r13 => (bif (!r13.2) then (K (0 : Int) (0 : Int)) else (bif (decide (r13.1 > a1)) then (K (0 : Int) (0 : Int)) else (Option.bind (trailheadref05_Count.f k r13.1) (fun r14 => (bif (decide (9 ≤ ((List.length a0) : Int))) then (bif (!(decide (r14 = (List.take 9 a0)))) then (K (0 : Int) (0 : Int)) else (K r13.1 (9 : Int))) else none))))))) else none)) else none) else (bif (decide (0 < ((List.length a0) : Int))) then (bif (decide ((IntKind.wrap .i64 (List.getD a0 0 0)) > a1)) then (K (0 : Int) (0 : Int)) else (Option.bind (trailheadref05_Count.f k (IntKind.wrap .i64 (List.getD a0 0 0))) (fun r15 => (bif (decide (1 ≤ ((List.length a0) : Int))) then (bif (!(decide (r15 = (List.take 1 a0)))) then (K (0 : Int) (0 : Int)) else (K (IntKind.wrap .i64 (List.getD a0 0 0)) (1 : Int))) else none)))) else none)) else none)) else none)) else none))
def f (k : Nat) (a0 : (List Int)) (a1 : Int) : Option (Int × Int) := tree (fun b0 b1 => some (b0, b1)) k a0 a1
theorem tree_nat {X Y : Type} (h : X → Option Y) (K : Int → Int → Option X) (k : Nat) (a0 : (List Int)) (a1 : Int) : Option.bind (tree K k a0 a1) h = tree (fun b0 b1 => Option.bind (K b0 b1) h) k a0 a1 := by
  simp only [tree, bif_bind, sel_bind', Option.bind_assoc, Option.bind_none, Option.bind_some]
abbrev ps : List Sh := [.data .str, .data (.int .i64)]
abbrev hs : List (Nat × ESh) := []
abbrev hi : List Nat := hs.map (·.1)
abbrev fi : List Nat := []
abbrev cl : List (Place × Nat × Hint) := []
abbrev hn : List Hint := [.any, .any]
def val (t : (Int × Int)) : AV := .tcons (Sh.mk (.data (.int .i64)) t.1) (.tcons (Sh.mk (.data (.int .i64)) t.2) .tnil)
def wr (t : (Int × Int)) : Heap := []
def callee (k : Nat) : Callee := sigCallee ps hs (fun (d : ((List Int) × Int × Unit)) (e : Unit) => f k d.1 d.2.1) val wr
def E (k : Nat) : Env := ⟨fnTab [(32, [trailheadref05_Back.callee k]), (47, [trailheadref05_Count.callee k])], loopTab [], natsTab [], natTab []⟩
theorem fE (k : Nat) : ∀ f, ∀ c ∈ (E k).fn f, CalleeOK Try.prog f c := fnTab_ok ⟨⟨trailheadref05_Back.ok k, trivial⟩, ⟨trailheadref05_Count.ok k, trivial⟩, trivial⟩
theorem run (k : Nat) (d : ((List Int) × Int × Unit)) (e : Unit) : runFn Try.prog (E k) 58 (bodyOf Try.f30) Try.f30.results.toList cl hn hi (mkL ps d) (mkH hs e) =
    tree (fun b0 b1 => leafFn hs fi e val wr (b0, b1)) k d.1 d.2.1 := by kernel_rfl
theorem run_f (k : Nat) (d : ((List Int) × Int × Unit)) (e : Unit) : runFn Try.prog (E k) 58 (bodyOf Try.f30) Try.f30.results.toList cl hn hi (mkL ps d) (mkH hs e) = (f k d.1 d.2.1).bind (leafFn hs fi e val wr) :=
  (run k d e).trans (tree_nat (leafFn hs fi e val wr) (fun b0 b1 => some (b0, b1)) k d.1 d.2.1).symm
theorem fnIs : FnIs Try.prog 30 Try.f30 (bodyOf Try.f30) 58 := ⟨by kernel_rfl, by kernel_rfl, by kernel_rfl, by kernel_rfl⟩
theorem ok (k : Nat) : CalleeOK Try.prog 30 (callee k) :=
  callee_sig (T := (Int × Int)) fnIs hm (fE k) (loopsOK_of [] (by kernel_rfl) trivial) ps hs cl hn fi (fun (d : ((List Int) × Int × Unit)) (e : Unit) => f k d.1 d.2.1) val wr rfl (fun _ => rfl) (run_f k)
end trailheadref05_Counted
namespace trailheadlaw05_ScrollCounts
def tree {X : Type} (K : Bool → Option X) (k : Nat) (a0 : (List Int)) (a1 : Int) (a2 : Int) : Option X :=
  (Option.bind (trailheadlaw05_alive.f k) (fun r1 => (bif (!r1) then (K false) else (bif (decide (((List.length a0) : Int) > (100 : Int))) then (K true) else (Option.bind (scroll_On.f k a0) (fun r2 => (Option.bind (scroll_Eye_Count.f k a1 r2) (fun r3 => (Option.bind (trailheadref05_Counted.f k a0 a1) (fun r4 => (Option.bind (scroll_Pen_Count.f k a2) (fun r5 => (Option.bind (scroll_Pen_Text.f k r5) (fun r6 => (Option.bind (scroll_On.f k r6) (fun r7 => (Option.bind (scroll_Eye_Count.f k (mxI a2 0) r7) (fun r8 => (bif (r3.1 == r4.1) then (Option.bind (scroll_Eye_Bad.f k r3.2) (fun r9 => (bif (r9 == (r4.2 == (0 : Int))) then (bif (r4.2 == (0 : Int)) then (bif (r8.1 == (mxI a2 0)) then (Option.bind (scroll_Eye_Done.f k r8.2) (fun r10 => (K r10))) else (K false)) else (Option.bind (scroll_Eye_Left.f k r3.2) (fun r11 => (bif (r11 == (subI .i64 ((List.length a0) : Int) r4.2)) then (bif (r8.1 == (mxI a2 0)) then (Option.bind (scroll_Eye_Done.f k r8.2) (fun r12 => (K r12))) else (K false)) else (K false))))) else (K false)))) else (K false))))))))))))))))))))
def f (k : Nat) (a0 : (List Int)) (a1 : Int) (a2 : Int) : Option Bool := tree (fun b0 => some b0) k a0 a1 a2
theorem tree_nat {X Y : Type} (h : X → Option Y) (K : Bool → Option X) (k : Nat) (a0 : (List Int)) (a1 : Int) (a2 : Int) : Option.bind (tree K k a0 a1 a2) h = tree (fun b0 => Option.bind (K b0) h) k a0 a1 a2 := by
  simp only [tree, bif_bind, sel_bind', Option.bind_assoc, Option.bind_none, Option.bind_some]
abbrev ps : List Sh := [.data .str, .data (.int .i64), .data (.int .i64)]
abbrev hs : List (Nat × ESh) := []
abbrev hi : List Nat := hs.map (·.1)
abbrev fi : List Nat := []
abbrev cl : List (Place × Nat × Hint) := []
abbrev hn : List Hint := [.any]
def val (t : Bool) : AV := Sh.mk (.data .bool) t
def wr (t : Bool) : Heap := []
def callee (k : Nat) : Callee := sigCallee ps hs (fun (d : ((List Int) × Int × Int × Unit)) (e : Unit) => f k d.1 d.2.1 d.2.2.1) val wr
def E (k : Nat) : Env := ⟨fnTab [(12, [trailheadlaw05_alive.callee k]), (16, [scroll_On.callee k]), (29, [scroll_Eye_Count.callee k]), (30, [trailheadref05_Counted.callee k]), (31, [scroll_Pen_Count.callee k]), (17, [scroll_Pen_Text.callee k]), (20, [scroll_Eye_Bad.callee k]), (19, [scroll_Eye_Done.callee k]), (24, [scroll_Eye_Left.callee k])], loopTab [], natsTab [], natTab []⟩
theorem fE (k : Nat) : ∀ f, ∀ c ∈ (E k).fn f, CalleeOK Try.prog f c := fnTab_ok ⟨⟨trailheadlaw05_alive.ok k, trivial⟩, ⟨scroll_On.ok k, trivial⟩, ⟨scroll_Eye_Count.ok k, trivial⟩, ⟨trailheadref05_Counted.ok k, trivial⟩, ⟨scroll_Pen_Count.ok k, trivial⟩, ⟨scroll_Pen_Text.ok k, trivial⟩, ⟨scroll_Eye_Bad.ok k, trivial⟩, ⟨scroll_Eye_Done.ok k, trivial⟩, ⟨scroll_Eye_Left.ok k, trivial⟩, trivial⟩
theorem run (k : Nat) (d : ((List Int) × Int × Int × Unit)) (e : Unit) : runFn Try.prog (E k) 75 (bodyOf Try.f7) Try.f7.results.toList cl hn hi (mkL ps d) (mkH hs e) =
    tree (fun b0 => leafFn hs fi e val wr b0) k d.1 d.2.1 d.2.2.1 := by kernel_rfl
theorem run_f (k : Nat) (d : ((List Int) × Int × Int × Unit)) (e : Unit) : runFn Try.prog (E k) 75 (bodyOf Try.f7) Try.f7.results.toList cl hn hi (mkL ps d) (mkH hs e) = (f k d.1 d.2.1 d.2.2.1).bind (leafFn hs fi e val wr) :=
  (run k d e).trans (tree_nat (leafFn hs fi e val wr) (fun b0 => some b0) k d.1 d.2.1 d.2.2.1).symm
theorem fnIs : FnIs Try.prog 7 Try.f7 (bodyOf Try.f7) 75 := ⟨by kernel_rfl, by kernel_rfl, by kernel_rfl, by kernel_rfl⟩
theorem ok (k : Nat) : CalleeOK Try.prog 7 (callee k) :=
  callee_sig (T := Bool) fnIs hm (fE k) (loopsOK_of [] (by kernel_rfl) trivial) ps hs cl hn fi (fun (d : ((List Int) × Int × Int × Unit)) (e : Unit) => f k d.1 d.2.1 d.2.2.1) val wr rfl (fun _ => rfl) (run_f k)
end trailheadlaw05_ScrollCounts
namespace trailheadlaw05_ScrollPuts
namespace l0
def step {X : Type} (K : Int → ((List Int) × Bool) → Option X) (Q : Bool → Option X) (G : Int → ((List Int) × Bool) → Option X) (k : Nat) (x2 : Bool) (x25 : Int) (y0 : (List (Int × (Int × (Int × ((List Int) × (List Int))))))) (x26 : Int) (y800001 : ((List Int) × Bool)) : Option X :=
  (bif (decide (x26 < x25)) then (bif (decide (0 ≤ x26)) then (bif (decide (x26 < ((List.length y0) : Int))) then (bif (decide ((Int.toNat x26) < (List.length y0))) then (bif (((List.getD y0 (Int.toNat x26) (((0 : Int), (((0 : Int), (((0 : Int), (((List.replicate 32 0 : (List Int)), ([] : (List Int))) : ((List Int) × (List Int)))) : (Int × ((List Int) × (List Int))))) : (Int × (Int × ((List Int) × (List Int)))))) : (Int × (Int × (Int × ((List Int) × (List Int)))))))).1 == (0 : Int)) then (bif (decide ((((List.getD y0 (Int.toNat x26) (((0 : Int), (((0 : Int), (((0 : Int), (((List.replicate 32 0 : (List Int)), ([] : (List Int))) : ((List Int) × (List Int)))) : (Int × ((List Int) × (List Int))))) : (Int × (Int × ((List Int) × (List Int)))))) : (Int × (Int × (Int × ((List Int) × (List Int)))))))).2).1 < (1 : Int))) then (Q true) else (bif (decide ((((List.getD y0 (Int.toNat x26) (((0 : Int), (((0 : Int), (((0 : Int), (((List.replicate 32 0 : (List Int)), ([] : (List Int))) : ((List Int) × (List Int)))) : (Int × ((List Int) × (List Int))))) : (Int × (Int × ((List Int) × (List Int)))))) : (Int × (Int × (Int × ((List Int) × (List Int)))))))).2).1 > (7 : Int))) then (Q true) else (Option.bind (trailheadref05_Number.f k (((List.getD y0 (Int.toNat x26) (((0 : Int), (((0 : Int), (((0 : Int), (((List.replicate 32 0 : (List Int)), ([] : (List Int))) : ((List Int) × (List Int)))) : (Int × ((List Int) × (List Int))))) : (Int × (Int × ((List Int) × (List Int)))))) : (Int × (Int × (Int × ((List Int) × (List Int)))))))).2).1 ((((List.getD y0 (Int.toNat x26) (((0 : Int), (((0 : Int), (((0 : Int), (((List.replicate 32 0 : (List Int)), ([] : (List Int))) : ((List Int) × (List Int)))) : (Int × ((List Int) × (List Int))))) : (Int × (Int × ((List Int) × (List Int)))))) : (Int × (Int × (Int × ((List Int) × (List Int)))))))).2).2).1) (fun r5 => (Option.bind (trailheadref05_Back.f k r5) (fun r6 => (Option.bind (scroll_Eye_Get.f k (((List.getD y0 (Int.toNat x26) (((0 : Int), (((0 : Int), (((0 : Int), (((List.replicate 32 0 : (List Int)), ([] : (List Int))) : ((List Int) × (List Int)))) : (Int × ((List Int) × (List Int))))) : (Int × (Int × ((List Int) × (List Int)))))) : (Int × (Int × (Int × ((List Int) × (List Int)))))))).2).1 y800001) (fun r7 => (bif (r7.1 != r6.1) then (Q false) else (Option.bind (scroll_Eye_Get.f k (((List.getD y0 (Int.toNat x26) (((0 : Int), (((0 : Int), (((0 : Int), (((List.replicate 32 0 : (List Int)), ([] : (List Int))) : ((List Int) × (List Int)))) : (Int × ((List Int) × (List Int))))) : (Int × (Int × ((List Int) × (List Int)))))) : (Int × (Int × (Int × ((List Int) × (List Int)))))))).2).1 r7.2) (fun r8 => (bif (r8.1 != r6.1) then (Q false) else (G (addI .i64 x26 1) r8.2))))))))))))) else (bif (((List.getD y0 (Int.toNat x26) (((0 : Int), (((0 : Int), (((0 : Int), (((List.replicate 32 0 : (List Int)), ([] : (List Int))) : ((List Int) × (List Int)))) : (Int × ((List Int) × (List Int))))) : (Int × (Int × ((List Int) × (List Int)))))) : (Int × (Int × (Int × ((List Int) × (List Int)))))))).1 == (1 : Int)) then (Option.bind (scroll_Eye_Count.f k (9223372036854775807 : Int) y800001) (fun r9 => (bif (r9.1 != (mxI ((((List.getD y0 (Int.toNat x26) (((0 : Int), (((0 : Int), (((0 : Int), (((List.replicate 32 0 : (List Int)), ([] : (List Int))) : ((List Int) × (List Int)))) : (Int × ((List Int) × (List Int))))) : (Int × (Int × ((List Int) × (List Int)))))) : (Int × (Int × (Int × ((List Int) × (List Int)))))))).2).2).1 0)) then (Q false) else (G (addI .i64 x26 1) r9.2)))) else (bif (((List.getD y0 (Int.toNat x26) (((0 : Int), (((0 : Int), (((0 : Int), (((List.replicate 32 0 : (List Int)), ([] : (List Int))) : ((List Int) × (List Int)))) : (Int × ((List Int) × (List Int))))) : (Int × (Int × ((List Int) × (List Int)))))) : (Int × (Int × (Int × ((List Int) × (List Int)))))))).1 == (2 : Int)) then (Option.bind (scroll_Eye_Name.f k y800001) (fun r10 => (bif (!(decide (r10.1 = (((((List.getD y0 (Int.toNat x26) (((0 : Int), (((0 : Int), (((0 : Int), (((List.replicate 32 0 : (List Int)), ([] : (List Int))) : ((List Int) × (List Int)))) : (Int × ((List Int) × (List Int))))) : (Int × (Int × ((List Int) × (List Int)))))) : (Int × (Int × (Int × ((List Int) × (List Int)))))))).2).2).2).1))) then (Q false) else (G (addI .i64 x26 1) r10.2)))) else (bif (((List.getD y0 (Int.toNat x26) (((0 : Int), (((0 : Int), (((0 : Int), (((List.replicate 32 0 : (List Int)), ([] : (List Int))) : ((List Int) × (List Int)))) : (Int × ((List Int) × (List Int))))) : (Int × (Int × ((List Int) × (List Int)))))) : (Int × (Int × (Int × ((List Int) × (List Int)))))))).1 == (3 : Int)) then (Option.bind (scroll_Eye_Raw.f k ((List.length (((((List.getD y0 (Int.toNat x26) (((0 : Int), (((0 : Int), (((0 : Int), (((List.replicate 32 0 : (List Int)), ([] : (List Int))) : ((List Int) × (List Int)))) : (Int × ((List Int) × (List Int))))) : (Int × (Int × ((List Int) × (List Int)))))) : (Int × (Int × (Int × ((List Int) × (List Int)))))))).2).2).2).2) : Int) y800001) (fun r11 => (bif (!(decide (r11.1 = (((((List.getD y0 (Int.toNat x26) (((0 : Int), (((0 : Int), (((0 : Int), (((List.replicate 32 0 : (List Int)), ([] : (List Int))) : ((List Int) × (List Int)))) : (Int × ((List Int) × (List Int))))) : (Int × (Int × ((List Int) × (List Int)))))) : (Int × (Int × (Int × ((List Int) × (List Int)))))))).2).2).2).2))) then (Q false) else (G (addI .i64 x26 1) r11.2)))) else (G (addI .i64 x26 1) y800001))))) else none) else none) else none) else (K x26 y800001))
def go {X : Type} (K : Int → ((List Int) × Bool) → Option X) (Q : Bool → Option X) (k : Nat) (x2 : Bool) (x25 : Int) (y0 : (List (Int × (Int × (Int × ((List Int) × (List Int))))))) : Nat → Int → ((List Int) × Bool) → Option X
  | 0, _, _ => none
  | n + 1, x26, y800001 => step K Q (go K Q k x2 x25 y0 n) k x2 x25 y0 x26 y800001
def f (k : Nat) (x2 : Bool) (x25 : Int) (y0 : (List (Int × (Int × (Int × ((List Int) × (List Int))))))) (n : Nat) (x26 : Int) (y800001 : ((List Int) × Bool)) : Option ((Int × ((List Int) × Bool)) ⊕ Bool) := go (fun x26 y800001 => some (.inl (x26, y800001))) (fun q0 => some (.inr q0)) k x2 x25 y0 n x26 y800001
theorem step_nat {X Y : Type} (h : X → Option Y) (K : Int → ((List Int) × Bool) → Option X) (Q : Bool → Option X) (G : Int → ((List Int) × Bool) → Option X) (k : Nat) (x2 : Bool) (x25 : Int) (y0 : (List (Int × (Int × (Int × ((List Int) × (List Int))))))) (x26 : Int) (y800001 : ((List Int) × Bool)) : Option.bind (step K Q G k x2 x25 y0 x26 y800001) h = step (fun x26 y800001 => Option.bind (K x26 y800001) h) (fun q0 => Option.bind (Q q0) h) (fun x26 y800001 => Option.bind (G x26 y800001) h) k x2 x25 y0 x26 y800001 := by
  simp only [step, bif_bind, sel_bind', Option.bind_assoc, Option.bind_none, Option.bind_some]
theorem go_nat {X Y : Type} (h : X → Option Y) (K : Int → ((List Int) × Bool) → Option X) (Q : Bool → Option X) (k : Nat) (x2 : Bool) (x25 : Int) (y0 : (List (Int × (Int × (Int × ((List Int) × (List Int))))))) (n : Nat) : ∀ (x26 : Int) (y800001 : ((List Int) × Bool)), Option.bind (go K Q k x2 x25 y0 n x26 y800001) h = go (fun x26 y800001 => Option.bind (K x26 y800001) h) (fun q0 => Option.bind (Q q0) h) k x2 x25 y0 n x26 y800001 := by
  induction n with
  | zero => intros; rfl
  | succ n ih => intro x26 y800001; show Option.bind (step K Q (go K Q k x2 x25 y0 n) k x2 x25 y0 x26 y800001) h = step (fun x26 y800001 => Option.bind (K x26 y800001) h) (fun q0 => Option.bind (Q q0) h) (go (fun x26 y800001 => Option.bind (K x26 y800001) h) (fun q0 => Option.bind (Q q0) h) k x2 x25 y0 n) k x2 x25 y0 x26 y800001; rw [step_nat h]; simp only [ih]
abbrev S : List (Nat × Sh) := [(2, .data .bool), (5, .ptr 800001), (24, .vec 0), (25, .data (.int .i64)), (26, .data (.int .i64))]
abbrev H : List (Nat × ESh) := [(0, .rows 0 59 (.pair (.int .i64) (.pair (.int .i64) (.pair (.int .i64) (.pair (.arr .u8 32) .str))))), (800001, .cell (.data (.pair .str .bool)))]
abbrev cl : List (Place × Nat × Hint) := []
abbrev hn : List (Nat × Hint) := [(2, .any), (5, .any), (24, .any), (25, .any), (26, .any)]
abbrev kp : List Nat := [0]
abbrev rc : List (Place × Nat × Hint) := []
abbrev rs : List (Nat × Hint) := [(2, .any)]
abbrev ri : List Nat := [0]
def KX (d : (Bool × Unit × Unit × Int × Int × Unit)) (e : ((List (Int × (Int × (Int × ((List Int) × (List Int)))))) × ((List Int) × Bool) × Unit)) (v : (Int × ((List Int) × Bool))) : St := ⟨mkS S (d.1, (), (), d.2.2.2.1, v.1, ()), mkH H (e.1, v.2, ())⟩
abbrev RS : List (Nat × Sh) := [(2, .data .bool)]
abbrev RH : List (Nat × ESh) := [(0, .rows 0 59 (.pair (.int .i64) (.pair (.int .i64) (.pair (.int .i64) (.pair (.arr .u8 32) .str)))))]
def RX (d : (Bool × Unit × Unit × Int × Int × Unit)) (e : ((List (Int × (Int × (Int × ((List Int) × (List Int)))))) × ((List Int) × Bool) × Unit)) (v : Bool) : St := ⟨mkS RS (v, ()), mkH RH (e.1, ())⟩
def sum (k : Nat) : LoopSum := sigLoop S cl hn kp H 0 (fun (d : (Bool × Unit × Unit × Int × Int × Unit)) (e : ((List (Int × (Int × (Int × ((List Int) × (List Int)))))) × ((List Int) × Bool) × Unit)) => f k d.1 d.2.2.2.1 e.1 k d.2.2.2.2.1 e.2.1) KX RX
end l0
def tree {X : Type} (K : Bool → Option X) (k : Nat) (m0 : (List (Int × (Int × (Int × ((List Int) × (List Int))))))) : Option X :=
  (Option.bind (trailheadlaw05_alive.f k) (fun r1 => (bif (!r1) then (K false) else (Option.bind (trailheadlaw05_great.f k m0) (fun r2 => (bif r2 then (K true) else (Option.bind (trailheadlaw05_put.f k m0) (fun r3 => (bif (!(decide (r3.1 = r3.2))) then (K false) else (Option.bind (scroll_On.f k r3.2) (fun r4 => (Option.bind (trailheadlaw05_ScrollPuts.l0.f k false ((List.length m0) : Int) m0 k (0 : Int) r4) (fun r12 => sel r12 (fun v13 => (Option.bind (scroll_Eye_Done.f k v13.2) (fun r15 => (bif r15 then (Option.bind (scroll_Eye_Bad.f k v13.2) (fun r16 => (bif (!r16) then (Option.bind (scroll_Eye_Left.f k v13.2) (fun r17 => (K (r17 == (0 : Int))))) else (K false)))) else (K false))))) (fun q14 => (K q14)))))))))))))))
def f (k : Nat) (m0 : (List (Int × (Int × (Int × ((List Int) × (List Int))))))) : Option Bool := tree (fun b0 => some b0) k m0
theorem tree_nat {X Y : Type} (h : X → Option Y) (K : Bool → Option X) (k : Nat) (m0 : (List (Int × (Int × (Int × ((List Int) × (List Int))))))) : Option.bind (tree K k m0) h = tree (fun b0 => Option.bind (K b0) h) k m0 := by
  simp only [tree, bif_bind, sel_bind', Option.bind_assoc, Option.bind_none, Option.bind_some]
abbrev ps : List Sh := [.vec 0]
abbrev hs : List (Nat × ESh) := [(0, .rows 0 59 (.pair (.int .i64) (.pair (.int .i64) (.pair (.int .i64) (.pair (.arr .u8 32) .str)))))]
abbrev hi : List Nat := hs.map (·.1)
abbrev fi : List Nat := [0]
abbrev cl : List (Place × Nat × Hint) := []
abbrev hn : List Hint := [.any]
def val (t : Bool) : AV := Sh.mk (.data .bool) t
def wr (t : Bool) : Heap := []
def callee (k : Nat) : Callee := sigCallee ps hs (fun (d : (Unit × Unit)) (e : ((List (Int × (Int × (Int × ((List Int) × (List Int)))))) × Unit)) => f k e.1) val wr
def E (k : Nat) : Env := ⟨fnTab [(12, [trailheadlaw05_alive.callee k]), (13, [trailheadlaw05_great.callee k]), (14, [trailheadlaw05_put.callee k]), (16, [scroll_On.callee k]), (33, [trailheadref05_Number.callee k]), (32, [trailheadref05_Back.callee k]), (34, [scroll_Eye_Get.callee k]), (29, [scroll_Eye_Count.callee k]), (35, [scroll_Eye_Name.callee k]), (36, [scroll_Eye_Raw.callee k]), (19, [scroll_Eye_Done.callee k]), (20, [scroll_Eye_Bad.callee k]), (24, [scroll_Eye_Left.callee k])], loopTab [(0, l0.sum k)], natsTab [], natTab []⟩
theorem fE (k : Nat) : ∀ f, ∀ c ∈ (E k).fn f, CalleeOK Try.prog f c := fnTab_ok ⟨⟨trailheadlaw05_alive.ok k, trivial⟩, ⟨trailheadlaw05_great.ok k, trivial⟩, ⟨trailheadlaw05_put.ok k, trivial⟩, ⟨scroll_On.ok k, trivial⟩, ⟨trailheadref05_Number.ok k, trivial⟩, ⟨trailheadref05_Back.ok k, trivial⟩, ⟨scroll_Eye_Get.ok k, trivial⟩, ⟨scroll_Eye_Count.ok k, trivial⟩, ⟨scroll_Eye_Name.ok k, trivial⟩, ⟨scroll_Eye_Raw.ok k, trivial⟩, ⟨scroll_Eye_Done.ok k, trivial⟩, ⟨scroll_Eye_Bad.ok k, trivial⟩, ⟨scroll_Eye_Left.ok k, trivial⟩, trivial⟩
namespace l0
theorem round (k : Nat) (d : (Bool × Unit × Unit × Int × Int × Unit)) (e : ((List (Int × (Int × (Int × ((List Int) × (List Int)))))) × ((List Int) × Bool) × Unit)) (G : St → Option (Ex × St)) : roundK Try.prog (E k) 103 0 (subC (bodyOf Try.f8) [1, 1, 1, 1, 1, 1, 0, 1, 0, 0]) (recast cl hn kp) (finBy cl hn kp rc rs ri) G ⟨mkS S d, mkH H e⟩ =
    step (fun x26 y800001 => some (.exit 0, KX d e (x26, y800001))) (fun q0 => some (.ret, RX d e q0)) (fun x26 y800001 => G ⟨mkS S (d.1, (), (), d.2.2.2.1, x26, ()), mkH H (e.1, y800001, ())⟩) k d.1 d.2.2.2.1 e.1 d.2.2.2.2.1 e.2.1 := by kernel_rfl
theorem it (k n : Nat) (d : (Bool × Unit × Unit × Int × Int × Unit)) (e : ((List (Int × (Int × (Int × ((List Int) × (List Int)))))) × ((List Int) × Bool) × Unit)) : loopIt Try.prog (E k) 103 0 (subC (bodyOf Try.f8) [1, 1, 1, 1, 1, 1, 0, 1, 0, 0]) (recast cl hn kp) (finBy cl hn kp rc rs ri) n ⟨mkS S d, mkH H e⟩ = go (fun x26 y800001 => some (.exit 0, KX d e (x26, y800001))) (fun q0 => some (.ret, RX d e q0)) k d.1 d.2.2.2.1 e.1 n d.2.2.2.2.1 e.2.1 :=
  loopIt_eq (D := (Bool × Unit × Unit × Int × Int × Unit) × ((List (Int × (Int × (Int × ((List Int) × (List Int)))))) × ((List Int) × Bool) × Unit)) (fun p => ⟨mkS S p.1, mkH H p.2⟩) (fun F p => step (fun x26 y800001 => some (.exit 0, KX p.1 p.2 (x26, y800001))) (fun q0 => some (.ret, RX p.1 p.2 q0)) (fun x26 y800001 => F ((p.1.1, (), (), p.1.2.2.2.1, x26, ()), (p.2.1, y800001, ()))) k p.1.1 p.1.2.2.2.1 p.2.1 p.1.2.2.2.2.1 p.2.2.1) (fun n p => go (fun x26 y800001 => some (.exit 0, KX p.1 p.2 (x26, y800001))) (fun q0 => some (.ret, RX p.1 p.2 q0)) k p.1.1 p.1.2.2.2.1 p.2.1 n p.1.2.2.2.2.1 p.2.2.1) (fun _ => rfl) (fun _ _ => rfl) (fun G p => round k p.1 p.2 G) n (d, e)
theorem ok (k : Nat) : LoopOK Try.prog 103 (subC (bodyOf Try.f8) [1, 1, 1, 1, 1, 1, 0, 1, 0, 0]) (sum k) :=
  loop_sig hm (fE k) (loopsOK_of [] (by kernel_rfl) trivial) S cl hn kp H 0 (fun (d : (Bool × Unit × Unit × Int × Int × Unit)) (e : ((List (Int × (Int × (Int × ((List Int) × (List Int)))))) × ((List Int) × Bool) × Unit)) => f k d.1 d.2.2.2.1 e.1 k d.2.2.2.2.1 e.2.1) KX RX cl hn kp rc rs ri k
    (fun d e => (it k k d e).trans (go_nat (exitOf 0 (KX d e) (RX d e)) (fun x26 y800001 => some (.inl (x26, y800001))) (fun q0 => some (.inr q0)) k d.1 d.2.2.2.1 e.1 k d.2.2.2.2.1 e.2.1).symm)
end l0
theorem run (k : Nat) (d : (Unit × Unit)) (e : ((List (Int × (Int × (Int × ((List Int) × (List Int)))))) × Unit)) : runFn Try.prog (E k) 103 (bodyOf Try.f8) Try.f8.results.toList cl hn hi (mkL ps d) (mkH hs e) =
    tree (fun b0 => leafFn hs fi e val wr b0) k e.1 := by kernel_rfl
theorem run_f (k : Nat) (d : (Unit × Unit)) (e : ((List (Int × (Int × (Int × ((List Int) × (List Int)))))) × Unit)) : runFn Try.prog (E k) 103 (bodyOf Try.f8) Try.f8.results.toList cl hn hi (mkL ps d) (mkH hs e) = (f k e.1).bind (leafFn hs fi e val wr) :=
  (run k d e).trans (tree_nat (leafFn hs fi e val wr) (fun b0 => some b0) k e.1).symm
theorem fnIs : FnIs Try.prog 8 Try.f8 (bodyOf Try.f8) 103 := ⟨by kernel_rfl, by kernel_rfl, by kernel_rfl, by kernel_rfl⟩
theorem ok (k : Nat) : CalleeOK Try.prog 8 (callee k) :=
  callee_sig (T := Bool) fnIs hm (fE k) (loopsOK_of [(0, subC (bodyOf Try.f8) [1, 1, 1, 1, 1, 1, 0, 1, 0, 0])] (by kernel_rfl) ⟨of_loop (l0.sum k) rfl (l0.ok k), trivial⟩) ps hs cl hn fi (fun (d : (Unit × Unit)) (e : ((List (Int × (Int × (Int × ((List Int) × (List Int)))))) × Unit)) => f k e.1) val wr rfl (fun _ => rfl) (run_f k)
end trailheadlaw05_ScrollPuts
end Go.Proofs.Ytodjcmbkbijliaa.Sy
