/- What the Go functions come to, on data: printed by sypr.py. -/
import Derived.Test.YtnnajeoeeefjaaaDoorSy18
import Derived.Test.YtnnajeoeeefjaaaDoorProg
import Derived.Test.YtnnajeoeeefjaaaDoorWA
namespace Go.Proofs.YtnnajeoeeefjaaaDoor.Sy
open Go Go.Proofs
set_option maxRecDepth 100000
set_option linter.unusedVariables false
set_option linter.unusedSimpArgs false
abbrev T_c9e5d2 : Type := ((List Int) × ((List Int) × (Int × (Int × Int))))
abbrev T_3d5633 : Type := (Int × T_c9e5d2)
abbrev dfl_31f8ee : T_3d5633 := ((0 : Int), (((List.replicate 32 0 : (List Int)), (((List.replicate 32 0 : (List Int)), (((0 : Int), (((0 : Int), (0 : Int)) : (Int × Int))) : (Int × (Int × Int)))) : ((List Int) × (Int × (Int × Int))))) : T_c9e5d2))
namespace compact_Good
def tree {X : Type} (K : Bool → Option X) (k : Nat) (a0 : Int) : Option X :=
  (bif (decide (a0 ≥ (0 : Int))) then (K (decide (a0 ≤ (4294967295 : Int)))) else (K false))
def f (k : Nat) (a0 : Int) : Option Bool := tree (fun b0 => some b0) k a0
theorem tree_nat {X Y : Type} (h : X → Option Y) (K : Bool → Option X) (k : Nat) (a0 : Int) : Option.bind (tree K k a0) h = tree (fun b0 => Option.bind (K b0) h) k a0 := by
  simp only [tree, bif_bind, sel_bind', Option.bind_assoc, Option.bind_none, Option.bind_some]
abbrev ps : List Sh := [.data (.int .i64)]
abbrev hs : List (Nat × ESh) := []
abbrev hi : List Nat := hs.map (·.1)
abbrev fi : List Nat := []
abbrev cl : List (Place × Nat × Hint) := []
abbrev hn : List Hint := [.any]
def val (t : Bool) : AV := Sh.mk (.data .bool) t
def wr (t : Bool) : Heap := []
def callee (k : Nat) : Callee := sigCallee ps hs (fun (d : (Int × Unit)) (e : Unit) => f k d.1) val wr
def E (k : Nat) : Env := ⟨fnTab [], loopTab [], natsTab [], natTab []⟩
theorem fE (k : Nat) : ∀ f, ∀ c ∈ (E k).fn f, CalleeOK Tryd.prog f c := fnTab_ok trivial
theorem run (k : Nat) (d : (Int × Unit)) (e : Unit) : runFn Tryd.prog (E k) 9 (bodyOf Tryd.f69) Tryd.f69.results.toList cl hn hi (mkL ps d) (mkH hs e) =
    tree (fun b0 => leafFn hs fi e val wr b0) k d.1 := by kernel_rfl
theorem run_f (k : Nat) (d : (Int × Unit)) (e : Unit) : runFn Tryd.prog (E k) 9 (bodyOf Tryd.f69) Tryd.f69.results.toList cl hn hi (mkL ps d) (mkH hs e) = (f k d.1).bind (leafFn hs fi e val wr) :=
  (run k d e).trans (tree_nat (leafFn hs fi e val wr) (fun b0 => some b0) k d.1).symm
theorem fnIs : FnIs Tryd.prog 69 Tryd.f69 (bodyOf Tryd.f69) 9 := ⟨by kernel_rfl, by kernel_rfl, by kernel_rfl, by kernel_rfl⟩
theorem ok (k : Nat) : CalleeOK Tryd.prog 69 (callee k) :=
  callee_sig (T := Bool) fnIs hm (fE k) (loopsOK_of [] (by kernel_rfl) trivial) ps hs cl hn fi (fun (d : (Int × Unit)) (e : Unit) => f k d.1) val wr rfl (fun _ => rfl) (run_f k)
end compact_Good
namespace header_Good
def tree {X : Type} (K : Bool → Option X) (k : Nat) (a0 : T_3d5633) : Option X :=
  (bif (decide (a0.1 ≥ ((-2147483648) : Int))) then (bif (decide (a0.1 < (2147483648 : Int))) then (bif (decide (a0.2.2.2.1 ≥ (0 : Int))) then (bif (decide (a0.2.2.2.1 < (4294967296 : Int))) then (Option.bind (compact_Good.f k a0.2.2.2.2.1) (fun r1 => (bif r1 then (bif (decide (a0.2.2.2.2.2 ≥ (0 : Int))) then (K (decide (a0.2.2.2.2.2 < (4294967296 : Int)))) else (K false)) else (K false)))) else (K false)) else (K false)) else (K false)) else (K false))
def f (k : Nat) (a0 : T_3d5633) : Option Bool := tree (fun b0 => some b0) k a0
theorem tree_nat {X Y : Type} (h : X → Option Y) (K : Bool → Option X) (k : Nat) (a0 : T_3d5633) : Option.bind (tree K k a0) h = tree (fun b0 => Option.bind (K b0) h) k a0 := by
  simp only [tree, bif_bind, sel_bind', Option.bind_assoc, Option.bind_none, Option.bind_some]
abbrev ps : List Sh := [.data (.pair (.int .i64) (.pair (.arr .u8 32) (.pair (.arr .u8 32) (.pair (.int .i64) (.pair (.int .i64) (.int .i64))))))]
abbrev hs : List (Nat × ESh) := []
abbrev hi : List Nat := hs.map (·.1)
abbrev fi : List Nat := []
abbrev cl : List (Place × Nat × Hint) := []
abbrev hn : List Hint := [.any]
def val (t : Bool) : AV := Sh.mk (.data .bool) t
def wr (t : Bool) : Heap := []
def callee (k : Nat) : Callee := sigCallee ps hs (fun (d : (T_3d5633 × Unit)) (e : Unit) => f k d.1) val wr
def E (k : Nat) : Env := ⟨fnTab [(69, [compact_Good.callee k])], loopTab [], natsTab [], natTab []⟩
theorem fE (k : Nat) : ∀ f, ∀ c ∈ (E k).fn f, CalleeOK Tryd.prog f c := fnTab_ok ⟨⟨compact_Good.ok k, trivial⟩, trivial⟩
theorem run (k : Nat) (d : (T_3d5633 × Unit)) (e : Unit) : runFn Tryd.prog (E k) 36 (bodyOf Tryd.f50) Tryd.f50.results.toList cl hn hi (mkL ps d) (mkH hs e) =
    tree (fun b0 => leafFn hs fi e val wr b0) k d.1 := by kernel_rfl
theorem run_f (k : Nat) (d : (T_3d5633 × Unit)) (e : Unit) : runFn Tryd.prog (E k) 36 (bodyOf Tryd.f50) Tryd.f50.results.toList cl hn hi (mkL ps d) (mkH hs e) = (f k d.1).bind (leafFn hs fi e val wr) :=
  (run k d e).trans (tree_nat (leafFn hs fi e val wr) (fun b0 => some b0) k d.1).symm
theorem fnIs : FnIs Tryd.prog 50 Tryd.f50 (bodyOf Tryd.f50) 36 := ⟨by kernel_rfl, by kernel_rfl, by kernel_rfl, by kernel_rfl⟩
theorem ok (k : Nat) : CalleeOK Tryd.prog 50 (callee k) :=
  callee_sig (T := Bool) fnIs hm (fE k) (loopsOK_of [] (by kernel_rfl) trivial) ps hs cl hn fi (fun (d : (T_3d5633 × Unit)) (e : Unit) => f k d.1) val wr rfl (fun _ => rfl) (run_f k)
end header_Good
namespace scroll_Pen_Put
namespace l2
def step {X : Type} (K : Int → (List Int) → Option X) (G : Int → (List Int) → Option X) (k : Nat) (x1 : Int) (x7 : Int) (x10 : Int) (x11 : Int) (x17 : Int) (y1 : (List Int)) (x18 : Int) (y800002 : (List Int)) : Option X :=
  (bif (decide (x18 < x17)) then (bif (decide ((mulI .i64 8 x18) < 0)) then none else (bif (fits (((List.length y800002) + 1) * 1)) then (G (addI .i64 x18 1) (y800002 ++ ([(IntKind.wrap .u8 (shrI .i64 x7 (mulI .i64 8 x18)))] : (List Int)))) else none)) else (K x18 y800002))
def go {X : Type} (K : Int → (List Int) → Option X) (k : Nat) (x1 : Int) (x7 : Int) (x10 : Int) (x11 : Int) (x17 : Int) (y1 : (List Int)) : Nat → Int → (List Int) → Option X
  | 0, _, _ => none
  | n + 1, x18, y800002 => step K (go K k x1 x7 x10 x11 x17 y1 n) k x1 x7 x10 x11 x17 y1 x18 y800002
def f (k : Nat) (x1 : Int) (x7 : Int) (x10 : Int) (x11 : Int) (x17 : Int) (y1 : (List Int)) (n : Nat) (x18 : Int) (y800002 : (List Int)) : Option (Int × (List Int)) := go (fun x18 y800002 => some (x18, y800002)) k x1 x7 x10 x11 x17 y1 n x18 y800002
theorem step_nat {X Y : Type} (h : X → Option Y) (K : Int → (List Int) → Option X) (G : Int → (List Int) → Option X) (k : Nat) (x1 : Int) (x7 : Int) (x10 : Int) (x11 : Int) (x17 : Int) (y1 : (List Int)) (x18 : Int) (y800002 : (List Int)) : Option.bind (step K G k x1 x7 x10 x11 x17 y1 x18 y800002) h = step (fun x18 y800002 => Option.bind (K x18 y800002) h) (fun x18 y800002 => Option.bind (G x18 y800002) h) k x1 x7 x10 x11 x17 y1 x18 y800002 := by
  simp only [step, bif_bind, sel_bind', Option.bind_assoc, Option.bind_none, Option.bind_some]
theorem go_nat {X Y : Type} (h : X → Option Y) (K : Int → (List Int) → Option X) (k : Nat) (x1 : Int) (x7 : Int) (x10 : Int) (x11 : Int) (x17 : Int) (y1 : (List Int)) (n : Nat) : ∀ (x18 : Int) (y800002 : (List Int)), Option.bind (go K k x1 x7 x10 x11 x17 y1 n x18 y800002) h = go (fun x18 y800002 => Option.bind (K x18 y800002) h) k x1 x7 x10 x11 x17 y1 n x18 y800002 := by
  induction n with
  | zero => intros; rfl
  | succ n ih => intro x18 y800002; show Option.bind (step K (go K k x1 x7 x10 x11 x17 y1 n) k x1 x7 x10 x11 x17 y1 x18 y800002) h = step (fun x18 y800002 => Option.bind (K x18 y800002) h) (go (fun x18 y800002 => Option.bind (K x18 y800002) h) k x1 x7 x10 x11 x17 y1 n) k x1 x7 x10 x11 x17 y1 x18 y800002; rw [step_nat h]; simp only [ih]
abbrev S : List (Nat × Sh) := [(0, .ptr 0), (1, .data (.int .i64)), (7, .data (.int .i64)), (9, .vec 1), (10, .data (.int .i64)), (11, .data (.int .i64)), (17, .data (.int .i64)), (18, .data (.int .i64))]
abbrev H : List (Nat × ESh) := [(0, .cell (.one (.vec 800002))), (1, .rows 2 3 (.int .i64)), (800002, .rows 2 5 (.int .u8))]
abbrev cl : List (Place × Nat × Hint) := [(.id 0, 0, (.row 2 5 (.int .u8)))]
abbrev hn : List (Nat × Hint) := [(0, .any), (1, .any), (7, .any), (9, .any), (10, .any), (11, .any), (17, .any), (18, .any)]
abbrev kp : List Nat := [0, 1]
abbrev rc : List (Place × Nat × Hint) := []
abbrev rs : List (Nat × Hint) := []
abbrev ri : List Nat := [0, 1]
def KX (d : (Unit × Int × Int × Unit × Int × Int × Int × Int × Unit)) (e : (Unit × (List Int) × (List Int) × Unit)) (v : (Int × (List Int))) : St := ⟨mkS S ((), d.2.1, d.2.2.1, (), d.2.2.2.2.1, d.2.2.2.2.2.1, d.2.2.2.2.2.2.1, v.1, ()), mkH H ((), e.2.1, v.2, ())⟩
def sum (k : Nat) : LoopSum := sigLoopX S cl hn kp H 2 (fun (d : (Unit × Int × Int × Unit × Int × Int × Int × Int × Unit)) (e : (Unit × (List Int) × (List Int) × Unit)) => f k d.2.1 d.2.2.1 d.2.2.2.2.1 d.2.2.2.2.2.1 d.2.2.2.2.2.2.1 e.2.1 k d.2.2.2.2.2.2.2.1 e.2.2.1) KX
end l2
namespace l0
def step {X : Type} (K : Int → (List Int) → Option X) (G : Int → (List Int) → Option X) (k : Nat) (x1 : Int) (x10 : Int) (y1 : (List Int)) (x11 : Int) (y800002 : (List Int)) : Option X :=
  (bif (decide (x11 < x10)) then (bif (decide (0 ≤ x11)) then (bif (decide (x11 < ((List.length y1) : Int))) then (bif (decide ((Int.toNat x11) < (List.length y1))) then (Option.bind (scroll_Pen_Put.l2.f k x1 (List.getD y1 (Int.toNat x11) (0 : Int)) x10 x11 (mnI (mxI x1 1) 8) y1 k (0 : Int) y800002) (fun r1 => (G (addI .i64 x11 1) r1.2))) else none) else none) else none) else (K x11 y800002))
def go {X : Type} (K : Int → (List Int) → Option X) (k : Nat) (x1 : Int) (x10 : Int) (y1 : (List Int)) : Nat → Int → (List Int) → Option X
  | 0, _, _ => none
  | n + 1, x11, y800002 => step K (go K k x1 x10 y1 n) k x1 x10 y1 x11 y800002
def f (k : Nat) (x1 : Int) (x10 : Int) (y1 : (List Int)) (n : Nat) (x11 : Int) (y800002 : (List Int)) : Option (Int × (List Int)) := go (fun x11 y800002 => some (x11, y800002)) k x1 x10 y1 n x11 y800002
theorem step_nat {X Y : Type} (h : X → Option Y) (K : Int → (List Int) → Option X) (G : Int → (List Int) → Option X) (k : Nat) (x1 : Int) (x10 : Int) (y1 : (List Int)) (x11 : Int) (y800002 : (List Int)) : Option.bind (step K G k x1 x10 y1 x11 y800002) h = step (fun x11 y800002 => Option.bind (K x11 y800002) h) (fun x11 y800002 => Option.bind (G x11 y800002) h) k x1 x10 y1 x11 y800002 := by
  simp only [step, bif_bind, sel_bind', Option.bind_assoc, Option.bind_none, Option.bind_some]
theorem go_nat {X Y : Type} (h : X → Option Y) (K : Int → (List Int) → Option X) (k : Nat) (x1 : Int) (x10 : Int) (y1 : (List Int)) (n : Nat) : ∀ (x11 : Int) (y800002 : (List Int)), Option.bind (go K k x1 x10 y1 n x11 y800002) h = go (fun x11 y800002 => Option.bind (K x11 y800002) h) k x1 x10 y1 n x11 y800002 := by
  induction n with
  | zero => intros; rfl
  | succ n ih => intro x11 y800002; show Option.bind (step K (go K k x1 x10 y1 n) k x1 x10 y1 x11 y800002) h = step (fun x11 y800002 => Option.bind (K x11 y800002) h) (go (fun x11 y800002 => Option.bind (K x11 y800002) h) k x1 x10 y1 n) k x1 x10 y1 x11 y800002; rw [step_nat h]; simp only [ih]
abbrev S : List (Nat × Sh) := [(0, .ptr 0), (1, .data (.int .i64)), (9, .vec 1), (10, .data (.int .i64)), (11, .data (.int .i64))]
abbrev H : List (Nat × ESh) := [(0, .cell (.one (.vec 800002))), (1, .rows 2 3 (.int .i64)), (800002, .rows 2 5 (.int .u8))]
abbrev cl : List (Place × Nat × Hint) := [(.id 0, 0, (.row 2 5 (.int .u8)))]
abbrev hn : List (Nat × Hint) := [(0, .any), (1, .any), (9, .any), (10, .any), (11, .any)]
abbrev kp : List Nat := [0, 1]
abbrev rc : List (Place × Nat × Hint) := []
abbrev rs : List (Nat × Hint) := []
abbrev ri : List Nat := [0, 1]
def KX (d : (Unit × Int × Unit × Int × Int × Unit)) (e : (Unit × (List Int) × (List Int) × Unit)) (v : (Int × (List Int))) : St := ⟨mkS S ((), d.2.1, (), d.2.2.2.1, v.1, ()), mkH H ((), e.2.1, v.2, ())⟩
def sum (k : Nat) : LoopSum := sigLoopX S cl hn kp H 0 (fun (d : (Unit × Int × Unit × Int × Int × Unit)) (e : (Unit × (List Int) × (List Int) × Unit)) => f k d.2.1 d.2.2.2.1 e.2.1 k d.2.2.2.2.1 e.2.2.1) KX
end l0
def tree {X : Type} (K : (List Int) → Option X) (k : Nat) (a1 : Int) (m1 : (List Int)) : Option X :=
  (Option.bind (scroll_Pen_Put.l0.f k a1 ((List.length m1) : Int) m1 k (0 : Int) ([] : (List Int))) (fun r2 => (K r2.2)))
def f (k : Nat) (a1 : Int) (m1 : (List Int)) : Option (List Int) := tree (fun b0 => some b0) k a1 m1
theorem tree_nat {X Y : Type} (h : X → Option Y) (K : (List Int) → Option X) (k : Nat) (a1 : Int) (m1 : (List Int)) : Option.bind (tree K k a1 m1) h = tree (fun b0 => Option.bind (K b0) h) k a1 m1 := by
  simp only [tree, bif_bind, sel_bind', Option.bind_assoc, Option.bind_none, Option.bind_some]
abbrev ps : List Sh := [.ptr 0, .data (.int .i64), .vec 1]
abbrev hs : List (Nat × ESh) := [(0, .cell (.one .nils)), (1, .rows 2 3 (.int .i64))]
abbrev hi : List Nat := hs.map (·.1)
abbrev fi : List Nat := [0, 1, 900002]
abbrev cl : List (Place × Nat × Hint) := []
abbrev hn : List Hint := []
def val (t : (List Int)) : AV := .tnil
def wr (t : (List Int)) : Heap := [(0, ESh.mk (.cell (.one (.vec 900002))) ()), (900002, ESh.mk (.rows 2 5 (.int .u8)) t)]
def callee (k : Nat) : Callee := sigCallee ps hs (fun (d : (Unit × Int × Unit × Unit)) (e : (Unit × (List Int) × Unit)) => f k d.2.1 e.2.1) val wr
def E (k : Nat) : Env := ⟨fnTab [], loopTab [(2, l2.sum k), (0, l0.sum k)], natsTab [], natTab []⟩
theorem fE (k : Nat) : ∀ f, ∀ c ∈ (E k).fn f, CalleeOK Tryd.prog f c := fnTab_ok trivial
namespace l2
theorem round (k : Nat) (d : (Unit × Int × Int × Unit × Int × Int × Int × Int × Unit)) (e : (Unit × (List Int) × (List Int) × Unit)) (G : St → Option (Ex × St)) : roundK Tryd.prog (E k) 37 2 (subC (bodyOf Tryd.f63) [1, 0, 0, 1, 1, 0, 0, 1, 1, 0, 0]) (recast cl hn kp) (finBy cl hn kp rc rs ri) G ⟨mkS S d, mkH H e⟩ =
    step (fun x18 y800002 => some (.exit 2, KX d e (x18, y800002))) (fun x18 y800002 => G ⟨mkS S ((), d.2.1, d.2.2.1, (), d.2.2.2.2.1, d.2.2.2.2.2.1, d.2.2.2.2.2.2.1, x18, ()), mkH H ((), e.2.1, y800002, ())⟩) k d.2.1 d.2.2.1 d.2.2.2.2.1 d.2.2.2.2.2.1 d.2.2.2.2.2.2.1 e.2.1 d.2.2.2.2.2.2.2.1 e.2.2.1 := by kernel_rfl
theorem it (k n : Nat) (d : (Unit × Int × Int × Unit × Int × Int × Int × Int × Unit)) (e : (Unit × (List Int) × (List Int) × Unit)) : loopIt Tryd.prog (E k) 37 2 (subC (bodyOf Tryd.f63) [1, 0, 0, 1, 1, 0, 0, 1, 1, 0, 0]) (recast cl hn kp) (finBy cl hn kp rc rs ri) n ⟨mkS S d, mkH H e⟩ = go (fun x18 y800002 => some (.exit 2, KX d e (x18, y800002))) k d.2.1 d.2.2.1 d.2.2.2.2.1 d.2.2.2.2.2.1 d.2.2.2.2.2.2.1 e.2.1 n d.2.2.2.2.2.2.2.1 e.2.2.1 :=
  loopIt_eq (D := (Unit × Int × Int × Unit × Int × Int × Int × Int × Unit) × (Unit × (List Int) × (List Int) × Unit)) (fun p => ⟨mkS S p.1, mkH H p.2⟩) (fun F p => step (fun x18 y800002 => some (.exit 2, KX p.1 p.2 (x18, y800002))) (fun x18 y800002 => F (((), p.1.2.1, p.1.2.2.1, (), p.1.2.2.2.2.1, p.1.2.2.2.2.2.1, p.1.2.2.2.2.2.2.1, x18, ()), ((), p.2.2.1, y800002, ()))) k p.1.2.1 p.1.2.2.1 p.1.2.2.2.2.1 p.1.2.2.2.2.2.1 p.1.2.2.2.2.2.2.1 p.2.2.1 p.1.2.2.2.2.2.2.2.1 p.2.2.2.1) (fun n p => go (fun x18 y800002 => some (.exit 2, KX p.1 p.2 (x18, y800002))) k p.1.2.1 p.1.2.2.1 p.1.2.2.2.2.1 p.1.2.2.2.2.2.1 p.1.2.2.2.2.2.2.1 p.2.2.1 n p.1.2.2.2.2.2.2.2.1 p.2.2.2.1) (fun _ => rfl) (fun _ _ => rfl) (fun G p => round k p.1 p.2 G) n (d, e)
theorem ok (k : Nat) : LoopOK Tryd.prog 37 (subC (bodyOf Tryd.f63) [1, 0, 0, 1, 1, 0, 0, 1, 1, 0, 0]) (sum k) :=
  loop_sigX hm (fE k) (loopsOK_of [] (by kernel_rfl) trivial) S cl hn kp H 2 (fun (d : (Unit × Int × Int × Unit × Int × Int × Int × Int × Unit)) (e : (Unit × (List Int) × (List Int) × Unit)) => f k d.2.1 d.2.2.1 d.2.2.2.2.1 d.2.2.2.2.2.1 d.2.2.2.2.2.2.1 e.2.1 k d.2.2.2.2.2.2.2.1 e.2.2.1) KX cl hn kp rc rs ri k
    (fun d e => (it k k d e).trans (go_nat (fun v => some (Ex.exit 2, KX d e v)) (fun x18 y800002 => some (x18, y800002)) k d.2.1 d.2.2.1 d.2.2.2.2.1 d.2.2.2.2.2.1 d.2.2.2.2.2.2.1 e.2.1 k d.2.2.2.2.2.2.2.1 e.2.2.1).symm)
end l2
namespace l0
theorem round (k : Nat) (d : (Unit × Int × Unit × Int × Int × Unit)) (e : (Unit × (List Int) × (List Int) × Unit)) (G : St → Option (Ex × St)) : roundK Tryd.prog (E k) 37 0 (subC (bodyOf Tryd.f63) [1, 0, 0]) (recast cl hn kp) (finBy cl hn kp rc rs ri) G ⟨mkS S d, mkH H e⟩ =
    step (fun x11 y800002 => some (.exit 0, KX d e (x11, y800002))) (fun x11 y800002 => G ⟨mkS S ((), d.2.1, (), d.2.2.2.1, x11, ()), mkH H ((), e.2.1, y800002, ())⟩) k d.2.1 d.2.2.2.1 e.2.1 d.2.2.2.2.1 e.2.2.1 := by kernel_rfl
theorem it (k n : Nat) (d : (Unit × Int × Unit × Int × Int × Unit)) (e : (Unit × (List Int) × (List Int) × Unit)) : loopIt Tryd.prog (E k) 37 0 (subC (bodyOf Tryd.f63) [1, 0, 0]) (recast cl hn kp) (finBy cl hn kp rc rs ri) n ⟨mkS S d, mkH H e⟩ = go (fun x11 y800002 => some (.exit 0, KX d e (x11, y800002))) k d.2.1 d.2.2.2.1 e.2.1 n d.2.2.2.2.1 e.2.2.1 :=
  loopIt_eq (D := (Unit × Int × Unit × Int × Int × Unit) × (Unit × (List Int) × (List Int) × Unit)) (fun p => ⟨mkS S p.1, mkH H p.2⟩) (fun F p => step (fun x11 y800002 => some (.exit 0, KX p.1 p.2 (x11, y800002))) (fun x11 y800002 => F (((), p.1.2.1, (), p.1.2.2.2.1, x11, ()), ((), p.2.2.1, y800002, ()))) k p.1.2.1 p.1.2.2.2.1 p.2.2.1 p.1.2.2.2.2.1 p.2.2.2.1) (fun n p => go (fun x11 y800002 => some (.exit 0, KX p.1 p.2 (x11, y800002))) k p.1.2.1 p.1.2.2.2.1 p.2.2.1 n p.1.2.2.2.2.1 p.2.2.2.1) (fun _ => rfl) (fun _ _ => rfl) (fun G p => round k p.1 p.2 G) n (d, e)
theorem ok (k : Nat) : LoopOK Tryd.prog 37 (subC (bodyOf Tryd.f63) [1, 0, 0]) (sum k) :=
  loop_sigX hm (fE k) (loopsOK_of [(2, subC (bodyOf Tryd.f63) [1, 0, 0, 1, 1, 0, 0, 1, 1, 0, 0])] (by kernel_rfl) ⟨of_loop (l2.sum k) rfl (l2.ok k), trivial⟩) S cl hn kp H 0 (fun (d : (Unit × Int × Unit × Int × Int × Unit)) (e : (Unit × (List Int) × (List Int) × Unit)) => f k d.2.1 d.2.2.2.1 e.2.1 k d.2.2.2.2.1 e.2.2.1) KX cl hn kp rc rs ri k
    (fun d e => (it k k d e).trans (go_nat (fun v => some (Ex.exit 0, KX d e v)) (fun x11 y800002 => some (x11, y800002)) k d.2.1 d.2.2.2.1 e.2.1 k d.2.2.2.2.1 e.2.2.1).symm)
end l0
theorem run (k : Nat) (d : (Unit × Int × Unit × Unit)) (e : (Unit × (List Int) × Unit)) : runFn Tryd.prog (E k) 37 (bodyOf Tryd.f63) Tryd.f63.results.toList cl hn hi (mkL ps d) (mkH hs e) =
    tree (fun b0 => leafFn hs fi e val wr b0) k d.2.1 e.2.1 := by kernel_rfl
theorem run_f (k : Nat) (d : (Unit × Int × Unit × Unit)) (e : (Unit × (List Int) × Unit)) : runFn Tryd.prog (E k) 37 (bodyOf Tryd.f63) Tryd.f63.results.toList cl hn hi (mkL ps d) (mkH hs e) = (f k d.2.1 e.2.1).bind (leafFn hs fi e val wr) :=
  (run k d e).trans (tree_nat (leafFn hs fi e val wr) (fun b0 => some b0) k d.2.1 e.2.1).symm
theorem fnIs : FnIs Tryd.prog 63 Tryd.f63 (bodyOf Tryd.f63) 37 := ⟨by kernel_rfl, by kernel_rfl, by kernel_rfl, by kernel_rfl⟩
theorem ok (k : Nat) : CalleeOK Tryd.prog 63 (callee k) :=
  callee_sig (T := (List Int)) fnIs hm (fE k) (loopsOK_of [(0, subC (bodyOf Tryd.f63) [1, 0, 0])] (by kernel_rfl) ⟨of_loop (l0.sum k) rfl (l0.ok k), trivial⟩) ps hs cl hn fi (fun (d : (Unit × Int × Unit × Unit)) (e : (Unit × (List Int) × Unit)) => f k d.2.1 e.2.1) val wr rfl (fun _ => rfl) (run_f k)
end scroll_Pen_Put
namespace scroll_Pen_Names
namespace l0
def step {X : Type} (K : Int → (List Int) → Option X) (G : Int → (List Int) → Option X) (k : Nat) (x7 : Int) (y1 : (List (List Int))) (x8 : Int) (y800003 : (List Int)) : Option X :=
  (bif (decide (x8 < x7)) then (bif (decide (0 ≤ x8)) then (bif (decide (x8 < ((List.length y1) : Int))) then (bif (decide ((Int.toNat x8) < (List.length y1))) then (bif (fits (((List.length y800003) + (List.length (List.take 32 (List.getD y1 (Int.toNat x8) (List.replicate 32 0 : (List Int)))))) * 1)) then (G (addI .i64 x8 1) (y800003 ++ (List.take 32 (List.getD y1 (Int.toNat x8) (List.replicate 32 0 : (List Int)))))) else none) else none) else none) else none) else (K x8 y800003))
def go {X : Type} (K : Int → (List Int) → Option X) (k : Nat) (x7 : Int) (y1 : (List (List Int))) : Nat → Int → (List Int) → Option X
  | 0, _, _ => none
  | n + 1, x8, y800003 => step K (go K k x7 y1 n) k x7 y1 x8 y800003
def f (k : Nat) (x7 : Int) (y1 : (List (List Int))) (n : Nat) (x8 : Int) (y800003 : (List Int)) : Option (Int × (List Int)) := go (fun x8 y800003 => some (x8, y800003)) k x7 y1 n x8 y800003
theorem step_nat {X Y : Type} (h : X → Option Y) (K : Int → (List Int) → Option X) (G : Int → (List Int) → Option X) (k : Nat) (x7 : Int) (y1 : (List (List Int))) (x8 : Int) (y800003 : (List Int)) : Option.bind (step K G k x7 y1 x8 y800003) h = step (fun x8 y800003 => Option.bind (K x8 y800003) h) (fun x8 y800003 => Option.bind (G x8 y800003) h) k x7 y1 x8 y800003 := by
  simp only [step, bif_bind, sel_bind', Option.bind_assoc, Option.bind_none, Option.bind_some]
theorem go_nat {X Y : Type} (h : X → Option Y) (K : Int → (List Int) → Option X) (k : Nat) (x7 : Int) (y1 : (List (List Int))) (n : Nat) : ∀ (x8 : Int) (y800003 : (List Int)), Option.bind (go K k x7 y1 n x8 y800003) h = go (fun x8 y800003 => Option.bind (K x8 y800003) h) k x7 y1 n x8 y800003 := by
  induction n with
  | zero => intros; rfl
  | succ n ih => intro x8 y800003; show Option.bind (step K (go K k x7 y1 n) k x7 y1 x8 y800003) h = step (fun x8 y800003 => Option.bind (K x8 y800003) h) (go (fun x8 y800003 => Option.bind (K x8 y800003) h) k x7 y1 n) k x7 y1 x8 y800003; rw [step_nat h]; simp only [ih]
abbrev S : List (Nat × Sh) := [(0, .ptr 0), (6, .vec 1), (7, .data (.int .i64)), (8, .data (.int .i64))]
abbrev H : List (Nat × ESh) := [(0, .cell (.one (.vec 800003))), (1, .rows 2 24 (.arr .u8 32)), (2, .dead), (800003, .rows 2 5 (.int .u8))]
abbrev cl : List (Place × Nat × Hint) := [(.id 0, 0, .move)]
abbrev hn : List (Nat × Hint) := [(0, .any), (6, .any), (7, .any), (8, .any)]
abbrev kp : List Nat := [0, 1, 2]
abbrev rc : List (Place × Nat × Hint) := []
abbrev rs : List (Nat × Hint) := []
abbrev ri : List Nat := [0, 1, 2]
def KX (d : (Unit × Unit × Int × Int × Unit)) (e : (Unit × (List (List Int)) × Unit × (List Int) × Unit)) (v : (Int × (List Int))) : St := ⟨mkS S ((), (), d.2.2.1, v.1, ()), mkH H ((), e.2.1, (), v.2, ())⟩
def sum (k : Nat) : LoopSum := sigLoopX S cl hn kp H 0 (fun (d : (Unit × Unit × Int × Int × Unit)) (e : (Unit × (List (List Int)) × Unit × (List Int) × Unit)) => f k d.2.2.1 e.2.1 k d.2.2.2.1 e.2.2.2.1) KX
end l0
def tree {X : Type} (K : (List Int) → Option X) (k : Nat) (m1 : (List (List Int))) (m2 : (List Int)) : Option X :=
  (Option.bind (scroll_Pen_Names.l0.f k ((List.length m1) : Int) m1 k (0 : Int) m2) (fun r1 => (K r1.2)))
def f (k : Nat) (m1 : (List (List Int))) (m2 : (List Int)) : Option (List Int) := tree (fun b0 => some b0) k m1 m2
theorem tree_nat {X Y : Type} (h : X → Option Y) (K : (List Int) → Option X) (k : Nat) (m1 : (List (List Int))) (m2 : (List Int)) : Option.bind (tree K k m1 m2) h = tree (fun b0 => Option.bind (K b0) h) k m1 m2 := by
  simp only [tree, bif_bind, sel_bind', Option.bind_assoc, Option.bind_none, Option.bind_some]
abbrev ps : List Sh := [.ptr 0, .vec 1]
abbrev hs : List (Nat × ESh) := [(0, .cell (.one (.vec 2))), (1, .rows 2 24 (.arr .u8 32)), (2, .rows 2 5 (.int .u8))]
abbrev hi : List Nat := hs.map (·.1)
abbrev fi : List Nat := [0, 1, 2, 900003]
abbrev cl : List (Place × Nat × Hint) := []
abbrev hn : List Hint := []
def val (t : (List Int)) : AV := .tnil
def wr (t : (List Int)) : Heap := [(0, ESh.mk (.cell (.one (.vec 900003))) ()), (2, ESh.mk (.dead) ()), (900003, ESh.mk (.rows 2 5 (.int .u8)) t)]
def callee (k : Nat) : Callee := sigCallee ps hs (fun (d : (Unit × Unit × Unit)) (e : (Unit × (List (List Int)) × (List Int) × Unit)) => f k e.2.1 e.2.2.1) val wr
def E (k : Nat) : Env := ⟨fnTab [], loopTab [(0, l0.sum k)], natsTab [], natTab []⟩
theorem fE (k : Nat) : ∀ f, ∀ c ∈ (E k).fn f, CalleeOK Tryd.prog f c := fnTab_ok trivial
namespace l0
theorem round (k : Nat) (d : (Unit × Unit × Int × Int × Unit)) (e : (Unit × (List (List Int)) × Unit × (List Int) × Unit)) (G : St → Option (Ex × St)) : roundK Tryd.prog (E k) 22 0 (subC (bodyOf Tryd.f64) [1, 0, 0]) (recast cl hn kp) (finBy cl hn kp rc rs ri) G ⟨mkS S d, mkH H e⟩ =
    step (fun x8 y800003 => some (.exit 0, KX d e (x8, y800003))) (fun x8 y800003 => G ⟨mkS S ((), (), d.2.2.1, x8, ()), mkH H ((), e.2.1, (), y800003, ())⟩) k d.2.2.1 e.2.1 d.2.2.2.1 e.2.2.2.1 := by kernel_rfl
theorem it (k n : Nat) (d : (Unit × Unit × Int × Int × Unit)) (e : (Unit × (List (List Int)) × Unit × (List Int) × Unit)) : loopIt Tryd.prog (E k) 22 0 (subC (bodyOf Tryd.f64) [1, 0, 0]) (recast cl hn kp) (finBy cl hn kp rc rs ri) n ⟨mkS S d, mkH H e⟩ = go (fun x8 y800003 => some (.exit 0, KX d e (x8, y800003))) k d.2.2.1 e.2.1 n d.2.2.2.1 e.2.2.2.1 :=
  loopIt_eq (D := (Unit × Unit × Int × Int × Unit) × (Unit × (List (List Int)) × Unit × (List Int) × Unit)) (fun p => ⟨mkS S p.1, mkH H p.2⟩) (fun F p => step (fun x8 y800003 => some (.exit 0, KX p.1 p.2 (x8, y800003))) (fun x8 y800003 => F (((), (), p.1.2.2.1, x8, ()), ((), p.2.2.1, (), y800003, ()))) k p.1.2.2.1 p.2.2.1 p.1.2.2.2.1 p.2.2.2.2.1) (fun n p => go (fun x8 y800003 => some (.exit 0, KX p.1 p.2 (x8, y800003))) k p.1.2.2.1 p.2.2.1 n p.1.2.2.2.1 p.2.2.2.2.1) (fun _ => rfl) (fun _ _ => rfl) (fun G p => round k p.1 p.2 G) n (d, e)
theorem ok (k : Nat) : LoopOK Tryd.prog 22 (subC (bodyOf Tryd.f64) [1, 0, 0]) (sum k) :=
  loop_sigX hm (fE k) (loopsOK_of [] (by kernel_rfl) trivial) S cl hn kp H 0 (fun (d : (Unit × Unit × Int × Int × Unit)) (e : (Unit × (List (List Int)) × Unit × (List Int) × Unit)) => f k d.2.2.1 e.2.1 k d.2.2.2.1 e.2.2.2.1) KX cl hn kp rc rs ri k
    (fun d e => (it k k d e).trans (go_nat (fun v => some (Ex.exit 0, KX d e v)) (fun x8 y800003 => some (x8, y800003)) k d.2.2.1 e.2.1 k d.2.2.2.1 e.2.2.2.1).symm)
end l0
theorem run (k : Nat) (d : (Unit × Unit × Unit)) (e : (Unit × (List (List Int)) × (List Int) × Unit)) : runFn Tryd.prog (E k) 22 (bodyOf Tryd.f64) Tryd.f64.results.toList cl hn hi (mkL ps d) (mkH hs e) =
    tree (fun b0 => leafFn hs fi e val wr b0) k e.2.1 e.2.2.1 := by kernel_rfl
theorem run_f (k : Nat) (d : (Unit × Unit × Unit)) (e : (Unit × (List (List Int)) × (List Int) × Unit)) : runFn Tryd.prog (E k) 22 (bodyOf Tryd.f64) Tryd.f64.results.toList cl hn hi (mkL ps d) (mkH hs e) = (f k e.2.1 e.2.2.1).bind (leafFn hs fi e val wr) :=
  (run k d e).trans (tree_nat (leafFn hs fi e val wr) (fun b0 => some b0) k e.2.1 e.2.2.1).symm
theorem fnIs : FnIs Tryd.prog 64 Tryd.f64 (bodyOf Tryd.f64) 22 := ⟨by kernel_rfl, by kernel_rfl, by kernel_rfl, by kernel_rfl⟩
theorem ok (k : Nat) : CalleeOK Tryd.prog 64 (callee k) :=
  callee_sig (T := (List Int)) fnIs hm (fE k) (loopsOK_of [(0, subC (bodyOf Tryd.f64) [1, 0, 0])] (by kernel_rfl) ⟨of_loop (l0.sum k) rfl (l0.ok k), trivial⟩) ps hs cl hn fi (fun (d : (Unit × Unit × Unit)) (e : (Unit × (List (List Int)) × (List Int) × Unit)) => f k e.2.1 e.2.2.1) val wr rfl (fun _ => rfl) (run_f k)
end scroll_Pen_Names
namespace scroll_Pen_Put_v1
namespace l2
def step {X : Type} (K : Int → (List Int) → Option X) (G : Int → (List Int) → Option X) (k : Nat) (x1 : Int) (x7 : Int) (x10 : Int) (x11 : Int) (x17 : Int) (y1 : (List Int)) (x18 : Int) (y800003 : (List Int)) : Option X :=
  (bif (decide (x18 < x17)) then (bif (decide ((mulI .i64 8 x18) < 0)) then none else (bif (fits (((List.length y800003) + 1) * 1)) then (G (addI .i64 x18 1) (y800003 ++ ([(IntKind.wrap .u8 (shrI .i64 x7 (mulI .i64 8 x18)))] : (List Int)))) else none)) else (K x18 y800003))
def go {X : Type} (K : Int → (List Int) → Option X) (k : Nat) (x1 : Int) (x7 : Int) (x10 : Int) (x11 : Int) (x17 : Int) (y1 : (List Int)) : Nat → Int → (List Int) → Option X
  | 0, _, _ => none
  | n + 1, x18, y800003 => step K (go K k x1 x7 x10 x11 x17 y1 n) k x1 x7 x10 x11 x17 y1 x18 y800003
def f (k : Nat) (x1 : Int) (x7 : Int) (x10 : Int) (x11 : Int) (x17 : Int) (y1 : (List Int)) (n : Nat) (x18 : Int) (y800003 : (List Int)) : Option (Int × (List Int)) := go (fun x18 y800003 => some (x18, y800003)) k x1 x7 x10 x11 x17 y1 n x18 y800003
theorem step_nat {X Y : Type} (h : X → Option Y) (K : Int → (List Int) → Option X) (G : Int → (List Int) → Option X) (k : Nat) (x1 : Int) (x7 : Int) (x10 : Int) (x11 : Int) (x17 : Int) (y1 : (List Int)) (x18 : Int) (y800003 : (List Int)) : Option.bind (step K G k x1 x7 x10 x11 x17 y1 x18 y800003) h = step (fun x18 y800003 => Option.bind (K x18 y800003) h) (fun x18 y800003 => Option.bind (G x18 y800003) h) k x1 x7 x10 x11 x17 y1 x18 y800003 := by
  simp only [step, bif_bind, sel_bind', Option.bind_assoc, Option.bind_none, Option.bind_some]
theorem go_nat {X Y : Type} (h : X → Option Y) (K : Int → (List Int) → Option X) (k : Nat) (x1 : Int) (x7 : Int) (x10 : Int) (x11 : Int) (x17 : Int) (y1 : (List Int)) (n : Nat) : ∀ (x18 : Int) (y800003 : (List Int)), Option.bind (go K k x1 x7 x10 x11 x17 y1 n x18 y800003) h = go (fun x18 y800003 => Option.bind (K x18 y800003) h) k x1 x7 x10 x11 x17 y1 n x18 y800003 := by
  induction n with
  | zero => intros; rfl
  | succ n ih => intro x18 y800003; show Option.bind (step K (go K k x1 x7 x10 x11 x17 y1 n) k x1 x7 x10 x11 x17 y1 x18 y800003) h = step (fun x18 y800003 => Option.bind (K x18 y800003) h) (go (fun x18 y800003 => Option.bind (K x18 y800003) h) k x1 x7 x10 x11 x17 y1 n) k x1 x7 x10 x11 x17 y1 x18 y800003; rw [step_nat h]; simp only [ih]
abbrev S : List (Nat × Sh) := [(0, .ptr 0), (1, .data (.int .i64)), (7, .data (.int .i64)), (9, .vec 1), (10, .data (.int .i64)), (11, .data (.int .i64)), (17, .data (.int .i64)), (18, .data (.int .i64))]
abbrev H : List (Nat × ESh) := [(0, .cell (.one (.vec 800003))), (1, .rows 2 3 (.int .i64)), (2, .dead), (800003, .rows 2 5 (.int .u8))]
abbrev cl : List (Place × Nat × Hint) := [(.id 0, 0, .move)]
abbrev hn : List (Nat × Hint) := [(0, .any), (1, .any), (7, .any), (9, .any), (10, .any), (11, .any), (17, .any), (18, .any)]
abbrev kp : List Nat := [0, 1, 2]
abbrev rc : List (Place × Nat × Hint) := []
abbrev rs : List (Nat × Hint) := []
abbrev ri : List Nat := [0, 1, 2]
def KX (d : (Unit × Int × Int × Unit × Int × Int × Int × Int × Unit)) (e : (Unit × (List Int) × Unit × (List Int) × Unit)) (v : (Int × (List Int))) : St := ⟨mkS S ((), d.2.1, d.2.2.1, (), d.2.2.2.2.1, d.2.2.2.2.2.1, d.2.2.2.2.2.2.1, v.1, ()), mkH H ((), e.2.1, (), v.2, ())⟩
def sum (k : Nat) : LoopSum := sigLoopX S cl hn kp H 2 (fun (d : (Unit × Int × Int × Unit × Int × Int × Int × Int × Unit)) (e : (Unit × (List Int) × Unit × (List Int) × Unit)) => f k d.2.1 d.2.2.1 d.2.2.2.2.1 d.2.2.2.2.2.1 d.2.2.2.2.2.2.1 e.2.1 k d.2.2.2.2.2.2.2.1 e.2.2.2.1) KX
end l2
namespace l0
def step {X : Type} (K : Int → (List Int) → Option X) (G : Int → (List Int) → Option X) (k : Nat) (x1 : Int) (x10 : Int) (y1 : (List Int)) (x11 : Int) (y800003 : (List Int)) : Option X :=
  (bif (decide (x11 < x10)) then (bif (decide (0 ≤ x11)) then (bif (decide (x11 < ((List.length y1) : Int))) then (bif (decide ((Int.toNat x11) < (List.length y1))) then (Option.bind (scroll_Pen_Put_v1.l2.f k x1 (List.getD y1 (Int.toNat x11) (0 : Int)) x10 x11 (mnI (mxI x1 1) 8) y1 k (0 : Int) y800003) (fun r1 => (G (addI .i64 x11 1) r1.2))) else none) else none) else none) else (K x11 y800003))
def go {X : Type} (K : Int → (List Int) → Option X) (k : Nat) (x1 : Int) (x10 : Int) (y1 : (List Int)) : Nat → Int → (List Int) → Option X
  | 0, _, _ => none
  | n + 1, x11, y800003 => step K (go K k x1 x10 y1 n) k x1 x10 y1 x11 y800003
def f (k : Nat) (x1 : Int) (x10 : Int) (y1 : (List Int)) (n : Nat) (x11 : Int) (y800003 : (List Int)) : Option (Int × (List Int)) := go (fun x11 y800003 => some (x11, y800003)) k x1 x10 y1 n x11 y800003
theorem step_nat {X Y : Type} (h : X → Option Y) (K : Int → (List Int) → Option X) (G : Int → (List Int) → Option X) (k : Nat) (x1 : Int) (x10 : Int) (y1 : (List Int)) (x11 : Int) (y800003 : (List Int)) : Option.bind (step K G k x1 x10 y1 x11 y800003) h = step (fun x11 y800003 => Option.bind (K x11 y800003) h) (fun x11 y800003 => Option.bind (G x11 y800003) h) k x1 x10 y1 x11 y800003 := by
  simp only [step, bif_bind, sel_bind', Option.bind_assoc, Option.bind_none, Option.bind_some]
theorem go_nat {X Y : Type} (h : X → Option Y) (K : Int → (List Int) → Option X) (k : Nat) (x1 : Int) (x10 : Int) (y1 : (List Int)) (n : Nat) : ∀ (x11 : Int) (y800003 : (List Int)), Option.bind (go K k x1 x10 y1 n x11 y800003) h = go (fun x11 y800003 => Option.bind (K x11 y800003) h) k x1 x10 y1 n x11 y800003 := by
  induction n with
  | zero => intros; rfl
  | succ n ih => intro x11 y800003; show Option.bind (step K (go K k x1 x10 y1 n) k x1 x10 y1 x11 y800003) h = step (fun x11 y800003 => Option.bind (K x11 y800003) h) (go (fun x11 y800003 => Option.bind (K x11 y800003) h) k x1 x10 y1 n) k x1 x10 y1 x11 y800003; rw [step_nat h]; simp only [ih]
abbrev S : List (Nat × Sh) := [(0, .ptr 0), (1, .data (.int .i64)), (9, .vec 1), (10, .data (.int .i64)), (11, .data (.int .i64))]
abbrev H : List (Nat × ESh) := [(0, .cell (.one (.vec 800003))), (1, .rows 2 3 (.int .i64)), (2, .dead), (800003, .rows 2 5 (.int .u8))]
abbrev cl : List (Place × Nat × Hint) := [(.id 0, 0, .move)]
abbrev hn : List (Nat × Hint) := [(0, .any), (1, .any), (9, .any), (10, .any), (11, .any)]
abbrev kp : List Nat := [0, 1, 2]
abbrev rc : List (Place × Nat × Hint) := []
abbrev rs : List (Nat × Hint) := []
abbrev ri : List Nat := [0, 1, 2]
def KX (d : (Unit × Int × Unit × Int × Int × Unit)) (e : (Unit × (List Int) × Unit × (List Int) × Unit)) (v : (Int × (List Int))) : St := ⟨mkS S ((), d.2.1, (), d.2.2.2.1, v.1, ()), mkH H ((), e.2.1, (), v.2, ())⟩
def sum (k : Nat) : LoopSum := sigLoopX S cl hn kp H 0 (fun (d : (Unit × Int × Unit × Int × Int × Unit)) (e : (Unit × (List Int) × Unit × (List Int) × Unit)) => f k d.2.1 d.2.2.2.1 e.2.1 k d.2.2.2.2.1 e.2.2.2.1) KX
end l0
def tree {X : Type} (K : (List Int) → Option X) (k : Nat) (a1 : Int) (m1 : (List Int)) (m2 : (List Int)) : Option X :=
  (Option.bind (scroll_Pen_Put_v1.l0.f k a1 ((List.length m1) : Int) m1 k (0 : Int) m2) (fun r2 => (K r2.2)))
def f (k : Nat) (a1 : Int) (m1 : (List Int)) (m2 : (List Int)) : Option (List Int) := tree (fun b0 => some b0) k a1 m1 m2
theorem tree_nat {X Y : Type} (h : X → Option Y) (K : (List Int) → Option X) (k : Nat) (a1 : Int) (m1 : (List Int)) (m2 : (List Int)) : Option.bind (tree K k a1 m1 m2) h = tree (fun b0 => Option.bind (K b0) h) k a1 m1 m2 := by
  simp only [tree, bif_bind, sel_bind', Option.bind_assoc, Option.bind_none, Option.bind_some]
abbrev ps : List Sh := [.ptr 0, .data (.int .i64), .vec 1]
abbrev hs : List (Nat × ESh) := [(0, .cell (.one (.vec 2))), (1, .rows 2 3 (.int .i64)), (2, .rows 2 5 (.int .u8))]
abbrev hi : List Nat := hs.map (·.1)
abbrev fi : List Nat := [0, 1, 2, 900003]
abbrev cl : List (Place × Nat × Hint) := []
abbrev hn : List Hint := []
def val (t : (List Int)) : AV := .tnil
def wr (t : (List Int)) : Heap := [(0, ESh.mk (.cell (.one (.vec 900003))) ()), (2, ESh.mk (.dead) ()), (900003, ESh.mk (.rows 2 5 (.int .u8)) t)]
def callee (k : Nat) : Callee := sigCallee ps hs (fun (d : (Unit × Int × Unit × Unit)) (e : (Unit × (List Int) × (List Int) × Unit)) => f k d.2.1 e.2.1 e.2.2.1) val wr
def E (k : Nat) : Env := ⟨fnTab [], loopTab [(2, l2.sum k), (0, l0.sum k)], natsTab [], natTab []⟩
theorem fE (k : Nat) : ∀ f, ∀ c ∈ (E k).fn f, CalleeOK Tryd.prog f c := fnTab_ok trivial
namespace l2
theorem round (k : Nat) (d : (Unit × Int × Int × Unit × Int × Int × Int × Int × Unit)) (e : (Unit × (List Int) × Unit × (List Int) × Unit)) (G : St → Option (Ex × St)) : roundK Tryd.prog (E k) 37 2 (subC (bodyOf Tryd.f63) [1, 0, 0, 1, 1, 0, 0, 1, 1, 0, 0]) (recast cl hn kp) (finBy cl hn kp rc rs ri) G ⟨mkS S d, mkH H e⟩ =
    step (fun x18 y800003 => some (.exit 2, KX d e (x18, y800003))) (fun x18 y800003 => G ⟨mkS S ((), d.2.1, d.2.2.1, (), d.2.2.2.2.1, d.2.2.2.2.2.1, d.2.2.2.2.2.2.1, x18, ()), mkH H ((), e.2.1, (), y800003, ())⟩) k d.2.1 d.2.2.1 d.2.2.2.2.1 d.2.2.2.2.2.1 d.2.2.2.2.2.2.1 e.2.1 d.2.2.2.2.2.2.2.1 e.2.2.2.1 := by kernel_rfl
theorem it (k n : Nat) (d : (Unit × Int × Int × Unit × Int × Int × Int × Int × Unit)) (e : (Unit × (List Int) × Unit × (List Int) × Unit)) : loopIt Tryd.prog (E k) 37 2 (subC (bodyOf Tryd.f63) [1, 0, 0, 1, 1, 0, 0, 1, 1, 0, 0]) (recast cl hn kp) (finBy cl hn kp rc rs ri) n ⟨mkS S d, mkH H e⟩ = go (fun x18 y800003 => some (.exit 2, KX d e (x18, y800003))) k d.2.1 d.2.2.1 d.2.2.2.2.1 d.2.2.2.2.2.1 d.2.2.2.2.2.2.1 e.2.1 n d.2.2.2.2.2.2.2.1 e.2.2.2.1 :=
  loopIt_eq (D := (Unit × Int × Int × Unit × Int × Int × Int × Int × Unit) × (Unit × (List Int) × Unit × (List Int) × Unit)) (fun p => ⟨mkS S p.1, mkH H p.2⟩) (fun F p => step (fun x18 y800003 => some (.exit 2, KX p.1 p.2 (x18, y800003))) (fun x18 y800003 => F (((), p.1.2.1, p.1.2.2.1, (), p.1.2.2.2.2.1, p.1.2.2.2.2.2.1, p.1.2.2.2.2.2.2.1, x18, ()), ((), p.2.2.1, (), y800003, ()))) k p.1.2.1 p.1.2.2.1 p.1.2.2.2.2.1 p.1.2.2.2.2.2.1 p.1.2.2.2.2.2.2.1 p.2.2.1 p.1.2.2.2.2.2.2.2.1 p.2.2.2.2.1) (fun n p => go (fun x18 y800003 => some (.exit 2, KX p.1 p.2 (x18, y800003))) k p.1.2.1 p.1.2.2.1 p.1.2.2.2.2.1 p.1.2.2.2.2.2.1 p.1.2.2.2.2.2.2.1 p.2.2.1 n p.1.2.2.2.2.2.2.2.1 p.2.2.2.2.1) (fun _ => rfl) (fun _ _ => rfl) (fun G p => round k p.1 p.2 G) n (d, e)
theorem ok (k : Nat) : LoopOK Tryd.prog 37 (subC (bodyOf Tryd.f63) [1, 0, 0, 1, 1, 0, 0, 1, 1, 0, 0]) (sum k) :=
  loop_sigX hm (fE k) (loopsOK_of [] (by kernel_rfl) trivial) S cl hn kp H 2 (fun (d : (Unit × Int × Int × Unit × Int × Int × Int × Int × Unit)) (e : (Unit × (List Int) × Unit × (List Int) × Unit)) => f k d.2.1 d.2.2.1 d.2.2.2.2.1 d.2.2.2.2.2.1 d.2.2.2.2.2.2.1 e.2.1 k d.2.2.2.2.2.2.2.1 e.2.2.2.1) KX cl hn kp rc rs ri k
    (fun d e => (it k k d e).trans (go_nat (fun v => some (Ex.exit 2, KX d e v)) (fun x18 y800003 => some (x18, y800003)) k d.2.1 d.2.2.1 d.2.2.2.2.1 d.2.2.2.2.2.1 d.2.2.2.2.2.2.1 e.2.1 k d.2.2.2.2.2.2.2.1 e.2.2.2.1).symm)
end l2
namespace l0
theorem round (k : Nat) (d : (Unit × Int × Unit × Int × Int × Unit)) (e : (Unit × (List Int) × Unit × (List Int) × Unit)) (G : St → Option (Ex × St)) : roundK Tryd.prog (E k) 37 0 (subC (bodyOf Tryd.f63) [1, 0, 0]) (recast cl hn kp) (finBy cl hn kp rc rs ri) G ⟨mkS S d, mkH H e⟩ =
    step (fun x11 y800003 => some (.exit 0, KX d e (x11, y800003))) (fun x11 y800003 => G ⟨mkS S ((), d.2.1, (), d.2.2.2.1, x11, ()), mkH H ((), e.2.1, (), y800003, ())⟩) k d.2.1 d.2.2.2.1 e.2.1 d.2.2.2.2.1 e.2.2.2.1 := by kernel_rfl
theorem it (k n : Nat) (d : (Unit × Int × Unit × Int × Int × Unit)) (e : (Unit × (List Int) × Unit × (List Int) × Unit)) : loopIt Tryd.prog (E k) 37 0 (subC (bodyOf Tryd.f63) [1, 0, 0]) (recast cl hn kp) (finBy cl hn kp rc rs ri) n ⟨mkS S d, mkH H e⟩ = go (fun x11 y800003 => some (.exit 0, KX d e (x11, y800003))) k d.2.1 d.2.2.2.1 e.2.1 n d.2.2.2.2.1 e.2.2.2.1 :=
  loopIt_eq (D := (Unit × Int × Unit × Int × Int × Unit) × (Unit × (List Int) × Unit × (List Int) × Unit)) (fun p => ⟨mkS S p.1, mkH H p.2⟩) (fun F p => step (fun x11 y800003 => some (.exit 0, KX p.1 p.2 (x11, y800003))) (fun x11 y800003 => F (((), p.1.2.1, (), p.1.2.2.2.1, x11, ()), ((), p.2.2.1, (), y800003, ()))) k p.1.2.1 p.1.2.2.2.1 p.2.2.1 p.1.2.2.2.2.1 p.2.2.2.2.1) (fun n p => go (fun x11 y800003 => some (.exit 0, KX p.1 p.2 (x11, y800003))) k p.1.2.1 p.1.2.2.2.1 p.2.2.1 n p.1.2.2.2.2.1 p.2.2.2.2.1) (fun _ => rfl) (fun _ _ => rfl) (fun G p => round k p.1 p.2 G) n (d, e)
theorem ok (k : Nat) : LoopOK Tryd.prog 37 (subC (bodyOf Tryd.f63) [1, 0, 0]) (sum k) :=
  loop_sigX hm (fE k) (loopsOK_of [(2, subC (bodyOf Tryd.f63) [1, 0, 0, 1, 1, 0, 0, 1, 1, 0, 0])] (by kernel_rfl) ⟨of_loop (l2.sum k) rfl (l2.ok k), trivial⟩) S cl hn kp H 0 (fun (d : (Unit × Int × Unit × Int × Int × Unit)) (e : (Unit × (List Int) × Unit × (List Int) × Unit)) => f k d.2.1 d.2.2.2.1 e.2.1 k d.2.2.2.2.1 e.2.2.2.1) KX cl hn kp rc rs ri k
    (fun d e => (it k k d e).trans (go_nat (fun v => some (Ex.exit 0, KX d e v)) (fun x11 y800003 => some (x11, y800003)) k d.2.1 d.2.2.2.1 e.2.1 k d.2.2.2.2.1 e.2.2.2.1).symm)
end l0
theorem run (k : Nat) (d : (Unit × Int × Unit × Unit)) (e : (Unit × (List Int) × (List Int) × Unit)) : runFn Tryd.prog (E k) 37 (bodyOf Tryd.f63) Tryd.f63.results.toList cl hn hi (mkL ps d) (mkH hs e) =
    tree (fun b0 => leafFn hs fi e val wr b0) k d.2.1 e.2.1 e.2.2.1 := by kernel_rfl
theorem run_f (k : Nat) (d : (Unit × Int × Unit × Unit)) (e : (Unit × (List Int) × (List Int) × Unit)) : runFn Tryd.prog (E k) 37 (bodyOf Tryd.f63) Tryd.f63.results.toList cl hn hi (mkL ps d) (mkH hs e) = (f k d.2.1 e.2.1 e.2.2.1).bind (leafFn hs fi e val wr) :=
  (run k d e).trans (tree_nat (leafFn hs fi e val wr) (fun b0 => some b0) k d.2.1 e.2.1 e.2.2.1).symm
theorem fnIs : FnIs Tryd.prog 63 Tryd.f63 (bodyOf Tryd.f63) 37 := ⟨by kernel_rfl, by kernel_rfl, by kernel_rfl, by kernel_rfl⟩
theorem ok (k : Nat) : CalleeOK Tryd.prog 63 (callee k) :=
  callee_sig (T := (List Int)) fnIs hm (fE k) (loopsOK_of [(0, subC (bodyOf Tryd.f63) [1, 0, 0])] (by kernel_rfl) ⟨of_loop (l0.sum k) rfl (l0.ok k), trivial⟩) ps hs cl hn fi (fun (d : (Unit × Int × Unit × Unit)) (e : (Unit × (List Int) × (List Int) × Unit)) => f k d.2.1 e.2.1 e.2.2.1) val wr rfl (fun _ => rfl) (run_f k)
end scroll_Pen_Put_v1
namespace header_Write
def tree {X : Type} (K : (List Int) → Option X) (k : Nat) (a1 : T_3d5633) : Option X :=
  (Option.bind (header_Good.f k a1) (fun r1 => (bif (!r1) then (Option.bind (scroll_Pen_Put.f k (4 : Int) ([0] : (List Int))) (fun r2 => (Option.bind (scroll_Pen_Names.f k ([[0, 0, 0, 0, 0, 0, 0, 0, 0, 0, 0, 0, 0, 0, 0, 0, 0, 0, 0, 0, 0, 0, 0, 0, 0, 0, 0, 0, 0, 0, 0, 0], [0, 0, 0, 0, 0, 0, 0, 0, 0, 0, 0, 0, 0, 0, 0, 0, 0, 0, 0, 0, 0, 0, 0, 0, 0, 0, 0, 0, 0, 0, 0, 0]] : (List (List Int))) r2) (fun r3 => (Option.bind (scroll_Pen_Put_v1.f k (4 : Int) ([0, 0, 0] : (List Int)) r3) (fun r4 => (K r4))))))) else (Option.bind (scroll_Pen_Put.f k (4 : Int) ([a1.1] : (List Int))) (fun r5 => (Option.bind (scroll_Pen_Names.f k ([a1.2.1, a1.2.2.1] : (List (List Int))) r5) (fun r6 => (Option.bind (scroll_Pen_Put_v1.f k (4 : Int) ([a1.2.2.2.1, a1.2.2.2.2.1, a1.2.2.2.2.2] : (List Int)) r6) (fun r7 => (K r7))))))))))
def f (k : Nat) (a1 : T_3d5633) : Option (List Int) := tree (fun b0 => some b0) k a1
theorem tree_nat {X Y : Type} (h : X → Option Y) (K : (List Int) → Option X) (k : Nat) (a1 : T_3d5633) : Option.bind (tree K k a1) h = tree (fun b0 => Option.bind (K b0) h) k a1 := by
  simp only [tree, bif_bind, sel_bind', Option.bind_assoc, Option.bind_none, Option.bind_some]
abbrev ps : List Sh := [.ptr 0, .data (.pair (.int .i64) (.pair (.arr .u8 32) (.pair (.arr .u8 32) (.pair (.int .i64) (.pair (.int .i64) (.int .i64))))))]
abbrev hs : List (Nat × ESh) := [(0, .cell (.one .nils))]
abbrev hi : List Nat := hs.map (·.1)
abbrev fi : List Nat := [0, 900001]
abbrev cl : List (Place × Nat × Hint) := []
abbrev hn : List Hint := []
def val (t : (List Int)) : AV := .tnil
def wr (t : (List Int)) : Heap := [(0, ESh.mk (.cell (.one (.vec 900001))) ()), (900001, ESh.mk (.rows 2 5 (.int .u8)) t)]
def callee (k : Nat) : Callee := sigCallee ps hs (fun (d : (Unit × T_3d5633 × Unit)) (e : (Unit × Unit)) => f k d.2.1) val wr
def E (k : Nat) : Env := ⟨fnTab [(50, [header_Good.callee k]), (63, [scroll_Pen_Put.callee k, scroll_Pen_Put_v1.callee k]), (64, [scroll_Pen_Names.callee k])], loopTab [], natsTab [], natTab []⟩
theorem fE (k : Nat) : ∀ f, ∀ c ∈ (E k).fn f, CalleeOK Tryd.prog f c := fnTab_ok ⟨⟨header_Good.ok k, trivial⟩, ⟨scroll_Pen_Put.ok k, scroll_Pen_Put_v1.ok k, trivial⟩, ⟨scroll_Pen_Names.ok k, trivial⟩, trivial⟩
theorem run (k : Nat) (d : (Unit × T_3d5633 × Unit)) (e : (Unit × Unit)) : runFn Tryd.prog (E k) 29 (bodyOf Tryd.f49) Tryd.f49.results.toList cl hn hi (mkL ps d) (mkH hs e) =
    tree (fun b0 => leafFn hs fi e val wr b0) k d.2.1 := by kernel_rfl
theorem run_f (k : Nat) (d : (Unit × T_3d5633 × Unit)) (e : (Unit × Unit)) : runFn Tryd.prog (E k) 29 (bodyOf Tryd.f49) Tryd.f49.results.toList cl hn hi (mkL ps d) (mkH hs e) = (f k d.2.1).bind (leafFn hs fi e val wr) :=
  (run k d e).trans (tree_nat (leafFn hs fi e val wr) (fun b0 => some b0) k d.2.1).symm
theorem fnIs : FnIs Tryd.prog 49 Tryd.f49 (bodyOf Tryd.f49) 29 := ⟨by kernel_rfl, by kernel_rfl, by kernel_rfl, by kernel_rfl⟩
theorem ok (k : Nat) : CalleeOK Tryd.prog 49 (callee k) :=
  callee_sig (T := (List Int)) fnIs hm (fE k) (loopsOK_of [] (by kernel_rfl) trivial) ps hs cl hn fi (fun (d : (Unit × T_3d5633 × Unit)) (e : (Unit × Unit)) => f k d.2.1) val wr rfl (fun _ => rfl) (run_f k)
end header_Write
namespace scroll_Pen_Text
def tree {X : Type} (K : (List Int) → Option X) (k : Nat) (m1 : (List Int)) : Option X :=
  (K (toStr m1))
def f (k : Nat) (m1 : (List Int)) : Option (List Int) := tree (fun b0 => some b0) k m1
theorem tree_nat {X Y : Type} (h : X → Option Y) (K : (List Int) → Option X) (k : Nat) (m1 : (List Int)) : Option.bind (tree K k m1) h = tree (fun b0 => Option.bind (K b0) h) k m1 := by
  simp only [tree, bif_bind, sel_bind', Option.bind_assoc, Option.bind_none, Option.bind_some]
abbrev ps : List Sh := [.ptr 0]
abbrev hs : List (Nat × ESh) := [(0, .cell (.one (.vec 1))), (1, .rows 2 5 (.int .u8))]
abbrev hi : List Nat := hs.map (·.1)
abbrev fi : List Nat := [0, 1]
abbrev cl : List (Place × Nat × Hint) := []
abbrev hn : List Hint := [.any]
def val (t : (List Int)) : AV := Sh.mk (.data .str) t
def wr (t : (List Int)) : Heap := []
def callee (k : Nat) : Callee := sigCallee ps hs (fun (d : (Unit × Unit)) (e : (Unit × (List Int) × Unit)) => f k e.2.1) val wr
def E (k : Nat) : Env := ⟨fnTab [], loopTab [], natsTab [], natTab []⟩
theorem fE (k : Nat) : ∀ f, ∀ c ∈ (E k).fn f, CalleeOK Tryd.prog f c := fnTab_ok trivial
theorem run (k : Nat) (d : (Unit × Unit)) (e : (Unit × (List Int) × Unit)) : runFn Tryd.prog (E k) 8 (bodyOf Tryd.f51) Tryd.f51.results.toList cl hn hi (mkL ps d) (mkH hs e) =
    tree (fun b0 => leafFn hs fi e val wr b0) k e.2.1 := by kernel_rfl
theorem run_f (k : Nat) (d : (Unit × Unit)) (e : (Unit × (List Int) × Unit)) : runFn Tryd.prog (E k) 8 (bodyOf Tryd.f51) Tryd.f51.results.toList cl hn hi (mkL ps d) (mkH hs e) = (f k e.2.1).bind (leafFn hs fi e val wr) :=
  (run k d e).trans (tree_nat (leafFn hs fi e val wr) (fun b0 => some b0) k e.2.1).symm
theorem fnIs : FnIs Tryd.prog 51 Tryd.f51 (bodyOf Tryd.f51) 8 := ⟨by kernel_rfl, by kernel_rfl, by kernel_rfl, by kernel_rfl⟩
theorem ok (k : Nat) : CalleeOK Tryd.prog 51 (callee k) :=
  callee_sig (T := (List Int)) fnIs hm (fE k) (loopsOK_of [] (by kernel_rfl) trivial) ps hs cl hn fi (fun (d : (Unit × Unit)) (e : (Unit × (List Int) × Unit)) => f k e.2.1) val wr rfl (fun _ => rfl) (run_f k)
end scroll_Pen_Text
namespace header_Bytes
def tree {X : Type} (K : (List Int) → Int → Option X) (k : Nat) (a0 : T_3d5633) : Option X :=
  (Option.bind (header_Good.f k a0) (fun r1 => (bif (!r1) then (K ([] : (List Int)) (1 : Int)) else (Option.bind (header_Write.f k a0) (fun r2 => (Option.bind (scroll_Pen_Text.f k r2) (fun r3 => (K r3 (0 : Int)))))))))
def f (k : Nat) (a0 : T_3d5633) : Option ((List Int) × Int) := tree (fun b0 b1 => some (b0, b1)) k a0
theorem tree_nat {X Y : Type} (h : X → Option Y) (K : (List Int) → Int → Option X) (k : Nat) (a0 : T_3d5633) : Option.bind (tree K k a0) h = tree (fun b0 b1 => Option.bind (K b0 b1) h) k a0 := by
  simp only [tree, bif_bind, sel_bind', Option.bind_assoc, Option.bind_none, Option.bind_some]
abbrev ps : List Sh := [.data (.pair (.int .i64) (.pair (.arr .u8 32) (.pair (.arr .u8 32) (.pair (.int .i64) (.pair (.int .i64) (.int .i64))))))]
abbrev hs : List (Nat × ESh) := []
abbrev hi : List Nat := hs.map (·.1)
abbrev fi : List Nat := []
abbrev cl : List (Place × Nat × Hint) := []
abbrev hn : List Hint := [.any, .any]
def val (t : ((List Int) × Int)) : AV := .tcons (Sh.mk (.data .str) t.1) (.tcons (Sh.mk (.data (.int .i64)) t.2) .tnil)
def wr (t : ((List Int) × Int)) : Heap := []
def callee (k : Nat) : Callee := sigCallee ps hs (fun (d : (T_3d5633 × Unit)) (e : Unit) => f k d.1) val wr
def E (k : Nat) : Env := ⟨fnTab [(50, [header_Good.callee k]), (49, [header_Write.callee k]), (51, [scroll_Pen_Text.callee k])], loopTab [], natsTab [], natTab []⟩
theorem fE (k : Nat) : ∀ f, ∀ c ∈ (E k).fn f, CalleeOK Tryd.prog f c := fnTab_ok ⟨⟨header_Good.ok k, trivial⟩, ⟨header_Write.ok k, trivial⟩, ⟨scroll_Pen_Text.ok k, trivial⟩, trivial⟩
theorem run (k : Nat) (d : (T_3d5633 × Unit)) (e : Unit) : runFn Tryd.prog (E k) 15 (bodyOf Tryd.f31) Tryd.f31.results.toList cl hn hi (mkL ps d) (mkH hs e) =
    tree (fun b0 b1 => leafFn hs fi e val wr (b0, b1)) k d.1 := by kernel_rfl
theorem run_f (k : Nat) (d : (T_3d5633 × Unit)) (e : Unit) : runFn Tryd.prog (E k) 15 (bodyOf Tryd.f31) Tryd.f31.results.toList cl hn hi (mkL ps d) (mkH hs e) = (f k d.1).bind (leafFn hs fi e val wr) :=
  (run k d e).trans (tree_nat (leafFn hs fi e val wr) (fun b0 b1 => some (b0, b1)) k d.1).symm
theorem fnIs : FnIs Tryd.prog 31 Tryd.f31 (bodyOf Tryd.f31) 15 := ⟨by kernel_rfl, by kernel_rfl, by kernel_rfl, by kernel_rfl⟩
theorem ok (k : Nat) : CalleeOK Tryd.prog 31 (callee k) :=
  callee_sig (T := ((List Int) × Int)) fnIs hm (fE k) (loopsOK_of [] (by kernel_rfl) trivial) ps hs cl hn fi (fun (d : (T_3d5633 × Unit)) (e : Unit) => f k d.1) val wr rfl (fun _ => rfl) (run_f k)
end header_Bytes
namespace header_Id
def tree {X : Type} (K : (List Int) → Option X) (k : Nat) (a0 : T_3d5633) (m0 : (List Int)) (m1 : (List Int)) : Option X :=
  (Option.bind (header_Bytes.f k a0) (fun r1 => (bif (r1.2 != (0 : Int)) then (K ([0, 0, 0, 0, 0, 0, 0, 0, 0, 0, 0, 0, 0, 0, 0, 0, 0, 0, 0, 0, 0, 0, 0, 0, 0, 0, 0, 0, 0, 0, 0, 0] : (List Int))) else (Option.bind (digest_Double.f k ([r1.1] : (List (List Int))) m0 m1) (fun r2 => (K r2))))))
def f (k : Nat) (a0 : T_3d5633) (m0 : (List Int)) (m1 : (List Int)) : Option (List Int) := tree (fun b0 => some b0) k a0 m0 m1
theorem tree_nat {X Y : Type} (h : X → Option Y) (K : (List Int) → Option X) (k : Nat) (a0 : T_3d5633) (m0 : (List Int)) (m1 : (List Int)) : Option.bind (tree K k a0 m0 m1) h = tree (fun b0 => Option.bind (K b0) h) k a0 m0 m1 := by
  simp only [tree, bif_bind, sel_bind', Option.bind_assoc, Option.bind_none, Option.bind_some]
abbrev ps : List Sh := [.data (.pair (.int .i64) (.pair (.arr .u8 32) (.pair (.arr .u8 32) (.pair (.int .i64) (.pair (.int .i64) (.int .i64))))))]
abbrev hs : List (Nat × ESh) := [(0, .glob 0 (.arr .u32 8)), (1, .glob 1 (.arr .u32 64))]
abbrev hi : List Nat := hs.map (·.1)
abbrev fi : List Nat := [0, 1]
abbrev cl : List (Place × Nat × Hint) := []
abbrev hn : List Hint := [.any]
def val (t : (List Int)) : AV := Sh.mk (.data (.arr .u8 32)) t
def wr (t : (List Int)) : Heap := []
def callee (k : Nat) : Callee := sigCallee ps hs (fun (d : (T_3d5633 × Unit)) (e : ((List Int) × (List Int) × Unit)) => f k d.1 e.1 e.2.1) val wr
def E (k : Nat) : Env := ⟨fnTab [(31, [header_Bytes.callee k]), (21, [digest_Double.callee k])], loopTab [], natsTab [(21, [0, 1])], natTab [(0, 0), (1, 1)]⟩
theorem fE (k : Nat) : ∀ f, ∀ c ∈ (E k).fn f, CalleeOK Tryd.prog f c := fnTab_ok ⟨⟨header_Bytes.ok k, trivial⟩, ⟨digest_Double.ok k, trivial⟩, trivial⟩
theorem run (k : Nat) (d : (T_3d5633 × Unit)) (e : ((List Int) × (List Int) × Unit)) : runFn Tryd.prog (E k) 16 (bodyOf Tryd.f32) Tryd.f32.results.toList cl hn hi (mkL ps d) (mkH hs e) =
    tree (fun b0 => leafFn hs fi e val wr b0) k d.1 e.1 e.2.1 := by kernel_rfl
theorem run_f (k : Nat) (d : (T_3d5633 × Unit)) (e : ((List Int) × (List Int) × Unit)) : runFn Tryd.prog (E k) 16 (bodyOf Tryd.f32) Tryd.f32.results.toList cl hn hi (mkL ps d) (mkH hs e) = (f k d.1 e.1 e.2.1).bind (leafFn hs fi e val wr) :=
  (run k d e).trans (tree_nat (leafFn hs fi e val wr) (fun b0 => some b0) k d.1 e.1 e.2.1).symm
theorem fnIs : FnIs Tryd.prog 32 Tryd.f32 (bodyOf Tryd.f32) 16 := ⟨by kernel_rfl, by kernel_rfl, by kernel_rfl, by kernel_rfl⟩
theorem ok (k : Nat) : CalleeOK Tryd.prog 32 (callee k) :=
  callee_sig (T := (List Int)) fnIs hm (fE k) (loopsOK_of [] (by kernel_rfl) trivial) ps hs cl hn fi (fun (d : (T_3d5633 × Unit)) (e : ((List Int) × (List Int) × Unit)) => f k d.1 e.1 e.2.1) val wr rfl (fun _ => rfl) (run_f k)
end header_Id
namespace trailheadref06_Good
def tree {X : Type} (K : Bool → Option X) (k : Nat) (a0 : T_3d5633) : Option X :=
  (bif (decide (a0.1 ≥ ((-2147483648) : Int))) then (bif (decide (a0.1 ≤ (2147483647 : Int))) then (bif (decide (a0.2.2.2.1 ≥ (0 : Int))) then (bif (decide (a0.2.2.2.1 < (4294967296 : Int))) then (bif (decide (a0.2.2.2.2.1 ≥ (0 : Int))) then (bif (decide (a0.2.2.2.2.1 < (4294967296 : Int))) then (bif (decide (a0.2.2.2.2.2 ≥ (0 : Int))) then (K (decide (a0.2.2.2.2.2 < (4294967296 : Int)))) else (K false)) else (K false)) else (K false)) else (K false)) else (K false)) else (K false)) else (K false))
def f (k : Nat) (a0 : T_3d5633) : Option Bool := tree (fun b0 => some b0) k a0
theorem tree_nat {X Y : Type} (h : X → Option Y) (K : Bool → Option X) (k : Nat) (a0 : T_3d5633) : Option.bind (tree K k a0) h = tree (fun b0 => Option.bind (K b0) h) k a0 := by
  simp only [tree, bif_bind, sel_bind', Option.bind_assoc, Option.bind_none, Option.bind_some]
abbrev ps : List Sh := [.data (.pair (.int .i64) (.pair (.arr .u8 32) (.pair (.arr .u8 32) (.pair (.int .i64) (.pair (.int .i64) (.int .i64))))))]
abbrev hs : List (Nat × ESh) := []
abbrev hi : List Nat := hs.map (·.1)
abbrev fi : List Nat := []
abbrev cl : List (Place × Nat × Hint) := []
abbrev hn : List Hint := [.any]
def val (t : Bool) : AV := Sh.mk (.data .bool) t
def wr (t : Bool) : Heap := []
def callee (k : Nat) : Callee := sigCallee ps hs (fun (d : (T_3d5633 × Unit)) (e : Unit) => f k d.1) val wr
def E (k : Nat) : Env := ⟨fnTab [], loopTab [], natsTab [], natTab []⟩
theorem fE (k : Nat) : ∀ f, ∀ c ∈ (E k).fn f, CalleeOK Tryd.prog f c := fnTab_ok trivial
theorem run (k : Nat) (d : (T_3d5633 × Unit)) (e : Unit) : runFn Tryd.prog (E k) 45 (bodyOf Tryd.f30) Tryd.f30.results.toList cl hn hi (mkL ps d) (mkH hs e) =
    tree (fun b0 => leafFn hs fi e val wr b0) k d.1 := by kernel_rfl
theorem run_f (k : Nat) (d : (T_3d5633 × Unit)) (e : Unit) : runFn Tryd.prog (E k) 45 (bodyOf Tryd.f30) Tryd.f30.results.toList cl hn hi (mkL ps d) (mkH hs e) = (f k d.1).bind (leafFn hs fi e val wr) :=
  (run k d e).trans (tree_nat (leafFn hs fi e val wr) (fun b0 => some b0) k d.1).symm
theorem fnIs : FnIs Tryd.prog 30 Tryd.f30 (bodyOf Tryd.f30) 45 := ⟨by kernel_rfl, by kernel_rfl, by kernel_rfl, by kernel_rfl⟩
theorem ok (k : Nat) : CalleeOK Tryd.prog 30 (callee k) :=
  callee_sig (T := Bool) fnIs hm (fE k) (loopsOK_of [] (by kernel_rfl) trivial) ps hs cl hn fi (fun (d : (T_3d5633 × Unit)) (e : Unit) => f k d.1) val wr rfl (fun _ => rfl) (run_f k)
end trailheadref06_Good
namespace trailheadref05_Number
namespace l0
def step {X : Type} (K : Int → (List Int) → Int → Option X) (G : Int → (List Int) → Int → Option X) (k : Nat) (x0 : Int) (x5 : Int) (x6 : (List Int)) (x7 : Int) : Option X :=
  (bif (decide (x7 < (mnI (mxI x0 1) 8))) then (bif (fits ((List.length x6) + (List.length (toStr ([(IntKind.wrap .u8 (remI x5 256))] : (List Int)))))) then (G (quoI .u64 x5 256) (x6 ++ (toStr ([(IntKind.wrap .u8 (remI x5 256))] : (List Int)))) (addI .i64 x7 1)) else none) else (K x5 x6 x7))
def go {X : Type} (K : Int → (List Int) → Int → Option X) (k : Nat) (x0 : Int) : Nat → Int → (List Int) → Int → Option X
  | 0, _, _, _ => none
  | n + 1, x5, x6, x7 => step K (go K k x0 n) k x0 x5 x6 x7
def f (k : Nat) (x0 : Int) (n : Nat) (x5 : Int) (x6 : (List Int)) (x7 : Int) : Option (Int × ((List Int) × Int)) := go (fun x5 x6 x7 => some (x5, x6, x7)) k x0 n x5 x6 x7
theorem step_nat {X Y : Type} (h : X → Option Y) (K : Int → (List Int) → Int → Option X) (G : Int → (List Int) → Int → Option X) (k : Nat) (x0 : Int) (x5 : Int) (x6 : (List Int)) (x7 : Int) : Option.bind (step K G k x0 x5 x6 x7) h = step (fun x5 x6 x7 => Option.bind (K x5 x6 x7) h) (fun x5 x6 x7 => Option.bind (G x5 x6 x7) h) k x0 x5 x6 x7 := by
  simp only [step, bif_bind, sel_bind', Option.bind_assoc, Option.bind_none, Option.bind_some]
theorem go_nat {X Y : Type} (h : X → Option Y) (K : Int → (List Int) → Int → Option X) (k : Nat) (x0 : Int) (n : Nat) : ∀ (x5 : Int) (x6 : (List Int)) (x7 : Int), Option.bind (go K k x0 n x5 x6 x7) h = go (fun x5 x6 x7 => Option.bind (K x5 x6 x7) h) k x0 n x5 x6 x7 := by
  induction n with
  | zero => intros; rfl
  | succ n ih => intro x5 x6 x7; show Option.bind (step K (go K k x0 n) k x0 x5 x6 x7) h = step (fun x5 x6 x7 => Option.bind (K x5 x6 x7) h) (go (fun x5 x6 x7 => Option.bind (K x5 x6 x7) h) k x0 n) k x0 x5 x6 x7; rw [step_nat h]; simp only [ih]
abbrev S : List (Nat × Sh) := [(0, .data (.int .i64)), (5, .data (.int .u64)), (6, .data .str), (7, .data (.int .i64))]
abbrev H : List (Nat × ESh) := []
abbrev cl : List (Place × Nat × Hint) := []
abbrev hn : List (Nat × Hint) := [(0, .any), (5, .any), (6, .any), (7, .any)]
abbrev kp : List Nat := []
abbrev rc : List (Place × Nat × Hint) := []
abbrev rs : List (Nat × Hint) := []
abbrev ri : List Nat := []
def KX (d : (Int × Int × (List Int) × Int × Unit)) (e : Unit) (v : (Int × ((List Int) × Int))) : St := ⟨mkS S (d.1, v.1, v.2.1, v.2.2, ()), mkH H (())⟩
def sum (k : Nat) : LoopSum := sigLoopX S cl hn kp H 0 (fun (d : (Int × Int × (List Int) × Int × Unit)) (e : Unit) => f k d.1 k d.2.1 d.2.2.1 d.2.2.2.1) KX
end l0
def tree {X : Type} (K : (List Int) → Option X) (k : Nat) (a0 : Int) (a1 : Int) : Option X :=
  (Option.bind (trailheadref05_Number.l0.f k a0 k (IntKind.wrap .u64 a1) ([] : (List Int)) (0 : Int)) (fun r1 => (K r1.2.1)))
def f (k : Nat) (a0 : Int) (a1 : Int) : Option (List Int) := tree (fun b0 => some b0) k a0 a1
theorem tree_nat {X Y : Type} (h : X → Option Y) (K : (List Int) → Option X) (k : Nat) (a0 : Int) (a1 : Int) : Option.bind (tree K k a0 a1) h = tree (fun b0 => Option.bind (K b0) h) k a0 a1 := by
  simp only [tree, bif_bind, sel_bind', Option.bind_assoc, Option.bind_none, Option.bind_some]
abbrev ps : List Sh := [.data (.int .i64), .data (.int .i64)]
abbrev hs : List (Nat × ESh) := []
abbrev hi : List Nat := hs.map (·.1)
abbrev fi : List Nat := []
abbrev cl : List (Place × Nat × Hint) := []
abbrev hn : List Hint := [.any]
def val (t : (List Int)) : AV := Sh.mk (.data .str) t
def wr (t : (List Int)) : Heap := []
def callee (k : Nat) : Callee := sigCallee ps hs (fun (d : (Int × Int × Unit)) (e : Unit) => f k d.1 d.2.1) val wr
def E (k : Nat) : Env := ⟨fnTab [], loopTab [(0, l0.sum k)], natsTab [], natTab []⟩
theorem fE (k : Nat) : ∀ f, ∀ c ∈ (E k).fn f, CalleeOK Tryd.prog f c := fnTab_ok trivial
namespace l0
theorem round (k : Nat) (d : (Int × Int × (List Int) × Int × Unit)) (e : Unit) (G : St → Option (Ex × St)) : roundK Tryd.prog (E k) 27 0 (subC (bodyOf Tryd.f65) [1, 1, 1, 0, 1, 0, 0]) (recast cl hn kp) (finBy cl hn kp rc rs ri) G ⟨mkS S d, mkH H e⟩ =
    step (fun x5 x6 x7 => some (.exit 0, KX d e (x5, x6, x7))) (fun x5 x6 x7 => G ⟨mkS S (d.1, x5, x6, x7, ()), mkH H (())⟩) k d.1 d.2.1 d.2.2.1 d.2.2.2.1 := by kernel_rfl
theorem it (k n : Nat) (d : (Int × Int × (List Int) × Int × Unit)) (e : Unit) : loopIt Tryd.prog (E k) 27 0 (subC (bodyOf Tryd.f65) [1, 1, 1, 0, 1, 0, 0]) (recast cl hn kp) (finBy cl hn kp rc rs ri) n ⟨mkS S d, mkH H e⟩ = go (fun x5 x6 x7 => some (.exit 0, KX d e (x5, x6, x7))) k d.1 n d.2.1 d.2.2.1 d.2.2.2.1 :=
  loopIt_eq (D := (Int × Int × (List Int) × Int × Unit) × Unit) (fun p => ⟨mkS S p.1, mkH H p.2⟩) (fun F p => step (fun x5 x6 x7 => some (.exit 0, KX p.1 p.2 (x5, x6, x7))) (fun x5 x6 x7 => F ((p.1.1, x5, x6, x7, ()), (()))) k p.1.1 p.1.2.1 p.1.2.2.1 p.1.2.2.2.1) (fun n p => go (fun x5 x6 x7 => some (.exit 0, KX p.1 p.2 (x5, x6, x7))) k p.1.1 n p.1.2.1 p.1.2.2.1 p.1.2.2.2.1) (fun _ => rfl) (fun _ _ => rfl) (fun G p => round k p.1 p.2 G) n (d, e)
theorem ok (k : Nat) : LoopOK Tryd.prog 27 (subC (bodyOf Tryd.f65) [1, 1, 1, 0, 1, 0, 0]) (sum k) :=
  loop_sigX hm (fE k) (loopsOK_of [] (by kernel_rfl) trivial) S cl hn kp H 0 (fun (d : (Int × Int × (List Int) × Int × Unit)) (e : Unit) => f k d.1 k d.2.1 d.2.2.1 d.2.2.2.1) KX cl hn kp rc rs ri k
    (fun d e => (it k k d e).trans (go_nat (fun v => some (Ex.exit 0, KX d e v)) (fun x5 x6 x7 => some (x5, x6, x7)) k d.1 k d.2.1 d.2.2.1 d.2.2.2.1).symm)
end l0
theorem run (k : Nat) (d : (Int × Int × Unit)) (e : Unit) : runFn Tryd.prog (E k) 27 (bodyOf Tryd.f65) Tryd.f65.results.toList cl hn hi (mkL ps d) (mkH hs e) =
    tree (fun b0 => leafFn hs fi e val wr b0) k d.1 d.2.1 := by kernel_rfl
theorem run_f (k : Nat) (d : (Int × Int × Unit)) (e : Unit) : runFn Tryd.prog (E k) 27 (bodyOf Tryd.f65) Tryd.f65.results.toList cl hn hi (mkL ps d) (mkH hs e) = (f k d.1 d.2.1).bind (leafFn hs fi e val wr) :=
  (run k d e).trans (tree_nat (leafFn hs fi e val wr) (fun b0 => some b0) k d.1 d.2.1).symm
theorem fnIs : FnIs Tryd.prog 65 Tryd.f65 (bodyOf Tryd.f65) 27 := ⟨by kernel_rfl, by kernel_rfl, by kernel_rfl, by kernel_rfl⟩
theorem ok (k : Nat) : CalleeOK Tryd.prog 65 (callee k) :=
  callee_sig (T := (List Int)) fnIs hm (fE k) (loopsOK_of [(0, subC (bodyOf Tryd.f65) [1, 1, 1, 0, 1, 0, 0])] (by kernel_rfl) ⟨of_loop (l0.sum k) rfl (l0.ok k), trivial⟩) ps hs cl hn fi (fun (d : (Int × Int × Unit)) (e : Unit) => f k d.1 d.2.1) val wr rfl (fun _ => rfl) (run_f k)
end trailheadref05_Number
namespace trailheadref05_Name
namespace l0
def step {X : Type} (K : (List Int) → Int → Option X) (G : (List Int) → Int → Option X) (k : Nat) (y800000 : (List Int)) (x3 : (List Int)) (x4 : Int) : Option X :=
  (bif (decide (x4 < (32 : Int))) then (bif (decide (0 ≤ x4)) then (bif (decide (x4 < 32)) then (bif (decide ((Int.toNat x4) < 32)) then (bif (fits ((List.length x3) + (List.length (toStr ([(List.getD y800000 (Int.toNat x4) 0)] : (List Int)))))) then (G (x3 ++ (toStr ([(List.getD y800000 (Int.toNat x4) 0)] : (List Int)))) (addI .i64 x4 1)) else none) else none) else none) else none) else (K x3 x4))
def go {X : Type} (K : (List Int) → Int → Option X) (k : Nat) (y800000 : (List Int)) : Nat → (List Int) → Int → Option X
  | 0, _, _ => none
  | n + 1, x3, x4 => step K (go K k y800000 n) k y800000 x3 x4
def f (k : Nat) (y800000 : (List Int)) (n : Nat) (x3 : (List Int)) (x4 : Int) : Option ((List Int) × Int) := go (fun x3 x4 => some (x3, x4)) k y800000 n x3 x4
theorem step_nat {X Y : Type} (h : X → Option Y) (K : (List Int) → Int → Option X) (G : (List Int) → Int → Option X) (k : Nat) (y800000 : (List Int)) (x3 : (List Int)) (x4 : Int) : Option.bind (step K G k y800000 x3 x4) h = step (fun x3 x4 => Option.bind (K x3 x4) h) (fun x3 x4 => Option.bind (G x3 x4) h) k y800000 x3 x4 := by
  simp only [step, bif_bind, sel_bind', Option.bind_assoc, Option.bind_none, Option.bind_some]
theorem go_nat {X Y : Type} (h : X → Option Y) (K : (List Int) → Int → Option X) (k : Nat) (y800000 : (List Int)) (n : Nat) : ∀ (x3 : (List Int)) (x4 : Int), Option.bind (go K k y800000 n x3 x4) h = go (fun x3 x4 => Option.bind (K x3 x4) h) k y800000 n x3 x4 := by
  induction n with
  | zero => intros; rfl
  | succ n ih => intro x3 x4; show Option.bind (step K (go K k y800000 n) k y800000 x3 x4) h = step (fun x3 x4 => Option.bind (K x3 x4) h) (go (fun x3 x4 => Option.bind (K x3 x4) h) k y800000 n) k y800000 x3 x4; rw [step_nat h]; simp only [ih]
abbrev S : List (Nat × Sh) := [(1, .ptr 800000), (3, .data .str), (4, .data (.int .i64))]
abbrev H : List (Nat × ESh) := [(800000, .cell (.data (.arr .u8 32)))]
abbrev cl : List (Place × Nat × Hint) := []
abbrev hn : List (Nat × Hint) := [(1, .any), (3, .any), (4, .any)]
abbrev kp : List Nat := []
abbrev rc : List (Place × Nat × Hint) := []
abbrev rs : List (Nat × Hint) := []
abbrev ri : List Nat := []
def KX (d : (Unit × (List Int) × Int × Unit)) (e : ((List Int) × Unit)) (v : ((List Int) × Int)) : St := ⟨mkS S ((), v.1, v.2, ()), mkH H (e.1, ())⟩
def sum (k : Nat) : LoopSum := sigLoopX S cl hn kp H 0 (fun (d : (Unit × (List Int) × Int × Unit)) (e : ((List Int) × Unit)) => f k e.1 k d.2.1 d.2.2.1) KX
end l0
def tree {X : Type} (K : (List Int) → Option X) (k : Nat) (a0 : (List Int)) : Option X :=
  (Option.bind (trailheadref05_Name.l0.f k a0 k ([] : (List Int)) (0 : Int)) (fun r1 => (K r1.1)))
def f (k : Nat) (a0 : (List Int)) : Option (List Int) := tree (fun b0 => some b0) k a0
theorem tree_nat {X Y : Type} (h : X → Option Y) (K : (List Int) → Option X) (k : Nat) (a0 : (List Int)) : Option.bind (tree K k a0) h = tree (fun b0 => Option.bind (K b0) h) k a0 := by
  simp only [tree, bif_bind, sel_bind', Option.bind_assoc, Option.bind_none, Option.bind_some]
abbrev ps : List Sh := [.data (.arr .u8 32)]
abbrev hs : List (Nat × ESh) := []
abbrev hi : List Nat := hs.map (·.1)
abbrev fi : List Nat := []
abbrev cl : List (Place × Nat × Hint) := []
abbrev hn : List Hint := [.any]
def val (t : (List Int)) : AV := Sh.mk (.data .str) t
def wr (t : (List Int)) : Heap := []
def callee (k : Nat) : Callee := sigCallee ps hs (fun (d : ((List Int) × Unit)) (e : Unit) => f k d.1) val wr
def E (k : Nat) : Env := ⟨fnTab [], loopTab [(0, l0.sum k)], natsTab [], natTab []⟩
theorem fE (k : Nat) : ∀ f, ∀ c ∈ (E k).fn f, CalleeOK Tryd.prog f c := fnTab_ok trivial
namespace l0
theorem round (k : Nat) (d : (Unit × (List Int) × Int × Unit)) (e : ((List Int) × Unit)) (G : St → Option (Ex × St)) : roundK Tryd.prog (E k) 17 0 (subC (bodyOf Tryd.f66) [1, 1, 0, 1, 0, 0]) (recast cl hn kp) (finBy cl hn kp rc rs ri) G ⟨mkS S d, mkH H e⟩ =
    step (fun x3 x4 => some (.exit 0, KX d e (x3, x4))) (fun x3 x4 => G ⟨mkS S ((), x3, x4, ()), mkH H (e.1, ())⟩) k e.1 d.2.1 d.2.2.1 := by kernel_rfl
theorem it (k n : Nat) (d : (Unit × (List Int) × Int × Unit)) (e : ((List Int) × Unit)) : loopIt Tryd.prog (E k) 17 0 (subC (bodyOf Tryd.f66) [1, 1, 0, 1, 0, 0]) (recast cl hn kp) (finBy cl hn kp rc rs ri) n ⟨mkS S d, mkH H e⟩ = go (fun x3 x4 => some (.exit 0, KX d e (x3, x4))) k e.1 n d.2.1 d.2.2.1 :=
  loopIt_eq (D := (Unit × (List Int) × Int × Unit) × ((List Int) × Unit)) (fun p => ⟨mkS S p.1, mkH H p.2⟩) (fun F p => step (fun x3 x4 => some (.exit 0, KX p.1 p.2 (x3, x4))) (fun x3 x4 => F (((), x3, x4, ()), (p.2.1, ()))) k p.2.1 p.1.2.1 p.1.2.2.1) (fun n p => go (fun x3 x4 => some (.exit 0, KX p.1 p.2 (x3, x4))) k p.2.1 n p.1.2.1 p.1.2.2.1) (fun _ => rfl) (fun _ _ => rfl) (fun G p => round k p.1 p.2 G) n (d, e)
theorem ok (k : Nat) : LoopOK Tryd.prog 17 (subC (bodyOf Tryd.f66) [1, 1, 0, 1, 0, 0]) (sum k) :=
  loop_sigX hm (fE k) (loopsOK_of [] (by kernel_rfl) trivial) S cl hn kp H 0 (fun (d : (Unit × (List Int) × Int × Unit)) (e : ((List Int) × Unit)) => f k e.1 k d.2.1 d.2.2.1) KX cl hn kp rc rs ri k
    (fun d e => (it k k d e).trans (go_nat (fun v => some (Ex.exit 0, KX d e v)) (fun x3 x4 => some (x3, x4)) k e.1 k d.2.1 d.2.2.1).symm)
end l0
theorem run (k : Nat) (d : ((List Int) × Unit)) (e : Unit) : runFn Tryd.prog (E k) 17 (bodyOf Tryd.f66) Tryd.f66.results.toList cl hn hi (mkL ps d) (mkH hs e) =
    tree (fun b0 => leafFn hs fi e val wr b0) k d.1 := by kernel_rfl
theorem run_f (k : Nat) (d : ((List Int) × Unit)) (e : Unit) : runFn Tryd.prog (E k) 17 (bodyOf Tryd.f66) Tryd.f66.results.toList cl hn hi (mkL ps d) (mkH hs e) = (f k d.1).bind (leafFn hs fi e val wr) :=
  (run k d e).trans (tree_nat (leafFn hs fi e val wr) (fun b0 => some b0) k d.1).symm
theorem fnIs : FnIs Tryd.prog 66 Tryd.f66 (bodyOf Tryd.f66) 17 := ⟨by kernel_rfl, by kernel_rfl, by kernel_rfl, by kernel_rfl⟩
theorem ok (k : Nat) : CalleeOK Tryd.prog 66 (callee k) :=
  callee_sig (T := (List Int)) fnIs hm (fE k) (loopsOK_of [(0, subC (bodyOf Tryd.f66) [1, 1, 0, 1, 0, 0])] (by kernel_rfl) ⟨of_loop (l0.sum k) rfl (l0.ok k), trivial⟩) ps hs cl hn fi (fun (d : ((List Int) × Unit)) (e : Unit) => f k d.1) val wr rfl (fun _ => rfl) (run_f k)
end trailheadref05_Name
namespace trailheadref06_Bytes
def tree {X : Type} (K : (List Int) → Option X) (k : Nat) (a0 : T_3d5633) : Option X :=
  (Option.bind (trailheadref05_Number.f k (4 : Int) a0.1) (fun r1 => (Option.bind (trailheadref05_Name.f k a0.2.1) (fun r2 => (bif (fits ((List.length r1) + (List.length r2))) then (Option.bind (trailheadref05_Name.f k a0.2.2.1) (fun r3 => (bif (fits ((List.length (r1 ++ r2)) + (List.length r3))) then (Option.bind (trailheadref05_Number.f k (4 : Int) a0.2.2.2.1) (fun r4 => (bif (fits ((List.length ((r1 ++ r2) ++ r3)) + (List.length r4))) then (Option.bind (trailheadref05_Number.f k (4 : Int) a0.2.2.2.2.1) (fun r5 => (bif (fits ((List.length (((r1 ++ r2) ++ r3) ++ r4)) + (List.length r5))) then (Option.bind (trailheadref05_Number.f k (4 : Int) a0.2.2.2.2.2) (fun r6 => (bif (fits ((List.length ((((r1 ++ r2) ++ r3) ++ r4) ++ r5)) + (List.length r6))) then (K (((((r1 ++ r2) ++ r3) ++ r4) ++ r5) ++ r6)) else none))) else none))) else none))) else none))) else none)))))
def f (k : Nat) (a0 : T_3d5633) : Option (List Int) := tree (fun b0 => some b0) k a0
theorem tree_nat {X Y : Type} (h : X → Option Y) (K : (List Int) → Option X) (k : Nat) (a0 : T_3d5633) : Option.bind (tree K k a0) h = tree (fun b0 => Option.bind (K b0) h) k a0 := by
  simp only [tree, bif_bind, sel_bind', Option.bind_assoc, Option.bind_none, Option.bind_some]
abbrev ps : List Sh := [.data (.pair (.int .i64) (.pair (.arr .u8 32) (.pair (.arr .u8 32) (.pair (.int .i64) (.pair (.int .i64) (.int .i64))))))]
abbrev hs : List (Nat × ESh) := []
abbrev hi : List Nat := hs.map (·.1)
abbrev fi : List Nat := []
abbrev cl : List (Place × Nat × Hint) := []
abbrev hn : List Hint := [.any]
def val (t : (List Int)) : AV := Sh.mk (.data .str) t
def wr (t : (List Int)) : Heap := []
def callee (k : Nat) : Callee := sigCallee ps hs (fun (d : (T_3d5633 × Unit)) (e : Unit) => f k d.1) val wr
def E (k : Nat) : Env := ⟨fnTab [(65, [trailheadref05_Number.callee k]), (66, [trailheadref05_Name.callee k])], loopTab [], natsTab [], natTab []⟩
theorem fE (k : Nat) : ∀ f, ∀ c ∈ (E k).fn f, CalleeOK Tryd.prog f c := fnTab_ok ⟨⟨trailheadref05_Number.ok k, trivial⟩, ⟨trailheadref05_Name.ok k, trivial⟩, trivial⟩
theorem run (k : Nat) (d : (T_3d5633 × Unit)) (e : Unit) : runFn Tryd.prog (E k) 28 (bodyOf Tryd.f48) Tryd.f48.results.toList cl hn hi (mkL ps d) (mkH hs e) =
    tree (fun b0 => leafFn hs fi e val wr b0) k d.1 := by kernel_rfl
theorem run_f (k : Nat) (d : (T_3d5633 × Unit)) (e : Unit) : runFn Tryd.prog (E k) 28 (bodyOf Tryd.f48) Tryd.f48.results.toList cl hn hi (mkL ps d) (mkH hs e) = (f k d.1).bind (leafFn hs fi e val wr) :=
  (run k d e).trans (tree_nat (leafFn hs fi e val wr) (fun b0 => some b0) k d.1).symm
theorem fnIs : FnIs Tryd.prog 48 Tryd.f48 (bodyOf Tryd.f48) 28 := ⟨by kernel_rfl, by kernel_rfl, by kernel_rfl, by kernel_rfl⟩
theorem ok (k : Nat) : CalleeOK Tryd.prog 48 (callee k) :=
  callee_sig (T := (List Int)) fnIs hm (fE k) (loopsOK_of [] (by kernel_rfl) trivial) ps hs cl hn fi (fun (d : (T_3d5633 × Unit)) (e : Unit) => f k d.1) val wr rfl (fun _ => rfl) (run_f k)
end trailheadref06_Bytes
namespace trailheadref06_Id
def tree {X : Type} (K : (List Int) → Option X) (k : Nat) (a0 : T_3d5633) : Option X :=
  (Option.bind (trailheadref06_Good.f k a0) (fun r1 => (bif (!r1) then (K ([0, 0, 0, 0, 0, 0, 0, 0, 0, 0, 0, 0, 0, 0, 0, 0, 0, 0, 0, 0, 0, 0, 0, 0, 0, 0, 0, 0, 0, 0, 0, 0] : (List Int))) else (Option.bind (trailheadref06_Bytes.f k a0) (fun r2 => (Option.bind (trailheadref01_Double.f k r2) (fun r3 => (K r3))))))))
def f (k : Nat) (a0 : T_3d5633) : Option (List Int) := tree (fun b0 => some b0) k a0
theorem tree_nat {X Y : Type} (h : X → Option Y) (K : (List Int) → Option X) (k : Nat) (a0 : T_3d5633) : Option.bind (tree K k a0) h = tree (fun b0 => Option.bind (K b0) h) k a0 := by
  simp only [tree, bif_bind, sel_bind', Option.bind_assoc, Option.bind_none, Option.bind_some]
abbrev ps : List Sh := [.data (.pair (.int .i64) (.pair (.arr .u8 32) (.pair (.arr .u8 32) (.pair (.int .i64) (.pair (.int .i64) (.int .i64))))))]
abbrev hs : List (Nat × ESh) := []
abbrev hi : List Nat := hs.map (·.1)
abbrev fi : List Nat := []
abbrev cl : List (Place × Nat × Hint) := []
abbrev hn : List Hint := [.any]
def val (t : (List Int)) : AV := Sh.mk (.data (.arr .u8 32)) t
def wr (t : (List Int)) : Heap := []
def callee (k : Nat) : Callee := sigCallee ps hs (fun (d : (T_3d5633 × Unit)) (e : Unit) => f k d.1) val wr
def E (k : Nat) : Env := ⟨fnTab [(30, [trailheadref06_Good.callee k]), (48, [trailheadref06_Bytes.callee k]), (22, [trailheadref01_Double.callee k])], loopTab [], natsTab [], natTab []⟩
theorem fE (k : Nat) : ∀ f, ∀ c ∈ (E k).fn f, CalleeOK Tryd.prog f c := fnTab_ok ⟨⟨trailheadref06_Good.ok k, trivial⟩, ⟨trailheadref06_Bytes.ok k, trivial⟩, ⟨trailheadref01_Double.ok k, trivial⟩, trivial⟩
theorem run (k : Nat) (d : (T_3d5633 × Unit)) (e : Unit) : runFn Tryd.prog (E k) 10 (bodyOf Tryd.f33) Tryd.f33.results.toList cl hn hi (mkL ps d) (mkH hs e) =
    tree (fun b0 => leafFn hs fi e val wr b0) k d.1 := by kernel_rfl
theorem run_f (k : Nat) (d : (T_3d5633 × Unit)) (e : Unit) : runFn Tryd.prog (E k) 10 (bodyOf Tryd.f33) Tryd.f33.results.toList cl hn hi (mkL ps d) (mkH hs e) = (f k d.1).bind (leafFn hs fi e val wr) :=
  (run k d e).trans (tree_nat (leafFn hs fi e val wr) (fun b0 => some b0) k d.1).symm
theorem fnIs : FnIs Tryd.prog 33 Tryd.f33 (bodyOf Tryd.f33) 10 := ⟨by kernel_rfl, by kernel_rfl, by kernel_rfl, by kernel_rfl⟩
theorem ok (k : Nat) : CalleeOK Tryd.prog 33 (callee k) :=
  callee_sig (T := (List Int)) fnIs hm (fE k) (loopsOK_of [] (by kernel_rfl) trivial) ps hs cl hn fi (fun (d : (T_3d5633 × Unit)) (e : Unit) => f k d.1) val wr rfl (fun _ => rfl) (run_f k)
end trailheadref06_Id
namespace trailheadlaw06_alive
def tree {X : Type} (K : Bool → Option X) (k : Nat) (m0 : (List Int)) (m1 : (List Int)) : Option X :=
  (Option.bind (header_Bytes.f k ((1, ([0, 0, 0, 0, 0, 0, 0, 0, 0, 0, 0, 0, 0, 0, 0, 0, 0, 0, 0, 0, 0, 0, 0, 0, 0, 0, 0, 0, 0, 0, 0, 0], ([0, 0, 0, 0, 0, 0, 0, 0, 0, 0, 0, 0, 0, 0, 0, 0, 0, 0, 0, 0, 0, 0, 0, 0, 0, 0, 0, 0, 0, 0, 0, 0], (0, (0, 0))))) : T_3d5633)) (fun r1 => (bif (r1.2 == (0 : Int)) then (bif (((List.length r1.1) : Int) == (80 : Int)) then (bif (decide (0 < ((List.length r1.1) : Int))) then (bif ((List.getD r1.1 0 0) == (1 : Int)) then (Option.bind (header_Id.f k ((0, ([0, 0, 0, 0, 0, 0, 0, 0, 0, 0, 0, 0, 0, 0, 0, 0, 0, 0, 0, 0, 0, 0, 0, 0, 0, 0, 0, 0, 0, 0, 0, 0], ([0, 0, 0, 0, 0, 0, 0, 0, 0, 0, 0, 0, 0, 0, 0, 0, 0, 0, 0, 0, 0, 0, 0, 0, 0, 0, 0, 0, 0, 0, 0, 0], (0, (0, 0))))) : T_3d5633) m0 m1) (fun r2 => (Option.bind (trailheadref06_Id.f k ((0, ([0, 0, 0, 0, 0, 0, 0, 0, 0, 0, 0, 0, 0, 0, 0, 0, 0, 0, 0, 0, 0, 0, 0, 0, 0, 0, 0, 0, 0, 0, 0, 0], ([0, 0, 0, 0, 0, 0, 0, 0, 0, 0, 0, 0, 0, 0, 0, 0, 0, 0, 0, 0, 0, 0, 0, 0, 0, 0, 0, 0, 0, 0, 0, 0], (0, (0, 0))))) : T_3d5633)) (fun r3 => (K (decide (r2 = r3))))))) else (K false)) else none) else (K false)) else (K false))))
def f (k : Nat) (m0 : (List Int)) (m1 : (List Int)) : Option Bool := tree (fun b0 => some b0) k m0 m1
theorem tree_nat {X Y : Type} (h : X → Option Y) (K : Bool → Option X) (k : Nat) (m0 : (List Int)) (m1 : (List Int)) : Option.bind (tree K k m0 m1) h = tree (fun b0 => Option.bind (K b0) h) k m0 m1 := by
  simp only [tree, bif_bind, sel_bind', Option.bind_assoc, Option.bind_none, Option.bind_some]
abbrev ps : List Sh := []
abbrev hs : List (Nat × ESh) := [(0, .glob 0 (.arr .u32 8)), (1, .glob 1 (.arr .u32 64))]
abbrev hi : List Nat := hs.map (·.1)
abbrev fi : List Nat := [0, 1]
abbrev cl : List (Place × Nat × Hint) := []
abbrev hn : List Hint := [.any]
def val (t : Bool) : AV := Sh.mk (.data .bool) t
def wr (t : Bool) : Heap := []
def callee (k : Nat) : Callee := sigCallee ps hs (fun (d : Unit) (e : ((List Int) × (List Int) × Unit)) => f k e.1 e.2.1) val wr
def E (k : Nat) : Env := ⟨fnTab [(31, [header_Bytes.callee k]), (32, [header_Id.callee k]), (33, [trailheadref06_Id.callee k])], loopTab [], natsTab [(32, [0, 1])], natTab [(0, 0), (1, 1)]⟩
theorem fE (k : Nat) : ∀ f, ∀ c ∈ (E k).fn f, CalleeOK Tryd.prog f c := fnTab_ok ⟨⟨header_Bytes.ok k, trivial⟩, ⟨header_Id.ok k, trivial⟩, ⟨trailheadref06_Id.ok k, trivial⟩, trivial⟩
theorem run (k : Nat) (d : Unit) (e : ((List Int) × (List Int) × Unit)) : runFn Tryd.prog (E k) 27 (bodyOf Tryd.f29) Tryd.f29.results.toList cl hn hi (mkL ps d) (mkH hs e) =
    tree (fun b0 => leafFn hs fi e val wr b0) k e.1 e.2.1 := by kernel_rfl
theorem run_f (k : Nat) (d : Unit) (e : ((List Int) × (List Int) × Unit)) : runFn Tryd.prog (E k) 27 (bodyOf Tryd.f29) Tryd.f29.results.toList cl hn hi (mkL ps d) (mkH hs e) = (f k e.1 e.2.1).bind (leafFn hs fi e val wr) :=
  (run k d e).trans (tree_nat (leafFn hs fi e val wr) (fun b0 => some b0) k e.1 e.2.1).symm
theorem fnIs : FnIs Tryd.prog 29 Tryd.f29 (bodyOf Tryd.f29) 27 := ⟨by kernel_rfl, by kernel_rfl, by kernel_rfl, by kernel_rfl⟩
theorem ok (k : Nat) : CalleeOK Tryd.prog 29 (callee k) :=
  callee_sig (T := Bool) fnIs hm (fE k) (loopsOK_of [] (by kernel_rfl) trivial) ps hs cl hn fi (fun (d : Unit) (e : ((List Int) × (List Int) × Unit)) => f k e.1 e.2.1) val wr rfl (fun _ => rfl) (run_f k)
end trailheadlaw06_alive
namespace trailheadlaw06_HeaderUnlike
def tree {X : Type} (K : Bool → Option X) (k : Nat) (a0 : T_3d5633) (a1 : T_3d5633) (m0 : (List Int)) (m1 : (List Int)) : Option X :=
  (Option.bind (trailheadlaw06_alive.f k m0 m1) (fun r1 => (bif (!r1) then (K false) else (Option.bind (trailheadref06_Good.f k a0) (fun r2 => (bif (!r2) then (K true) else (Option.bind (trailheadref06_Good.f k a1) (fun r3 => (bif (!r3) then (K true) else (Option.bind (header_Bytes.f k a0) (fun r4 => (Option.bind (header_Bytes.f k a1) (fun r5 => (bif (r4.2 == (0 : Int)) then (bif (r5.2 == (0 : Int)) then (bif ((decide (r4.1 = r5.1)) == (eqDen (.pair (.int .i64) (.pair (.arr .u8 32) (.pair (.arr .u8 32) (.pair (.int .i64) (.pair (.int .i64) (.int .i64)))))) a0 a1)) then (bif (!(eqDen (.pair (.int .i64) (.pair (.arr .u8 32) (.pair (.arr .u8 32) (.pair (.int .i64) (.pair (.int .i64) (.int .i64)))))) a0 a1)) then (K true) else (Option.bind (header_Id.f k a0 m0 m1) (fun r6 => (Option.bind (header_Id.f k a1 m0 m1) (fun r7 => (K (decide (r6 = r7)))))))) else (K false)) else (K false)) else (K false)))))))))))))))
def f (k : Nat) (a0 : T_3d5633) (a1 : T_3d5633) (m0 : (List Int)) (m1 : (List Int)) : Option Bool := tree (fun b0 => some b0) k a0 a1 m0 m1
theorem tree_nat {X Y : Type} (h : X → Option Y) (K : Bool → Option X) (k : Nat) (a0 : T_3d5633) (a1 : T_3d5633) (m0 : (List Int)) (m1 : (List Int)) : Option.bind (tree K k a0 a1 m0 m1) h = tree (fun b0 => Option.bind (K b0) h) k a0 a1 m0 m1 := by
  simp only [tree, bif_bind, sel_bind', Option.bind_assoc, Option.bind_none, Option.bind_some]
abbrev ps : List Sh := [.data (.pair (.int .i64) (.pair (.arr .u8 32) (.pair (.arr .u8 32) (.pair (.int .i64) (.pair (.int .i64) (.int .i64)))))), .data (.pair (.int .i64) (.pair (.arr .u8 32) (.pair (.arr .u8 32) (.pair (.int .i64) (.pair (.int .i64) (.int .i64))))))]
abbrev hs : List (Nat × ESh) := [(0, .glob 0 (.arr .u32 8)), (1, .glob 1 (.arr .u32 64))]
abbrev hi : List Nat := hs.map (·.1)
abbrev fi : List Nat := [0, 1]
abbrev cl : List (Place × Nat × Hint) := []
abbrev hn : List Hint := [.any]
def val (t : Bool) : AV := Sh.mk (.data .bool) t
def wr (t : Bool) : Heap := []
def callee (k : Nat) : Callee := sigCallee ps hs (fun (d : (T_3d5633 × T_3d5633 × Unit)) (e : ((List Int) × (List Int) × Unit)) => f k d.1 d.2.1 e.1 e.2.1) val wr
def E (k : Nat) : Env := ⟨fnTab [(29, [trailheadlaw06_alive.callee k]), (30, [trailheadref06_Good.callee k]), (31, [header_Bytes.callee k]), (32, [header_Id.callee k])], loopTab [], natsTab [(29, [0, 1]), (32, [0, 1])], natTab [(0, 0), (1, 1)]⟩
theorem fE (k : Nat) : ∀ f, ∀ c ∈ (E k).fn f, CalleeOK Tryd.prog f c := fnTab_ok ⟨⟨trailheadlaw06_alive.ok k, trivial⟩, ⟨trailheadref06_Good.ok k, trivial⟩, ⟨header_Bytes.ok k, trivial⟩, ⟨header_Id.ok k, trivial⟩, trivial⟩
theorem run (k : Nat) (d : (T_3d5633 × T_3d5633 × Unit)) (e : ((List Int) × (List Int) × Unit)) : runFn Tryd.prog (E k) 56 (bodyOf Tryd.f8) Tryd.f8.results.toList cl hn hi (mkL ps d) (mkH hs e) =
    tree (fun b0 => leafFn hs fi e val wr b0) k d.1 d.2.1 e.1 e.2.1 := by kernel_rfl
theorem run_f (k : Nat) (d : (T_3d5633 × T_3d5633 × Unit)) (e : ((List Int) × (List Int) × Unit)) : runFn Tryd.prog (E k) 56 (bodyOf Tryd.f8) Tryd.f8.results.toList cl hn hi (mkL ps d) (mkH hs e) = (f k d.1 d.2.1 e.1 e.2.1).bind (leafFn hs fi e val wr) :=
  (run k d e).trans (tree_nat (leafFn hs fi e val wr) (fun b0 => some b0) k d.1 d.2.1 e.1 e.2.1).symm
theorem fnIs : FnIs Tryd.prog 8 Tryd.f8 (bodyOf Tryd.f8) 56 := ⟨by kernel_rfl, by kernel_rfl, by kernel_rfl, by kernel_rfl⟩
theorem ok (k : Nat) : CalleeOK Tryd.prog 8 (callee k) :=
  callee_sig (T := Bool) fnIs hm (fE k) (loopsOK_of [] (by kernel_rfl) trivial) ps hs cl hn fi (fun (d : (T_3d5633 × T_3d5633 × Unit)) (e : ((List Int) × (List Int) × Unit)) => f k d.1 d.2.1 e.1 e.2.1) val wr rfl (fun _ => rfl) (run_f k)
end trailheadlaw06_HeaderUnlike
namespace header_Follows
namespace l0
def step {X : Type} (K : Int → Option X) (Q : Bool → Option X) (G : Int → Option X) (k : Nat) (x6 : Int) (y0 : (List T_3d5633)) (y1 : (List Int)) (y2 : (List Int)) (x7 : Int) : Option X :=
  (bif (decide (x7 < x6)) then (bif (decide (0 ≤ x7)) then (bif (decide (x7 < ((List.length y0) : Int))) then (bif (decide ((Int.toNat x7) < (List.length y0))) then (bif (decide (x7 > (0 : Int))) then (bif (decide (0 ≤ (subI .i64 x7 1))) then (bif (decide ((subI .i64 x7 1) < ((List.length y0) : Int))) then (bif (decide ((Int.toNat (subI .i64 x7 1)) < (List.length y0))) then (Option.bind (header_Id.f k ((((List.getD y0 (Int.toNat (subI .i64 x7 1)) dfl_31f8ee)).1, ((((List.getD y0 (Int.toNat (subI .i64 x7 1)) dfl_31f8ee)).2).1, (((((List.getD y0 (Int.toNat (subI .i64 x7 1)) dfl_31f8ee)).2).2).1, ((((((List.getD y0 (Int.toNat (subI .i64 x7 1)) dfl_31f8ee)).2).2).2).1, ((((((List.getD y0 (Int.toNat (subI .i64 x7 1)) dfl_31f8ee)).2).2).2).2))))) : T_3d5633) y1 y2) (fun r1 => (bif (!(decide ((((List.getD y0 (Int.toNat x7) dfl_31f8ee)).2).1 = r1))) then (Q false) else (G (addI .i64 x7 1))))) else none) else none) else none) else (G (addI .i64 x7 1))) else none) else none) else none) else (K x7))
def go {X : Type} (K : Int → Option X) (Q : Bool → Option X) (k : Nat) (x6 : Int) (y0 : (List T_3d5633)) (y1 : (List Int)) (y2 : (List Int)) : Nat → Int → Option X
  | 0, _ => none
  | n + 1, x7 => step K Q (go K Q k x6 y0 y1 y2 n) k x6 y0 y1 y2 x7
def f (k : Nat) (x6 : Int) (y0 : (List T_3d5633)) (y1 : (List Int)) (y2 : (List Int)) (n : Nat) (x7 : Int) : Option (Int ⊕ Bool) := go (fun x7 => some (.inl x7)) (fun q0 => some (.inr q0)) k x6 y0 y1 y2 n x7
theorem step_nat {X Y : Type} (h : X → Option Y) (K : Int → Option X) (Q : Bool → Option X) (G : Int → Option X) (k : Nat) (x6 : Int) (y0 : (List T_3d5633)) (y1 : (List Int)) (y2 : (List Int)) (x7 : Int) : Option.bind (step K Q G k x6 y0 y1 y2 x7) h = step (fun x7 => Option.bind (K x7) h) (fun q0 => Option.bind (Q q0) h) (fun x7 => Option.bind (G x7) h) k x6 y0 y1 y2 x7 := by
  simp only [step, bif_bind, sel_bind', Option.bind_assoc, Option.bind_none, Option.bind_some]
theorem go_nat {X Y : Type} (h : X → Option Y) (K : Int → Option X) (Q : Bool → Option X) (k : Nat) (x6 : Int) (y0 : (List T_3d5633)) (y1 : (List Int)) (y2 : (List Int)) (n : Nat) : ∀ (x7 : Int), Option.bind (go K Q k x6 y0 y1 y2 n x7) h = go (fun x7 => Option.bind (K x7) h) (fun q0 => Option.bind (Q q0) h) k x6 y0 y1 y2 n x7 := by
  induction n with
  | zero => intros; rfl
  | succ n ih => intro x7; show Option.bind (step K Q (go K Q k x6 y0 y1 y2 n) k x6 y0 y1 y2 x7) h = step (fun x7 => Option.bind (K x7) h) (fun q0 => Option.bind (Q q0) h) (go (fun x7 => Option.bind (K x7) h) (fun q0 => Option.bind (Q q0) h) k x6 y0 y1 y2 n) k x6 y0 y1 y2 x7; rw [step_nat h]; simp only [ih]
abbrev S : List (Nat × Sh) := [(0, .vec 0), (5, .vec 0), (6, .data (.int .i64)), (7, .data (.int .i64))]
abbrev H : List (Nat × ESh) := [(0, .rows 0 42 (.pair (.int .i64) (.pair (.arr .u8 32) (.pair (.arr .u8 32) (.pair (.int .i64) (.pair (.int .i64) (.int .i64))))))), (1, .glob 0 (.arr .u32 8)), (2, .glob 1 (.arr .u32 64))]
abbrev cl : List (Place × Nat × Hint) := []
abbrev hn : List (Nat × Hint) := [(0, .any), (5, .any), (6, .any), (7, .any)]
abbrev kp : List Nat := [0, 1, 2]
abbrev rc : List (Place × Nat × Hint) := []
abbrev rs : List (Nat × Hint) := [(2, .any)]
abbrev ri : List Nat := [0, 1, 2]
def KX (d : (Unit × Unit × Int × Int × Unit)) (e : ((List T_3d5633) × (List Int) × (List Int) × Unit)) (v : Int) : St := ⟨mkS S ((), (), d.2.2.1, v, ()), mkH H (e.1, e.2.1, e.2.2.1, ())⟩
abbrev RS : List (Nat × Sh) := [(2, .data .bool)]
abbrev RH : List (Nat × ESh) := [(0, .rows 0 42 (.pair (.int .i64) (.pair (.arr .u8 32) (.pair (.arr .u8 32) (.pair (.int .i64) (.pair (.int .i64) (.int .i64))))))), (1, .glob 0 (.arr .u32 8)), (2, .glob 1 (.arr .u32 64))]
def RX (d : (Unit × Unit × Int × Int × Unit)) (e : ((List T_3d5633) × (List Int) × (List Int) × Unit)) (v : Bool) : St := ⟨mkS RS (v, ()), mkH RH (e.1, e.2.1, e.2.2.1, ())⟩
def sum (k : Nat) : LoopSum := sigLoop S cl hn kp H 0 (fun (d : (Unit × Unit × Int × Int × Unit)) (e : ((List T_3d5633) × (List Int) × (List Int) × Unit)) => f k d.2.2.1 e.1 e.2.1 e.2.2.1 k d.2.2.2.1) KX RX
end l0
def tree {X : Type} (K : Bool → Option X) (k : Nat) (m0 : (List T_3d5633)) (m1 : (List Int)) (m2 : (List Int)) : Option X :=
  (Option.bind (header_Follows.l0.f k ((List.length m0) : Int) m0 m1 m2 k (0 : Int)) (fun r2 => sel r2 (fun v3 => (K true)) (fun q4 => (K q4))))
def f (k : Nat) (m0 : (List T_3d5633)) (m1 : (List Int)) (m2 : (List Int)) : Option Bool := tree (fun b0 => some b0) k m0 m1 m2
theorem tree_nat {X Y : Type} (h : X → Option Y) (K : Bool → Option X) (k : Nat) (m0 : (List T_3d5633)) (m1 : (List Int)) (m2 : (List Int)) : Option.bind (tree K k m0 m1 m2) h = tree (fun b0 => Option.bind (K b0) h) k m0 m1 m2 := by
  simp only [tree, bif_bind, sel_bind', Option.bind_assoc, Option.bind_none, Option.bind_some]
abbrev ps : List Sh := [.vec 0]
abbrev hs : List (Nat × ESh) := [(0, .rows 0 42 (.pair (.int .i64) (.pair (.arr .u8 32) (.pair (.arr .u8 32) (.pair (.int .i64) (.pair (.int .i64) (.int .i64))))))), (1, .glob 0 (.arr .u32 8)), (2, .glob 1 (.arr .u32 64))]
abbrev hi : List Nat := hs.map (·.1)
abbrev fi : List Nat := [0, 1, 2]
abbrev cl : List (Place × Nat × Hint) := []
abbrev hn : List Hint := [.any]
def val (t : Bool) : AV := Sh.mk (.data .bool) t
def wr (t : Bool) : Heap := []
def callee (k : Nat) : Callee := sigCallee ps hs (fun (d : (Unit × Unit)) (e : ((List T_3d5633) × (List Int) × (List Int) × Unit)) => f k e.1 e.2.1 e.2.2.1) val wr
def E (k : Nat) : Env := ⟨fnTab [(32, [header_Id.callee k])], loopTab [(0, l0.sum k)], natsTab [(32, [1, 2])], natTab [(0, 1), (1, 2)]⟩
theorem fE (k : Nat) : ∀ f, ∀ c ∈ (E k).fn f, CalleeOK Tryd.prog f c := fnTab_ok ⟨⟨header_Id.ok k, trivial⟩, trivial⟩
namespace l0
theorem round (k : Nat) (d : (Unit × Unit × Int × Int × Unit)) (e : ((List T_3d5633) × (List Int) × (List Int) × Unit)) (G : St → Option (Ex × St)) : roundK Tryd.prog (E k) 26 0 (subC (bodyOf Tryd.f34) [1, 0, 1, 0, 0]) (recast cl hn kp) (finBy cl hn kp rc rs ri) G ⟨mkS S d, mkH H e⟩ =
    step (fun x7 => some (.exit 0, KX d e x7)) (fun q0 => some (.ret, RX d e q0)) (fun x7 => G ⟨mkS S ((), (), d.2.2.1, x7, ()), mkH H (e.1, e.2.1, e.2.2.1, ())⟩) k d.2.2.1 e.1 e.2.1 e.2.2.1 d.2.2.2.1 := by kernel_rfl
theorem it (k n : Nat) (d : (Unit × Unit × Int × Int × Unit)) (e : ((List T_3d5633) × (List Int) × (List Int) × Unit)) : loopIt Tryd.prog (E k) 26 0 (subC (bodyOf Tryd.f34) [1, 0, 1, 0, 0]) (recast cl hn kp) (finBy cl hn kp rc rs ri) n ⟨mkS S d, mkH H e⟩ = go (fun x7 => some (.exit 0, KX d e x7)) (fun q0 => some (.ret, RX d e q0)) k d.2.2.1 e.1 e.2.1 e.2.2.1 n d.2.2.2.1 :=
  loopIt_eq (D := (Unit × Unit × Int × Int × Unit) × ((List T_3d5633) × (List Int) × (List Int) × Unit)) (fun p => ⟨mkS S p.1, mkH H p.2⟩) (fun F p => step (fun x7 => some (.exit 0, KX p.1 p.2 x7)) (fun q0 => some (.ret, RX p.1 p.2 q0)) (fun x7 => F (((), (), p.1.2.2.1, x7, ()), (p.2.1, p.2.2.1, p.2.2.2.1, ()))) k p.1.2.2.1 p.2.1 p.2.2.1 p.2.2.2.1 p.1.2.2.2.1) (fun n p => go (fun x7 => some (.exit 0, KX p.1 p.2 x7)) (fun q0 => some (.ret, RX p.1 p.2 q0)) k p.1.2.2.1 p.2.1 p.2.2.1 p.2.2.2.1 n p.1.2.2.2.1) (fun _ => rfl) (fun _ _ => rfl) (fun G p => round k p.1 p.2 G) n (d, e)
theorem ok (k : Nat) : LoopOK Tryd.prog 26 (subC (bodyOf Tryd.f34) [1, 0, 1, 0, 0]) (sum k) :=
  loop_sig hm (fE k) (loopsOK_of [] (by kernel_rfl) trivial) S cl hn kp H 0 (fun (d : (Unit × Unit × Int × Int × Unit)) (e : ((List T_3d5633) × (List Int) × (List Int) × Unit)) => f k d.2.2.1 e.1 e.2.1 e.2.2.1 k d.2.2.2.1) KX RX cl hn kp rc rs ri k
    (fun d e => (it k k d e).trans (go_nat (exitOf 0 (KX d e) (RX d e)) (fun x7 => some (.inl x7)) (fun q0 => some (.inr q0)) k d.2.2.1 e.1 e.2.1 e.2.2.1 k d.2.2.2.1).symm)
end l0
theorem run (k : Nat) (d : (Unit × Unit)) (e : ((List T_3d5633) × (List Int) × (List Int) × Unit)) : runFn Tryd.prog (E k) 26 (bodyOf Tryd.f34) Tryd.f34.results.toList cl hn hi (mkL ps d) (mkH hs e) =
    tree (fun b0 => leafFn hs fi e val wr b0) k e.1 e.2.1 e.2.2.1 := by kernel_rfl
theorem run_f (k : Nat) (d : (Unit × Unit)) (e : ((List T_3d5633) × (List Int) × (List Int) × Unit)) : runFn Tryd.prog (E k) 26 (bodyOf Tryd.f34) Tryd.f34.results.toList cl hn hi (mkL ps d) (mkH hs e) = (f k e.1 e.2.1 e.2.2.1).bind (leafFn hs fi e val wr) :=
  (run k d e).trans (tree_nat (leafFn hs fi e val wr) (fun b0 => some b0) k e.1 e.2.1 e.2.2.1).symm
theorem fnIs : FnIs Tryd.prog 34 Tryd.f34 (bodyOf Tryd.f34) 26 := ⟨by kernel_rfl, by kernel_rfl, by kernel_rfl, by kernel_rfl⟩
theorem ok (k : Nat) : CalleeOK Tryd.prog 34 (callee k) :=
  callee_sig (T := Bool) fnIs hm (fE k) (loopsOK_of [(0, subC (bodyOf Tryd.f34) [1, 0, 1, 0, 0])] (by kernel_rfl) ⟨of_loop (l0.sum k) rfl (l0.ok k), trivial⟩) ps hs cl hn fi (fun (d : (Unit × Unit)) (e : ((List T_3d5633) × (List Int) × (List Int) × Unit)) => f k e.1 e.2.1 e.2.2.1) val wr rfl (fun _ => rfl) (run_f k)
end header_Follows
namespace header_Follows_v1
namespace l0
def step {X : Type} (K : Int → Option X) (Q : Bool → Option X) (G : Int → Option X) (k : Nat) (x6 : Int) (y0 : (List T_3d5633)) (y1 : (List Int)) (y2 : (List Int)) (x7 : Int) : Option X :=
  (bif (decide (x7 < x6)) then (bif (decide (0 ≤ x7)) then (bif (decide (x7 < ((List.length y0) : Int))) then (bif (decide ((Int.toNat x7) < (List.length y0))) then (bif (decide (x7 > (0 : Int))) then (bif (decide (0 ≤ (subI .i64 x7 1))) then (bif (decide ((subI .i64 x7 1) < ((List.length y0) : Int))) then (bif (decide ((Int.toNat (subI .i64 x7 1)) < (List.length y0))) then (Option.bind (header_Id.f k ((((List.getD y0 (Int.toNat (subI .i64 x7 1)) dfl_31f8ee)).1, ((((List.getD y0 (Int.toNat (subI .i64 x7 1)) dfl_31f8ee)).2).1, (((((List.getD y0 (Int.toNat (subI .i64 x7 1)) dfl_31f8ee)).2).2).1, ((((((List.getD y0 (Int.toNat (subI .i64 x7 1)) dfl_31f8ee)).2).2).2).1, ((((((List.getD y0 (Int.toNat (subI .i64 x7 1)) dfl_31f8ee)).2).2).2).2))))) : T_3d5633) y1 y2) (fun r1 => (bif (!(decide ((((List.getD y0 (Int.toNat x7) dfl_31f8ee)).2).1 = r1))) then (Q false) else (G (addI .i64 x7 1))))) else none) else none) else none) else (G (addI .i64 x7 1))) else none) else none) else none) else (K x7))
def go {X : Type} (K : Int → Option X) (Q : Bool → Option X) (k : Nat) (x6 : Int) (y0 : (List T_3d5633)) (y1 : (List Int)) (y2 : (List Int)) : Nat → Int → Option X
  | 0, _ => none
  | n + 1, x7 => step K Q (go K Q k x6 y0 y1 y2 n) k x6 y0 y1 y2 x7
def f (k : Nat) (x6 : Int) (y0 : (List T_3d5633)) (y1 : (List Int)) (y2 : (List Int)) (n : Nat) (x7 : Int) : Option (Int ⊕ Bool) := go (fun x7 => some (.inl x7)) (fun q0 => some (.inr q0)) k x6 y0 y1 y2 n x7
theorem step_nat {X Y : Type} (h : X → Option Y) (K : Int → Option X) (Q : Bool → Option X) (G : Int → Option X) (k : Nat) (x6 : Int) (y0 : (List T_3d5633)) (y1 : (List Int)) (y2 : (List Int)) (x7 : Int) : Option.bind (step K Q G k x6 y0 y1 y2 x7) h = step (fun x7 => Option.bind (K x7) h) (fun q0 => Option.bind (Q q0) h) (fun x7 => Option.bind (G x7) h) k x6 y0 y1 y2 x7 := by
  simp only [step, bif_bind, sel_bind', Option.bind_assoc, Option.bind_none, Option.bind_some]
theorem go_nat {X Y : Type} (h : X → Option Y) (K : Int → Option X) (Q : Bool → Option X) (k : Nat) (x6 : Int) (y0 : (List T_3d5633)) (y1 : (List Int)) (y2 : (List Int)) (n : Nat) : ∀ (x7 : Int), Option.bind (go K Q k x6 y0 y1 y2 n x7) h = go (fun x7 => Option.bind (K x7) h) (fun q0 => Option.bind (Q q0) h) k x6 y0 y1 y2 n x7 := by
  induction n with
  | zero => intros; rfl
  | succ n ih => intro x7; show Option.bind (step K Q (go K Q k x6 y0 y1 y2 n) k x6 y0 y1 y2 x7) h = step (fun x7 => Option.bind (K x7) h) (fun q0 => Option.bind (Q q0) h) (go (fun x7 => Option.bind (K x7) h) (fun q0 => Option.bind (Q q0) h) k x6 y0 y1 y2 n) k x6 y0 y1 y2 x7; rw [step_nat h]; simp only [ih]
abbrev S : List (Nat × Sh) := [(0, .vec 0), (5, .vec 0), (6, .data (.int .i64)), (7, .data (.int .i64))]
abbrev H : List (Nat × ESh) := [(0, .rows 2 42 (.pair (.int .i64) (.pair (.arr .u8 32) (.pair (.arr .u8 32) (.pair (.int .i64) (.pair (.int .i64) (.int .i64))))))), (1, .glob 0 (.arr .u32 8)), (2, .glob 1 (.arr .u32 64))]
abbrev cl : List (Place × Nat × Hint) := []
abbrev hn : List (Nat × Hint) := [(0, .any), (5, .any), (6, .any), (7, .any)]
abbrev kp : List Nat := [0, 1, 2]
abbrev rc : List (Place × Nat × Hint) := []
abbrev rs : List (Nat × Hint) := [(2, .any)]
abbrev ri : List Nat := [0, 1, 2]
def KX (d : (Unit × Unit × Int × Int × Unit)) (e : ((List T_3d5633) × (List Int) × (List Int) × Unit)) (v : Int) : St := ⟨mkS S ((), (), d.2.2.1, v, ()), mkH H (e.1, e.2.1, e.2.2.1, ())⟩
abbrev RS : List (Nat × Sh) := [(2, .data .bool)]
abbrev RH : List (Nat × ESh) := [(0, .rows 2 42 (.pair (.int .i64) (.pair (.arr .u8 32) (.pair (.arr .u8 32) (.pair (.int .i64) (.pair (.int .i64) (.int .i64))))))), (1, .glob 0 (.arr .u32 8)), (2, .glob 1 (.arr .u32 64))]
def RX (d : (Unit × Unit × Int × Int × Unit)) (e : ((List T_3d5633) × (List Int) × (List Int) × Unit)) (v : Bool) : St := ⟨mkS RS (v, ()), mkH RH (e.1, e.2.1, e.2.2.1, ())⟩
def sum (k : Nat) : LoopSum := sigLoop S cl hn kp H 0 (fun (d : (Unit × Unit × Int × Int × Unit)) (e : ((List T_3d5633) × (List Int) × (List Int) × Unit)) => f k d.2.2.1 e.1 e.2.1 e.2.2.1 k d.2.2.2.1) KX RX
end l0
def tree {X : Type} (K : Bool → Option X) (k : Nat) (m0 : (List T_3d5633)) (m1 : (List Int)) (m2 : (List Int)) : Option X :=
  (Option.bind (header_Follows_v1.l0.f k ((List.length m0) : Int) m0 m1 m2 k (0 : Int)) (fun r2 => sel r2 (fun v3 => (K true)) (fun q4 => (K q4))))
def f (k : Nat) (m0 : (List T_3d5633)) (m1 : (List Int)) (m2 : (List Int)) : Option Bool := tree (fun b0 => some b0) k m0 m1 m2
theorem tree_nat {X Y : Type} (h : X → Option Y) (K : Bool → Option X) (k : Nat) (m0 : (List T_3d5633)) (m1 : (List Int)) (m2 : (List Int)) : Option.bind (tree K k m0 m1 m2) h = tree (fun b0 => Option.bind (K b0) h) k m0 m1 m2 := by
  simp only [tree, bif_bind, sel_bind', Option.bind_assoc, Option.bind_none, Option.bind_some]
abbrev ps : List Sh := [.vec 0]
abbrev hs : List (Nat × ESh) := [(0, .rows 2 42 (.pair (.int .i64) (.pair (.arr .u8 32) (.pair (.arr .u8 32) (.pair (.int .i64) (.pair (.int .i64) (.int .i64))))))), (1, .glob 0 (.arr .u32 8)), (2, .glob 1 (.arr .u32 64))]
abbrev hi : List Nat := hs.map (·.1)
abbrev fi : List Nat := [0, 1, 2]
abbrev cl : List (Place × Nat × Hint) := []
abbrev hn : List Hint := [.any]
def val (t : Bool) : AV := Sh.mk (.data .bool) t
def wr (t : Bool) : Heap := []
def callee (k : Nat) : Callee := sigCallee ps hs (fun (d : (Unit × Unit)) (e : ((List T_3d5633) × (List Int) × (List Int) × Unit)) => f k e.1 e.2.1 e.2.2.1) val wr
def E (k : Nat) : Env := ⟨fnTab [(32, [header_Id.callee k])], loopTab [(0, l0.sum k)], natsTab [(32, [1, 2])], natTab [(0, 1), (1, 2)]⟩
theorem fE (k : Nat) : ∀ f, ∀ c ∈ (E k).fn f, CalleeOK Tryd.prog f c := fnTab_ok ⟨⟨header_Id.ok k, trivial⟩, trivial⟩
namespace l0
theorem round (k : Nat) (d : (Unit × Unit × Int × Int × Unit)) (e : ((List T_3d5633) × (List Int) × (List Int) × Unit)) (G : St → Option (Ex × St)) : roundK Tryd.prog (E k) 26 0 (subC (bodyOf Tryd.f34) [1, 0, 1, 0, 0]) (recast cl hn kp) (finBy cl hn kp rc rs ri) G ⟨mkS S d, mkH H e⟩ =
    step (fun x7 => some (.exit 0, KX d e x7)) (fun q0 => some (.ret, RX d e q0)) (fun x7 => G ⟨mkS S ((), (), d.2.2.1, x7, ()), mkH H (e.1, e.2.1, e.2.2.1, ())⟩) k d.2.2.1 e.1 e.2.1 e.2.2.1 d.2.2.2.1 := by kernel_rfl
theorem it (k n : Nat) (d : (Unit × Unit × Int × Int × Unit)) (e : ((List T_3d5633) × (List Int) × (List Int) × Unit)) : loopIt Tryd.prog (E k) 26 0 (subC (bodyOf Tryd.f34) [1, 0, 1, 0, 0]) (recast cl hn kp) (finBy cl hn kp rc rs ri) n ⟨mkS S d, mkH H e⟩ = go (fun x7 => some (.exit 0, KX d e x7)) (fun q0 => some (.ret, RX d e q0)) k d.2.2.1 e.1 e.2.1 e.2.2.1 n d.2.2.2.1 :=
  loopIt_eq (D := (Unit × Unit × Int × Int × Unit) × ((List T_3d5633) × (List Int) × (List Int) × Unit)) (fun p => ⟨mkS S p.1, mkH H p.2⟩) (fun F p => step (fun x7 => some (.exit 0, KX p.1 p.2 x7)) (fun q0 => some (.ret, RX p.1 p.2 q0)) (fun x7 => F (((), (), p.1.2.2.1, x7, ()), (p.2.1, p.2.2.1, p.2.2.2.1, ()))) k p.1.2.2.1 p.2.1 p.2.2.1 p.2.2.2.1 p.1.2.2.2.1) (fun n p => go (fun x7 => some (.exit 0, KX p.1 p.2 x7)) (fun q0 => some (.ret, RX p.1 p.2 q0)) k p.1.2.2.1 p.2.1 p.2.2.1 p.2.2.2.1 n p.1.2.2.2.1) (fun _ => rfl) (fun _ _ => rfl) (fun G p => round k p.1 p.2 G) n (d, e)
theorem ok (k : Nat) : LoopOK Tryd.prog 26 (subC (bodyOf Tryd.f34) [1, 0, 1, 0, 0]) (sum k) :=
  loop_sig hm (fE k) (loopsOK_of [] (by kernel_rfl) trivial) S cl hn kp H 0 (fun (d : (Unit × Unit × Int × Int × Unit)) (e : ((List T_3d5633) × (List Int) × (List Int) × Unit)) => f k d.2.2.1 e.1 e.2.1 e.2.2.1 k d.2.2.2.1) KX RX cl hn kp rc rs ri k
    (fun d e => (it k k d e).trans (go_nat (exitOf 0 (KX d e) (RX d e)) (fun x7 => some (.inl x7)) (fun q0 => some (.inr q0)) k d.2.2.1 e.1 e.2.1 e.2.2.1 k d.2.2.2.1).symm)
end l0
theorem run (k : Nat) (d : (Unit × Unit)) (e : ((List T_3d5633) × (List Int) × (List Int) × Unit)) : runFn Tryd.prog (E k) 26 (bodyOf Tryd.f34) Tryd.f34.results.toList cl hn hi (mkL ps d) (mkH hs e) =
    tree (fun b0 => leafFn hs fi e val wr b0) k e.1 e.2.1 e.2.2.1 := by kernel_rfl
theorem run_f (k : Nat) (d : (Unit × Unit)) (e : ((List T_3d5633) × (List Int) × (List Int) × Unit)) : runFn Tryd.prog (E k) 26 (bodyOf Tryd.f34) Tryd.f34.results.toList cl hn hi (mkL ps d) (mkH hs e) = (f k e.1 e.2.1 e.2.2.1).bind (leafFn hs fi e val wr) :=
  (run k d e).trans (tree_nat (leafFn hs fi e val wr) (fun b0 => some b0) k e.1 e.2.1 e.2.2.1).symm
theorem fnIs : FnIs Tryd.prog 34 Tryd.f34 (bodyOf Tryd.f34) 26 := ⟨by kernel_rfl, by kernel_rfl, by kernel_rfl, by kernel_rfl⟩
theorem ok (k : Nat) : CalleeOK Tryd.prog 34 (callee k) :=
  callee_sig (T := Bool) fnIs hm (fE k) (loopsOK_of [(0, subC (bodyOf Tryd.f34) [1, 0, 1, 0, 0])] (by kernel_rfl) ⟨of_loop (l0.sum k) rfl (l0.ok k), trivial⟩) ps hs cl hn fi (fun (d : (Unit × Unit)) (e : ((List T_3d5633) × (List Int) × (List Int) × Unit)) => f k e.1 e.2.1 e.2.2.1) val wr rfl (fun _ => rfl) (run_f k)
end header_Follows_v1
namespace trailheadlaw06_HeaderFollows
namespace l0
def step {X : Type} (K : Bool → Int → (List T_3d5633) → Option X) (G : Bool → Int → (List T_3d5633) → Option X) (k : Nat) (x13 : Int) (y0 : (List T_3d5633)) (y1 : (List Int)) (y2 : (List Int)) (x3 : Bool) (x14 : Int) (y800003 : (List T_3d5633)) : Option X :=
  (bif (decide (x14 < x13)) then (bif (decide (0 ≤ x14)) then (bif (decide (x14 < ((List.length y0) : Int))) then (bif (decide ((Int.toNat x14) < (List.length y0))) then (bif (decide (x14 > (0 : Int))) then (bif x3 then (bif (decide (0 ≤ (subI .i64 x14 1))) then (bif (decide ((subI .i64 x14 1) < ((List.length y0) : Int))) then (bif (decide ((Int.toNat (subI .i64 x14 1)) < (List.length y0))) then (Option.bind (trailheadref06_Id.f k ((((List.getD y0 (Int.toNat (subI .i64 x14 1)) dfl_31f8ee)).1, ((((List.getD y0 (Int.toNat (subI .i64 x14 1)) dfl_31f8ee)).2).1, (((((List.getD y0 (Int.toNat (subI .i64 x14 1)) dfl_31f8ee)).2).2).1, ((((((List.getD y0 (Int.toNat (subI .i64 x14 1)) dfl_31f8ee)).2).2).2).1, ((((((List.getD y0 (Int.toNat (subI .i64 x14 1)) dfl_31f8ee)).2).2).2).2))))) : T_3d5633)) (fun r2 => (bif (decide (0 ≤ (subI .i64 x14 1))) then (bif (decide ((subI .i64 x14 1) < ((List.length y800003) : Int))) then (bif (decide ((Int.toNat (subI .i64 x14 1)) < (List.length y800003))) then (Option.bind (trailheadref06_Id.f k ((((List.getD y800003 (Int.toNat (subI .i64 x14 1)) dfl_31f8ee)).1, ((((List.getD y800003 (Int.toNat (subI .i64 x14 1)) dfl_31f8ee)).2).1, (((((List.getD y800003 (Int.toNat (subI .i64 x14 1)) dfl_31f8ee)).2).2).1, ((((((List.getD y800003 (Int.toNat (subI .i64 x14 1)) dfl_31f8ee)).2).2).2).1, ((((((List.getD y800003 (Int.toNat (subI .i64 x14 1)) dfl_31f8ee)).2).2).2).2))))) : T_3d5633)) (fun r3 => (bif (fits (((List.length y800003) + 1) * 96)) then (G (decide ((((List.getD y0 (Int.toNat x14) dfl_31f8ee)).2).1 = r2)) (addI .i64 x14 1) (y800003 ++ ([(((List.getD y0 (Int.toNat x14) dfl_31f8ee)).1, (r3, (((((List.getD y0 (Int.toNat x14) dfl_31f8ee)).2).2).1, ((((((List.getD y0 (Int.toNat x14) dfl_31f8ee)).2).2).2).1, ((((((List.getD y0 (Int.toNat x14) dfl_31f8ee)).2).2).2).2)))))] : (List T_3d5633)))) else none))) else none) else none) else none))) else none) else none) else none) else (bif (decide (0 ≤ (subI .i64 x14 1))) then (bif (decide ((subI .i64 x14 1) < ((List.length y800003) : Int))) then (bif (decide ((Int.toNat (subI .i64 x14 1)) < (List.length y800003))) then (Option.bind (trailheadref06_Id.f k ((((List.getD y800003 (Int.toNat (subI .i64 x14 1)) dfl_31f8ee)).1, ((((List.getD y800003 (Int.toNat (subI .i64 x14 1)) dfl_31f8ee)).2).1, (((((List.getD y800003 (Int.toNat (subI .i64 x14 1)) dfl_31f8ee)).2).2).1, ((((((List.getD y800003 (Int.toNat (subI .i64 x14 1)) dfl_31f8ee)).2).2).2).1, ((((((List.getD y800003 (Int.toNat (subI .i64 x14 1)) dfl_31f8ee)).2).2).2).2))))) : T_3d5633)) (fun r4 => (bif (fits (((List.length y800003) + 1) * 96)) then (G false (addI .i64 x14 1) (y800003 ++ ([(((List.getD y0 (Int.toNat x14) dfl_31f8ee)).1, (r4, (((((List.getD y0 (Int.toNat x14) dfl_31f8ee)).2).2).1, ((((((List.getD y0 (Int.toNat x14) dfl_31f8ee)).2).2).2).1, ((((((List.getD y0 (Int.toNat x14) dfl_31f8ee)).2).2).2).2)))))] : (List T_3d5633)))) else none))) else none) else none) else none)) else (bif (fits (((List.length y800003) + 1) * 96)) then (G x3 (addI .i64 x14 1) (y800003 ++ ([(((List.getD y0 (Int.toNat x14) dfl_31f8ee)).1, ((((List.getD y0 (Int.toNat x14) dfl_31f8ee)).2).1, (((((List.getD y0 (Int.toNat x14) dfl_31f8ee)).2).2).1, ((((((List.getD y0 (Int.toNat x14) dfl_31f8ee)).2).2).2).1, ((((((List.getD y0 (Int.toNat x14) dfl_31f8ee)).2).2).2).2)))))] : (List T_3d5633)))) else none)) else none) else none) else none) else (K x3 x14 y800003))
def go {X : Type} (K : Bool → Int → (List T_3d5633) → Option X) (k : Nat) (x13 : Int) (y0 : (List T_3d5633)) (y1 : (List Int)) (y2 : (List Int)) : Nat → Bool → Int → (List T_3d5633) → Option X
  | 0, _, _, _ => none
  | n + 1, x3, x14, y800003 => step K (go K k x13 y0 y1 y2 n) k x13 y0 y1 y2 x3 x14 y800003
def f (k : Nat) (x13 : Int) (y0 : (List T_3d5633)) (y1 : (List Int)) (y2 : (List Int)) (n : Nat) (x3 : Bool) (x14 : Int) (y800003 : (List T_3d5633)) : Option (Bool × (Int × (List T_3d5633))) := go (fun x3 x14 y800003 => some (x3, x14, y800003)) k x13 y0 y1 y2 n x3 x14 y800003
theorem step_nat {X Y : Type} (h : X → Option Y) (K : Bool → Int → (List T_3d5633) → Option X) (G : Bool → Int → (List T_3d5633) → Option X) (k : Nat) (x13 : Int) (y0 : (List T_3d5633)) (y1 : (List Int)) (y2 : (List Int)) (x3 : Bool) (x14 : Int) (y800003 : (List T_3d5633)) : Option.bind (step K G k x13 y0 y1 y2 x3 x14 y800003) h = step (fun x3 x14 y800003 => Option.bind (K x3 x14 y800003) h) (fun x3 x14 y800003 => Option.bind (G x3 x14 y800003) h) k x13 y0 y1 y2 x3 x14 y800003 := by
  simp only [step, bif_bind, sel_bind', Option.bind_assoc, Option.bind_none, Option.bind_some]
theorem go_nat {X Y : Type} (h : X → Option Y) (K : Bool → Int → (List T_3d5633) → Option X) (k : Nat) (x13 : Int) (y0 : (List T_3d5633)) (y1 : (List Int)) (y2 : (List Int)) (n : Nat) : ∀ (x3 : Bool) (x14 : Int) (y800003 : (List T_3d5633)), Option.bind (go K k x13 y0 y1 y2 n x3 x14 y800003) h = go (fun x3 x14 y800003 => Option.bind (K x3 x14 y800003) h) k x13 y0 y1 y2 n x3 x14 y800003 := by
  induction n with
  | zero => intros; rfl
  | succ n ih => intro x3 x14 y800003; show Option.bind (step K (go K k x13 y0 y1 y2 n) k x13 y0 y1 y2 x3 x14 y800003) h = step (fun x3 x14 y800003 => Option.bind (K x3 x14 y800003) h) (go (fun x3 x14 y800003 => Option.bind (K x3 x14 y800003) h) k x13 y0 y1 y2 n) k x13 y0 y1 y2 x3 x14 y800003; rw [step_nat h]; simp only [ih]
abbrev S : List (Nat × Sh) := [(0, .vec 0), (3, .data .bool), (4, .vec 800003), (12, .vec 0), (13, .data (.int .i64)), (14, .data (.int .i64))]
abbrev H : List (Nat × ESh) := [(0, .rows 0 42 (.pair (.int .i64) (.pair (.arr .u8 32) (.pair (.arr .u8 32) (.pair (.int .i64) (.pair (.int .i64) (.int .i64))))))), (1, .glob 0 (.arr .u32 8)), (2, .glob 1 (.arr .u32 64)), (800003, .rows 2 42 (.pair (.int .i64) (.pair (.arr .u8 32) (.pair (.arr .u8 32) (.pair (.int .i64) (.pair (.int .i64) (.int .i64)))))))]
abbrev cl : List (Place × Nat × Hint) := []
abbrev hn : List (Nat × Hint) := [(0, .any), (3, .any), (4, (.row 2 42 (.pair (.int .i64) (.pair (.arr .u8 32) (.pair (.arr .u8 32) (.pair (.int .i64) (.pair (.int .i64) (.int .i64)))))))), (12, .any), (13, .any), (14, .any)]
abbrev kp : List Nat := [0, 1, 2]
abbrev rc : List (Place × Nat × Hint) := []
abbrev rs : List (Nat × Hint) := []
abbrev ri : List Nat := [0, 1, 2]
def KX (d : (Unit × Bool × Unit × Unit × Int × Int × Unit)) (e : ((List T_3d5633) × (List Int) × (List Int) × (List T_3d5633) × Unit)) (v : (Bool × (Int × (List T_3d5633)))) : St := ⟨mkS S ((), v.1, (), (), d.2.2.2.2.1, v.2.1, ()), mkH H (e.1, e.2.1, e.2.2.1, v.2.2, ())⟩
def sum (k : Nat) : LoopSum := sigLoopX S cl hn kp H 0 (fun (d : (Unit × Bool × Unit × Unit × Int × Int × Unit)) (e : ((List T_3d5633) × (List Int) × (List Int) × (List T_3d5633) × Unit)) => f k d.2.2.2.2.1 e.1 e.2.1 e.2.2.1 k d.2.1 d.2.2.2.2.2.1 e.2.2.2.1) KX
end l0
def tree {X : Type} (K : Bool → Option X) (k : Nat) (m0 : (List T_3d5633)) (m1 : (List Int)) (m2 : (List Int)) : Option X :=
  (Option.bind (trailheadlaw06_alive.f k m1 m2) (fun r1 => (bif (!r1) then (K false) else (bif (decide (((List.length m0) : Int) > (20 : Int))) then (K true) else (Option.bind (trailheadlaw06_HeaderFollows.l0.f k ((List.length m0) : Int) m0 m1 m2 k true (0 : Int) ([] : (List T_3d5633))) (fun r5 => (Option.bind (header_Follows.f k m0 m1 m2) (fun r6 => (bif (r6 == r5.1) then (Option.bind (header_Follows_v1.f k r5.2.2 m1 m2) (fun r7 => (K r7))) else (K false))))))))))
def f (k : Nat) (m0 : (List T_3d5633)) (m1 : (List Int)) (m2 : (List Int)) : Option Bool := tree (fun b0 => some b0) k m0 m1 m2
theorem tree_nat {X Y : Type} (h : X → Option Y) (K : Bool → Option X) (k : Nat) (m0 : (List T_3d5633)) (m1 : (List Int)) (m2 : (List Int)) : Option.bind (tree K k m0 m1 m2) h = tree (fun b0 => Option.bind (K b0) h) k m0 m1 m2 := by
  simp only [tree, bif_bind, sel_bind', Option.bind_assoc, Option.bind_none, Option.bind_some]
abbrev ps : List Sh := [.vec 0]
abbrev hs : List (Nat × ESh) := [(0, .rows 0 42 (.pair (.int .i64) (.pair (.arr .u8 32) (.pair (.arr .u8 32) (.pair (.int .i64) (.pair (.int .i64) (.int .i64))))))), (1, .glob 0 (.arr .u32 8)), (2, .glob 1 (.arr .u32 64))]
abbrev hi : List Nat := hs.map (·.1)
abbrev fi : List Nat := [0, 1, 2]
abbrev cl : List (Place × Nat × Hint) := []
abbrev hn : List Hint := [.any]
def val (t : Bool) : AV := Sh.mk (.data .bool) t
def wr (t : Bool) : Heap := []
def callee (k : Nat) : Callee := sigCallee ps hs (fun (d : (Unit × Unit)) (e : ((List T_3d5633) × (List Int) × (List Int) × Unit)) => f k e.1 e.2.1 e.2.2.1) val wr
def E (k : Nat) : Env := ⟨fnTab [(29, [trailheadlaw06_alive.callee k]), (33, [trailheadref06_Id.callee k]), (34, [header_Follows.callee k, header_Follows_v1.callee k])], loopTab [(0, l0.sum k)], natsTab [(29, [1, 2]), (34, [1, 2])], natTab [(0, 1), (1, 2)]⟩
theorem fE (k : Nat) : ∀ f, ∀ c ∈ (E k).fn f, CalleeOK Tryd.prog f c := fnTab_ok ⟨⟨trailheadlaw06_alive.ok k, trivial⟩, ⟨trailheadref06_Id.ok k, trivial⟩, ⟨header_Follows.ok k, header_Follows_v1.ok k, trivial⟩, trivial⟩
namespace l0
theorem round (k : Nat) (d : (Unit × Bool × Unit × Unit × Int × Int × Unit)) (e : ((List T_3d5633) × (List Int) × (List Int) × (List T_3d5633) × Unit)) (G : St → Option (Ex × St)) : roundK Tryd.prog (E k) 53 0 (subC (bodyOf Tryd.f9) [1, 1, 1, 1, 1, 0, 1, 0, 0]) (recast cl hn kp) (finBy cl hn kp rc rs ri) G ⟨mkS S d, mkH H e⟩ =
    step (fun x3 x14 y800003 => some (.exit 0, KX d e (x3, x14, y800003))) (fun x3 x14 y800003 => G ⟨mkS S ((), x3, (), (), d.2.2.2.2.1, x14, ()), mkH H (e.1, e.2.1, e.2.2.1, y800003, ())⟩) k d.2.2.2.2.1 e.1 e.2.1 e.2.2.1 d.2.1 d.2.2.2.2.2.1 e.2.2.2.1 := by kernel_rfl
theorem it (k n : Nat) (d : (Unit × Bool × Unit × Unit × Int × Int × Unit)) (e : ((List T_3d5633) × (List Int) × (List Int) × (List T_3d5633) × Unit)) : loopIt Tryd.prog (E k) 53 0 (subC (bodyOf Tryd.f9) [1, 1, 1, 1, 1, 0, 1, 0, 0]) (recast cl hn kp) (finBy cl hn kp rc rs ri) n ⟨mkS S d, mkH H e⟩ = go (fun x3 x14 y800003 => some (.exit 0, KX d e (x3, x14, y800003))) k d.2.2.2.2.1 e.1 e.2.1 e.2.2.1 n d.2.1 d.2.2.2.2.2.1 e.2.2.2.1 :=
  loopIt_eq (D := (Unit × Bool × Unit × Unit × Int × Int × Unit) × ((List T_3d5633) × (List Int) × (List Int) × (List T_3d5633) × Unit)) (fun p => ⟨mkS S p.1, mkH H p.2⟩) (fun F p => step (fun x3 x14 y800003 => some (.exit 0, KX p.1 p.2 (x3, x14, y800003))) (fun x3 x14 y800003 => F (((), x3, (), (), p.1.2.2.2.2.1, x14, ()), (p.2.1, p.2.2.1, p.2.2.2.1, y800003, ()))) k p.1.2.2.2.2.1 p.2.1 p.2.2.1 p.2.2.2.1 p.1.2.1 p.1.2.2.2.2.2.1 p.2.2.2.2.1) (fun n p => go (fun x3 x14 y800003 => some (.exit 0, KX p.1 p.2 (x3, x14, y800003))) k p.1.2.2.2.2.1 p.2.1 p.2.2.1 p.2.2.2.1 n p.1.2.1 p.1.2.2.2.2.2.1 p.2.2.2.2.1) (fun _ => rfl) (fun _ _ => rfl) (fun G p => round k p.1 p.2 G) n (d, e)
theorem ok (k : Nat) : LoopOK Tryd.prog 53 (subC (bodyOf Tryd.f9) [1, 1, 1, 1, 1, 0, 1, 0, 0]) (sum k) :=
  loop_sigX hm (fE k) (loopsOK_of [] (by kernel_rfl) trivial) S cl hn kp H 0 (fun (d : (Unit × Bool × Unit × Unit × Int × Int × Unit)) (e : ((List T_3d5633) × (List Int) × (List Int) × (List T_3d5633) × Unit)) => f k d.2.2.2.2.1 e.1 e.2.1 e.2.2.1 k d.2.1 d.2.2.2.2.2.1 e.2.2.2.1) KX cl hn kp rc rs ri k
    (fun d e => (it k k d e).trans (go_nat (fun v => some (Ex.exit 0, KX d e v)) (fun x3 x14 y800003 => some (x3, x14, y800003)) k d.2.2.2.2.1 e.1 e.2.1 e.2.2.1 k d.2.1 d.2.2.2.2.2.1 e.2.2.2.1).symm)
end l0
theorem run (k : Nat) (d : (Unit × Unit)) (e : ((List T_3d5633) × (List Int) × (List Int) × Unit)) : runFn Tryd.prog (E k) 53 (bodyOf Tryd.f9) Tryd.f9.results.toList cl hn hi (mkL ps d) (mkH hs e) =
    tree (fun b0 => leafFn hs fi e val wr b0) k e.1 e.2.1 e.2.2.1 := by kernel_rfl
theorem run_f (k : Nat) (d : (Unit × Unit)) (e : ((List T_3d5633) × (List Int) × (List Int) × Unit)) : runFn Tryd.prog (E k) 53 (bodyOf Tryd.f9) Tryd.f9.results.toList cl hn hi (mkL ps d) (mkH hs e) = (f k e.1 e.2.1 e.2.2.1).bind (leafFn hs fi e val wr) :=
  (run k d e).trans (tree_nat (leafFn hs fi e val wr) (fun b0 => some b0) k e.1 e.2.1 e.2.2.1).symm
theorem fnIs : FnIs Tryd.prog 9 Tryd.f9 (bodyOf Tryd.f9) 53 := ⟨by kernel_rfl, by kernel_rfl, by kernel_rfl, by kernel_rfl⟩
theorem ok (k : Nat) : CalleeOK Tryd.prog 9 (callee k) :=
  callee_sig (T := Bool) fnIs hm (fE k) (loopsOK_of [(0, subC (bodyOf Tryd.f9) [1, 1, 1, 1, 1, 0, 1, 0, 0])] (by kernel_rfl) ⟨of_loop (l0.sum k) rfl (l0.ok k), trivial⟩) ps hs cl hn fi (fun (d : (Unit × Unit)) (e : ((List T_3d5633) × (List Int) × (List Int) × Unit)) => f k e.1 e.2.1 e.2.2.1) val wr rfl (fun _ => rfl) (run_f k)
end trailheadlaw06_HeaderFollows
namespace scroll_On
def tree {X : Type} (K : ((List Int) × Bool) → Option X) (k : Nat) (a0 : (List Int)) : Option X :=
  (K ((a0, false) : ((List Int) × Bool)))
def f (k : Nat) (a0 : (List Int)) : Option ((List Int) × Bool) := tree (fun b0 => some b0) k a0
theorem tree_nat {X Y : Type} (h : X → Option Y) (K : ((List Int) × Bool) → Option X) (k : Nat) (a0 : (List Int)) : Option.bind (tree K k a0) h = tree (fun b0 => Option.bind (K b0) h) k a0 := by
  simp only [tree, bif_bind, sel_bind', Option.bind_assoc, Option.bind_none, Option.bind_some]
abbrev ps : List Sh := [.data .str]
abbrev hs : List (Nat × ESh) := []
abbrev hi : List Nat := hs.map (·.1)
abbrev fi : List Nat := [900000]
abbrev cl : List (Place × Nat × Hint) := []
abbrev hn : List Hint := [.any]
def val (t : ((List Int) × Bool)) : AV := Sh.mk (.ptr 900000) ()
def wr (t : ((List Int) × Bool)) : Heap := [(900000, ESh.mk (.cell (.data (.pair .str .bool))) t)]
def callee (k : Nat) : Callee := sigCallee ps hs (fun (d : ((List Int) × Unit)) (e : Unit) => f k d.1) val wr
def E (k : Nat) : Env := ⟨fnTab [], loopTab [], natsTab [], natTab []⟩
theorem fE (k : Nat) : ∀ f, ∀ c ∈ (E k).fn f, CalleeOK Tryd.prog f c := fnTab_ok trivial
theorem run (k : Nat) (d : ((List Int) × Unit)) (e : Unit) : runFn Tryd.prog (E k) 6 (bodyOf Tryd.f52) Tryd.f52.results.toList cl hn hi (mkL ps d) (mkH hs e) =
    tree (fun b0 => leafFn hs fi e val wr b0) k d.1 := by kernel_rfl
theorem run_f (k : Nat) (d : ((List Int) × Unit)) (e : Unit) : runFn Tryd.prog (E k) 6 (bodyOf Tryd.f52) Tryd.f52.results.toList cl hn hi (mkL ps d) (mkH hs e) = (f k d.1).bind (leafFn hs fi e val wr) :=
  (run k d e).trans (tree_nat (leafFn hs fi e val wr) (fun b0 => some b0) k d.1).symm
theorem fnIs : FnIs Tryd.prog 52 Tryd.f52 (bodyOf Tryd.f52) 6 := ⟨by kernel_rfl, by kernel_rfl, by kernel_rfl, by kernel_rfl⟩
theorem ok (k : Nat) : CalleeOK Tryd.prog 52 (callee k) :=
  callee_sig (T := ((List Int) × Bool)) fnIs hm (fE k) (loopsOK_of [] (by kernel_rfl) trivial) ps hs cl hn fi (fun (d : ((List Int) × Unit)) (e : Unit) => f k d.1) val wr rfl (fun _ => rfl) (run_f k)
end scroll_On
namespace scroll_Eye_Blind
def tree {X : Type} (K : ((List Int) × Bool) → Option X) (k : Nat) (m0 : ((List Int) × Bool)) : Option X :=
  (K (([], true) : ((List Int) × Bool)))
def f (k : Nat) (m0 : ((List Int) × Bool)) : Option ((List Int) × Bool) := tree (fun b0 => some b0) k m0
theorem tree_nat {X Y : Type} (h : X → Option Y) (K : ((List Int) × Bool) → Option X) (k : Nat) (m0 : ((List Int) × Bool)) : Option.bind (tree K k m0) h = tree (fun b0 => Option.bind (K b0) h) k m0 := by
  simp only [tree, bif_bind, sel_bind', Option.bind_assoc, Option.bind_none, Option.bind_some]
abbrev ps : List Sh := [.ptr 0]
abbrev hs : List (Nat × ESh) := [(0, .cell (.data (.pair .str .bool)))]
abbrev hi : List Nat := hs.map (·.1)
abbrev fi : List Nat := [0]
abbrev cl : List (Place × Nat × Hint) := []
abbrev hn : List Hint := []
def val (t : ((List Int) × Bool)) : AV := .tnil
def wr (t : ((List Int) × Bool)) : Heap := [(0, ESh.mk (.cell (.data (.pair .str .bool))) t)]
def callee (k : Nat) : Callee := sigCallee ps hs (fun (d : (Unit × Unit)) (e : (((List Int) × Bool) × Unit)) => f k e.1) val wr
def E (k : Nat) : Env := ⟨fnTab [], loopTab [], natsTab [], natTab []⟩
theorem fE (k : Nat) : ∀ f, ∀ c ∈ (E k).fn f, CalleeOK Tryd.prog f c := fnTab_ok trivial
theorem run (k : Nat) (d : (Unit × Unit)) (e : (((List Int) × Bool) × Unit)) : runFn Tryd.prog (E k) 10 (bodyOf Tryd.f85) Tryd.f85.results.toList cl hn hi (mkL ps d) (mkH hs e) =
    tree (fun b0 => leafFn hs fi e val wr b0) k e.1 := by kernel_rfl
theorem run_f (k : Nat) (d : (Unit × Unit)) (e : (((List Int) × Bool) × Unit)) : runFn Tryd.prog (E k) 10 (bodyOf Tryd.f85) Tryd.f85.results.toList cl hn hi (mkL ps d) (mkH hs e) = (f k e.1).bind (leafFn hs fi e val wr) :=
  (run k d e).trans (tree_nat (leafFn hs fi e val wr) (fun b0 => some b0) k e.1).symm
theorem fnIs : FnIs Tryd.prog 85 Tryd.f85 (bodyOf Tryd.f85) 10 := ⟨by kernel_rfl, by kernel_rfl, by kernel_rfl, by kernel_rfl⟩
theorem ok (k : Nat) : CalleeOK Tryd.prog 85 (callee k) :=
  callee_sig (T := ((List Int) × Bool)) fnIs hm (fE k) (loopsOK_of [] (by kernel_rfl) trivial) ps hs cl hn fi (fun (d : (Unit × Unit)) (e : (((List Int) × Bool) × Unit)) => f k e.1) val wr rfl (fun _ => rfl) (run_f k)
end scroll_Eye_Blind
namespace scroll_Eye_Raw
def tree {X : Type} (K : (List Int) → ((List Int) × Bool) → Option X) (k : Nat) (a1 : Int) (m0 : ((List Int) × Bool)) : Option X :=
  (bif m0.2 then (Option.bind (scroll_Eye_Blind.f k m0) (fun r1 => (K ([] : (List Int)) r1))) else (bif (decide (a1 < (0 : Int))) then (Option.bind (scroll_Eye_Blind.f k m0) (fun r2 => (K ([] : (List Int)) r2))) else (bif (decide (a1 > ((List.length m0.1) : Int))) then (Option.bind (scroll_Eye_Blind.f k m0) (fun r3 => (K ([] : (List Int)) r3))) else (bif (decide (0 ≤ a1)) then (bif (decide (a1 ≤ ((List.length m0.1) : Int))) then (bif (decide (0 ≤ a1)) then (bif (decide (a1 ≤ ((List.length m0.1) : Int))) then (K (List.take (Int.toNat a1) m0.1) (((List.drop (Int.toNat a1) m0.1), m0.2) : ((List Int) × Bool))) else none) else none) else none) else none))))
def f (k : Nat) (a1 : Int) (m0 : ((List Int) × Bool)) : Option ((List Int) × ((List Int) × Bool)) := tree (fun b0 b1 => some (b0, b1)) k a1 m0
theorem tree_nat {X Y : Type} (h : X → Option Y) (K : (List Int) → ((List Int) × Bool) → Option X) (k : Nat) (a1 : Int) (m0 : ((List Int) × Bool)) : Option.bind (tree K k a1 m0) h = tree (fun b0 b1 => Option.bind (K b0 b1) h) k a1 m0 := by
  simp only [tree, bif_bind, sel_bind', Option.bind_assoc, Option.bind_none, Option.bind_some]
abbrev ps : List Sh := [.ptr 0, .data (.int .i64)]
abbrev hs : List (Nat × ESh) := [(0, .cell (.data (.pair .str .bool)))]
abbrev hi : List Nat := hs.map (·.1)
abbrev fi : List Nat := [0]
abbrev cl : List (Place × Nat × Hint) := []
abbrev hn : List Hint := [.any]
def val (t : ((List Int) × ((List Int) × Bool))) : AV := Sh.mk (.data .str) t.1
def wr (t : ((List Int) × ((List Int) × Bool))) : Heap := [(0, ESh.mk (.cell (.data (.pair .str .bool))) t.2)]
def callee (k : Nat) : Callee := sigCallee ps hs (fun (d : (Unit × Int × Unit)) (e : (((List Int) × Bool) × Unit)) => f k d.2.1 e.1) val wr
def E (k : Nat) : Env := ⟨fnTab [(85, [scroll_Eye_Blind.callee k])], loopTab [], natsTab [], natTab []⟩
theorem fE (k : Nat) : ∀ f, ∀ c ∈ (E k).fn f, CalleeOK Tryd.prog f c := fnTab_ok ⟨⟨scroll_Eye_Blind.ok k, trivial⟩, trivial⟩
theorem run (k : Nat) (d : (Unit × Int × Unit)) (e : (((List Int) × Bool) × Unit)) : runFn Tryd.prog (E k) 45 (bodyOf Tryd.f78) Tryd.f78.results.toList cl hn hi (mkL ps d) (mkH hs e) =
    tree (fun b0 b1 => leafFn hs fi e val wr (b0, b1)) k d.2.1 e.1 := by kernel_rfl
theorem run_f (k : Nat) (d : (Unit × Int × Unit)) (e : (((List Int) × Bool) × Unit)) : runFn Tryd.prog (E k) 45 (bodyOf Tryd.f78) Tryd.f78.results.toList cl hn hi (mkL ps d) (mkH hs e) = (f k d.2.1 e.1).bind (leafFn hs fi e val wr) :=
  (run k d e).trans (tree_nat (leafFn hs fi e val wr) (fun b0 b1 => some (b0, b1)) k d.2.1 e.1).symm
theorem fnIs : FnIs Tryd.prog 78 Tryd.f78 (bodyOf Tryd.f78) 45 := ⟨by kernel_rfl, by kernel_rfl, by kernel_rfl, by kernel_rfl⟩
theorem ok (k : Nat) : CalleeOK Tryd.prog 78 (callee k) :=
  callee_sig (T := ((List Int) × ((List Int) × Bool))) fnIs hm (fE k) (loopsOK_of [] (by kernel_rfl) trivial) ps hs cl hn fi (fun (d : (Unit × Int × Unit)) (e : (((List Int) × Bool) × Unit)) => f k d.2.1 e.1) val wr rfl (fun _ => rfl) (run_f k)
end scroll_Eye_Raw
namespace scroll_Eye_Get
namespace l0
def step {X : Type} (K : Int → Int → Option X) (G : Int → Int → Option X) (k : Nat) (x5 : (List Int)) (x14 : Int) (y0 : ((List Int) × Bool)) (x6 : Int) (x15 : Int) : Option X :=
  (bif (decide (x15 < x14)) then (bif (decide (0 ≤ x15)) then (bif (decide (x15 < ((List.length x5) : Int))) then (bif (decide ((mulI .i64 8 x15) < 0)) then none else (G (orI .i64 x6 (shlI .i64 (IntKind.wrap .i64 (List.getD x5 (Int.toNat x15) 0)) (mulI .i64 8 x15))) (addI .i64 x15 1))) else none) else none) else (K x6 x15))
def go {X : Type} (K : Int → Int → Option X) (k : Nat) (x5 : (List Int)) (x14 : Int) (y0 : ((List Int) × Bool)) : Nat → Int → Int → Option X
  | 0, _, _ => none
  | n + 1, x6, x15 => step K (go K k x5 x14 y0 n) k x5 x14 y0 x6 x15
def f (k : Nat) (x5 : (List Int)) (x14 : Int) (y0 : ((List Int) × Bool)) (n : Nat) (x6 : Int) (x15 : Int) : Option (Int × Int) := go (fun x6 x15 => some (x6, x15)) k x5 x14 y0 n x6 x15
theorem step_nat {X Y : Type} (h : X → Option Y) (K : Int → Int → Option X) (G : Int → Int → Option X) (k : Nat) (x5 : (List Int)) (x14 : Int) (y0 : ((List Int) × Bool)) (x6 : Int) (x15 : Int) : Option.bind (step K G k x5 x14 y0 x6 x15) h = step (fun x6 x15 => Option.bind (K x6 x15) h) (fun x6 x15 => Option.bind (G x6 x15) h) k x5 x14 y0 x6 x15 := by
  simp only [step, bif_bind, sel_bind', Option.bind_assoc, Option.bind_none, Option.bind_some]
theorem go_nat {X Y : Type} (h : X → Option Y) (K : Int → Int → Option X) (k : Nat) (x5 : (List Int)) (x14 : Int) (y0 : ((List Int) × Bool)) (n : Nat) : ∀ (x6 : Int) (x15 : Int), Option.bind (go K k x5 x14 y0 n x6 x15) h = go (fun x6 x15 => Option.bind (K x6 x15) h) k x5 x14 y0 n x6 x15 := by
  induction n with
  | zero => intros; rfl
  | succ n ih => intro x6 x15; show Option.bind (step K (go K k x5 x14 y0 n) k x5 x14 y0 x6 x15) h = step (fun x6 x15 => Option.bind (K x6 x15) h) (go (fun x6 x15 => Option.bind (K x6 x15) h) k x5 x14 y0 n) k x5 x14 y0 x6 x15; rw [step_nat h]; simp only [ih]
abbrev S : List (Nat × Sh) := [(5, .data .str), (6, .data (.int .i64)), (14, .data (.int .i64)), (15, .data (.int .i64))]
abbrev H : List (Nat × ESh) := [(0, .cell (.data (.pair .str .bool)))]
abbrev cl : List (Place × Nat × Hint) := []
abbrev hn : List (Nat × Hint) := [(5, .any), (6, .any), (14, .any), (15, .any)]
abbrev kp : List Nat := [0]
abbrev rc : List (Place × Nat × Hint) := []
abbrev rs : List (Nat × Hint) := []
abbrev ri : List Nat := [0]
def KX (d : ((List Int) × Int × Int × Int × Unit)) (e : (((List Int) × Bool) × Unit)) (v : (Int × Int)) : St := ⟨mkS S (d.1, v.1, d.2.2.1, v.2, ()), mkH H (e.1, ())⟩
def sum (k : Nat) : LoopSum := sigLoopX S cl hn kp H 0 (fun (d : ((List Int) × Int × Int × Int × Unit)) (e : (((List Int) × Bool) × Unit)) => f k d.1 d.2.2.1 e.1 k d.2.1 d.2.2.2.1) KX
end l0
def tree {X : Type} (K : Int → ((List Int) × Bool) → Option X) (k : Nat) (a1 : Int) (m0 : ((List Int) × Bool)) : Option X :=
  (Option.bind (scroll_Eye_Raw.f k (mnI (mxI a1 1) 7) m0) (fun r1 => (Option.bind (scroll_Eye_Get.l0.f k r1.1 ((List.length r1.1) : Int) r1.2 k (0 : Int) (0 : Int)) (fun r2 => (K r2.1 r1.2)))))
def f (k : Nat) (a1 : Int) (m0 : ((List Int) × Bool)) : Option (Int × ((List Int) × Bool)) := tree (fun b0 b1 => some (b0, b1)) k a1 m0
theorem tree_nat {X Y : Type} (h : X → Option Y) (K : Int → ((List Int) × Bool) → Option X) (k : Nat) (a1 : Int) (m0 : ((List Int) × Bool)) : Option.bind (tree K k a1 m0) h = tree (fun b0 b1 => Option.bind (K b0 b1) h) k a1 m0 := by
  simp only [tree, bif_bind, sel_bind', Option.bind_assoc, Option.bind_none, Option.bind_some]
abbrev ps : List Sh := [.ptr 0, .data (.int .i64)]
abbrev hs : List (Nat × ESh) := [(0, .cell (.data (.pair .str .bool)))]
abbrev hi : List Nat := hs.map (·.1)
abbrev fi : List Nat := [0]
abbrev cl : List (Place × Nat × Hint) := []
abbrev hn : List Hint := [.any]
def val (t : (Int × ((List Int) × Bool))) : AV := Sh.mk (.data (.int .i64)) t.1
def wr (t : (Int × ((List Int) × Bool))) : Heap := [(0, ESh.mk (.cell (.data (.pair .str .bool))) t.2)]
def callee (k : Nat) : Callee := sigCallee ps hs (fun (d : (Unit × Int × Unit)) (e : (((List Int) × Bool) × Unit)) => f k d.2.1 e.1) val wr
def E (k : Nat) : Env := ⟨fnTab [(78, [scroll_Eye_Raw.callee k])], loopTab [(0, l0.sum k)], natsTab [], natTab []⟩
theorem fE (k : Nat) : ∀ f, ∀ c ∈ (E k).fn f, CalleeOK Tryd.prog f c := fnTab_ok ⟨⟨scroll_Eye_Raw.ok k, trivial⟩, trivial⟩
namespace l0
theorem round (k : Nat) (d : ((List Int) × Int × Int × Int × Unit)) (e : (((List Int) × Bool) × Unit)) (G : St → Option (Ex × St)) : roundK Tryd.prog (E k) 29 0 (subC (bodyOf Tryd.f70) [1, 1, 0, 1, 0, 0]) (recast cl hn kp) (finBy cl hn kp rc rs ri) G ⟨mkS S d, mkH H e⟩ =
    step (fun x6 x15 => some (.exit 0, KX d e (x6, x15))) (fun x6 x15 => G ⟨mkS S (d.1, x6, d.2.2.1, x15, ()), mkH H (e.1, ())⟩) k d.1 d.2.2.1 e.1 d.2.1 d.2.2.2.1 := by kernel_rfl
theorem it (k n : Nat) (d : ((List Int) × Int × Int × Int × Unit)) (e : (((List Int) × Bool) × Unit)) : loopIt Tryd.prog (E k) 29 0 (subC (bodyOf Tryd.f70) [1, 1, 0, 1, 0, 0]) (recast cl hn kp) (finBy cl hn kp rc rs ri) n ⟨mkS S d, mkH H e⟩ = go (fun x6 x15 => some (.exit 0, KX d e (x6, x15))) k d.1 d.2.2.1 e.1 n d.2.1 d.2.2.2.1 :=
  loopIt_eq (D := ((List Int) × Int × Int × Int × Unit) × (((List Int) × Bool) × Unit)) (fun p => ⟨mkS S p.1, mkH H p.2⟩) (fun F p => step (fun x6 x15 => some (.exit 0, KX p.1 p.2 (x6, x15))) (fun x6 x15 => F ((p.1.1, x6, p.1.2.2.1, x15, ()), (p.2.1, ()))) k p.1.1 p.1.2.2.1 p.2.1 p.1.2.1 p.1.2.2.2.1) (fun n p => go (fun x6 x15 => some (.exit 0, KX p.1 p.2 (x6, x15))) k p.1.1 p.1.2.2.1 p.2.1 n p.1.2.1 p.1.2.2.2.1) (fun _ => rfl) (fun _ _ => rfl) (fun G p => round k p.1 p.2 G) n (d, e)
theorem ok (k : Nat) : LoopOK Tryd.prog 29 (subC (bodyOf Tryd.f70) [1, 1, 0, 1, 0, 0]) (sum k) :=
  loop_sigX hm (fE k) (loopsOK_of [] (by kernel_rfl) trivial) S cl hn kp H 0 (fun (d : ((List Int) × Int × Int × Int × Unit)) (e : (((List Int) × Bool) × Unit)) => f k d.1 d.2.2.1 e.1 k d.2.1 d.2.2.2.1) KX cl hn kp rc rs ri k
    (fun d e => (it k k d e).trans (go_nat (fun v => some (Ex.exit 0, KX d e v)) (fun x6 x15 => some (x6, x15)) k d.1 d.2.2.1 e.1 k d.2.1 d.2.2.2.1).symm)
end l0
theorem run (k : Nat) (d : (Unit × Int × Unit)) (e : (((List Int) × Bool) × Unit)) : runFn Tryd.prog (E k) 29 (bodyOf Tryd.f70) Tryd.f70.results.toList cl hn hi (mkL ps d) (mkH hs e) =
    tree (fun b0 b1 => leafFn hs fi e val wr (b0, b1)) k d.2.1 e.1 := by kernel_rfl
theorem run_f (k : Nat) (d : (Unit × Int × Unit)) (e : (((List Int) × Bool) × Unit)) : runFn Tryd.prog (E k) 29 (bodyOf Tryd.f70) Tryd.f70.results.toList cl hn hi (mkL ps d) (mkH hs e) = (f k d.2.1 e.1).bind (leafFn hs fi e val wr) :=
  (run k d e).trans (tree_nat (leafFn hs fi e val wr) (fun b0 b1 => some (b0, b1)) k d.2.1 e.1).symm
theorem fnIs : FnIs Tryd.prog 70 Tryd.f70 (bodyOf Tryd.f70) 29 := ⟨by kernel_rfl, by kernel_rfl, by kernel_rfl, by kernel_rfl⟩
theorem ok (k : Nat) : CalleeOK Tryd.prog 70 (callee k) :=
  callee_sig (T := (Int × ((List Int) × Bool))) fnIs hm (fE k) (loopsOK_of [(0, subC (bodyOf Tryd.f70) [1, 1, 0, 1, 0, 0])] (by kernel_rfl) ⟨of_loop (l0.sum k) rfl (l0.ok k), trivial⟩) ps hs cl hn fi (fun (d : (Unit × Int × Unit)) (e : (((List Int) × Bool) × Unit)) => f k d.2.1 e.1) val wr rfl (fun _ => rfl) (run_f k)
end scroll_Eye_Get
namespace scroll_Eye_Name
def tree {X : Type} (K : (List Int) → ((List Int) × Bool) → Option X) (k : Nat) (m0 : ((List Int) × Bool)) : Option X :=
  (Option.bind (scroll_Eye_Raw.f k (32 : Int) m0) (fun r1 => (K ((List.take 32 r1.1) ++ (List.drop (min (List.length r1.1) 32) ([0, 0, 0, 0, 0, 0, 0, 0, 0, 0, 0, 0, 0, 0, 0, 0, 0, 0, 0, 0, 0, 0, 0, 0, 0, 0, 0, 0, 0, 0, 0, 0] : (List Int)))) r1.2)))
def f (k : Nat) (m0 : ((List Int) × Bool)) : Option ((List Int) × ((List Int) × Bool)) := tree (fun b0 b1 => some (b0, b1)) k m0
theorem tree_nat {X Y : Type} (h : X → Option Y) (K : (List Int) → ((List Int) × Bool) → Option X) (k : Nat) (m0 : ((List Int) × Bool)) : Option.bind (tree K k m0) h = tree (fun b0 b1 => Option.bind (K b0 b1) h) k m0 := by
  simp only [tree, bif_bind, sel_bind', Option.bind_assoc, Option.bind_none, Option.bind_some]
abbrev ps : List Sh := [.ptr 0]
abbrev hs : List (Nat × ESh) := [(0, .cell (.data (.pair .str .bool)))]
abbrev hi : List Nat := hs.map (·.1)
abbrev fi : List Nat := [0]
abbrev cl : List (Place × Nat × Hint) := []
abbrev hn : List Hint := [.any]
def val (t : ((List Int) × ((List Int) × Bool))) : AV := Sh.mk (.data (.arr .u8 32)) t.1
def wr (t : ((List Int) × ((List Int) × Bool))) : Heap := [(0, ESh.mk (.cell (.data (.pair .str .bool))) t.2)]
def callee (k : Nat) : Callee := sigCallee ps hs (fun (d : (Unit × Unit)) (e : (((List Int) × Bool) × Unit)) => f k e.1) val wr
def E (k : Nat) : Env := ⟨fnTab [(78, [scroll_Eye_Raw.callee k])], loopTab [], natsTab [], natTab []⟩
theorem fE (k : Nat) : ∀ f, ∀ c ∈ (E k).fn f, CalleeOK Tryd.prog f c := fnTab_ok ⟨⟨scroll_Eye_Raw.ok k, trivial⟩, trivial⟩
theorem run (k : Nat) (d : (Unit × Unit)) (e : (((List Int) × Bool) × Unit)) : runFn Tryd.prog (E k) 9 (bodyOf Tryd.f71) Tryd.f71.results.toList cl hn hi (mkL ps d) (mkH hs e) =
    tree (fun b0 b1 => leafFn hs fi e val wr (b0, b1)) k e.1 := by kernel_rfl
theorem run_f (k : Nat) (d : (Unit × Unit)) (e : (((List Int) × Bool) × Unit)) : runFn Tryd.prog (E k) 9 (bodyOf Tryd.f71) Tryd.f71.results.toList cl hn hi (mkL ps d) (mkH hs e) = (f k e.1).bind (leafFn hs fi e val wr) :=
  (run k d e).trans (tree_nat (leafFn hs fi e val wr) (fun b0 b1 => some (b0, b1)) k e.1).symm
theorem fnIs : FnIs Tryd.prog 71 Tryd.f71 (bodyOf Tryd.f71) 9 := ⟨by kernel_rfl, by kernel_rfl, by kernel_rfl, by kernel_rfl⟩
theorem ok (k : Nat) : CalleeOK Tryd.prog 71 (callee k) :=
  callee_sig (T := ((List Int) × ((List Int) × Bool))) fnIs hm (fE k) (loopsOK_of [] (by kernel_rfl) trivial) ps hs cl hn fi (fun (d : (Unit × Unit)) (e : (((List Int) × Bool) × Unit)) => f k e.1) val wr rfl (fun _ => rfl) (run_f k)
end scroll_Eye_Name
namespace scroll_Eye_Bad
def tree {X : Type} (K : Bool → Option X) (k : Nat) (m0 : ((List Int) × Bool)) : Option X :=
  (K m0.2)
def f (k : Nat) (m0 : ((List Int) × Bool)) : Option Bool := tree (fun b0 => some b0) k m0
theorem tree_nat {X Y : Type} (h : X → Option Y) (K : Bool → Option X) (k : Nat) (m0 : ((List Int) × Bool)) : Option.bind (tree K k m0) h = tree (fun b0 => Option.bind (K b0) h) k m0 := by
  simp only [tree, bif_bind, sel_bind', Option.bind_assoc, Option.bind_none, Option.bind_some]
abbrev ps : List Sh := [.ptr 0]
abbrev hs : List (Nat × ESh) := [(0, .cell (.data (.pair .str .bool)))]
abbrev hi : List Nat := hs.map (·.1)
abbrev fi : List Nat := [0]
abbrev cl : List (Place × Nat × Hint) := []
abbrev hn : List Hint := [.any]
def val (t : Bool) : AV := Sh.mk (.data .bool) t
def wr (t : Bool) : Heap := []
def callee (k : Nat) : Callee := sigCallee ps hs (fun (d : (Unit × Unit)) (e : (((List Int) × Bool) × Unit)) => f k e.1) val wr
def E (k : Nat) : Env := ⟨fnTab [], loopTab [], natsTab [], natTab []⟩
theorem fE (k : Nat) : ∀ f, ∀ c ∈ (E k).fn f, CalleeOK Tryd.prog f c := fnTab_ok trivial
theorem run (k : Nat) (d : (Unit × Unit)) (e : (((List Int) × Bool) × Unit)) : runFn Tryd.prog (E k) 11 (bodyOf Tryd.f72) Tryd.f72.results.toList cl hn hi (mkL ps d) (mkH hs e) =
    tree (fun b0 => leafFn hs fi e val wr b0) k e.1 := by kernel_rfl
theorem run_f (k : Nat) (d : (Unit × Unit)) (e : (((List Int) × Bool) × Unit)) : runFn Tryd.prog (E k) 11 (bodyOf Tryd.f72) Tryd.f72.results.toList cl hn hi (mkL ps d) (mkH hs e) = (f k e.1).bind (leafFn hs fi e val wr) :=
  (run k d e).trans (tree_nat (leafFn hs fi e val wr) (fun b0 => some b0) k e.1).symm
theorem fnIs : FnIs Tryd.prog 72 Tryd.f72 (bodyOf Tryd.f72) 11 := ⟨by kernel_rfl, by kernel_rfl, by kernel_rfl, by kernel_rfl⟩
theorem ok (k : Nat) : CalleeOK Tryd.prog 72 (callee k) :=
  callee_sig (T := Bool) fnIs hm (fE k) (loopsOK_of [] (by kernel_rfl) trivial) ps hs cl hn fi (fun (d : (Unit × Unit)) (e : (((List Int) × Bool) × Unit)) => f k e.1) val wr rfl (fun _ => rfl) (run_f k)
end scroll_Eye_Bad
namespace header_Read
def tree {X : Type} (K : T_3d5633 → ((List Int) × Bool) → Option X) (k : Nat) (m0 : ((List Int) × Bool)) : Option X :=
  (Option.bind (scroll_Eye_Get.f k (4 : Int) m0) (fun r1 => (Option.bind (scroll_Eye_Name.f k r1.2) (fun r2 => (Option.bind (scroll_Eye_Name.f k r2.2) (fun r3 => (Option.bind (scroll_Eye_Get.f k (4 : Int) r3.2) (fun r4 => (Option.bind (scroll_Eye_Get.f k (4 : Int) r4.2) (fun r5 => (Option.bind (scroll_Eye_Get.f k (4 : Int) r5.2) (fun r6 => (Option.bind (scroll_Eye_Bad.f k r6.2) (fun r7 => (bif r7 then (K ((0, ([0, 0, 0, 0, 0, 0, 0, 0, 0, 0, 0, 0, 0, 0, 0, 0, 0, 0, 0, 0, 0, 0, 0, 0, 0, 0, 0, 0, 0, 0, 0, 0], ([0, 0, 0, 0, 0, 0, 0, 0, 0, 0, 0, 0, 0, 0, 0, 0, 0, 0, 0, 0, 0, 0, 0, 0, 0, 0, 0, 0, 0, 0, 0, 0], (0, (0, 0))))) : T_3d5633) r6.2) else (K (((IntKind.wrap .i64 (IntKind.wrap .i32 r1.1)), (r2.1, (r3.1, (r4.1, (r5.1, r6.1))))) : T_3d5633) r6.2))))))))))))))))
def f (k : Nat) (m0 : ((List Int) × Bool)) : Option (T_3d5633 × ((List Int) × Bool)) := tree (fun b0 b1 => some (b0, b1)) k m0
theorem tree_nat {X Y : Type} (h : X → Option Y) (K : T_3d5633 → ((List Int) × Bool) → Option X) (k : Nat) (m0 : ((List Int) × Bool)) : Option.bind (tree K k m0) h = tree (fun b0 b1 => Option.bind (K b0 b1) h) k m0 := by
  simp only [tree, bif_bind, sel_bind', Option.bind_assoc, Option.bind_none, Option.bind_some]
abbrev ps : List Sh := [.ptr 0]
abbrev hs : List (Nat × ESh) := [(0, .cell (.data (.pair .str .bool)))]
abbrev hi : List Nat := hs.map (·.1)
abbrev fi : List Nat := [0]
abbrev cl : List (Place × Nat × Hint) := []
abbrev hn : List Hint := [.any]
def val (t : (T_3d5633 × ((List Int) × Bool))) : AV := Sh.mk (.data (.pair (.int .i64) (.pair (.arr .u8 32) (.pair (.arr .u8 32) (.pair (.int .i64) (.pair (.int .i64) (.int .i64))))))) t.1
def wr (t : (T_3d5633 × ((List Int) × Bool))) : Heap := [(0, ESh.mk (.cell (.data (.pair .str .bool))) t.2)]
def callee (k : Nat) : Callee := sigCallee ps hs (fun (d : (Unit × Unit)) (e : (((List Int) × Bool) × Unit)) => f k e.1) val wr
def E (k : Nat) : Env := ⟨fnTab [(70, [scroll_Eye_Get.callee k]), (71, [scroll_Eye_Name.callee k]), (72, [scroll_Eye_Bad.callee k])], loopTab [], natsTab [], natTab []⟩
theorem fE (k : Nat) : ∀ f, ∀ c ∈ (E k).fn f, CalleeOK Tryd.prog f c := fnTab_ok ⟨⟨scroll_Eye_Get.ok k, trivial⟩, ⟨scroll_Eye_Name.ok k, trivial⟩, ⟨scroll_Eye_Bad.ok k, trivial⟩, trivial⟩
theorem run (k : Nat) (d : (Unit × Unit)) (e : (((List Int) × Bool) × Unit)) : runFn Tryd.prog (E k) 25 (bodyOf Tryd.f53) Tryd.f53.results.toList cl hn hi (mkL ps d) (mkH hs e) =
    tree (fun b0 b1 => leafFn hs fi e val wr (b0, b1)) k e.1 := by kernel_rfl
theorem run_f (k : Nat) (d : (Unit × Unit)) (e : (((List Int) × Bool) × Unit)) : runFn Tryd.prog (E k) 25 (bodyOf Tryd.f53) Tryd.f53.results.toList cl hn hi (mkL ps d) (mkH hs e) = (f k e.1).bind (leafFn hs fi e val wr) :=
  (run k d e).trans (tree_nat (leafFn hs fi e val wr) (fun b0 b1 => some (b0, b1)) k e.1).symm
theorem fnIs : FnIs Tryd.prog 53 Tryd.f53 (bodyOf Tryd.f53) 25 := ⟨by kernel_rfl, by kernel_rfl, by kernel_rfl, by kernel_rfl⟩
theorem ok (k : Nat) : CalleeOK Tryd.prog 53 (callee k) :=
  callee_sig (T := (T_3d5633 × ((List Int) × Bool))) fnIs hm (fE k) (loopsOK_of [] (by kernel_rfl) trivial) ps hs cl hn fi (fun (d : (Unit × Unit)) (e : (((List Int) × Bool) × Unit)) => f k e.1) val wr rfl (fun _ => rfl) (run_f k)
end header_Read
namespace scroll_Eye_Done
def tree {X : Type} (K : Bool → Option X) (k : Nat) (m0 : ((List Int) × Bool)) : Option X :=
  (bif (!m0.2) then (K (decide (m0.1 = ([] : (List Int))))) else (K false))
def f (k : Nat) (m0 : ((List Int) × Bool)) : Option Bool := tree (fun b0 => some b0) k m0
theorem tree_nat {X Y : Type} (h : X → Option Y) (K : Bool → Option X) (k : Nat) (m0 : ((List Int) × Bool)) : Option.bind (tree K k m0) h = tree (fun b0 => Option.bind (K b0) h) k m0 := by
  simp only [tree, bif_bind, sel_bind', Option.bind_assoc, Option.bind_none, Option.bind_some]
abbrev ps : List Sh := [.ptr 0]
abbrev hs : List (Nat × ESh) := [(0, .cell (.data (.pair .str .bool)))]
abbrev hi : List Nat := hs.map (·.1)
abbrev fi : List Nat := [0]
abbrev cl : List (Place × Nat × Hint) := []
abbrev hn : List Hint := [.any]
def val (t : Bool) : AV := Sh.mk (.data .bool) t
def wr (t : Bool) : Heap := []
def callee (k : Nat) : Callee := sigCallee ps hs (fun (d : (Unit × Unit)) (e : (((List Int) × Bool) × Unit)) => f k e.1) val wr
def E (k : Nat) : Env := ⟨fnTab [], loopTab [], natsTab [], natTab []⟩
theorem fE (k : Nat) : ∀ f, ∀ c ∈ (E k).fn f, CalleeOK Tryd.prog f c := fnTab_ok trivial
theorem run (k : Nat) (d : (Unit × Unit)) (e : (((List Int) × Bool) × Unit)) : runFn Tryd.prog (E k) 19 (bodyOf Tryd.f68) Tryd.f68.results.toList cl hn hi (mkL ps d) (mkH hs e) =
    tree (fun b0 => leafFn hs fi e val wr b0) k e.1 := by kernel_rfl
theorem run_f (k : Nat) (d : (Unit × Unit)) (e : (((List Int) × Bool) × Unit)) : runFn Tryd.prog (E k) 19 (bodyOf Tryd.f68) Tryd.f68.results.toList cl hn hi (mkL ps d) (mkH hs e) = (f k e.1).bind (leafFn hs fi e val wr) :=
  (run k d e).trans (tree_nat (leafFn hs fi e val wr) (fun b0 => some b0) k e.1).symm
theorem fnIs : FnIs Tryd.prog 68 Tryd.f68 (bodyOf Tryd.f68) 19 := ⟨by kernel_rfl, by kernel_rfl, by kernel_rfl, by kernel_rfl⟩
theorem ok (k : Nat) : CalleeOK Tryd.prog 68 (callee k) :=
  callee_sig (T := Bool) fnIs hm (fE k) (loopsOK_of [] (by kernel_rfl) trivial) ps hs cl hn fi (fun (d : (Unit × Unit)) (e : (((List Int) × Bool) × Unit)) => f k e.1) val wr rfl (fun _ => rfl) (run_f k)
end scroll_Eye_Done
namespace header_Of
def tree {X : Type} (K : T_3d5633 → Int → Option X) (k : Nat) (a0 : (List Int)) : Option X :=
  (Option.bind (scroll_On.f k a0) (fun r1 => (Option.bind (header_Read.f k r1) (fun r2 => (Option.bind (scroll_Eye_Done.f k r2.2) (fun r3 => (bif (!r3) then (K ((0, ([0, 0, 0, 0, 0, 0, 0, 0, 0, 0, 0, 0, 0, 0, 0, 0, 0, 0, 0, 0, 0, 0, 0, 0, 0, 0, 0, 0, 0, 0, 0, 0], ([0, 0, 0, 0, 0, 0, 0, 0, 0, 0, 0, 0, 0, 0, 0, 0, 0, 0, 0, 0, 0, 0, 0, 0, 0, 0, 0, 0, 0, 0, 0, 0], (0, (0, 0))))) : T_3d5633) (4 : Int)) else (K r2.1 (0 : Int)))))))))
def f (k : Nat) (a0 : (List Int)) : Option (T_3d5633 × Int) := tree (fun b0 b1 => some (b0, b1)) k a0
theorem tree_nat {X Y : Type} (h : X → Option Y) (K : T_3d5633 → Int → Option X) (k : Nat) (a0 : (List Int)) : Option.bind (tree K k a0) h = tree (fun b0 b1 => Option.bind (K b0 b1) h) k a0 := by
  simp only [tree, bif_bind, sel_bind', Option.bind_assoc, Option.bind_none, Option.bind_some]
abbrev ps : List Sh := [.data .str]
abbrev hs : List (Nat × ESh) := []
abbrev hi : List Nat := hs.map (·.1)
abbrev fi : List Nat := []
abbrev cl : List (Place × Nat × Hint) := []
abbrev hn : List Hint := [.any, .any]
def val (t : (T_3d5633 × Int)) : AV := .tcons (Sh.mk (.data (.pair (.int .i64) (.pair (.arr .u8 32) (.pair (.arr .u8 32) (.pair (.int .i64) (.pair (.int .i64) (.int .i64))))))) t.1) (.tcons (Sh.mk (.data (.int .i64)) t.2) .tnil)
def wr (t : (T_3d5633 × Int)) : Heap := []
def callee (k : Nat) : Callee := sigCallee ps hs (fun (d : ((List Int) × Unit)) (e : Unit) => f k d.1) val wr
def E (k : Nat) : Env := ⟨fnTab [(52, [scroll_On.callee k]), (53, [header_Read.callee k]), (68, [scroll_Eye_Done.callee k])], loopTab [], natsTab [], natTab []⟩
theorem fE (k : Nat) : ∀ f, ∀ c ∈ (E k).fn f, CalleeOK Tryd.prog f c := fnTab_ok ⟨⟨scroll_On.ok k, trivial⟩, ⟨header_Read.ok k, trivial⟩, ⟨scroll_Eye_Done.ok k, trivial⟩, trivial⟩
theorem run (k : Nat) (d : ((List Int) × Unit)) (e : Unit) : runFn Tryd.prog (E k) 15 (bodyOf Tryd.f47) Tryd.f47.results.toList cl hn hi (mkL ps d) (mkH hs e) =
    tree (fun b0 b1 => leafFn hs fi e val wr (b0, b1)) k d.1 := by kernel_rfl
theorem run_f (k : Nat) (d : ((List Int) × Unit)) (e : Unit) : runFn Tryd.prog (E k) 15 (bodyOf Tryd.f47) Tryd.f47.results.toList cl hn hi (mkL ps d) (mkH hs e) = (f k d.1).bind (leafFn hs fi e val wr) :=
  (run k d e).trans (tree_nat (leafFn hs fi e val wr) (fun b0 b1 => some (b0, b1)) k d.1).symm
theorem fnIs : FnIs Tryd.prog 47 Tryd.f47 (bodyOf Tryd.f47) 15 := ⟨by kernel_rfl, by kernel_rfl, by kernel_rfl, by kernel_rfl⟩
theorem ok (k : Nat) : CalleeOK Tryd.prog 47 (callee k) :=
  callee_sig (T := (T_3d5633 × Int)) fnIs hm (fE k) (loopsOK_of [] (by kernel_rfl) trivial) ps hs cl hn fi (fun (d : ((List Int) × Unit)) (e : Unit) => f k d.1) val wr rfl (fun _ => rfl) (run_f k)
end header_Of
namespace trailheadlaw06_HeaderReads
def tree {X : Type} (K : Bool → Option X) (k : Nat) (a0 : (List Int)) (m0 : (List Int)) (m1 : (List Int)) : Option X :=
  (Option.bind (trailheadlaw06_alive.f k m0 m1) (fun r1 => (bif (!r1) then (K false) else (bif (decide (((List.length a0) : Int) > (300 : Int))) then (K true) else (Option.bind (header_Of.f k a0) (fun r2 => (bif (((List.length a0) : Int) != (80 : Int)) then (bif (r2.2 == (4 : Int)) then (K (eqDen (.pair (.int .i64) (.pair (.arr .u8 32) (.pair (.arr .u8 32) (.pair (.int .i64) (.pair (.int .i64) (.int .i64)))))) r2.1 ((0, ([0, 0, 0, 0, 0, 0, 0, 0, 0, 0, 0, 0, 0, 0, 0, 0, 0, 0, 0, 0, 0, 0, 0, 0, 0, 0, 0, 0, 0, 0, 0, 0], ([0, 0, 0, 0, 0, 0, 0, 0, 0, 0, 0, 0, 0, 0, 0, 0, 0, 0, 0, 0, 0, 0, 0, 0, 0, 0, 0, 0, 0, 0, 0, 0], (0, (0, 0))))) : T_3d5633))) else (K false)) else (bif (r2.2 == (0 : Int)) then (Option.bind (trailheadref06_Good.f k r2.1) (fun r3 => (bif r3 then (Option.bind (trailheadref06_Bytes.f k r2.1) (fun r4 => (K (decide (r4 = a0))))) else (K false)))) else (K false)))))))))
def f (k : Nat) (a0 : (List Int)) (m0 : (List Int)) (m1 : (List Int)) : Option Bool := tree (fun b0 => some b0) k a0 m0 m1
theorem tree_nat {X Y : Type} (h : X → Option Y) (K : Bool → Option X) (k : Nat) (a0 : (List Int)) (m0 : (List Int)) (m1 : (List Int)) : Option.bind (tree K k a0 m0 m1) h = tree (fun b0 => Option.bind (K b0) h) k a0 m0 m1 := by
  simp only [tree, bif_bind, sel_bind', Option.bind_assoc, Option.bind_none, Option.bind_some]
abbrev ps : List Sh := [.data .str]
abbrev hs : List (Nat × ESh) := [(0, .glob 0 (.arr .u32 8)), (1, .glob 1 (.arr .u32 64))]
abbrev hi : List Nat := hs.map (·.1)
abbrev fi : List Nat := [0, 1]
abbrev cl : List (Place × Nat × Hint) := []
abbrev hn : List Hint := [.any]
def val (t : Bool) : AV := Sh.mk (.data .bool) t
def wr (t : Bool) : Heap := []
def callee (k : Nat) : Callee := sigCallee ps hs (fun (d : ((List Int) × Unit)) (e : ((List Int) × (List Int) × Unit)) => f k d.1 e.1 e.2.1) val wr
def E (k : Nat) : Env := ⟨fnTab [(29, [trailheadlaw06_alive.callee k]), (47, [header_Of.callee k]), (30, [trailheadref06_Good.callee k]), (48, [trailheadref06_Bytes.callee k])], loopTab [], natsTab [(29, [0, 1])], natTab [(0, 0), (1, 1)]⟩
theorem fE (k : Nat) : ∀ f, ∀ c ∈ (E k).fn f, CalleeOK Tryd.prog f c := fnTab_ok ⟨⟨trailheadlaw06_alive.ok k, trivial⟩, ⟨header_Of.ok k, trivial⟩, ⟨trailheadref06_Good.ok k, trivial⟩, ⟨trailheadref06_Bytes.ok k, trivial⟩, trivial⟩
theorem run (k : Nat) (d : ((List Int) × Unit)) (e : ((List Int) × (List Int) × Unit)) : runFn Tryd.prog (E k) 37 (bodyOf Tryd.f13) Tryd.f13.results.toList cl hn hi (mkL ps d) (mkH hs e) =
    tree (fun b0 => leafFn hs fi e val wr b0) k d.1 e.1 e.2.1 := by kernel_rfl
theorem run_f (k : Nat) (d : ((List Int) × Unit)) (e : ((List Int) × (List Int) × Unit)) : runFn Tryd.prog (E k) 37 (bodyOf Tryd.f13) Tryd.f13.results.toList cl hn hi (mkL ps d) (mkH hs e) = (f k d.1 e.1 e.2.1).bind (leafFn hs fi e val wr) :=
  (run k d e).trans (tree_nat (leafFn hs fi e val wr) (fun b0 => some b0) k d.1 e.1 e.2.1).symm
theorem fnIs : FnIs Tryd.prog 13 Tryd.f13 (bodyOf Tryd.f13) 37 := ⟨by kernel_rfl, by kernel_rfl, by kernel_rfl, by kernel_rfl⟩
theorem ok (k : Nat) : CalleeOK Tryd.prog 13 (callee k) :=
  callee_sig (T := Bool) fnIs hm (fE k) (loopsOK_of [] (by kernel_rfl) trivial) ps hs cl hn fi (fun (d : ((List Int) × Unit)) (e : ((List Int) × (List Int) × Unit)) => f k d.1 e.1 e.2.1) val wr rfl (fun _ => rfl) (run_f k)
end trailheadlaw06_HeaderReads
namespace scroll_Eye_Left
def tree {X : Type} (K : Int → Option X) (k : Nat) (m0 : ((List Int) × Bool)) : Option X :=
  (K ((List.length m0.1) : Int))
def f (k : Nat) (m0 : ((List Int) × Bool)) : Option Int := tree (fun b0 => some b0) k m0
theorem tree_nat {X Y : Type} (h : X → Option Y) (K : Int → Option X) (k : Nat) (m0 : ((List Int) × Bool)) : Option.bind (tree K k m0) h = tree (fun b0 => Option.bind (K b0) h) k m0 := by
  simp only [tree, bif_bind, sel_bind', Option.bind_assoc, Option.bind_none, Option.bind_some]
abbrev ps : List Sh := [.ptr 0]
abbrev hs : List (Nat × ESh) := [(0, .cell (.data (.pair .str .bool)))]
abbrev hi : List Nat := hs.map (·.1)
abbrev fi : List Nat := [0]
abbrev cl : List (Place × Nat × Hint) := []
abbrev hn : List Hint := [.any]
def val (t : Int) : AV := Sh.mk (.data (.int .i64)) t
def wr (t : Int) : Heap := []
def callee (k : Nat) : Callee := sigCallee ps hs (fun (d : (Unit × Unit)) (e : (((List Int) × Bool) × Unit)) => f k e.1) val wr
def E (k : Nat) : Env := ⟨fnTab [], loopTab [], natsTab [], natTab []⟩
theorem fE (k : Nat) : ∀ f, ∀ c ∈ (E k).fn f, CalleeOK Tryd.prog f c := fnTab_ok trivial
theorem run (k : Nat) (d : (Unit × Unit)) (e : (((List Int) × Bool) × Unit)) : runFn Tryd.prog (E k) 10 (bodyOf Tryd.f54) Tryd.f54.results.toList cl hn hi (mkL ps d) (mkH hs e) =
    tree (fun b0 => leafFn hs fi e val wr b0) k e.1 := by kernel_rfl
theorem run_f (k : Nat) (d : (Unit × Unit)) (e : (((List Int) × Bool) × Unit)) : runFn Tryd.prog (E k) 10 (bodyOf Tryd.f54) Tryd.f54.results.toList cl hn hi (mkL ps d) (mkH hs e) = (f k e.1).bind (leafFn hs fi e val wr) :=
  (run k d e).trans (tree_nat (leafFn hs fi e val wr) (fun b0 => some b0) k e.1).symm
theorem fnIs : FnIs Tryd.prog 54 Tryd.f54 (bodyOf Tryd.f54) 10 := ⟨by kernel_rfl, by kernel_rfl, by kernel_rfl, by kernel_rfl⟩
theorem ok (k : Nat) : CalleeOK Tryd.prog 54 (callee k) :=
  callee_sig (T := Int) fnIs hm (fE k) (loopsOK_of [] (by kernel_rfl) trivial) ps hs cl hn fi (fun (d : (Unit × Unit)) (e : (((List Int) × Bool) × Unit)) => f k e.1) val wr rfl (fun _ => rfl) (run_f k)
end scroll_Eye_Left
namespace trailheadlaw06_HeaderBytes
def tree {X : Type} (K : Bool → Option X) (k : Nat) (a0 : T_3d5633) (a1 : (List Int)) (m0 : (List Int)) (m1 : (List Int)) : Option X :=
  (Option.bind (trailheadlaw06_alive.f k m0 m1) (fun r1 => (bif (!r1) then (K false) else (bif (decide (((List.length a1) : Int) > (100 : Int))) then (K true) else (Option.bind (trailheadref06_Good.f k a0) (fun r2 => (Option.bind (header_Bytes.f k a0) (fun r3 => (Option.bind (header_Write.f k a0) (fun r4 => (Option.bind (header_Good.f k a0) (fun r5 => (bif (!(r5 == r2)) then (K false) else (Option.bind (header_Id.f k a0 m0 m1) (fun r6 => (Option.bind (trailheadref06_Id.f k a0) (fun r7 => (bif (!(decide (r6 = r7))) then (K false) else (bif (!r2) then (bif (r3.2 == (1 : Int)) then (bif (decide (r3.1 = ([] : (List Int)))) then (Option.bind (scroll_Pen_Text.f k r4) (fun r8 => (Option.bind (trailheadref06_Bytes.f k ((0, ([0, 0, 0, 0, 0, 0, 0, 0, 0, 0, 0, 0, 0, 0, 0, 0, 0, 0, 0, 0, 0, 0, 0, 0, 0, 0, 0, 0, 0, 0, 0, 0], ([0, 0, 0, 0, 0, 0, 0, 0, 0, 0, 0, 0, 0, 0, 0, 0, 0, 0, 0, 0, 0, 0, 0, 0, 0, 0, 0, 0, 0, 0, 0, 0], (0, (0, 0))))) : T_3d5633)) (fun r9 => (K (decide (r8 = r9))))))) else (K false)) else (K false)) else (Option.bind (header_Of.f k r3.1) (fun r10 => (bif (fits ((List.length r3.1) + (List.length a1))) then (Option.bind (scroll_On.f k (r3.1 ++ a1)) (fun r11 => (Option.bind (header_Read.f k r11) (fun r12 => (bif (r3.2 == (0 : Int)) then (Option.bind (trailheadref06_Bytes.f k a0) (fun r13 => (bif (decide (r3.1 = r13)) then (Option.bind (scroll_Pen_Text.f k r4) (fun r14 => (bif (decide (r14 = r3.1)) then (bif (r10.2 == (0 : Int)) then (bif (eqDen (.pair (.int .i64) (.pair (.arr .u8 32) (.pair (.arr .u8 32) (.pair (.int .i64) (.pair (.int .i64) (.int .i64)))))) r10.1 a0) then (bif (eqDen (.pair (.int .i64) (.pair (.arr .u8 32) (.pair (.arr .u8 32) (.pair (.int .i64) (.pair (.int .i64) (.int .i64)))))) r12.1 a0) then (Option.bind (scroll_Eye_Left.f k r12.2) (fun r15 => (K (r15 == ((List.length a1) : Int))))) else (K false)) else (K false)) else (K false)) else (K false)))) else (K false)))) else (K false)))))) else none))))))))))))))))))))))
def f (k : Nat) (a0 : T_3d5633) (a1 : (List Int)) (m0 : (List Int)) (m1 : (List Int)) : Option Bool := tree (fun b0 => some b0) k a0 a1 m0 m1
theorem tree_nat {X Y : Type} (h : X → Option Y) (K : Bool → Option X) (k : Nat) (a0 : T_3d5633) (a1 : (List Int)) (m0 : (List Int)) (m1 : (List Int)) : Option.bind (tree K k a0 a1 m0 m1) h = tree (fun b0 => Option.bind (K b0) h) k a0 a1 m0 m1 := by
  simp only [tree, bif_bind, sel_bind', Option.bind_assoc, Option.bind_none, Option.bind_some]
abbrev ps : List Sh := [.data (.pair (.int .i64) (.pair (.arr .u8 32) (.pair (.arr .u8 32) (.pair (.int .i64) (.pair (.int .i64) (.int .i64)))))), .data .str]
abbrev hs : List (Nat × ESh) := [(0, .glob 0 (.arr .u32 8)), (1, .glob 1 (.arr .u32 64))]
abbrev hi : List Nat := hs.map (·.1)
abbrev fi : List Nat := [0, 1]
abbrev cl : List (Place × Nat × Hint) := []
abbrev hn : List Hint := [.any]
def val (t : Bool) : AV := Sh.mk (.data .bool) t
def wr (t : Bool) : Heap := []
def callee (k : Nat) : Callee := sigCallee ps hs (fun (d : (T_3d5633 × (List Int) × Unit)) (e : ((List Int) × (List Int) × Unit)) => f k d.1 d.2.1 e.1 e.2.1) val wr
def E (k : Nat) : Env := ⟨fnTab [(29, [trailheadlaw06_alive.callee k]), (30, [trailheadref06_Good.callee k]), (31, [header_Bytes.callee k]), (49, [header_Write.callee k]), (50, [header_Good.callee k]), (32, [header_Id.callee k]), (33, [trailheadref06_Id.callee k]), (51, [scroll_Pen_Text.callee k]), (48, [trailheadref06_Bytes.callee k]), (47, [header_Of.callee k]), (52, [scroll_On.callee k]), (53, [header_Read.callee k]), (54, [scroll_Eye_Left.callee k])], loopTab [], natsTab [(29, [0, 1]), (32, [0, 1])], natTab [(0, 0), (1, 1)]⟩
theorem fE (k : Nat) : ∀ f, ∀ c ∈ (E k).fn f, CalleeOK Tryd.prog f c := fnTab_ok ⟨⟨trailheadlaw06_alive.ok k, trivial⟩, ⟨trailheadref06_Good.ok k, trivial⟩, ⟨header_Bytes.ok k, trivial⟩, ⟨header_Write.ok k, trivial⟩, ⟨header_Good.ok k, trivial⟩, ⟨header_Id.ok k, trivial⟩, ⟨trailheadref06_Id.ok k, trivial⟩, ⟨scroll_Pen_Text.ok k, trivial⟩, ⟨trailheadref06_Bytes.ok k, trivial⟩, ⟨header_Of.ok k, trivial⟩, ⟨scroll_On.ok k, trivial⟩, ⟨header_Read.ok k, trivial⟩, ⟨scroll_Eye_Left.ok k, trivial⟩, trivial⟩
theorem run (k : Nat) (d : (T_3d5633 × (List Int) × Unit)) (e : ((List Int) × (List Int) × Unit)) : runFn Tryd.prog (E k) 102 (bodyOf Tryd.f15) Tryd.f15.results.toList cl hn hi (mkL ps d) (mkH hs e) =
    tree (fun b0 => leafFn hs fi e val wr b0) k d.1 d.2.1 e.1 e.2.1 := by kernel_rfl
theorem run_f (k : Nat) (d : (T_3d5633 × (List Int) × Unit)) (e : ((List Int) × (List Int) × Unit)) : runFn Tryd.prog (E k) 102 (bodyOf Tryd.f15) Tryd.f15.results.toList cl hn hi (mkL ps d) (mkH hs e) = (f k d.1 d.2.1 e.1 e.2.1).bind (leafFn hs fi e val wr) :=
  (run k d e).trans (tree_nat (leafFn hs fi e val wr) (fun b0 => some b0) k d.1 d.2.1 e.1 e.2.1).symm
theorem fnIs : FnIs Tryd.prog 15 Tryd.f15 (bodyOf Tryd.f15) 102 := ⟨by kernel_rfl, by kernel_rfl, by kernel_rfl, by kernel_rfl⟩
theorem ok (k : Nat) : CalleeOK Tryd.prog 15 (callee k) :=
  callee_sig (T := Bool) fnIs hm (fE k) (loopsOK_of [] (by kernel_rfl) trivial) ps hs cl hn fi (fun (d : (T_3d5633 × (List Int) × Unit)) (e : ((List Int) × (List Int) × Unit)) => f k d.1 d.2.1 e.1 e.2.1) val wr rfl (fun _ => rfl) (run_f k)
end trailheadlaw06_HeaderBytes
end Go.Proofs.YtnnajeoeeefjaaaDoor.Sy
