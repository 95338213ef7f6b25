/- What the Go functions come to, on data: printed by sypr.py. -/
import Derived.Test.YtnnajeoeeefjaaaDoorSy18
import Derived.Test.YtnnajeoeeefjaaaDoorProg
import Derived.Test.YtnnajeoeeefjaaaDoorWB
namespace Go.Proofs.YtnnajeoeeefjaaaDoor.Sy
open Go Go.Proofs
set_option maxRecDepth 100000
set_option linter.unusedVariables false
set_option linter.unusedSimpArgs false
namespace whole_Of
def tree {X : Type} (K : (List Int) → Option X) (k : Nat) (a0 : Int) : Option X :=
  (K ([a0, 0, 0, 0] : (List Int)))
def f (k : Nat) (a0 : Int) : Option (List Int) := tree (fun b0 => some b0) k a0
theorem tree_nat {X Y : Type} (h : X → Option Y) (K : (List Int) → Option X) (k : Nat) (a0 : Int) : Option.bind (tree K k a0) h = tree (fun b0 => Option.bind (K b0) h) k a0 := by
  simp only [tree, bif_bind, sel_bind', Option.bind_assoc, Option.bind_none, Option.bind_some]
abbrev ps : List Sh := [.data (.int .u64)]
abbrev hs : List (Nat × ESh) := []
abbrev hi : List Nat := hs.map (·.1)
abbrev fi : List Nat := []
abbrev cl : List (Place × Nat × Hint) := []
abbrev hn : List Hint := [.any]
def val (t : (List Int)) : AV := Sh.mk (.data (.arr .u64 4)) t
def wr (t : (List Int)) : Heap := []
def callee (k : Nat) : Callee := sigCallee ps hs (fun (d : (Int × Unit)) (e : Unit) => f k d.1) val wr
def E (k : Nat) : Env := ⟨fnTab [], loopTab [], natsTab [], natTab []⟩
theorem fE (k : Nat) : ∀ f, ∀ c ∈ (E k).fn f, CalleeOK Tryd.prog f c := fnTab_ok trivial
theorem run (k : Nat) (d : (Int × Unit)) (e : Unit) : runFn Tryd.prog (E k) 5 (bodyOf Tryd.f79) Tryd.f79.results.toList cl hn hi (mkL ps d) (mkH hs e) =
    tree (fun b0 => leafFn hs fi e val wr b0) k d.1 := by kernel_rfl
theorem run_f (k : Nat) (d : (Int × Unit)) (e : Unit) : runFn Tryd.prog (E k) 5 (bodyOf Tryd.f79) Tryd.f79.results.toList cl hn hi (mkL ps d) (mkH hs e) = (f k d.1).bind (leafFn hs fi e val wr) :=
  (run k d e).trans (tree_nat (leafFn hs fi e val wr) (fun b0 => some b0) k d.1).symm
theorem fnIs : FnIs Tryd.prog 79 Tryd.f79 (bodyOf Tryd.f79) 5 := ⟨by kernel_rfl, by kernel_rfl, by kernel_rfl, by kernel_rfl⟩
theorem ok (k : Nat) : CalleeOK Tryd.prog 79 (callee k) :=
  callee_sig (T := (List Int)) fnIs hm (fE k) (loopsOK_of [] (by kernel_rfl) trivial) ps hs cl hn fi (fun (d : (Int × Unit)) (e : Unit) => f k d.1) val wr rfl (fun _ => rfl) (run_f k)
end whole_Of
namespace whole_Down
namespace l0
def step {X : Type} (K : Int → (List Int) → Option X) (G : Int → (List Int) → Option X) (k : Nat) (x6 : Int) (x7 : Int) (x19 : Int) (y800000 : (List Int)) (y800001 : (List Int)) (x20 : Int) (y800002 : (List Int)) : Option X :=
  (bif (decide (x20 < x19)) then (bif (decide (0 ≤ (addI .i64 x20 x6))) then (bif (decide ((addI .i64 x20 x6) < 4)) then (bif (decide ((Int.toNat (addI .i64 x20 x6)) < 4)) then (bif (decide (x7 < 0)) then none else (bif (decide (0 ≤ x20)) then (bif (decide (x20 < 4)) then (bif (decide ((Int.toNat x20) < 4)) then (bif (decide ((addI .i64 (addI .i64 x20 x6) 1) < (4 : Int))) then (bif (decide (0 ≤ x20)) then (bif (decide (x20 < 4)) then (bif (decide ((Int.toNat x20) < 4)) then (bif (decide (0 ≤ (addI .i64 (addI .i64 x20 x6) 1))) then (bif (decide ((addI .i64 (addI .i64 x20 x6) 1) < 4)) then (bif (decide ((Int.toNat (addI .i64 (addI .i64 x20 x6) 1)) < 4)) then (bif (decide ((subI .i64 64 x7) < 0)) then none else (bif (decide (0 ≤ x20)) then (bif (decide (x20 < 4)) then (bif (decide ((Int.toNat x20) < 4)) then (G (addI .i64 x20 1) (List.set (List.set y800002 (Int.toNat x20) (shrI .u64 (List.getD y800000 (Int.toNat (addI .i64 x20 x6)) 0) x7)) (Int.toNat x20) (orI .u64 (List.getD (List.set y800002 (Int.toNat x20) (shrI .u64 (List.getD y800000 (Int.toNat (addI .i64 x20 x6)) 0) x7)) (Int.toNat x20) 0) (shlI .u64 (List.getD y800000 (Int.toNat (addI .i64 (addI .i64 x20 x6) 1)) 0) (subI .i64 64 x7))))) else none) else none) else none)) else none) else none) else none) else none) else none) else none) else (G (addI .i64 x20 1) (List.set y800002 (Int.toNat x20) (shrI .u64 (List.getD y800000 (Int.toNat (addI .i64 x20 x6)) 0) x7)))) else none) else none) else none)) else none) else none) else none) else (K x20 y800002))
def go {X : Type} (K : Int → (List Int) → Option X) (k : Nat) (x6 : Int) (x7 : Int) (x19 : Int) (y800000 : (List Int)) (y800001 : (List Int)) : Nat → Int → (List Int) → Option X
  | 0, _, _ => none
  | n + 1, x20, y800002 => step K (go K k x6 x7 x19 y800000 y800001 n) k x6 x7 x19 y800000 y800001 x20 y800002
def f (k : Nat) (x6 : Int) (x7 : Int) (x19 : Int) (y800000 : (List Int)) (y800001 : (List Int)) (n : Nat) (x20 : Int) (y800002 : (List Int)) : Option (Int × (List Int)) := go (fun x20 y800002 => some (x20, y800002)) k x6 x7 x19 y800000 y800001 n x20 y800002
theorem step_nat {X Y : Type} (h : X → Option Y) (K : Int → (List Int) → Option X) (G : Int → (List Int) → Option X) (k : Nat) (x6 : Int) (x7 : Int) (x19 : Int) (y800000 : (List Int)) (y800001 : (List Int)) (x20 : Int) (y800002 : (List Int)) : Option.bind (step K G k x6 x7 x19 y800000 y800001 x20 y800002) h = step (fun x20 y800002 => Option.bind (K x20 y800002) h) (fun x20 y800002 => Option.bind (G x20 y800002) h) k x6 x7 x19 y800000 y800001 x20 y800002 := by
  simp only [step, bif_bind, sel_bind', Option.bind_assoc, Option.bind_none, Option.bind_some]
theorem go_nat {X Y : Type} (h : X → Option Y) (K : Int → (List Int) → Option X) (k : Nat) (x6 : Int) (x7 : Int) (x19 : Int) (y800000 : (List Int)) (y800001 : (List Int)) (n : Nat) : ∀ (x20 : Int) (y800002 : (List Int)), Option.bind (go K k x6 x7 x19 y800000 y800001 n x20 y800002) h = go (fun x20 y800002 => Option.bind (K x20 y800002) h) k x6 x7 x19 y800000 y800001 n x20 y800002 := by
  induction n with
  | zero => intros; rfl
  | succ n ih => intro x20 y800002; show Option.bind (step K (go K k x6 x7 x19 y800000 y800001 n) k x6 x7 x19 y800000 y800001 x20 y800002) h = step (fun x20 y800002 => Option.bind (K x20 y800002) h) (go (fun x20 y800002 => Option.bind (K x20 y800002) h) k x6 x7 x19 y800000 y800001 n) k x6 x7 x19 y800000 y800001 x20 y800002; rw [step_nat h]; simp only [ih]
abbrev S : List (Nat × Sh) := [(2, .ptr 800000), (4, .ptr 800001), (5, .ptr 800002), (6, .data (.int .i64)), (7, .data (.int .i64)), (19, .data (.int .i64)), (20, .data (.int .i64))]
abbrev H : List (Nat × ESh) := [(800000, .cell (.data (.arr .u64 4))), (800001, .cell (.data (.arr .u64 4))), (800002, .cell (.data (.arr .u64 4)))]
abbrev cl : List (Place × Nat × Hint) := []
abbrev hn : List (Nat × Hint) := [(2, .any), (4, .any), (5, .any), (6, .any), (7, .any), (19, .any), (20, .any)]
abbrev kp : List Nat := []
abbrev rc : List (Place × Nat × Hint) := []
abbrev rs : List (Nat × Hint) := []
abbrev ri : List Nat := []
def KX (d : (Unit × Unit × Unit × Int × Int × Int × Int × Unit)) (e : ((List Int) × (List Int) × (List Int) × Unit)) (v : (Int × (List Int))) : St := ⟨mkS S ((), (), (), d.2.2.2.1, d.2.2.2.2.1, d.2.2.2.2.2.1, v.1, ()), mkH H (e.1, e.2.1, v.2, ())⟩
def sum (k : Nat) : LoopSum := sigLoopX S cl hn kp H 0 (fun (d : (Unit × Unit × Unit × Int × Int × Int × Int × Unit)) (e : ((List Int) × (List Int) × (List Int) × Unit)) => f k d.2.2.2.1 d.2.2.2.2.1 d.2.2.2.2.2.1 e.1 e.2.1 k d.2.2.2.2.2.2.1 e.2.2.1) KX
end l0
def tree {X : Type} (K : (List Int) → Option X) (k : Nat) (a0 : (List Int)) (a1 : Int) : Option X :=
  (bif (decide (a1 ≥ (256 : Int))) then (K ([0, 0, 0, 0] : (List Int))) else (Option.bind (whole_Down.l0.f k (quoI .i64 (mxI a1 0) 64) (remI (mxI a1 0) 64) (subI .i64 4 (quoI .i64 (mxI a1 0) 64)) a0 ([0, 0, 0, 0] : (List Int)) k (0 : Int) ([0, 0, 0, 0] : (List Int))) (fun r1 => (K r1.2))))
def f (k : Nat) (a0 : (List Int)) (a1 : Int) : Option (List Int) := tree (fun b0 => some b0) k a0 a1
theorem tree_nat {X Y : Type} (h : X → Option Y) (K : (List Int) → Option X) (k : Nat) (a0 : (List Int)) (a1 : Int) : Option.bind (tree K k a0 a1) h = tree (fun b0 => Option.bind (K b0) h) k a0 a1 := by
  simp only [tree, bif_bind, sel_bind', Option.bind_assoc, Option.bind_none, Option.bind_some]
abbrev ps : List Sh := [.data (.arr .u64 4), .data (.int .i64)]
abbrev hs : List (Nat × ESh) := []
abbrev hi : List Nat := hs.map (·.1)
abbrev fi : List Nat := []
abbrev cl : List (Place × Nat × Hint) := []
abbrev hn : List Hint := [.any]
def val (t : (List Int)) : AV := Sh.mk (.data (.arr .u64 4)) t
def wr (t : (List Int)) : Heap := []
def callee (k : Nat) : Callee := sigCallee ps hs (fun (d : ((List Int) × Int × Unit)) (e : Unit) => f k d.1 d.2.1) val wr
def E (k : Nat) : Env := ⟨fnTab [], loopTab [(0, l0.sum k)], natsTab [], natTab []⟩
theorem fE (k : Nat) : ∀ f, ∀ c ∈ (E k).fn f, CalleeOK Tryd.prog f c := fnTab_ok trivial
namespace l0
theorem round (k : Nat) (d : (Unit × Unit × Unit × Int × Int × Int × Int × Unit)) (e : ((List Int) × (List Int) × (List Int) × Unit)) (G : St → Option (Ex × St)) : roundK Tryd.prog (E k) 53 0 (subC (bodyOf Tryd.f80) [1, 1, 1, 1, 0, 1, 0, 0]) (recast cl hn kp) (finBy cl hn kp rc rs ri) G ⟨mkS S d, mkH H e⟩ =
    step (fun x20 y800002 => some (.exit 0, KX d e (x20, y800002))) (fun x20 y800002 => G ⟨mkS S ((), (), (), d.2.2.2.1, d.2.2.2.2.1, d.2.2.2.2.2.1, x20, ()), mkH H (e.1, e.2.1, y800002, ())⟩) k d.2.2.2.1 d.2.2.2.2.1 d.2.2.2.2.2.1 e.1 e.2.1 d.2.2.2.2.2.2.1 e.2.2.1 := by kernel_rfl
theorem it (k n : Nat) (d : (Unit × Unit × Unit × Int × Int × Int × Int × Unit)) (e : ((List Int) × (List Int) × (List Int) × Unit)) : loopIt Tryd.prog (E k) 53 0 (subC (bodyOf Tryd.f80) [1, 1, 1, 1, 0, 1, 0, 0]) (recast cl hn kp) (finBy cl hn kp rc rs ri) n ⟨mkS S d, mkH H e⟩ = go (fun x20 y800002 => some (.exit 0, KX d e (x20, y800002))) k d.2.2.2.1 d.2.2.2.2.1 d.2.2.2.2.2.1 e.1 e.2.1 n d.2.2.2.2.2.2.1 e.2.2.1 :=
  loopIt_eq (D := (Unit × Unit × Unit × Int × Int × Int × Int × Unit) × ((List Int) × (List Int) × (List Int) × Unit)) (fun p => ⟨mkS S p.1, mkH H p.2⟩) (fun F p => step (fun x20 y800002 => some (.exit 0, KX p.1 p.2 (x20, y800002))) (fun x20 y800002 => F (((), (), (), p.1.2.2.2.1, p.1.2.2.2.2.1, p.1.2.2.2.2.2.1, x20, ()), (p.2.1, p.2.2.1, y800002, ()))) k p.1.2.2.2.1 p.1.2.2.2.2.1 p.1.2.2.2.2.2.1 p.2.1 p.2.2.1 p.1.2.2.2.2.2.2.1 p.2.2.2.1) (fun n p => go (fun x20 y800002 => some (.exit 0, KX p.1 p.2 (x20, y800002))) k p.1.2.2.2.1 p.1.2.2.2.2.1 p.1.2.2.2.2.2.1 p.2.1 p.2.2.1 n p.1.2.2.2.2.2.2.1 p.2.2.2.1) (fun _ => rfl) (fun _ _ => rfl) (fun G p => round k p.1 p.2 G) n (d, e)
theorem ok (k : Nat) : LoopOK Tryd.prog 53 (subC (bodyOf Tryd.f80) [1, 1, 1, 1, 0, 1, 0, 0]) (sum k) :=
  loop_sigX hm (fE k) (loopsOK_of [] (by kernel_rfl) trivial) S cl hn kp H 0 (fun (d : (Unit × Unit × Unit × Int × Int × Int × Int × Unit)) (e : ((List Int) × (List Int) × (List Int) × Unit)) => f k d.2.2.2.1 d.2.2.2.2.1 d.2.2.2.2.2.1 e.1 e.2.1 k d.2.2.2.2.2.2.1 e.2.2.1) KX cl hn kp rc rs ri k
    (fun d e => (it k k d e).trans (go_nat (fun v => some (Ex.exit 0, KX d e v)) (fun x20 y800002 => some (x20, y800002)) k d.2.2.2.1 d.2.2.2.2.1 d.2.2.2.2.2.1 e.1 e.2.1 k d.2.2.2.2.2.2.1 e.2.2.1).symm)
end l0
theorem run (k : Nat) (d : ((List Int) × Int × Unit)) (e : Unit) : runFn Tryd.prog (E k) 53 (bodyOf Tryd.f80) Tryd.f80.results.toList cl hn hi (mkL ps d) (mkH hs e) =
    tree (fun b0 => leafFn hs fi e val wr b0) k d.1 d.2.1 := by kernel_rfl
theorem run_f (k : Nat) (d : ((List Int) × Int × Unit)) (e : Unit) : runFn Tryd.prog (E k) 53 (bodyOf Tryd.f80) Tryd.f80.results.toList cl hn hi (mkL ps d) (mkH hs e) = (f k d.1 d.2.1).bind (leafFn hs fi e val wr) :=
  (run k d e).trans (tree_nat (leafFn hs fi e val wr) (fun b0 => some b0) k d.1 d.2.1).symm
theorem fnIs : FnIs Tryd.prog 80 Tryd.f80 (bodyOf Tryd.f80) 53 := ⟨by kernel_rfl, by kernel_rfl, by kernel_rfl, by kernel_rfl⟩
theorem ok (k : Nat) : CalleeOK Tryd.prog 80 (callee k) :=
  callee_sig (T := (List Int)) fnIs hm (fE k) (loopsOK_of [(0, subC (bodyOf Tryd.f80) [1, 1, 1, 1, 0, 1, 0, 0])] (by kernel_rfl) ⟨of_loop (l0.sum k) rfl (l0.ok k), trivial⟩) ps hs cl hn fi (fun (d : ((List Int) × Int × Unit)) (e : Unit) => f k d.1 d.2.1) val wr rfl (fun _ => rfl) (run_f k)
end whole_Down
namespace whole_Up
namespace l0
def step {X : Type} (K : Int → (List Int) → Option X) (G : Int → (List Int) → Option X) (k : Nat) (x6 : Int) (x7 : Int) (y800000 : (List Int)) (y800001 : (List Int)) (x8 : Int) (y800002 : (List Int)) : Option X :=
  (bif (decide (x8 < (4 : Int))) then (bif (decide (0 ≤ (subI .i64 x8 x6))) then (bif (decide ((subI .i64 x8 x6) < 4)) then (bif (decide ((Int.toNat (subI .i64 x8 x6)) < 4)) then (bif (decide (x7 < 0)) then none else (bif (decide (0 ≤ x8)) then (bif (decide (x8 < 4)) then (bif (decide ((Int.toNat x8) < 4)) then (bif (decide (x8 > x6)) then (bif (decide (0 ≤ x8)) then (bif (decide (x8 < 4)) then (bif (decide ((Int.toNat x8) < 4)) then (bif (decide (0 ≤ (subI .i64 (subI .i64 x8 x6) 1))) then (bif (decide ((subI .i64 (subI .i64 x8 x6) 1) < 4)) then (bif (decide ((Int.toNat (subI .i64 (subI .i64 x8 x6) 1)) < 4)) then (bif (decide ((subI .i64 64 x7) < 0)) then none else (bif (decide (0 ≤ x8)) then (bif (decide (x8 < 4)) then (bif (decide ((Int.toNat x8) < 4)) then (G (addI .i64 x8 1) (List.set (List.set y800002 (Int.toNat x8) (shlI .u64 (List.getD y800000 (Int.toNat (subI .i64 x8 x6)) 0) x7)) (Int.toNat x8) (orI .u64 (List.getD (List.set y800002 (Int.toNat x8) (shlI .u64 (List.getD y800000 (Int.toNat (subI .i64 x8 x6)) 0) x7)) (Int.toNat x8) 0) (shrI .u64 (List.getD y800000 (Int.toNat (subI .i64 (subI .i64 x8 x6) 1)) 0) (subI .i64 64 x7))))) else none) else none) else none)) else none) else none) else none) else none) else none) else none) else (G (addI .i64 x8 1) (List.set y800002 (Int.toNat x8) (shlI .u64 (List.getD y800000 (Int.toNat (subI .i64 x8 x6)) 0) x7)))) else none) else none) else none)) else none) else none) else none) else (K x8 y800002))
def go {X : Type} (K : Int → (List Int) → Option X) (k : Nat) (x6 : Int) (x7 : Int) (y800000 : (List Int)) (y800001 : (List Int)) : Nat → Int → (List Int) → Option X
  | 0, _, _ => none
  | n + 1, x8, y800002 => step K (go K k x6 x7 y800000 y800001 n) k x6 x7 y800000 y800001 x8 y800002
def f (k : Nat) (x6 : Int) (x7 : Int) (y800000 : (List Int)) (y800001 : (List Int)) (n : Nat) (x8 : Int) (y800002 : (List Int)) : Option (Int × (List Int)) := go (fun x8 y800002 => some (x8, y800002)) k x6 x7 y800000 y800001 n x8 y800002
theorem step_nat {X Y : Type} (h : X → Option Y) (K : Int → (List Int) → Option X) (G : Int → (List Int) → Option X) (k : Nat) (x6 : Int) (x7 : Int) (y800000 : (List Int)) (y800001 : (List Int)) (x8 : Int) (y800002 : (List Int)) : Option.bind (step K G k x6 x7 y800000 y800001 x8 y800002) h = step (fun x8 y800002 => Option.bind (K x8 y800002) h) (fun x8 y800002 => Option.bind (G x8 y800002) h) k x6 x7 y800000 y800001 x8 y800002 := by
  simp only [step, bif_bind, sel_bind', Option.bind_assoc, Option.bind_none, Option.bind_some]
theorem go_nat {X Y : Type} (h : X → Option Y) (K : Int → (List Int) → Option X) (k : Nat) (x6 : Int) (x7 : Int) (y800000 : (List Int)) (y800001 : (List Int)) (n : Nat) : ∀ (x8 : Int) (y800002 : (List Int)), Option.bind (go K k x6 x7 y800000 y800001 n x8 y800002) h = go (fun x8 y800002 => Option.bind (K x8 y800002) h) k x6 x7 y800000 y800001 n x8 y800002 := by
  induction n with
  | zero => intros; rfl
  | succ n ih => intro x8 y800002; show Option.bind (step K (go K k x6 x7 y800000 y800001 n) k x6 x7 y800000 y800001 x8 y800002) h = step (fun x8 y800002 => Option.bind (K x8 y800002) h) (go (fun x8 y800002 => Option.bind (K x8 y800002) h) k x6 x7 y800000 y800001 n) k x6 x7 y800000 y800001 x8 y800002; rw [step_nat h]; simp only [ih]
abbrev S : List (Nat × Sh) := [(2, .ptr 800000), (4, .ptr 800001), (5, .ptr 800002), (6, .data (.int .i64)), (7, .data (.int .i64)), (8, .data (.int .i64))]
abbrev H : List (Nat × ESh) := [(800000, .cell (.data (.arr .u64 4))), (800001, .cell (.data (.arr .u64 4))), (800002, .cell (.data (.arr .u64 4)))]
abbrev cl : List (Place × Nat × Hint) := []
abbrev hn : List (Nat × Hint) := [(2, .any), (4, .any), (5, .any), (6, .any), (7, .any), (8, .any)]
abbrev kp : List Nat := []
abbrev rc : List (Place × Nat × Hint) := []
abbrev rs : List (Nat × Hint) := []
abbrev ri : List Nat := []
def KX (d : (Unit × Unit × Unit × Int × Int × Int × Unit)) (e : ((List Int) × (List Int) × (List Int) × Unit)) (v : (Int × (List Int))) : St := ⟨mkS S ((), (), (), d.2.2.2.1, d.2.2.2.2.1, v.1, ()), mkH H (e.1, e.2.1, v.2, ())⟩
def sum (k : Nat) : LoopSum := sigLoopX S cl hn kp H 0 (fun (d : (Unit × Unit × Unit × Int × Int × Int × Unit)) (e : ((List Int) × (List Int) × (List Int) × Unit)) => f k d.2.2.2.1 d.2.2.2.2.1 e.1 e.2.1 k d.2.2.2.2.2.1 e.2.2.1) KX
end l0
def tree {X : Type} (K : (List Int) → Option X) (k : Nat) (a0 : (List Int)) (a1 : Int) : Option X :=
  (bif (decide (a1 ≥ (256 : Int))) then (K ([0, 0, 0, 0] : (List Int))) else (Option.bind (whole_Up.l0.f k (quoI .i64 (mxI a1 0) 64) (remI (mxI a1 0) 64) a0 ([0, 0, 0, 0] : (List Int)) k (quoI .i64 (mxI a1 0) 64) ([0, 0, 0, 0] : (List Int))) (fun r1 => (K r1.2))))
def f (k : Nat) (a0 : (List Int)) (a1 : Int) : Option (List Int) := tree (fun b0 => some b0) k a0 a1
theorem tree_nat {X Y : Type} (h : X → Option Y) (K : (List Int) → Option X) (k : Nat) (a0 : (List Int)) (a1 : Int) : Option.bind (tree K k a0 a1) h = tree (fun b0 => Option.bind (K b0) h) k a0 a1 := by
  simp only [tree, bif_bind, sel_bind', Option.bind_assoc, Option.bind_none, Option.bind_some]
abbrev ps : List Sh := [.data (.arr .u64 4), .data (.int .i64)]
abbrev hs : List (Nat × ESh) := []
abbrev hi : List Nat := hs.map (·.1)
abbrev fi : List Nat := []
abbrev cl : List (Place × Nat × Hint) := []
abbrev hn : List Hint := [.any]
def val (t : (List Int)) : AV := Sh.mk (.data (.arr .u64 4)) t
def wr (t : (List Int)) : Heap := []
def callee (k : Nat) : Callee := sigCallee ps hs (fun (d : ((List Int) × Int × Unit)) (e : Unit) => f k d.1 d.2.1) val wr
def E (k : Nat) : Env := ⟨fnTab [], loopTab [(0, l0.sum k)], natsTab [], natTab []⟩
theorem fE (k : Nat) : ∀ f, ∀ c ∈ (E k).fn f, CalleeOK Tryd.prog f c := fnTab_ok trivial
namespace l0
theorem round (k : Nat) (d : (Unit × Unit × Unit × Int × Int × Int × Unit)) (e : ((List Int) × (List Int) × (List Int) × Unit)) (G : St → Option (Ex × St)) : roundK Tryd.prog (E k) 50 0 (subC (bodyOf Tryd.f81) [1, 1, 1, 1, 0, 1, 0, 0]) (recast cl hn kp) (finBy cl hn kp rc rs ri) G ⟨mkS S d, mkH H e⟩ =
    step (fun x8 y800002 => some (.exit 0, KX d e (x8, y800002))) (fun x8 y800002 => G ⟨mkS S ((), (), (), d.2.2.2.1, d.2.2.2.2.1, x8, ()), mkH H (e.1, e.2.1, y800002, ())⟩) k d.2.2.2.1 d.2.2.2.2.1 e.1 e.2.1 d.2.2.2.2.2.1 e.2.2.1 := by kernel_rfl
theorem it (k n : Nat) (d : (Unit × Unit × Unit × Int × Int × Int × Unit)) (e : ((List Int) × (List Int) × (List Int) × Unit)) : loopIt Tryd.prog (E k) 50 0 (subC (bodyOf Tryd.f81) [1, 1, 1, 1, 0, 1, 0, 0]) (recast cl hn kp) (finBy cl hn kp rc rs ri) n ⟨mkS S d, mkH H e⟩ = go (fun x8 y800002 => some (.exit 0, KX d e (x8, y800002))) k d.2.2.2.1 d.2.2.2.2.1 e.1 e.2.1 n d.2.2.2.2.2.1 e.2.2.1 :=
  loopIt_eq (D := (Unit × Unit × Unit × Int × Int × Int × Unit) × ((List Int) × (List Int) × (List Int) × Unit)) (fun p => ⟨mkS S p.1, mkH H p.2⟩) (fun F p => step (fun x8 y800002 => some (.exit 0, KX p.1 p.2 (x8, y800002))) (fun x8 y800002 => F (((), (), (), p.1.2.2.2.1, p.1.2.2.2.2.1, x8, ()), (p.2.1, p.2.2.1, y800002, ()))) k p.1.2.2.2.1 p.1.2.2.2.2.1 p.2.1 p.2.2.1 p.1.2.2.2.2.2.1 p.2.2.2.1) (fun n p => go (fun x8 y800002 => some (.exit 0, KX p.1 p.2 (x8, y800002))) k p.1.2.2.2.1 p.1.2.2.2.2.1 p.2.1 p.2.2.1 n p.1.2.2.2.2.2.1 p.2.2.2.1) (fun _ => rfl) (fun _ _ => rfl) (fun G p => round k p.1 p.2 G) n (d, e)
theorem ok (k : Nat) : LoopOK Tryd.prog 50 (subC (bodyOf Tryd.f81) [1, 1, 1, 1, 0, 1, 0, 0]) (sum k) :=
  loop_sigX hm (fE k) (loopsOK_of [] (by kernel_rfl) trivial) S cl hn kp H 0 (fun (d : (Unit × Unit × Unit × Int × Int × Int × Unit)) (e : ((List Int) × (List Int) × (List Int) × Unit)) => f k d.2.2.2.1 d.2.2.2.2.1 e.1 e.2.1 k d.2.2.2.2.2.1 e.2.2.1) KX cl hn kp rc rs ri k
    (fun d e => (it k k d e).trans (go_nat (fun v => some (Ex.exit 0, KX d e v)) (fun x8 y800002 => some (x8, y800002)) k d.2.2.2.1 d.2.2.2.2.1 e.1 e.2.1 k d.2.2.2.2.2.1 e.2.2.1).symm)
end l0
theorem run (k : Nat) (d : ((List Int) × Int × Unit)) (e : Unit) : runFn Tryd.prog (E k) 50 (bodyOf Tryd.f81) Tryd.f81.results.toList cl hn hi (mkL ps d) (mkH hs e) =
    tree (fun b0 => leafFn hs fi e val wr b0) k d.1 d.2.1 := by kernel_rfl
theorem run_f (k : Nat) (d : ((List Int) × Int × Unit)) (e : Unit) : runFn Tryd.prog (E k) 50 (bodyOf Tryd.f81) Tryd.f81.results.toList cl hn hi (mkL ps d) (mkH hs e) = (f k d.1 d.2.1).bind (leafFn hs fi e val wr) :=
  (run k d e).trans (tree_nat (leafFn hs fi e val wr) (fun b0 => some b0) k d.1 d.2.1).symm
theorem fnIs : FnIs Tryd.prog 81 Tryd.f81 (bodyOf Tryd.f81) 50 := ⟨by kernel_rfl, by kernel_rfl, by kernel_rfl, by kernel_rfl⟩
theorem ok (k : Nat) : CalleeOK Tryd.prog 81 (callee k) :=
  callee_sig (T := (List Int)) fnIs hm (fE k) (loopsOK_of [(0, subC (bodyOf Tryd.f81) [1, 1, 1, 1, 0, 1, 0, 0])] (by kernel_rfl) ⟨of_loop (l0.sum k) rfl (l0.ok k), trivial⟩) ps hs cl hn fi (fun (d : ((List Int) × Int × Unit)) (e : Unit) => f k d.1 d.2.1) val wr rfl (fun _ => rfl) (run_f k)
end whole_Up
namespace compact_Decode
def tree {X : Type} (K : (List Int) → Bool → Bool → Option X) (k : Nat) (a0 : Int) : Option X :=
  (Option.bind (compact_Good.f k a0) (fun r1 => (bif (!r1) then (K ([0, 0, 0, 0] : (List Int)) false false) else (Option.bind (whole_Of.f k (IntKind.wrap .u64 (andI .i64 a0 8388607))) (fun r2 => (bif (decide ((shrI .i64 a0 24) ≤ (3 : Int))) then (Option.bind (whole_Down.f k r2 (mulI .i64 8 (subI .i64 3 (shrI .i64 a0 24)))) (fun r3 => (bif ((andI .i64 a0 8388607) != (0 : Int)) then (bif ((andI .i64 a0 8388607) != (0 : Int)) then (bif (decide ((shrI .i64 a0 24) > (34 : Int))) then (K r3 ((andI .i64 a0 8388608) != (0 : Int)) true) else (bif (decide ((andI .i64 a0 8388607) > (255 : Int))) then (bif (decide ((shrI .i64 a0 24) > (33 : Int))) then (K r3 ((andI .i64 a0 8388608) != (0 : Int)) true) else (bif (decide ((andI .i64 a0 8388607) > (65535 : Int))) then (K r3 ((andI .i64 a0 8388608) != (0 : Int)) (decide ((shrI .i64 a0 24) > (32 : Int)))) else (K r3 ((andI .i64 a0 8388608) != (0 : Int)) false))) else (bif (decide ((andI .i64 a0 8388607) > (65535 : Int))) then (K r3 ((andI .i64 a0 8388608) != (0 : Int)) (decide ((shrI .i64 a0 24) > (32 : Int)))) else (K r3 ((andI .i64 a0 8388608) != (0 : Int)) false)))) else (K r3 ((andI .i64 a0 8388608) != (0 : Int)) false)) else (bif ((andI .i64 a0 8388607) != (0 : Int)) then (bif (decide ((shrI .i64 a0 24) > (34 : Int))) then (K r3 false true) else (bif (decide ((andI .i64 a0 8388607) > (255 : Int))) then (bif (decide ((shrI .i64 a0 24) > (33 : Int))) then (K r3 false true) else (bif (decide ((andI .i64 a0 8388607) > (65535 : Int))) then (K r3 false (decide ((shrI .i64 a0 24) > (32 : Int)))) else (K r3 false false))) else (bif (decide ((andI .i64 a0 8388607) > (65535 : Int))) then (K r3 false (decide ((shrI .i64 a0 24) > (32 : Int)))) else (K r3 false false)))) else (K r3 false false))))) else (Option.bind (whole_Up.f k r2 (mulI .i64 8 (subI .i64 (shrI .i64 a0 24) 3))) (fun r4 => (bif ((andI .i64 a0 8388607) != (0 : Int)) then (bif ((andI .i64 a0 8388607) != (0 : Int)) then (bif (decide ((shrI .i64 a0 24) > (34 : Int))) then (K r4 ((andI .i64 a0 8388608) != (0 : Int)) true) else (bif (decide ((andI .i64 a0 8388607) > (255 : Int))) then (bif (decide ((shrI .i64 a0 24) > (33 : Int))) then (K r4 ((andI .i64 a0 8388608) != (0 : Int)) true) else (bif (decide ((andI .i64 a0 8388607) > (65535 : Int))) then (K r4 ((andI .i64 a0 8388608) != (0 : Int)) (decide ((shrI .i64 a0 24) > (32 : Int)))) else (K r4 ((andI .i64 a0 8388608) != (0 : Int)) false))) else (bif (decide ((andI .i64 a0 8388607) > (65535 : Int))) then (K r4 ((andI .i64 a0 8388608) != (0 : Int)) (decide ((shrI .i64 a0 24) > (32 : Int)))) else (K r4 ((andI .i64 a0 8388608) != (0 : Int)) false)))) else (K r4 ((andI .i64 a0 8388608) != (0 : Int)) false)) else (bif ((andI .i64 a0 8388607) != (0 : Int)) then (bif (decide ((shrI .i64 a0 24) > (34 : Int))) then (K r4 false true) else (bif (decide ((andI .i64 a0 8388607) > (255 : Int))) then (bif (decide ((shrI .i64 a0 24) > (33 : Int))) then (K r4 false true) else (bif (decide ((andI .i64 a0 8388607) > (65535 : Int))) then (K r4 false (decide ((shrI .i64 a0 24) > (32 : Int)))) else (K r4 false false))) else (bif (decide ((andI .i64 a0 8388607) > (65535 : Int))) then (K r4 false (decide ((shrI .i64 a0 24) > (32 : Int)))) else (K r4 false false)))) else (K r4 false false)))))))))))
def f (k : Nat) (a0 : Int) : Option ((List Int) × (Bool × Bool)) := tree (fun b0 b1 b2 => some (b0, b1, b2)) k a0
theorem tree_nat {X Y : Type} (h : X → Option Y) (K : (List Int) → Bool → Bool → Option X) (k : Nat) (a0 : Int) : Option.bind (tree K k a0) h = tree (fun b0 b1 b2 => Option.bind (K b0 b1 b2) h) k a0 := by
  simp only [tree, bif_bind, sel_bind', Option.bind_assoc, Option.bind_none, Option.bind_some]
abbrev ps : List Sh := [.data (.int .i64)]
abbrev hs : List (Nat × ESh) := []
abbrev hi : List Nat := hs.map (·.1)
abbrev fi : List Nat := []
abbrev cl : List (Place × Nat × Hint) := []
abbrev hn : List Hint := [.any, .any, .any]
def val (t : ((List Int) × (Bool × Bool))) : AV := .tcons (Sh.mk (.data (.arr .u64 4)) t.1) (.tcons (Sh.mk (.data .bool) t.2.1) (.tcons (Sh.mk (.data .bool) t.2.2) .tnil))
def wr (t : ((List Int) × (Bool × Bool))) : Heap := []
def callee (k : Nat) : Callee := sigCallee ps hs (fun (d : (Int × Unit)) (e : Unit) => f k d.1) val wr
def E (k : Nat) : Env := ⟨fnTab [(69, [compact_Good.callee k]), (79, [whole_Of.callee k]), (80, [whole_Down.callee k]), (81, [whole_Up.callee k])], loopTab [], natsTab [], natTab []⟩
theorem fE (k : Nat) : ∀ f, ∀ c ∈ (E k).fn f, CalleeOK Tryd.prog f c := fnTab_ok ⟨⟨compact_Good.ok k, trivial⟩, ⟨whole_Of.ok k, trivial⟩, ⟨whole_Down.ok k, trivial⟩, ⟨whole_Up.ok k, trivial⟩, trivial⟩
theorem run (k : Nat) (d : (Int × Unit)) (e : Unit) : runFn Tryd.prog (E k) 65 (bodyOf Tryd.f73) Tryd.f73.results.toList cl hn hi (mkL ps d) (mkH hs e) =
    tree (fun b0 b1 b2 => leafFn hs fi e val wr (b0, b1, b2)) k d.1 := by kernel_rfl
theorem run_f (k : Nat) (d : (Int × Unit)) (e : Unit) : runFn Tryd.prog (E k) 65 (bodyOf Tryd.f73) Tryd.f73.results.toList cl hn hi (mkL ps d) (mkH hs e) = (f k d.1).bind (leafFn hs fi e val wr) :=
  (run k d e).trans (tree_nat (leafFn hs fi e val wr) (fun b0 b1 b2 => some (b0, b1, b2)) k d.1).symm
theorem fnIs : FnIs Tryd.prog 73 Tryd.f73 (bodyOf Tryd.f73) 65 := ⟨by kernel_rfl, by kernel_rfl, by kernel_rfl, by kernel_rfl⟩
theorem ok (k : Nat) : CalleeOK Tryd.prog 73 (callee k) :=
  callee_sig (T := ((List Int) × (Bool × Bool))) fnIs hm (fE k) (loopsOK_of [] (by kernel_rfl) trivial) ps hs cl hn fi (fun (d : (Int × Unit)) (e : Unit) => f k d.1) val wr rfl (fun _ => rfl) (run_f k)
end compact_Decode
namespace whole_FromHash
namespace l0
def step {X : Type} (K : Int → (List Int) → Option X) (G : Int → (List Int) → Option X) (k : Nat) (x6 : (List Int)) (y800000 : (List Int)) (x7 : Int) (y800001 : (List Int)) : Option X :=
  (bif (decide (x7 < (32 : Int))) then (bif (decide (0 ≤ x7)) then (bif (decide (x7 < 32)) then (bif (decide (0 ≤ (quoI .i64 x7 8))) then (bif (decide ((quoI .i64 x7 8) < 4)) then (bif (decide ((Int.toNat (quoI .i64 x7 8)) < 4)) then (bif (decide ((mulI .i64 8 (remI x7 8)) < 0)) then none else (bif (decide (0 ≤ (quoI .i64 x7 8))) then (bif (decide ((quoI .i64 x7 8) < 4)) then (bif (decide ((Int.toNat (quoI .i64 x7 8)) < 4)) then (G (addI .i64 x7 1) (List.set y800001 (Int.toNat (quoI .i64 x7 8)) (orI .u64 (List.getD y800001 (Int.toNat (quoI .i64 x7 8)) 0) (shlI .u64 (IntKind.wrap .u64 (List.getD x6 (Int.toNat x7) 0)) (mulI .i64 8 (remI x7 8)))))) else none) else none) else none)) else none) else none) else none) else none) else none) else (K x7 y800001))
def go {X : Type} (K : Int → (List Int) → Option X) (k : Nat) (x6 : (List Int)) (y800000 : (List Int)) : Nat → Int → (List Int) → Option X
  | 0, _, _ => none
  | n + 1, x7, y800001 => step K (go K k x6 y800000 n) k x6 y800000 x7 y800001
def f (k : Nat) (x6 : (List Int)) (y800000 : (List Int)) (n : Nat) (x7 : Int) (y800001 : (List Int)) : Option (Int × (List Int)) := go (fun x7 y800001 => some (x7, y800001)) k x6 y800000 n x7 y800001
theorem step_nat {X Y : Type} (h : X → Option Y) (K : Int → (List Int) → Option X) (G : Int → (List Int) → Option X) (k : Nat) (x6 : (List Int)) (y800000 : (List Int)) (x7 : Int) (y800001 : (List Int)) : Option.bind (step K G k x6 y800000 x7 y800001) h = step (fun x7 y800001 => Option.bind (K x7 y800001) h) (fun x7 y800001 => Option.bind (G x7 y800001) h) k x6 y800000 x7 y800001 := by
  simp only [step, bif_bind, sel_bind', Option.bind_assoc, Option.bind_none, Option.bind_some]
theorem go_nat {X Y : Type} (h : X → Option Y) (K : Int → (List Int) → Option X) (k : Nat) (x6 : (List Int)) (y800000 : (List Int)) (n : Nat) : ∀ (x7 : Int) (y800001 : (List Int)), Option.bind (go K k x6 y800000 n x7 y800001) h = go (fun x7 y800001 => Option.bind (K x7 y800001) h) k x6 y800000 n x7 y800001 := by
  induction n with
  | zero => intros; rfl
  | succ n ih => intro x7 y800001; show Option.bind (step K (go K k x6 y800000 n) k x6 y800000 x7 y800001) h = step (fun x7 y800001 => Option.bind (K x7 y800001) h) (go (fun x7 y800001 => Option.bind (K x7 y800001) h) k x6 y800000 n) k x6 y800000 x7 y800001; rw [step_nat h]; simp only [ih]
abbrev S : List (Nat × Sh) := [(2, .ptr 800000), (3, .ptr 800001), (6, .data (.arr .u8 32)), (7, .data (.int .i64))]
abbrev H : List (Nat × ESh) := [(800000, .cell (.data (.arr .u64 4))), (800001, .cell (.data (.arr .u64 4)))]
abbrev cl : List (Place × Nat × Hint) := []
abbrev hn : List (Nat × Hint) := [(2, .any), (3, .any), (6, .any), (7, .any)]
abbrev kp : List Nat := []
abbrev rc : List (Place × Nat × Hint) := []
abbrev rs : List (Nat × Hint) := []
abbrev ri : List Nat := []
def KX (d : (Unit × Unit × (List Int) × Int × Unit)) (e : ((List Int) × (List Int) × Unit)) (v : (Int × (List Int))) : St := ⟨mkS S ((), (), d.2.2.1, v.1, ()), mkH H (e.1, v.2, ())⟩
def sum (k : Nat) : LoopSum := sigLoopX S cl hn kp H 0 (fun (d : (Unit × Unit × (List Int) × Int × Unit)) (e : ((List Int) × (List Int) × Unit)) => f k d.2.2.1 e.1 k d.2.2.2.1 e.2.1) KX
end l0
def tree {X : Type} (K : (List Int) → Option X) (k : Nat) (a0 : (List Int)) : Option X :=
  (Option.bind (whole_FromHash.l0.f k a0 ([0, 0, 0, 0] : (List Int)) k (0 : Int) ([0, 0, 0, 0] : (List Int))) (fun r1 => (K r1.2)))
def f (k : Nat) (a0 : (List Int)) : Option (List Int) := tree (fun b0 => some b0) k a0
theorem tree_nat {X Y : Type} (h : X → Option Y) (K : (List Int) → Option X) (k : Nat) (a0 : (List Int)) : Option.bind (tree K k a0) h = tree (fun b0 => Option.bind (K b0) h) k a0 := by
  simp only [tree, bif_bind, sel_bind', Option.bind_assoc, Option.bind_none, Option.bind_some]
abbrev ps : List Sh := [.data (.arr .u8 32)]
abbrev hs : List (Nat × ESh) := []
abbrev hi : List Nat := hs.map (·.1)
abbrev fi : List Nat := []
abbrev cl : List (Place × Nat × Hint) := []
abbrev hn : List Hint := [.any]
def val (t : (List Int)) : AV := Sh.mk (.data (.arr .u64 4)) t
def wr (t : (List Int)) : Heap := []
def callee (k : Nat) : Callee := sigCallee ps hs (fun (d : ((List Int) × Unit)) (e : Unit) => f k d.1) val wr
def E (k : Nat) : Env := ⟨fnTab [], loopTab [(0, l0.sum k)], natsTab [], natTab []⟩
theorem fE (k : Nat) : ∀ f, ∀ c ∈ (E k).fn f, CalleeOK Tryd.prog f c := fnTab_ok trivial
namespace l0
theorem round (k : Nat) (d : (Unit × Unit × (List Int) × Int × Unit)) (e : ((List Int) × (List Int) × Unit)) (G : St → Option (Ex × St)) : roundK Tryd.prog (E k) 25 0 (subC (bodyOf Tryd.f83) [1, 1, 0, 1, 0, 0]) (recast cl hn kp) (finBy cl hn kp rc rs ri) G ⟨mkS S d, mkH H e⟩ =
    step (fun x7 y800001 => some (.exit 0, KX d e (x7, y800001))) (fun x7 y800001 => G ⟨mkS S ((), (), d.2.2.1, x7, ()), mkH H (e.1, y800001, ())⟩) k d.2.2.1 e.1 d.2.2.2.1 e.2.1 := by kernel_rfl
theorem it (k n : Nat) (d : (Unit × Unit × (List Int) × Int × Unit)) (e : ((List Int) × (List Int) × Unit)) : loopIt Tryd.prog (E k) 25 0 (subC (bodyOf Tryd.f83) [1, 1, 0, 1, 0, 0]) (recast cl hn kp) (finBy cl hn kp rc rs ri) n ⟨mkS S d, mkH H e⟩ = go (fun x7 y800001 => some (.exit 0, KX d e (x7, y800001))) k d.2.2.1 e.1 n d.2.2.2.1 e.2.1 :=
  loopIt_eq (D := (Unit × Unit × (List Int) × Int × Unit) × ((List Int) × (List Int) × Unit)) (fun p => ⟨mkS S p.1, mkH H p.2⟩) (fun F p => step (fun x7 y800001 => some (.exit 0, KX p.1 p.2 (x7, y800001))) (fun x7 y800001 => F (((), (), p.1.2.2.1, x7, ()), (p.2.1, y800001, ()))) k p.1.2.2.1 p.2.1 p.1.2.2.2.1 p.2.2.1) (fun n p => go (fun x7 y800001 => some (.exit 0, KX p.1 p.2 (x7, y800001))) k p.1.2.2.1 p.2.1 n p.1.2.2.2.1 p.2.2.1) (fun _ => rfl) (fun _ _ => rfl) (fun G p => round k p.1 p.2 G) n (d, e)
theorem ok (k : Nat) : LoopOK Tryd.prog 25 (subC (bodyOf Tryd.f83) [1, 1, 0, 1, 0, 0]) (sum k) :=
  loop_sigX hm (fE k) (loopsOK_of [] (by kernel_rfl) trivial) S cl hn kp H 0 (fun (d : (Unit × Unit × (List Int) × Int × Unit)) (e : ((List Int) × (List Int) × Unit)) => f k d.2.2.1 e.1 k d.2.2.2.1 e.2.1) KX cl hn kp rc rs ri k
    (fun d e => (it k k d e).trans (go_nat (fun v => some (Ex.exit 0, KX d e v)) (fun x7 y800001 => some (x7, y800001)) k d.2.2.1 e.1 k d.2.2.2.1 e.2.1).symm)
end l0
theorem run (k : Nat) (d : ((List Int) × Unit)) (e : Unit) : runFn Tryd.prog (E k) 25 (bodyOf Tryd.f83) Tryd.f83.results.toList cl hn hi (mkL ps d) (mkH hs e) =
    tree (fun b0 => leafFn hs fi e val wr b0) k d.1 := by kernel_rfl
theorem run_f (k : Nat) (d : ((List Int) × Unit)) (e : Unit) : runFn Tryd.prog (E k) 25 (bodyOf Tryd.f83) Tryd.f83.results.toList cl hn hi (mkL ps d) (mkH hs e) = (f k d.1).bind (leafFn hs fi e val wr) :=
  (run k d e).trans (tree_nat (leafFn hs fi e val wr) (fun b0 => some b0) k d.1).symm
theorem fnIs : FnIs Tryd.prog 83 Tryd.f83 (bodyOf Tryd.f83) 25 := ⟨by kernel_rfl, by kernel_rfl, by kernel_rfl, by kernel_rfl⟩
theorem ok (k : Nat) : CalleeOK Tryd.prog 83 (callee k) :=
  callee_sig (T := (List Int)) fnIs hm (fE k) (loopsOK_of [(0, subC (bodyOf Tryd.f83) [1, 1, 0, 1, 0, 0])] (by kernel_rfl) ⟨of_loop (l0.sum k) rfl (l0.ok k), trivial⟩) ps hs cl hn fi (fun (d : ((List Int) × Unit)) (e : Unit) => f k d.1) val wr rfl (fun _ => rfl) (run_f k)
end whole_FromHash
namespace whole_Compare
namespace l0
def step {X : Type} (K : Int → Option X) (Q : Int → Option X) (G : Int → Option X) (k : Nat) (y800000 : (List Int)) (y800001 : (List Int)) (x5 : Int) : Option X :=
  (bif (decide (x5 ≥ (0 : Int))) then (bif (decide (0 ≤ x5)) then (bif (decide (x5 < 4)) then (bif (decide ((Int.toNat x5) < 4)) then (bif (decide (0 ≤ x5)) then (bif (decide (x5 < 4)) then (bif (decide ((Int.toNat x5) < 4)) then (bif (decide ((List.getD y800000 (Int.toNat x5) 0) < (List.getD y800001 (Int.toNat x5) 0))) then (Q ((-1) : Int)) else (bif (decide (0 ≤ x5)) then (bif (decide (x5 < 4)) then (bif (decide ((Int.toNat x5) < 4)) then (bif (decide (0 ≤ x5)) then (bif (decide (x5 < 4)) then (bif (decide ((Int.toNat x5) < 4)) then (bif (decide ((List.getD y800000 (Int.toNat x5) 0) > (List.getD y800001 (Int.toNat x5) 0))) then (Q (1 : Int)) else (G (subI .i64 x5 1))) else none) else none) else none) else none) else none) else none)) else none) else none) else none) else none) else none) else none) else (K x5))
def go {X : Type} (K : Int → Option X) (Q : Int → Option X) (k : Nat) (y800000 : (List Int)) (y800001 : (List Int)) : Nat → Int → Option X
  | 0, _ => none
  | n + 1, x5 => step K Q (go K Q k y800000 y800001 n) k y800000 y800001 x5
def f (k : Nat) (y800000 : (List Int)) (y800001 : (List Int)) (n : Nat) (x5 : Int) : Option (Int ⊕ Int) := go (fun x5 => some (.inl x5)) (fun q0 => some (.inr q0)) k y800000 y800001 n x5
theorem step_nat {X Y : Type} (h : X → Option Y) (K : Int → Option X) (Q : Int → Option X) (G : Int → Option X) (k : Nat) (y800000 : (List Int)) (y800001 : (List Int)) (x5 : Int) : Option.bind (step K Q G k y800000 y800001 x5) h = step (fun x5 => Option.bind (K x5) h) (fun q0 => Option.bind (Q q0) h) (fun x5 => Option.bind (G x5) h) k y800000 y800001 x5 := by
  simp only [step, bif_bind, sel_bind', Option.bind_assoc, Option.bind_none, Option.bind_some]
theorem go_nat {X Y : Type} (h : X → Option Y) (K : Int → Option X) (Q : Int → Option X) (k : Nat) (y800000 : (List Int)) (y800001 : (List Int)) (n : Nat) : ∀ (x5 : Int), Option.bind (go K Q k y800000 y800001 n x5) h = go (fun x5 => Option.bind (K x5) h) (fun q0 => Option.bind (Q q0) h) k y800000 y800001 n x5 := by
  induction n with
  | zero => intros; rfl
  | succ n ih => intro x5; show Option.bind (step K Q (go K Q k y800000 y800001 n) k y800000 y800001 x5) h = step (fun x5 => Option.bind (K x5) h) (fun q0 => Option.bind (Q q0) h) (go (fun x5 => Option.bind (K x5) h) (fun q0 => Option.bind (Q q0) h) k y800000 y800001 n) k y800000 y800001 x5; rw [step_nat h]; simp only [ih]
abbrev S : List (Nat × Sh) := [(2, .ptr 800000), (3, .ptr 800001), (5, .data (.int .i64))]
abbrev H : List (Nat × ESh) := [(800000, .cell (.data (.arr .u64 4))), (800001, .cell (.data (.arr .u64 4)))]
abbrev cl : List (Place × Nat × Hint) := []
abbrev hn : List (Nat × Hint) := [(2, .any), (3, .any), (5, .any)]
abbrev kp : List Nat := []
abbrev rc : List (Place × Nat × Hint) := []
abbrev rs : List (Nat × Hint) := [(4, .any)]
abbrev ri : List Nat := []
def KX (d : (Unit × Unit × Int × Unit)) (e : ((List Int) × (List Int) × Unit)) (v : Int) : St := ⟨mkS S ((), (), v, ()), mkH H (e.1, e.2.1, ())⟩
abbrev RS : List (Nat × Sh) := [(4, .data (.int .i64))]
abbrev RH : List (Nat × ESh) := []
def RX (d : (Unit × Unit × Int × Unit)) (e : ((List Int) × (List Int) × Unit)) (v : Int) : St := ⟨mkS RS (v, ()), mkH RH (())⟩
def sum (k : Nat) : LoopSum := sigLoop S cl hn kp H 0 (fun (d : (Unit × Unit × Int × Unit)) (e : ((List Int) × (List Int) × Unit)) => f k e.1 e.2.1 k d.2.2.1) KX RX
end l0
def tree {X : Type} (K : Int → Option X) (k : Nat) (a0 : (List Int)) (a1 : (List Int)) : Option X :=
  (Option.bind (whole_Compare.l0.f k a0 a1 k (3 : Int)) (fun r1 => sel r1 (fun v2 => (K (0 : Int))) (fun q3 => (K q3))))
def f (k : Nat) (a0 : (List Int)) (a1 : (List Int)) : Option Int := tree (fun b0 => some b0) k a0 a1
theorem tree_nat {X Y : Type} (h : X → Option Y) (K : Int → Option X) (k : Nat) (a0 : (List Int)) (a1 : (List Int)) : Option.bind (tree K k a0 a1) h = tree (fun b0 => Option.bind (K b0) h) k a0 a1 := by
  simp only [tree, bif_bind, sel_bind', Option.bind_assoc, Option.bind_none, Option.bind_some]
abbrev ps : List Sh := [.data (.arr .u64 4), .data (.arr .u64 4)]
abbrev hs : List (Nat × ESh) := []
abbrev hi : List Nat := hs.map (·.1)
abbrev fi : List Nat := []
abbrev cl : List (Place × Nat × Hint) := []
abbrev hn : List Hint := [.any]
def val (t : Int) : AV := Sh.mk (.data (.int .i64)) t
def wr (t : Int) : Heap := []
def callee (k : Nat) : Callee := sigCallee ps hs (fun (d : ((List Int) × (List Int) × Unit)) (e : Unit) => f k d.1 d.2.1) val wr
def E (k : Nat) : Env := ⟨fnTab [], loopTab [(0, l0.sum k)], natsTab [], natTab []⟩
theorem fE (k : Nat) : ∀ f, ∀ c ∈ (E k).fn f, CalleeOK Tryd.prog f c := fnTab_ok trivial
namespace l0
theorem round (k : Nat) (d : (Unit × Unit × Int × Unit)) (e : ((List Int) × (List Int) × Unit)) (G : St → Option (Ex × St)) : roundK Tryd.prog (E k) 26 0 (subC (bodyOf Tryd.f86) [1, 0, 1, 0, 0]) (recast cl hn kp) (finBy cl hn kp rc rs ri) G ⟨mkS S d, mkH H e⟩ =
    step (fun x5 => some (.exit 0, KX d e x5)) (fun q0 => some (.ret, RX d e q0)) (fun x5 => G ⟨mkS S ((), (), x5, ()), mkH H (e.1, e.2.1, ())⟩) k e.1 e.2.1 d.2.2.1 := by kernel_rfl
theorem it (k n : Nat) (d : (Unit × Unit × Int × Unit)) (e : ((List Int) × (List Int) × Unit)) : loopIt Tryd.prog (E k) 26 0 (subC (bodyOf Tryd.f86) [1, 0, 1, 0, 0]) (recast cl hn kp) (finBy cl hn kp rc rs ri) n ⟨mkS S d, mkH H e⟩ = go (fun x5 => some (.exit 0, KX d e x5)) (fun q0 => some (.ret, RX d e q0)) k e.1 e.2.1 n d.2.2.1 :=
  loopIt_eq (D := (Unit × Unit × Int × Unit) × ((List Int) × (List Int) × Unit)) (fun p => ⟨mkS S p.1, mkH H p.2⟩) (fun F p => step (fun x5 => some (.exit 0, KX p.1 p.2 x5)) (fun q0 => some (.ret, RX p.1 p.2 q0)) (fun x5 => F (((), (), x5, ()), (p.2.1, p.2.2.1, ()))) k p.2.1 p.2.2.1 p.1.2.2.1) (fun n p => go (fun x5 => some (.exit 0, KX p.1 p.2 x5)) (fun q0 => some (.ret, RX p.1 p.2 q0)) k p.2.1 p.2.2.1 n p.1.2.2.1) (fun _ => rfl) (fun _ _ => rfl) (fun G p => round k p.1 p.2 G) n (d, e)
theorem ok (k : Nat) : LoopOK Tryd.prog 26 (subC (bodyOf Tryd.f86) [1, 0, 1, 0, 0]) (sum k) :=
  loop_sig hm (fE k) (loopsOK_of [] (by kernel_rfl) trivial) S cl hn kp H 0 (fun (d : (Unit × Unit × Int × Unit)) (e : ((List Int) × (List Int) × Unit)) => f k e.1 e.2.1 k d.2.2.1) KX RX cl hn kp rc rs ri k
    (fun d e => (it k k d e).trans (go_nat (exitOf 0 (KX d e) (RX d e)) (fun x5 => some (.inl x5)) (fun q0 => some (.inr q0)) k e.1 e.2.1 k d.2.2.1).symm)
end l0
theorem run (k : Nat) (d : ((List Int) × (List Int) × Unit)) (e : Unit) : runFn Tryd.prog (E k) 26 (bodyOf Tryd.f86) Tryd.f86.results.toList cl hn hi (mkL ps d) (mkH hs e) =
    tree (fun b0 => leafFn hs fi e val wr b0) k d.1 d.2.1 := by kernel_rfl
theorem run_f (k : Nat) (d : ((List Int) × (List Int) × Unit)) (e : Unit) : runFn Tryd.prog (E k) 26 (bodyOf Tryd.f86) Tryd.f86.results.toList cl hn hi (mkL ps d) (mkH hs e) = (f k d.1 d.2.1).bind (leafFn hs fi e val wr) :=
  (run k d e).trans (tree_nat (leafFn hs fi e val wr) (fun b0 => some b0) k d.1 d.2.1).symm
theorem fnIs : FnIs Tryd.prog 86 Tryd.f86 (bodyOf Tryd.f86) 26 := ⟨by kernel_rfl, by kernel_rfl, by kernel_rfl, by kernel_rfl⟩
theorem ok (k : Nat) : CalleeOK Tryd.prog 86 (callee k) :=
  callee_sig (T := Int) fnIs hm (fE k) (loopsOK_of [(0, subC (bodyOf Tryd.f86) [1, 0, 1, 0, 0])] (by kernel_rfl) ⟨of_loop (l0.sum k) rfl (l0.ok k), trivial⟩) ps hs cl hn fi (fun (d : ((List Int) × (List Int) × Unit)) (e : Unit) => f k d.1 d.2.1) val wr rfl (fun _ => rfl) (run_f k)
end whole_Compare
namespace whole_Less
def tree {X : Type} (K : Bool → Option X) (k : Nat) (a0 : (List Int)) (a1 : (List Int)) : Option X :=
  (Option.bind (whole_Compare.f k a0 a1) (fun r1 => (K (decide (r1 < (0 : Int))))))
def f (k : Nat) (a0 : (List Int)) (a1 : (List Int)) : Option Bool := tree (fun b0 => some b0) k a0 a1
theorem tree_nat {X Y : Type} (h : X → Option Y) (K : Bool → Option X) (k : Nat) (a0 : (List Int)) (a1 : (List Int)) : Option.bind (tree K k a0 a1) h = tree (fun b0 => Option.bind (K b0) h) k a0 a1 := by
  simp only [tree, bif_bind, sel_bind', Option.bind_assoc, Option.bind_none, Option.bind_some]
abbrev ps : List Sh := [.data (.arr .u64 4), .data (.arr .u64 4)]
abbrev hs : List (Nat × ESh) := []
abbrev hi : List Nat := hs.map (·.1)
abbrev fi : List Nat := []
abbrev cl : List (Place × Nat × Hint) := []
abbrev hn : List Hint := [.any]
def val (t : Bool) : AV := Sh.mk (.data .bool) t
def wr (t : Bool) : Heap := []
def callee (k : Nat) : Callee := sigCallee ps hs (fun (d : ((List Int) × (List Int) × Unit)) (e : Unit) => f k d.1 d.2.1) val wr
def E (k : Nat) : Env := ⟨fnTab [(86, [whole_Compare.callee k])], loopTab [], natsTab [], natTab []⟩
theorem fE (k : Nat) : ∀ f, ∀ c ∈ (E k).fn f, CalleeOK Tryd.prog f c := fnTab_ok ⟨⟨whole_Compare.ok k, trivial⟩, trivial⟩
theorem run (k : Nat) (d : ((List Int) × (List Int) × Unit)) (e : Unit) : runFn Tryd.prog (E k) 9 (bodyOf Tryd.f82) Tryd.f82.results.toList cl hn hi (mkL ps d) (mkH hs e) =
    tree (fun b0 => leafFn hs fi e val wr b0) k d.1 d.2.1 := by kernel_rfl
theorem run_f (k : Nat) (d : ((List Int) × (List Int) × Unit)) (e : Unit) : runFn Tryd.prog (E k) 9 (bodyOf Tryd.f82) Tryd.f82.results.toList cl hn hi (mkL ps d) (mkH hs e) = (f k d.1 d.2.1).bind (leafFn hs fi e val wr) :=
  (run k d e).trans (tree_nat (leafFn hs fi e val wr) (fun b0 => some b0) k d.1 d.2.1).symm
theorem fnIs : FnIs Tryd.prog 82 Tryd.f82 (bodyOf Tryd.f82) 9 := ⟨by kernel_rfl, by kernel_rfl, by kernel_rfl, by kernel_rfl⟩
theorem ok (k : Nat) : CalleeOK Tryd.prog 82 (callee k) :=
  callee_sig (T := Bool) fnIs hm (fE k) (loopsOK_of [] (by kernel_rfl) trivial) ps hs cl hn fi (fun (d : ((List Int) × (List Int) × Unit)) (e : Unit) => f k d.1 d.2.1) val wr rfl (fun _ => rfl) (run_f k)
end whole_Less
namespace compact_Meets
def tree {X : Type} (K : Bool → Option X) (k : Nat) (a0 : (List Int)) (a1 : (List Int)) : Option X :=
  (Option.bind (whole_FromHash.f k a0) (fun r1 => (Option.bind (whole_Less.f k a1 r1) (fun r2 => (K (!r2))))))
def f (k : Nat) (a0 : (List Int)) (a1 : (List Int)) : Option Bool := tree (fun b0 => some b0) k a0 a1
theorem tree_nat {X Y : Type} (h : X → Option Y) (K : Bool → Option X) (k : Nat) (a0 : (List Int)) (a1 : (List Int)) : Option.bind (tree K k a0 a1) h = tree (fun b0 => Option.bind (K b0) h) k a0 a1 := by
  simp only [tree, bif_bind, sel_bind', Option.bind_assoc, Option.bind_none, Option.bind_some]
abbrev ps : List Sh := [.data (.arr .u8 32), .data (.arr .u64 4)]
abbrev hs : List (Nat × ESh) := []
abbrev hi : List Nat := hs.map (·.1)
abbrev fi : List Nat := []
abbrev cl : List (Place × Nat × Hint) := []
abbrev hn : List Hint := [.any]
def val (t : Bool) : AV := Sh.mk (.data .bool) t
def wr (t : Bool) : Heap := []
def callee (k : Nat) : Callee := sigCallee ps hs (fun (d : ((List Int) × (List Int) × Unit)) (e : Unit) => f k d.1 d.2.1) val wr
def E (k : Nat) : Env := ⟨fnTab [(83, [whole_FromHash.callee k]), (82, [whole_Less.callee k])], loopTab [], natsTab [], natTab []⟩
theorem fE (k : Nat) : ∀ f, ∀ c ∈ (E k).fn f, CalleeOK Tryd.prog f c := fnTab_ok ⟨⟨whole_FromHash.ok k, trivial⟩, ⟨whole_Less.ok k, trivial⟩, trivial⟩
theorem run (k : Nat) (d : ((List Int) × (List Int) × Unit)) (e : Unit) : runFn Tryd.prog (E k) 10 (bodyOf Tryd.f74) Tryd.f74.results.toList cl hn hi (mkL ps d) (mkH hs e) =
    tree (fun b0 => leafFn hs fi e val wr b0) k d.1 d.2.1 := by kernel_rfl
theorem run_f (k : Nat) (d : ((List Int) × (List Int) × Unit)) (e : Unit) : runFn Tryd.prog (E k) 10 (bodyOf Tryd.f74) Tryd.f74.results.toList cl hn hi (mkL ps d) (mkH hs e) = (f k d.1 d.2.1).bind (leafFn hs fi e val wr) :=
  (run k d e).trans (tree_nat (leafFn hs fi e val wr) (fun b0 => some b0) k d.1 d.2.1).symm
theorem fnIs : FnIs Tryd.prog 74 Tryd.f74 (bodyOf Tryd.f74) 10 := ⟨by kernel_rfl, by kernel_rfl, by kernel_rfl, by kernel_rfl⟩
theorem ok (k : Nat) : CalleeOK Tryd.prog 74 (callee k) :=
  callee_sig (T := Bool) fnIs hm (fE k) (loopsOK_of [] (by kernel_rfl) trivial) ps hs cl hn fi (fun (d : ((List Int) × (List Int) × Unit)) (e : Unit) => f k d.1 d.2.1) val wr rfl (fun _ => rfl) (run_f k)
end compact_Meets
namespace header_Seek
namespace l0
def step {X : Type} (K : Int → T_3d5633 → Option X) (Q : Bool → T_3d5633 → Option X) (G : Int → T_3d5633 → Option X) (k : Nat) (x27 : Int) (y0 : (List Int)) (y1 : (List Int)) (y800003 : T_3d5633) (y800004 : (List Int)) (x28 : Int) (y800002 : T_3d5633) : Option X :=
  (bif (decide (x28 < x27)) then (Option.bind (header_Id.f k y800002 y0 y1) (fun r3 => (Option.bind (compact_Meets.f k r3 y800004) (fun r4 => (bif r4 then (Q true y800002) else (G (addI .i64 x28 1) ((y800002.1, (y800002.2.1, (y800002.2.2.1, (y800002.2.2.2.1, (y800002.2.2.2.2.1, (andI .i64 (addI .i64 y800002.2.2.2.2.2 1) 4294967295)))))) : T_3d5633))))))) else (K x28 y800002))
def go {X : Type} (K : Int → T_3d5633 → Option X) (Q : Bool → T_3d5633 → Option X) (k : Nat) (x27 : Int) (y0 : (List Int)) (y1 : (List Int)) (y800003 : T_3d5633) (y800004 : (List Int)) : Nat → Int → T_3d5633 → Option X
  | 0, _, _ => none
  | n + 1, x28, y800002 => step K Q (go K Q k x27 y0 y1 y800003 y800004 n) k x27 y0 y1 y800003 y800004 x28 y800002
def f (k : Nat) (x27 : Int) (y0 : (List Int)) (y1 : (List Int)) (y800003 : T_3d5633) (y800004 : (List Int)) (n : Nat) (x28 : Int) (y800002 : T_3d5633) : Option ((Int × T_3d5633) ⊕ (Bool × T_3d5633)) := go (fun x28 y800002 => some (.inl (x28, y800002))) (fun q0 q1 => some (.inr (q0, q1))) k x27 y0 y1 y800003 y800004 n x28 y800002
theorem step_nat {X Y : Type} (h : X → Option Y) (K : Int → T_3d5633 → Option X) (Q : Bool → T_3d5633 → Option X) (G : Int → T_3d5633 → Option X) (k : Nat) (x27 : Int) (y0 : (List Int)) (y1 : (List Int)) (y800003 : T_3d5633) (y800004 : (List Int)) (x28 : Int) (y800002 : T_3d5633) : Option.bind (step K Q G k x27 y0 y1 y800003 y800004 x28 y800002) h = step (fun x28 y800002 => Option.bind (K x28 y800002) h) (fun q0 q1 => Option.bind (Q q0 q1) h) (fun x28 y800002 => Option.bind (G x28 y800002) h) k x27 y0 y1 y800003 y800004 x28 y800002 := by
  simp only [step, bif_bind, sel_bind', Option.bind_assoc, Option.bind_none, Option.bind_some]
theorem go_nat {X Y : Type} (h : X → Option Y) (K : Int → T_3d5633 → Option X) (Q : Bool → T_3d5633 → Option X) (k : Nat) (x27 : Int) (y0 : (List Int)) (y1 : (List Int)) (y800003 : T_3d5633) (y800004 : (List Int)) (n : Nat) : ∀ (x28 : Int) (y800002 : T_3d5633), Option.bind (go K Q k x27 y0 y1 y800003 y800004 n x28 y800002) h = go (fun x28 y800002 => Option.bind (K x28 y800002) h) (fun q0 q1 => Option.bind (Q q0 q1) h) k x27 y0 y1 y800003 y800004 n x28 y800002 := by
  induction n with
  | zero => intros; rfl
  | succ n ih => intro x28 y800002; show Option.bind (step K Q (go K Q k x27 y0 y1 y800003 y800004 n) k x27 y0 y1 y800003 y800004 x28 y800002) h = step (fun x28 y800002 => Option.bind (K x28 y800002) h) (fun q0 q1 => Option.bind (Q q0 q1) h) (go (fun x28 y800002 => Option.bind (K x28 y800002) h) (fun q0 q1 => Option.bind (Q q0 q1) h) k x27 y0 y1 y800003 y800004 n) k x27 y0 y1 y800003 y800004 x28 y800002; rw [step_nat h]; simp only [ih]
abbrev S : List (Nat × Sh) := [(2, .ptr 800002), (4, .ptr 800003), (6, .ptr 800004), (27, .data (.int .i64)), (28, .data (.int .i64))]
abbrev H : List (Nat × ESh) := [(0, .glob 0 (.arr .u32 8)), (1, .glob 1 (.arr .u32 64)), (800002, .cell (.data (.pair (.int .i64) (.pair (.arr .u8 32) (.pair (.arr .u8 32) (.pair (.int .i64) (.pair (.int .i64) (.int .i64)))))))), (800003, .cell (.data (.pair (.int .i64) (.pair (.arr .u8 32) (.pair (.arr .u8 32) (.pair (.int .i64) (.pair (.int .i64) (.int .i64)))))))), (800004, .cell (.data (.arr .u64 4)))]
abbrev cl : List (Place × Nat × Hint) := []
abbrev hn : List (Nat × Hint) := [(2, .any), (4, .any), (6, .any), (27, .any), (28, .any)]
abbrev kp : List Nat := [0, 1]
abbrev rc : List (Place × Nat × Hint) := []
abbrev rs : List (Nat × Hint) := [(4, .any), (5, .any)]
abbrev ri : List Nat := [0, 1]
def KX (d : (Unit × Unit × Unit × Int × Int × Unit)) (e : ((List Int) × (List Int) × T_3d5633 × T_3d5633 × (List Int) × Unit)) (v : (Int × T_3d5633)) : St := ⟨mkS S ((), (), (), d.2.2.2.1, v.1, ()), mkH H (e.1, e.2.1, v.2, e.2.2.2.1, e.2.2.2.2.1, ())⟩
abbrev RS : List (Nat × Sh) := [(4, .ptr 800002), (5, .data .bool)]
abbrev RH : List (Nat × ESh) := [(0, .glob 0 (.arr .u32 8)), (1, .glob 1 (.arr .u32 64)), (800002, .cell (.data (.pair (.int .i64) (.pair (.arr .u8 32) (.pair (.arr .u8 32) (.pair (.int .i64) (.pair (.int .i64) (.int .i64))))))))]
def RX (d : (Unit × Unit × Unit × Int × Int × Unit)) (e : ((List Int) × (List Int) × T_3d5633 × T_3d5633 × (List Int) × Unit)) (v : (Bool × T_3d5633)) : St := ⟨mkS RS ((), v.1, ()), mkH RH (e.1, e.2.1, v.2, ())⟩
def sum (k : Nat) : LoopSum := sigLoop S cl hn kp H 0 (fun (d : (Unit × Unit × Unit × Int × Int × Unit)) (e : ((List Int) × (List Int) × T_3d5633 × T_3d5633 × (List Int) × Unit)) => f k d.2.2.2.1 e.1 e.2.1 e.2.2.2.1 e.2.2.2.2.1 k d.2.2.2.2.1 e.2.2.1) KX RX
end l0
def tree {X : Type} (K : T_3d5633 → Bool → Option X) (k : Nat) (a0 : T_3d5633) (a1 : Int) (m0 : (List Int)) (m1 : (List Int)) : Option X :=
  (Option.bind (compact_Decode.f k a0.2.2.2.2.1) (fun r1 => (Option.bind (header_Good.f k a0) (fun r2 => (bif (!r2) then (K a0 false) else (bif r1.2.1 then (K a0 false) else (bif r1.2.2 then (K a0 false) else (Option.bind (header_Seek.l0.f k (mxI a1 0) m0 m1 ((0, ([0, 0, 0, 0, 0, 0, 0, 0, 0, 0, 0, 0, 0, 0, 0, 0, 0, 0, 0, 0, 0, 0, 0, 0, 0, 0, 0, 0, 0, 0, 0, 0], ([0, 0, 0, 0, 0, 0, 0, 0, 0, 0, 0, 0, 0, 0, 0, 0, 0, 0, 0, 0, 0, 0, 0, 0, 0, 0, 0, 0, 0, 0, 0, 0], (0, (0, 0))))) : T_3d5633) r1.1 k (0 : Int) a0) (fun r5 => sel r5 (fun v6 => (K v6.2 false)) (fun q7 => (K q7.2 q7.1)))))))))))
def f (k : Nat) (a0 : T_3d5633) (a1 : Int) (m0 : (List Int)) (m1 : (List Int)) : Option (T_3d5633 × Bool) := tree (fun b0 b1 => some (b0, b1)) k a0 a1 m0 m1
theorem tree_nat {X Y : Type} (h : X → Option Y) (K : T_3d5633 → Bool → Option X) (k : Nat) (a0 : T_3d5633) (a1 : Int) (m0 : (List Int)) (m1 : (List Int)) : Option.bind (tree K k a0 a1 m0 m1) h = tree (fun b0 b1 => Option.bind (K b0 b1) h) k a0 a1 m0 m1 := by
  simp only [tree, bif_bind, sel_bind', Option.bind_assoc, Option.bind_none, Option.bind_some]
abbrev ps : List Sh := [.data (.pair (.int .i64) (.pair (.arr .u8 32) (.pair (.arr .u8 32) (.pair (.int .i64) (.pair (.int .i64) (.int .i64)))))), .data (.int .i64)]
abbrev hs : List (Nat × ESh) := [(0, .glob 0 (.arr .u32 8)), (1, .glob 1 (.arr .u32 64))]
abbrev hi : List Nat := hs.map (·.1)
abbrev fi : List Nat := [0, 1]
abbrev cl : List (Place × Nat × Hint) := []
abbrev hn : List Hint := [.any, .any]
def val (t : (T_3d5633 × Bool)) : AV := .tcons (Sh.mk (.data (.pair (.int .i64) (.pair (.arr .u8 32) (.pair (.arr .u8 32) (.pair (.int .i64) (.pair (.int .i64) (.int .i64))))))) t.1) (.tcons (Sh.mk (.data .bool) t.2) .tnil)
def wr (t : (T_3d5633 × Bool)) : Heap := []
def callee (k : Nat) : Callee := sigCallee ps hs (fun (d : (T_3d5633 × Int × Unit)) (e : ((List Int) × (List Int) × Unit)) => f k d.1 d.2.1 e.1 e.2.1) val wr
def E (k : Nat) : Env := ⟨fnTab [(73, [compact_Decode.callee k]), (50, [header_Good.callee k]), (32, [header_Id.callee k]), (74, [compact_Meets.callee k])], loopTab [(0, l0.sum k)], natsTab [(32, [0, 1])], natTab [(0, 0), (1, 1)]⟩
theorem fE (k : Nat) : ∀ f, ∀ c ∈ (E k).fn f, CalleeOK Tryd.prog f c := fnTab_ok ⟨⟨compact_Decode.ok k, trivial⟩, ⟨header_Good.ok k, trivial⟩, ⟨header_Id.ok k, trivial⟩, ⟨compact_Meets.ok k, trivial⟩, trivial⟩
namespace l0
theorem round (k : Nat) (d : (Unit × Unit × Unit × Int × Int × Unit)) (e : ((List Int) × (List Int) × T_3d5633 × T_3d5633 × (List Int) × Unit)) (G : St → Option (Ex × St)) : roundK Tryd.prog (E k) 42 0 (subC (bodyOf Tryd.f55) [1, 1, 1, 0, 1, 0, 0]) (recast cl hn kp) (finBy cl hn kp rc rs ri) G ⟨mkS S d, mkH H e⟩ =
    step (fun x28 y800002 => some (.exit 0, KX d e (x28, y800002))) (fun q0 q1 => some (.ret, RX d e (q0, q1))) (fun x28 y800002 => G ⟨mkS S ((), (), (), d.2.2.2.1, x28, ()), mkH H (e.1, e.2.1, y800002, e.2.2.2.1, e.2.2.2.2.1, ())⟩) k d.2.2.2.1 e.1 e.2.1 e.2.2.2.1 e.2.2.2.2.1 d.2.2.2.2.1 e.2.2.1 := by kernel_rfl
theorem it (k n : Nat) (d : (Unit × Unit × Unit × Int × Int × Unit)) (e : ((List Int) × (List Int) × T_3d5633 × T_3d5633 × (List Int) × Unit)) : loopIt Tryd.prog (E k) 42 0 (subC (bodyOf Tryd.f55) [1, 1, 1, 0, 1, 0, 0]) (recast cl hn kp) (finBy cl hn kp rc rs ri) n ⟨mkS S d, mkH H e⟩ = go (fun x28 y800002 => some (.exit 0, KX d e (x28, y800002))) (fun q0 q1 => some (.ret, RX d e (q0, q1))) k d.2.2.2.1 e.1 e.2.1 e.2.2.2.1 e.2.2.2.2.1 n d.2.2.2.2.1 e.2.2.1 :=
  loopIt_eq (D := (Unit × Unit × Unit × Int × Int × Unit) × ((List Int) × (List Int) × T_3d5633 × T_3d5633 × (List Int) × Unit)) (fun p => ⟨mkS S p.1, mkH H p.2⟩) (fun F p => step (fun x28 y800002 => some (.exit 0, KX p.1 p.2 (x28, y800002))) (fun q0 q1 => some (.ret, RX p.1 p.2 (q0, q1))) (fun x28 y800002 => F (((), (), (), p.1.2.2.2.1, x28, ()), (p.2.1, p.2.2.1, y800002, p.2.2.2.2.1, p.2.2.2.2.2.1, ()))) k p.1.2.2.2.1 p.2.1 p.2.2.1 p.2.2.2.2.1 p.2.2.2.2.2.1 p.1.2.2.2.2.1 p.2.2.2.1) (fun n p => go (fun x28 y800002 => some (.exit 0, KX p.1 p.2 (x28, y800002))) (fun q0 q1 => some (.ret, RX p.1 p.2 (q0, q1))) k p.1.2.2.2.1 p.2.1 p.2.2.1 p.2.2.2.2.1 p.2.2.2.2.2.1 n p.1.2.2.2.2.1 p.2.2.2.1) (fun _ => rfl) (fun _ _ => rfl) (fun G p => round k p.1 p.2 G) n (d, e)
theorem ok (k : Nat) : LoopOK Tryd.prog 42 (subC (bodyOf Tryd.f55) [1, 1, 1, 0, 1, 0, 0]) (sum k) :=
  loop_sig hm (fE k) (loopsOK_of [] (by kernel_rfl) trivial) S cl hn kp H 0 (fun (d : (Unit × Unit × Unit × Int × Int × Unit)) (e : ((List Int) × (List Int) × T_3d5633 × T_3d5633 × (List Int) × Unit)) => f k d.2.2.2.1 e.1 e.2.1 e.2.2.2.1 e.2.2.2.2.1 k d.2.2.2.2.1 e.2.2.1) KX RX cl hn kp rc rs ri k
    (fun d e => (it k k d e).trans (go_nat (exitOf 0 (KX d e) (RX d e)) (fun x28 y800002 => some (.inl (x28, y800002))) (fun q0 q1 => some (.inr (q0, q1))) k d.2.2.2.1 e.1 e.2.1 e.2.2.2.1 e.2.2.2.2.1 k d.2.2.2.2.1 e.2.2.1).symm)
end l0
theorem run (k : Nat) (d : (T_3d5633 × Int × Unit)) (e : ((List Int) × (List Int) × Unit)) : runFn Tryd.prog (E k) 42 (bodyOf Tryd.f55) Tryd.f55.results.toList cl hn hi (mkL ps d) (mkH hs e) =
    tree (fun b0 b1 => leafFn hs fi e val wr (b0, b1)) k d.1 d.2.1 e.1 e.2.1 := by kernel_rfl
theorem run_f (k : Nat) (d : (T_3d5633 × Int × Unit)) (e : ((List Int) × (List Int) × Unit)) : runFn Tryd.prog (E k) 42 (bodyOf Tryd.f55) Tryd.f55.results.toList cl hn hi (mkL ps d) (mkH hs e) = (f k d.1 d.2.1 e.1 e.2.1).bind (leafFn hs fi e val wr) :=
  (run k d e).trans (tree_nat (leafFn hs fi e val wr) (fun b0 b1 => some (b0, b1)) k d.1 d.2.1 e.1 e.2.1).symm
theorem fnIs : FnIs Tryd.prog 55 Tryd.f55 (bodyOf Tryd.f55) 42 := ⟨by kernel_rfl, by kernel_rfl, by kernel_rfl, by kernel_rfl⟩
theorem ok (k : Nat) : CalleeOK Tryd.prog 55 (callee k) :=
  callee_sig (T := (T_3d5633 × Bool)) fnIs hm (fE k) (loopsOK_of [(0, subC (bodyOf Tryd.f55) [1, 1, 1, 0, 1, 0, 0])] (by kernel_rfl) ⟨of_loop (l0.sum k) rfl (l0.ok k), trivial⟩) ps hs cl hn fi (fun (d : (T_3d5633 × Int × Unit)) (e : ((List Int) × (List Int) × Unit)) => f k d.1 d.2.1 e.1 e.2.1) val wr rfl (fun _ => rfl) (run_f k)
end header_Seek
namespace trailheadref02_Move
namespace l0
def step {X : Type} (K : Int → (List Int) → Option X) (G : Int → (List Int) → Option X) (k : Nat) (y800001 : (List Int)) (y800002 : (List Int)) (x1 : Int) (y800000 : (List Int)) : Option X :=
  (bif (decide (x1 ≥ (64 : Int))) then (G (subI .i64 x1 64) ([0, (List.getD y800000 0 0), (List.getD y800000 1 0), (List.getD y800000 2 0)] : (List Int))) else (K x1 y800000))
def go {X : Type} (K : Int → (List Int) → Option X) (k : Nat) (y800001 : (List Int)) (y800002 : (List Int)) : Nat → Int → (List Int) → Option X
  | 0, _, _ => none
  | n + 1, x1, y800000 => step K (go K k y800001 y800002 n) k y800001 y800002 x1 y800000
def f (k : Nat) (y800001 : (List Int)) (y800002 : (List Int)) (n : Nat) (x1 : Int) (y800000 : (List Int)) : Option (Int × (List Int)) := go (fun x1 y800000 => some (x1, y800000)) k y800001 y800002 n x1 y800000
theorem step_nat {X Y : Type} (h : X → Option Y) (K : Int → (List Int) → Option X) (G : Int → (List Int) → Option X) (k : Nat) (y800001 : (List Int)) (y800002 : (List Int)) (x1 : Int) (y800000 : (List Int)) : Option.bind (step K G k y800001 y800002 x1 y800000) h = step (fun x1 y800000 => Option.bind (K x1 y800000) h) (fun x1 y800000 => Option.bind (G x1 y800000) h) k y800001 y800002 x1 y800000 := by
  simp only [step, bif_bind, sel_bind', Option.bind_assoc, Option.bind_none, Option.bind_some]
theorem go_nat {X Y : Type} (h : X → Option Y) (K : Int → (List Int) → Option X) (k : Nat) (y800001 : (List Int)) (y800002 : (List Int)) (n : Nat) : ∀ (x1 : Int) (y800000 : (List Int)), Option.bind (go K k y800001 y800002 n x1 y800000) h = go (fun x1 y800000 => Option.bind (K x1 y800000) h) k y800001 y800002 n x1 y800000 := by
  induction n with
  | zero => intros; rfl
  | succ n ih => intro x1 y800000; show Option.bind (step K (go K k y800001 y800002 n) k y800001 y800002 x1 y800000) h = step (fun x1 y800000 => Option.bind (K x1 y800000) h) (go (fun x1 y800000 => Option.bind (K x1 y800000) h) k y800001 y800002 n) k y800001 y800002 x1 y800000; rw [step_nat h]; simp only [ih]
abbrev S : List (Nat × Sh) := [(1, .data (.int .i64)), (2, .ptr 800000), (4, .ptr 800001), (5, .ptr 800002)]
abbrev H : List (Nat × ESh) := [(800000, .cell (.data (.arr .u64 4))), (800001, .cell (.data (.arr .u64 4))), (800002, .cell (.data (.arr .u64 4)))]
abbrev cl : List (Place × Nat × Hint) := []
abbrev hn : List (Nat × Hint) := [(1, .any), (2, .any), (4, .any), (5, .any)]
abbrev kp : List Nat := []
abbrev rc : List (Place × Nat × Hint) := []
abbrev rs : List (Nat × Hint) := []
abbrev ri : List Nat := []
def KX (d : (Int × Unit × Unit × Unit × Unit)) (e : ((List Int) × (List Int) × (List Int) × Unit)) (v : (Int × (List Int))) : St := ⟨mkS S (v.1, (), (), (), ()), mkH H (v.2, e.2.1, e.2.2.1, ())⟩
def sum (k : Nat) : LoopSum := sigLoopX S cl hn kp H 0 (fun (d : (Int × Unit × Unit × Unit × Unit)) (e : ((List Int) × (List Int) × (List Int) × Unit)) => f k e.2.1 e.2.2.1 k d.1 e.1) KX
end l0
namespace l2
def step {X : Type} (K : Int → (List Int) → Option X) (G : Int → (List Int) → Option X) (k : Nat) (y800001 : (List Int)) (y800002 : (List Int)) (x1 : Int) (y800000 : (List Int)) : Option X :=
  (bif (decide (x1 ≤ ((-64) : Int))) then (G (addI .i64 x1 64) ([(List.getD y800000 1 0), (List.getD y800000 2 0), (List.getD y800000 3 0), 0] : (List Int))) else (K x1 y800000))
def go {X : Type} (K : Int → (List Int) → Option X) (k : Nat) (y800001 : (List Int)) (y800002 : (List Int)) : Nat → Int → (List Int) → Option X
  | 0, _, _ => none
  | n + 1, x1, y800000 => step K (go K k y800001 y800002 n) k y800001 y800002 x1 y800000
def f (k : Nat) (y800001 : (List Int)) (y800002 : (List Int)) (n : Nat) (x1 : Int) (y800000 : (List Int)) : Option (Int × (List Int)) := go (fun x1 y800000 => some (x1, y800000)) k y800001 y800002 n x1 y800000
theorem step_nat {X Y : Type} (h : X → Option Y) (K : Int → (List Int) → Option X) (G : Int → (List Int) → Option X) (k : Nat) (y800001 : (List Int)) (y800002 : (List Int)) (x1 : Int) (y800000 : (List Int)) : Option.bind (step K G k y800001 y800002 x1 y800000) h = step (fun x1 y800000 => Option.bind (K x1 y800000) h) (fun x1 y800000 => Option.bind (G x1 y800000) h) k y800001 y800002 x1 y800000 := by
  simp only [step, bif_bind, sel_bind', Option.bind_assoc, Option.bind_none, Option.bind_some]
theorem go_nat {X Y : Type} (h : X → Option Y) (K : Int → (List Int) → Option X) (k : Nat) (y800001 : (List Int)) (y800002 : (List Int)) (n : Nat) : ∀ (x1 : Int) (y800000 : (List Int)), Option.bind (go K k y800001 y800002 n x1 y800000) h = go (fun x1 y800000 => Option.bind (K x1 y800000) h) k y800001 y800002 n x1 y800000 := by
  induction n with
  | zero => intros; rfl
  | succ n ih => intro x1 y800000; show Option.bind (step K (go K k y800001 y800002 n) k y800001 y800002 x1 y800000) h = step (fun x1 y800000 => Option.bind (K x1 y800000) h) (go (fun x1 y800000 => Option.bind (K x1 y800000) h) k y800001 y800002 n) k y800001 y800002 x1 y800000; rw [step_nat h]; simp only [ih]
abbrev S : List (Nat × Sh) := [(1, .data (.int .i64)), (2, .ptr 800000), (4, .ptr 800001), (5, .ptr 800002)]
abbrev H : List (Nat × ESh) := [(800000, .cell (.data (.arr .u64 4))), (800001, .cell (.data (.arr .u64 4))), (800002, .cell (.data (.arr .u64 4)))]
abbrev cl : List (Place × Nat × Hint) := []
abbrev hn : List (Nat × Hint) := [(1, .any), (2, .any), (4, .any), (5, .any)]
abbrev kp : List Nat := []
abbrev rc : List (Place × Nat × Hint) := []
abbrev rs : List (Nat × Hint) := []
abbrev ri : List Nat := []
def KX (d : (Int × Unit × Unit × Unit × Unit)) (e : ((List Int) × (List Int) × (List Int) × Unit)) (v : (Int × (List Int))) : St := ⟨mkS S (v.1, (), (), (), ()), mkH H (v.2, e.2.1, e.2.2.1, ())⟩
def sum (k : Nat) : LoopSum := sigLoopX S cl hn kp H 2 (fun (d : (Int × Unit × Unit × Unit × Unit)) (e : ((List Int) × (List Int) × (List Int) × Unit)) => f k e.2.1 e.2.2.1 k d.1 e.1) KX
end l2
namespace l4
def step {X : Type} (K : Int → (List Int) → Option X) (G : Int → (List Int) → Option X) (k : Nat) (x1 : Int) (y800000 : (List Int)) (y800001 : (List Int)) (x6 : Int) (y800002 : (List Int)) : Option X :=
  (bif (decide (x6 < (4 : Int))) then (bif (decide (x1 > (0 : Int))) then (bif (decide (0 ≤ x6)) then (bif (decide (x6 < 4)) then (bif (decide ((Int.toNat x6) < 4)) then (bif (decide ((IntKind.wrap .u64 x1) < 0)) then none else (bif (decide (0 ≤ x6)) then (bif (decide (x6 < 4)) then (bif (decide ((Int.toNat x6) < 4)) then (bif (decide (x6 > (0 : Int))) then (bif (decide (0 ≤ x6)) then (bif (decide (x6 < 4)) then (bif (decide ((Int.toNat x6) < 4)) then (bif (decide (0 ≤ (subI .i64 x6 1))) then (bif (decide ((subI .i64 x6 1) < 4)) then (bif (decide ((Int.toNat (subI .i64 x6 1)) < 4)) then (bif (decide ((IntKind.wrap .u64 (subI .i64 64 x1)) < 0)) then none else (bif (decide (0 ≤ x6)) then (bif (decide (x6 < 4)) then (bif (decide ((Int.toNat x6) < 4)) then (G (addI .i64 x6 1) (List.set (List.set y800002 (Int.toNat x6) (shlI .u64 (List.getD y800000 (Int.toNat x6) 0) (IntKind.wrap .u64 x1))) (Int.toNat x6) (addI .u64 (List.getD (List.set y800002 (Int.toNat x6) (shlI .u64 (List.getD y800000 (Int.toNat x6) 0) (IntKind.wrap .u64 x1))) (Int.toNat x6) 0) (shrI .u64 (List.getD y800000 (Int.toNat (subI .i64 x6 1)) 0) (IntKind.wrap .u64 (subI .i64 64 x1)))))) else none) else none) else none)) else none) else none) else none) else none) else none) else none) else (G (addI .i64 x6 1) (List.set y800002 (Int.toNat x6) (shlI .u64 (List.getD y800000 (Int.toNat x6) 0) (IntKind.wrap .u64 x1))))) else none) else none) else none)) else none) else none) else none) else (bif (decide (0 ≤ x6)) then (bif (decide (x6 < 4)) then (bif (decide ((Int.toNat x6) < 4)) then (bif (decide ((IntKind.wrap .u64 (subI .i64 0 x1)) < 0)) then none else (bif (decide (0 ≤ x6)) then (bif (decide (x6 < 4)) then (bif (decide ((Int.toNat x6) < 4)) then (bif (decide (x6 < (3 : Int))) then (bif (decide (0 ≤ x6)) then (bif (decide (x6 < 4)) then (bif (decide ((Int.toNat x6) < 4)) then (bif (decide (0 ≤ (addI .i64 x6 1))) then (bif (decide ((addI .i64 x6 1) < 4)) then (bif (decide ((Int.toNat (addI .i64 x6 1)) < 4)) then (bif (decide ((IntKind.wrap .u64 (addI .i64 64 x1)) < 0)) then none else (bif (decide (0 ≤ x6)) then (bif (decide (x6 < 4)) then (bif (decide ((Int.toNat x6) < 4)) then (G (addI .i64 x6 1) (List.set (List.set y800002 (Int.toNat x6) (shrI .u64 (List.getD y800000 (Int.toNat x6) 0) (IntKind.wrap .u64 (subI .i64 0 x1)))) (Int.toNat x6) (addI .u64 (List.getD (List.set y800002 (Int.toNat x6) (shrI .u64 (List.getD y800000 (Int.toNat x6) 0) (IntKind.wrap .u64 (subI .i64 0 x1)))) (Int.toNat x6) 0) (shlI .u64 (List.getD y800000 (Int.toNat (addI .i64 x6 1)) 0) (IntKind.wrap .u64 (addI .i64 64 x1)))))) else none) else none) else none)) else none) else none) else none) else none) else none) else none) else (G (addI .i64 x6 1) (List.set y800002 (Int.toNat x6) (shrI .u64 (List.getD y800000 (Int.toNat x6) 0) (IntKind.wrap .u64 (subI .i64 0 x1)))))) else none) else none) else none)) else none) else none) else none)) else (K x6 y800002))
def go {X : Type} (K : Int → (List Int) → Option X) (k : Nat) (x1 : Int) (y800000 : (List Int)) (y800001 : (List Int)) : Nat → Int → (List Int) → Option X
  | 0, _, _ => none
  | n + 1, x6, y800002 => step K (go K k x1 y800000 y800001 n) k x1 y800000 y800001 x6 y800002
def f (k : Nat) (x1 : Int) (y800000 : (List Int)) (y800001 : (List Int)) (n : Nat) (x6 : Int) (y800002 : (List Int)) : Option (Int × (List Int)) := go (fun x6 y800002 => some (x6, y800002)) k x1 y800000 y800001 n x6 y800002
theorem step_nat {X Y : Type} (h : X → Option Y) (K : Int → (List Int) → Option X) (G : Int → (List Int) → Option X) (k : Nat) (x1 : Int) (y800000 : (List Int)) (y800001 : (List Int)) (x6 : Int) (y800002 : (List Int)) : Option.bind (step K G k x1 y800000 y800001 x6 y800002) h = step (fun x6 y800002 => Option.bind (K x6 y800002) h) (fun x6 y800002 => Option.bind (G x6 y800002) h) k x1 y800000 y800001 x6 y800002 := by
  simp only [step, bif_bind, sel_bind', Option.bind_assoc, Option.bind_none, Option.bind_some]
theorem go_nat {X Y : Type} (h : X → Option Y) (K : Int → (List Int) → Option X) (k : Nat) (x1 : Int) (y800000 : (List Int)) (y800001 : (List Int)) (n : Nat) : ∀ (x6 : Int) (y800002 : (List Int)), Option.bind (go K k x1 y800000 y800001 n x6 y800002) h = go (fun x6 y800002 => Option.bind (K x6 y800002) h) k x1 y800000 y800001 n x6 y800002 := by
  induction n with
  | zero => intros; rfl
  | succ n ih => intro x6 y800002; show Option.bind (step K (go K k x1 y800000 y800001 n) k x1 y800000 y800001 x6 y800002) h = step (fun x6 y800002 => Option.bind (K x6 y800002) h) (go (fun x6 y800002 => Option.bind (K x6 y800002) h) k x1 y800000 y800001 n) k x1 y800000 y800001 x6 y800002; rw [step_nat h]; simp only [ih]
abbrev S : List (Nat × Sh) := [(1, .data (.int .i64)), (2, .ptr 800000), (4, .ptr 800001), (5, .ptr 800002), (6, .data (.int .i64))]
abbrev H : List (Nat × ESh) := [(800000, .cell (.data (.arr .u64 4))), (800001, .cell (.data (.arr .u64 4))), (800002, .cell (.data (.arr .u64 4)))]
abbrev cl : List (Place × Nat × Hint) := []
abbrev hn : List (Nat × Hint) := [(1, .any), (2, .any), (4, .any), (5, .any), (6, .any)]
abbrev kp : List Nat := []
abbrev rc : List (Place × Nat × Hint) := []
abbrev rs : List (Nat × Hint) := []
abbrev ri : List Nat := []
def KX (d : (Int × Unit × Unit × Unit × Int × Unit)) (e : ((List Int) × (List Int) × (List Int) × Unit)) (v : (Int × (List Int))) : St := ⟨mkS S (d.1, (), (), (), v.1, ()), mkH H (e.1, e.2.1, v.2, ())⟩
def sum (k : Nat) : LoopSum := sigLoopX S cl hn kp H 4 (fun (d : (Int × Unit × Unit × Unit × Int × Unit)) (e : ((List Int) × (List Int) × (List Int) × Unit)) => f k d.1 e.1 e.2.1 k d.2.2.2.2.1 e.2.2.1) KX
end l4
def tree {X : Type} (K : (List Int) → Option X) (k : Nat) (a0 : (List Int)) (a1 : Int) : Option X :=
  (bif (decide (a1 ≤ ((-256) : Int))) then (K ([0, 0, 0, 0] : (List Int))) else (bif (decide (a1 ≥ (256 : Int))) then (K ([0, 0, 0, 0] : (List Int))) else (Option.bind (trailheadref02_Move.l0.f k ([0, 0, 0, 0] : (List Int)) ([0, 0, 0, 0] : (List Int)) k a1 a0) (fun r1 => (Option.bind (trailheadref02_Move.l2.f k ([0, 0, 0, 0] : (List Int)) ([0, 0, 0, 0] : (List Int)) k r1.1 r1.2) (fun r2 => (bif (r2.1 == (0 : Int)) then (K r2.2) else (Option.bind (trailheadref02_Move.l4.f k r2.1 r2.2 ([0, 0, 0, 0] : (List Int)) k (0 : Int) ([0, 0, 0, 0] : (List Int))) (fun r3 => (K r3.2))))))))))
def f (k : Nat) (a0 : (List Int)) (a1 : Int) : Option (List Int) := tree (fun b0 => some b0) k a0 a1
theorem tree_nat {X Y : Type} (h : X → Option Y) (K : (List Int) → Option X) (k : Nat) (a0 : (List Int)) (a1 : Int) : Option.bind (tree K k a0 a1) h = tree (fun b0 => Option.bind (K b0) h) k a0 a1 := by
  simp only [tree, bif_bind, sel_bind', Option.bind_assoc, Option.bind_none, Option.bind_some]
abbrev ps : List Sh := [.data (.arr .u64 4), .data (.int .i64)]
abbrev hs : List (Nat × ESh) := []
abbrev hi : List Nat := hs.map (·.1)
abbrev fi : List Nat := []
abbrev cl : List (Place × Nat × Hint) := []
abbrev hn : List Hint := [.any]
def val (t : (List Int)) : AV := Sh.mk (.data (.arr .u64 4)) t
def wr (t : (List Int)) : Heap := []
def callee (k : Nat) : Callee := sigCallee ps hs (fun (d : ((List Int) × Int × Unit)) (e : Unit) => f k d.1 d.2.1) val wr
def E (k : Nat) : Env := ⟨fnTab [], loopTab [(0, l0.sum k), (2, l2.sum k), (4, l4.sum k)], natsTab [], natTab []⟩
theorem fE (k : Nat) : ∀ f, ∀ c ∈ (E k).fn f, CalleeOK Tryd.prog f c := fnTab_ok trivial
namespace l0
theorem round (k : Nat) (d : (Int × Unit × Unit × Unit × Unit)) (e : ((List Int) × (List Int) × (List Int) × Unit)) (G : St → Option (Ex × St)) : roundK Tryd.prog (E k) 96 0 (subC (bodyOf Tryd.f75) [1, 1, 1, 0, 0, 0]) (recast cl hn kp) (finBy cl hn kp rc rs ri) G ⟨mkS S d, mkH H e⟩ =
    step (fun x1 y800000 => some (.exit 0, KX d e (x1, y800000))) (fun x1 y800000 => G ⟨mkS S (x1, (), (), (), ()), mkH H (y800000, e.2.1, e.2.2.1, ())⟩) k e.2.1 e.2.2.1 d.1 e.1 := by kernel_rfl
theorem it (k n : Nat) (d : (Int × Unit × Unit × Unit × Unit)) (e : ((List Int) × (List Int) × (List Int) × Unit)) : loopIt Tryd.prog (E k) 96 0 (subC (bodyOf Tryd.f75) [1, 1, 1, 0, 0, 0]) (recast cl hn kp) (finBy cl hn kp rc rs ri) n ⟨mkS S d, mkH H e⟩ = go (fun x1 y800000 => some (.exit 0, KX d e (x1, y800000))) k e.2.1 e.2.2.1 n d.1 e.1 :=
  loopIt_eq (D := (Int × Unit × Unit × Unit × Unit) × ((List Int) × (List Int) × (List Int) × Unit)) (fun p => ⟨mkS S p.1, mkH H p.2⟩) (fun F p => step (fun x1 y800000 => some (.exit 0, KX p.1 p.2 (x1, y800000))) (fun x1 y800000 => F ((x1, (), (), (), ()), (y800000, p.2.2.1, p.2.2.2.1, ()))) k p.2.2.1 p.2.2.2.1 p.1.1 p.2.1) (fun n p => go (fun x1 y800000 => some (.exit 0, KX p.1 p.2 (x1, y800000))) k p.2.2.1 p.2.2.2.1 n p.1.1 p.2.1) (fun _ => rfl) (fun _ _ => rfl) (fun G p => round k p.1 p.2 G) n (d, e)
theorem ok (k : Nat) : LoopOK Tryd.prog 96 (subC (bodyOf Tryd.f75) [1, 1, 1, 0, 0, 0]) (sum k) :=
  loop_sigX hm (fE k) (loopsOK_of [] (by kernel_rfl) trivial) S cl hn kp H 0 (fun (d : (Int × Unit × Unit × Unit × Unit)) (e : ((List Int) × (List Int) × (List Int) × Unit)) => f k e.2.1 e.2.2.1 k d.1 e.1) KX cl hn kp rc rs ri k
    (fun d e => (it k k d e).trans (go_nat (fun v => some (Ex.exit 0, KX d e v)) (fun x1 y800000 => some (x1, y800000)) k e.2.1 e.2.2.1 k d.1 e.1).symm)
end l0
namespace l2
theorem round (k : Nat) (d : (Int × Unit × Unit × Unit × Unit)) (e : ((List Int) × (List Int) × (List Int) × Unit)) (G : St → Option (Ex × St)) : roundK Tryd.prog (E k) 96 2 (subC (bodyOf Tryd.f75) [1, 1, 1, 1, 0, 0, 0]) (recast cl hn kp) (finBy cl hn kp rc rs ri) G ⟨mkS S d, mkH H e⟩ =
    step (fun x1 y800000 => some (.exit 2, KX d e (x1, y800000))) (fun x1 y800000 => G ⟨mkS S (x1, (), (), (), ()), mkH H (y800000, e.2.1, e.2.2.1, ())⟩) k e.2.1 e.2.2.1 d.1 e.1 := by kernel_rfl
theorem it (k n : Nat) (d : (Int × Unit × Unit × Unit × Unit)) (e : ((List Int) × (List Int) × (List Int) × Unit)) : loopIt Tryd.prog (E k) 96 2 (subC (bodyOf Tryd.f75) [1, 1, 1, 1, 0, 0, 0]) (recast cl hn kp) (finBy cl hn kp rc rs ri) n ⟨mkS S d, mkH H e⟩ = go (fun x1 y800000 => some (.exit 2, KX d e (x1, y800000))) k e.2.1 e.2.2.1 n d.1 e.1 :=
  loopIt_eq (D := (Int × Unit × Unit × Unit × Unit) × ((List Int) × (List Int) × (List Int) × Unit)) (fun p => ⟨mkS S p.1, mkH H p.2⟩) (fun F p => step (fun x1 y800000 => some (.exit 2, KX p.1 p.2 (x1, y800000))) (fun x1 y800000 => F ((x1, (), (), (), ()), (y800000, p.2.2.1, p.2.2.2.1, ()))) k p.2.2.1 p.2.2.2.1 p.1.1 p.2.1) (fun n p => go (fun x1 y800000 => some (.exit 2, KX p.1 p.2 (x1, y800000))) k p.2.2.1 p.2.2.2.1 n p.1.1 p.2.1) (fun _ => rfl) (fun _ _ => rfl) (fun G p => round k p.1 p.2 G) n (d, e)
theorem ok (k : Nat) : LoopOK Tryd.prog 96 (subC (bodyOf Tryd.f75) [1, 1, 1, 1, 0, 0, 0]) (sum k) :=
  loop_sigX hm (fE k) (loopsOK_of [] (by kernel_rfl) trivial) S cl hn kp H 2 (fun (d : (Int × Unit × Unit × Unit × Unit)) (e : ((List Int) × (List Int) × (List Int) × Unit)) => f k e.2.1 e.2.2.1 k d.1 e.1) KX cl hn kp rc rs ri k
    (fun d e => (it k k d e).trans (go_nat (fun v => some (Ex.exit 2, KX d e v)) (fun x1 y800000 => some (x1, y800000)) k e.2.1 e.2.2.1 k d.1 e.1).symm)
end l2
namespace l4
theorem round (k : Nat) (d : (Int × Unit × Unit × Unit × Int × Unit)) (e : ((List Int) × (List Int) × (List Int) × Unit)) (G : St → Option (Ex × St)) : roundK Tryd.prog (E k) 96 4 (subC (bodyOf Tryd.f75) [1, 1, 1, 1, 1, 1, 0, 1, 0, 0]) (recast cl hn kp) (finBy cl hn kp rc rs ri) G ⟨mkS S d, mkH H e⟩ =
    step (fun x6 y800002 => some (.exit 4, KX d e (x6, y800002))) (fun x6 y800002 => G ⟨mkS S (d.1, (), (), (), x6, ()), mkH H (e.1, e.2.1, y800002, ())⟩) k d.1 e.1 e.2.1 d.2.2.2.2.1 e.2.2.1 := by kernel_rfl
theorem it (k n : Nat) (d : (Int × Unit × Unit × Unit × Int × Unit)) (e : ((List Int) × (List Int) × (List Int) × Unit)) : loopIt Tryd.prog (E k) 96 4 (subC (bodyOf Tryd.f75) [1, 1, 1, 1, 1, 1, 0, 1, 0, 0]) (recast cl hn kp) (finBy cl hn kp rc rs ri) n ⟨mkS S d, mkH H e⟩ = go (fun x6 y800002 => some (.exit 4, KX d e (x6, y800002))) k d.1 e.1 e.2.1 n d.2.2.2.2.1 e.2.2.1 :=
  loopIt_eq (D := (Int × Unit × Unit × Unit × Int × Unit) × ((List Int) × (List Int) × (List Int) × Unit)) (fun p => ⟨mkS S p.1, mkH H p.2⟩) (fun F p => step (fun x6 y800002 => some (.exit 4, KX p.1 p.2 (x6, y800002))) (fun x6 y800002 => F ((p.1.1, (), (), (), x6, ()), (p.2.1, p.2.2.1, y800002, ()))) k p.1.1 p.2.1 p.2.2.1 p.1.2.2.2.2.1 p.2.2.2.1) (fun n p => go (fun x6 y800002 => some (.exit 4, KX p.1 p.2 (x6, y800002))) k p.1.1 p.2.1 p.2.2.1 n p.1.2.2.2.2.1 p.2.2.2.1) (fun _ => rfl) (fun _ _ => rfl) (fun G p => round k p.1 p.2 G) n (d, e)
theorem ok (k : Nat) : LoopOK Tryd.prog 96 (subC (bodyOf Tryd.f75) [1, 1, 1, 1, 1, 1, 0, 1, 0, 0]) (sum k) :=
  loop_sigX hm (fE k) (loopsOK_of [] (by kernel_rfl) trivial) S cl hn kp H 4 (fun (d : (Int × Unit × Unit × Unit × Int × Unit)) (e : ((List Int) × (List Int) × (List Int) × Unit)) => f k d.1 e.1 e.2.1 k d.2.2.2.2.1 e.2.2.1) KX cl hn kp rc rs ri k
    (fun d e => (it k k d e).trans (go_nat (fun v => some (Ex.exit 4, KX d e v)) (fun x6 y800002 => some (x6, y800002)) k d.1 e.1 e.2.1 k d.2.2.2.2.1 e.2.2.1).symm)
end l4
theorem run (k : Nat) (d : ((List Int) × Int × Unit)) (e : Unit) : runFn Tryd.prog (E k) 96 (bodyOf Tryd.f75) Tryd.f75.results.toList cl hn hi (mkL ps d) (mkH hs e) =
    tree (fun b0 => leafFn hs fi e val wr b0) k d.1 d.2.1 := by kernel_rfl
theorem run_f (k : Nat) (d : ((List Int) × Int × Unit)) (e : Unit) : runFn Tryd.prog (E k) 96 (bodyOf Tryd.f75) Tryd.f75.results.toList cl hn hi (mkL ps d) (mkH hs e) = (f k d.1 d.2.1).bind (leafFn hs fi e val wr) :=
  (run k d e).trans (tree_nat (leafFn hs fi e val wr) (fun b0 => some b0) k d.1 d.2.1).symm
theorem fnIs : FnIs Tryd.prog 75 Tryd.f75 (bodyOf Tryd.f75) 96 := ⟨by kernel_rfl, by kernel_rfl, by kernel_rfl, by kernel_rfl⟩
theorem ok (k : Nat) : CalleeOK Tryd.prog 75 (callee k) :=
  callee_sig (T := (List Int)) fnIs hm (fE k) (loopsOK_of [(0, subC (bodyOf Tryd.f75) [1, 1, 1, 0, 0, 0]), (2, subC (bodyOf Tryd.f75) [1, 1, 1, 1, 0, 0, 0]), (4, subC (bodyOf Tryd.f75) [1, 1, 1, 1, 1, 1, 0, 1, 0, 0])] (by kernel_rfl) ⟨of_loop (l0.sum k) rfl (l0.ok k), ⟨of_loop (l2.sum k) rfl (l2.ok k), ⟨of_loop (l4.sum k) rfl (l4.ok k), trivial⟩⟩⟩) ps hs cl hn fi (fun (d : ((List Int) × Int × Unit)) (e : Unit) => f k d.1 d.2.1) val wr rfl (fun _ => rfl) (run_f k)
end trailheadref02_Move
namespace trailheadref03_Decode
def tree {X : Type} (K : (List Int) → Bool → Bool → Option X) (k : Nat) (a0 : Int) : Option X :=
  (bif (decide (a0 < (0 : Int))) then (K ([0, 0, 0, 0] : (List Int)) false false) else (bif (decide (a0 > (4294967295 : Int))) then (K ([0, 0, 0, 0] : (List Int)) false false) else (Option.bind (trailheadref02_Move.f k ([(IntKind.wrap .u64 (remI a0 8388608)), 0, 0, 0] : (List Int)) (mulI .i64 8 (subI .i64 (quoI .i64 a0 16777216) 3))) (fun r1 => (bif (decide ((remI a0 8388608) > (0 : Int))) then (bif (decide ((quoI .i64 a0 16777216) > (34 : Int))) then (bif (decide ((remI a0 8388608) > (0 : Int))) then (K r1 ((remI (quoI .i64 a0 8388608) 2) == (1 : Int)) true) else (K r1 false true)) else (bif (decide ((remI a0 8388608) > (255 : Int))) then (bif (decide ((quoI .i64 a0 16777216) > (33 : Int))) then (bif (decide ((remI a0 8388608) > (0 : Int))) then (K r1 ((remI (quoI .i64 a0 8388608) 2) == (1 : Int)) true) else (K r1 false true)) else (bif (decide ((remI a0 8388608) > (65535 : Int))) then (bif (decide ((remI a0 8388608) > (0 : Int))) then (K r1 ((remI (quoI .i64 a0 8388608) 2) == (1 : Int)) (decide ((quoI .i64 a0 16777216) > (32 : Int)))) else (K r1 false (decide ((quoI .i64 a0 16777216) > (32 : Int))))) else (bif (decide ((remI a0 8388608) > (0 : Int))) then (K r1 ((remI (quoI .i64 a0 8388608) 2) == (1 : Int)) false) else (K r1 false false)))) else (bif (decide ((remI a0 8388608) > (65535 : Int))) then (bif (decide ((remI a0 8388608) > (0 : Int))) then (K r1 ((remI (quoI .i64 a0 8388608) 2) == (1 : Int)) (decide ((quoI .i64 a0 16777216) > (32 : Int)))) else (K r1 false (decide ((quoI .i64 a0 16777216) > (32 : Int))))) else (bif (decide ((remI a0 8388608) > (0 : Int))) then (K r1 ((remI (quoI .i64 a0 8388608) 2) == (1 : Int)) false) else (K r1 false false))))) else (bif (decide ((remI a0 8388608) > (255 : Int))) then (bif (decide ((quoI .i64 a0 16777216) > (33 : Int))) then (bif (decide ((remI a0 8388608) > (0 : Int))) then (K r1 ((remI (quoI .i64 a0 8388608) 2) == (1 : Int)) true) else (K r1 false true)) else (bif (decide ((remI a0 8388608) > (65535 : Int))) then (bif (decide ((remI a0 8388608) > (0 : Int))) then (K r1 ((remI (quoI .i64 a0 8388608) 2) == (1 : Int)) (decide ((quoI .i64 a0 16777216) > (32 : Int)))) else (K r1 false (decide ((quoI .i64 a0 16777216) > (32 : Int))))) else (bif (decide ((remI a0 8388608) > (0 : Int))) then (K r1 ((remI (quoI .i64 a0 8388608) 2) == (1 : Int)) false) else (K r1 false false)))) else (bif (decide ((remI a0 8388608) > (65535 : Int))) then (bif (decide ((remI a0 8388608) > (0 : Int))) then (K r1 ((remI (quoI .i64 a0 8388608) 2) == (1 : Int)) (decide ((quoI .i64 a0 16777216) > (32 : Int)))) else (K r1 false (decide ((quoI .i64 a0 16777216) > (32 : Int))))) else (bif (decide ((remI a0 8388608) > (0 : Int))) then (K r1 ((remI (quoI .i64 a0 8388608) 2) == (1 : Int)) false) else (K r1 false false)))))))))
def f (k : Nat) (a0 : Int) : Option ((List Int) × (Bool × Bool)) := tree (fun b0 b1 b2 => some (b0, b1, b2)) k a0
theorem tree_nat {X Y : Type} (h : X → Option Y) (K : (List Int) → Bool → Bool → Option X) (k : Nat) (a0 : Int) : Option.bind (tree K k a0) h = tree (fun b0 b1 b2 => Option.bind (K b0 b1 b2) h) k a0 := by
  simp only [tree, bif_bind, sel_bind', Option.bind_assoc, Option.bind_none, Option.bind_some]
abbrev ps : List Sh := [.data (.int .i64)]
abbrev hs : List (Nat × ESh) := []
abbrev hi : List Nat := hs.map (·.1)
abbrev fi : List Nat := []
abbrev cl : List (Place × Nat × Hint) := []
abbrev hn : List Hint := [.any, .any, .any]
def val (t : ((List Int) × (Bool × Bool))) : AV := .tcons (Sh.mk (.data (.arr .u64 4)) t.1) (.tcons (Sh.mk (.data .bool) t.2.1) (.tcons (Sh.mk (.data .bool) t.2.2) .tnil))
def wr (t : ((List Int) × (Bool × Bool))) : Heap := []
def callee (k : Nat) : Callee := sigCallee ps hs (fun (d : (Int × Unit)) (e : Unit) => f k d.1) val wr
def E (k : Nat) : Env := ⟨fnTab [(75, [trailheadref02_Move.callee k])], loopTab [], natsTab [], natTab []⟩
theorem fE (k : Nat) : ∀ f, ∀ c ∈ (E k).fn f, CalleeOK Tryd.prog f c := fnTab_ok ⟨⟨trailheadref02_Move.ok k, trivial⟩, trivial⟩
theorem run (k : Nat) (d : (Int × Unit)) (e : Unit) : runFn Tryd.prog (E k) 61 (bodyOf Tryd.f56) Tryd.f56.results.toList cl hn hi (mkL ps d) (mkH hs e) =
    tree (fun b0 b1 b2 => leafFn hs fi e val wr (b0, b1, b2)) k d.1 := by kernel_rfl
theorem run_f (k : Nat) (d : (Int × Unit)) (e : Unit) : runFn Tryd.prog (E k) 61 (bodyOf Tryd.f56) Tryd.f56.results.toList cl hn hi (mkL ps d) (mkH hs e) = (f k d.1).bind (leafFn hs fi e val wr) :=
  (run k d e).trans (tree_nat (leafFn hs fi e val wr) (fun b0 b1 b2 => some (b0, b1, b2)) k d.1).symm
theorem fnIs : FnIs Tryd.prog 56 Tryd.f56 (bodyOf Tryd.f56) 61 := ⟨by kernel_rfl, by kernel_rfl, by kernel_rfl, by kernel_rfl⟩
theorem ok (k : Nat) : CalleeOK Tryd.prog 56 (callee k) :=
  callee_sig (T := ((List Int) × (Bool × Bool))) fnIs hm (fE k) (loopsOK_of [] (by kernel_rfl) trivial) ps hs cl hn fi (fun (d : (Int × Unit)) (e : Unit) => f k d.1) val wr rfl (fun _ => rfl) (run_f k)
end trailheadref03_Decode
namespace trailheadref03_Number
namespace l0
def step {X : Type} (K : Int → (List Int) → Option X) (G : Int → (List Int) → Option X) (k : Nat) (y800000 : (List Int)) (y800001 : (List Int)) (x4 : Int) (y800002 : (List Int)) : Option X :=
  (bif (decide (x4 ≥ (0 : Int))) then (Option.bind (trailheadref02_Move.f k y800002 (8 : Int)) (fun r1 => (bif (decide (0 ≤ x4)) then (bif (decide (x4 < 32)) then (bif (decide ((Int.toNat x4) < 32)) then (G (subI .i64 x4 1) (List.set r1 0 (addI .u64 (List.getD r1 0 0) (IntKind.wrap .u64 (List.getD y800000 (Int.toNat x4) 0))))) else none) else none) else none))) else (K x4 y800002))
def go {X : Type} (K : Int → (List Int) → Option X) (k : Nat) (y800000 : (List Int)) (y800001 : (List Int)) : Nat → Int → (List Int) → Option X
  | 0, _, _ => none
  | n + 1, x4, y800002 => step K (go K k y800000 y800001 n) k y800000 y800001 x4 y800002
def f (k : Nat) (y800000 : (List Int)) (y800001 : (List Int)) (n : Nat) (x4 : Int) (y800002 : (List Int)) : Option (Int × (List Int)) := go (fun x4 y800002 => some (x4, y800002)) k y800000 y800001 n x4 y800002
theorem step_nat {X Y : Type} (h : X → Option Y) (K : Int → (List Int) → Option X) (G : Int → (List Int) → Option X) (k : Nat) (y800000 : (List Int)) (y800001 : (List Int)) (x4 : Int) (y800002 : (List Int)) : Option.bind (step K G k y800000 y800001 x4 y800002) h = step (fun x4 y800002 => Option.bind (K x4 y800002) h) (fun x4 y800002 => Option.bind (G x4 y800002) h) k y800000 y800001 x4 y800002 := by
  simp only [step, bif_bind, sel_bind', Option.bind_assoc, Option.bind_none, Option.bind_some]
theorem go_nat {X Y : Type} (h : X → Option Y) (K : Int → (List Int) → Option X) (k : Nat) (y800000 : (List Int)) (y800001 : (List Int)) (n : Nat) : ∀ (x4 : Int) (y800002 : (List Int)), Option.bind (go K k y800000 y800001 n x4 y800002) h = go (fun x4 y800002 => Option.bind (K x4 y800002) h) k y800000 y800001 n x4 y800002 := by
  induction n with
  | zero => intros; rfl
  | succ n ih => intro x4 y800002; show Option.bind (step K (go K k y800000 y800001 n) k y800000 y800001 x4 y800002) h = step (fun x4 y800002 => Option.bind (K x4 y800002) h) (go (fun x4 y800002 => Option.bind (K x4 y800002) h) k y800000 y800001 n) k y800000 y800001 x4 y800002; rw [step_nat h]; simp only [ih]
abbrev S : List (Nat × Sh) := [(1, .ptr 800000), (2, .ptr 800001), (3, .ptr 800002), (4, .data (.int .i64))]
abbrev H : List (Nat × ESh) := [(800000, .cell (.data (.arr .u8 32))), (800001, .cell (.data (.arr .u64 4))), (800002, .cell (.data (.arr .u64 4)))]
abbrev cl : List (Place × Nat × Hint) := []
abbrev hn : List (Nat × Hint) := [(1, .any), (2, .any), (3, .any), (4, .any)]
abbrev kp : List Nat := []
abbrev rc : List (Place × Nat × Hint) := []
abbrev rs : List (Nat × Hint) := []
abbrev ri : List Nat := []
def KX (d : (Unit × Unit × Unit × Int × Unit)) (e : ((List Int) × (List Int) × (List Int) × Unit)) (v : (Int × (List Int))) : St := ⟨mkS S ((), (), (), v.1, ()), mkH H (e.1, e.2.1, v.2, ())⟩
def sum (k : Nat) : LoopSum := sigLoopX S cl hn kp H 0 (fun (d : (Unit × Unit × Unit × Int × Unit)) (e : ((List Int) × (List Int) × (List Int) × Unit)) => f k e.1 e.2.1 k d.2.2.2.1 e.2.2.1) KX
end l0
def tree {X : Type} (K : (List Int) → Option X) (k : Nat) (a0 : (List Int)) : Option X :=
  (Option.bind (trailheadref03_Number.l0.f k a0 ([0, 0, 0, 0] : (List Int)) k (31 : Int) ([0, 0, 0, 0] : (List Int))) (fun r2 => (K r2.2)))
def f (k : Nat) (a0 : (List Int)) : Option (List Int) := tree (fun b0 => some b0) k a0
theorem tree_nat {X Y : Type} (h : X → Option Y) (K : (List Int) → Option X) (k : Nat) (a0 : (List Int)) : Option.bind (tree K k a0) h = tree (fun b0 => Option.bind (K b0) h) k a0 := by
  simp only [tree, bif_bind, sel_bind', Option.bind_assoc, Option.bind_none, Option.bind_some]
abbrev ps : List Sh := [.data (.arr .u8 32)]
abbrev hs : List (Nat × ESh) := []
abbrev hi : List Nat := hs.map (·.1)
abbrev fi : List Nat := []
abbrev cl : List (Place × Nat × Hint) := []
abbrev hn : List Hint := [.any]
def val (t : (List Int)) : AV := Sh.mk (.data (.arr .u64 4)) t
def wr (t : (List Int)) : Heap := []
def callee (k : Nat) : Callee := sigCallee ps hs (fun (d : ((List Int) × Unit)) (e : Unit) => f k d.1) val wr
def E (k : Nat) : Env := ⟨fnTab [(75, [trailheadref02_Move.callee k])], loopTab [(0, l0.sum k)], natsTab [], natTab []⟩
theorem fE (k : Nat) : ∀ f, ∀ c ∈ (E k).fn f, CalleeOK Tryd.prog f c := fnTab_ok ⟨⟨trailheadref02_Move.ok k, trivial⟩, trivial⟩
namespace l0
theorem round (k : Nat) (d : (Unit × Unit × Unit × Int × Unit)) (e : ((List Int) × (List Int) × (List Int) × Unit)) (G : St → Option (Ex × St)) : roundK Tryd.prog (E k) 21 0 (subC (bodyOf Tryd.f58) [1, 1, 0, 1, 0, 0]) (recast cl hn kp) (finBy cl hn kp rc rs ri) G ⟨mkS S d, mkH H e⟩ =
    step (fun x4 y800002 => some (.exit 0, KX d e (x4, y800002))) (fun x4 y800002 => G ⟨mkS S ((), (), (), x4, ()), mkH H (e.1, e.2.1, y800002, ())⟩) k e.1 e.2.1 d.2.2.2.1 e.2.2.1 := by kernel_rfl
theorem it (k n : Nat) (d : (Unit × Unit × Unit × Int × Unit)) (e : ((List Int) × (List Int) × (List Int) × Unit)) : loopIt Tryd.prog (E k) 21 0 (subC (bodyOf Tryd.f58) [1, 1, 0, 1, 0, 0]) (recast cl hn kp) (finBy cl hn kp rc rs ri) n ⟨mkS S d, mkH H e⟩ = go (fun x4 y800002 => some (.exit 0, KX d e (x4, y800002))) k e.1 e.2.1 n d.2.2.2.1 e.2.2.1 :=
  loopIt_eq (D := (Unit × Unit × Unit × Int × Unit) × ((List Int) × (List Int) × (List Int) × Unit)) (fun p => ⟨mkS S p.1, mkH H p.2⟩) (fun F p => step (fun x4 y800002 => some (.exit 0, KX p.1 p.2 (x4, y800002))) (fun x4 y800002 => F (((), (), (), x4, ()), (p.2.1, p.2.2.1, y800002, ()))) k p.2.1 p.2.2.1 p.1.2.2.2.1 p.2.2.2.1) (fun n p => go (fun x4 y800002 => some (.exit 0, KX p.1 p.2 (x4, y800002))) k p.2.1 p.2.2.1 n p.1.2.2.2.1 p.2.2.2.1) (fun _ => rfl) (fun _ _ => rfl) (fun G p => round k p.1 p.2 G) n (d, e)
theorem ok (k : Nat) : LoopOK Tryd.prog 21 (subC (bodyOf Tryd.f58) [1, 1, 0, 1, 0, 0]) (sum k) :=
  loop_sigX hm (fE k) (loopsOK_of [] (by kernel_rfl) trivial) S cl hn kp H 0 (fun (d : (Unit × Unit × Unit × Int × Unit)) (e : ((List Int) × (List Int) × (List Int) × Unit)) => f k e.1 e.2.1 k d.2.2.2.1 e.2.2.1) KX cl hn kp rc rs ri k
    (fun d e => (it k k d e).trans (go_nat (fun v => some (Ex.exit 0, KX d e v)) (fun x4 y800002 => some (x4, y800002)) k e.1 e.2.1 k d.2.2.2.1 e.2.2.1).symm)
end l0
theorem run (k : Nat) (d : ((List Int) × Unit)) (e : Unit) : runFn Tryd.prog (E k) 21 (bodyOf Tryd.f58) Tryd.f58.results.toList cl hn hi (mkL ps d) (mkH hs e) =
    tree (fun b0 => leafFn hs fi e val wr b0) k d.1 := by kernel_rfl
theorem run_f (k : Nat) (d : ((List Int) × Unit)) (e : Unit) : runFn Tryd.prog (E k) 21 (bodyOf Tryd.f58) Tryd.f58.results.toList cl hn hi (mkL ps d) (mkH hs e) = (f k d.1).bind (leafFn hs fi e val wr) :=
  (run k d e).trans (tree_nat (leafFn hs fi e val wr) (fun b0 => some b0) k d.1).symm
theorem fnIs : FnIs Tryd.prog 58 Tryd.f58 (bodyOf Tryd.f58) 21 := ⟨by kernel_rfl, by kernel_rfl, by kernel_rfl, by kernel_rfl⟩
theorem ok (k : Nat) : CalleeOK Tryd.prog 58 (callee k) :=
  callee_sig (T := (List Int)) fnIs hm (fE k) (loopsOK_of [(0, subC (bodyOf Tryd.f58) [1, 1, 0, 1, 0, 0])] (by kernel_rfl) ⟨of_loop (l0.sum k) rfl (l0.ok k), trivial⟩) ps hs cl hn fi (fun (d : ((List Int) × Unit)) (e : Unit) => f k d.1) val wr rfl (fun _ => rfl) (run_f k)
end trailheadref03_Number
namespace trailheadref02_Bit
def tree {X : Type} (K : Int → Option X) (k : Nat) (a0 : (List Int)) (a1 : Int) : Option X :=
  (bif (decide (a1 < (0 : Int))) then (K (0 : Int)) else (bif (decide (a1 > (255 : Int))) then (K (0 : Int)) else (bif (decide (0 ≤ (quoI .i64 a1 64))) then (bif (decide ((quoI .i64 a1 64) < 4)) then (bif (decide ((Int.toNat (quoI .i64 a1 64)) < 4)) then (bif (decide ((IntKind.wrap .u64 (remI a1 64)) < 0)) then none else (K (IntKind.wrap .i64 (remI (shrI .u64 (List.getD a0 (Int.toNat (quoI .i64 a1 64)) 0) (IntKind.wrap .u64 (remI a1 64))) 2)))) else none) else none) else none)))
def f (k : Nat) (a0 : (List Int)) (a1 : Int) : Option Int := tree (fun b0 => some b0) k a0 a1
theorem tree_nat {X Y : Type} (h : X → Option Y) (K : Int → Option X) (k : Nat) (a0 : (List Int)) (a1 : Int) : Option.bind (tree K k a0 a1) h = tree (fun b0 => Option.bind (K b0) h) k a0 a1 := by
  simp only [tree, bif_bind, sel_bind', Option.bind_assoc, Option.bind_none, Option.bind_some]
abbrev ps : List Sh := [.data (.arr .u64 4), .data (.int .i64)]
abbrev hs : List (Nat × ESh) := []
abbrev hi : List Nat := hs.map (·.1)
abbrev fi : List Nat := []
abbrev cl : List (Place × Nat × Hint) := []
abbrev hn : List Hint := [.any]
def val (t : Int) : AV := Sh.mk (.data (.int .i64)) t
def wr (t : Int) : Heap := []
def callee (k : Nat) : Callee := sigCallee ps hs (fun (d : ((List Int) × Int × Unit)) (e : Unit) => f k d.1 d.2.1) val wr
def E (k : Nat) : Env := ⟨fnTab [], loopTab [], natsTab [], natTab []⟩
theorem fE (k : Nat) : ∀ f, ∀ c ∈ (E k).fn f, CalleeOK Tryd.prog f c := fnTab_ok trivial
theorem run (k : Nat) (d : ((List Int) × Int × Unit)) (e : Unit) : runFn Tryd.prog (E k) 21 (bodyOf Tryd.f76) Tryd.f76.results.toList cl hn hi (mkL ps d) (mkH hs e) =
    tree (fun b0 => leafFn hs fi e val wr b0) k d.1 d.2.1 := by kernel_rfl
theorem run_f (k : Nat) (d : ((List Int) × Int × Unit)) (e : Unit) : runFn Tryd.prog (E k) 21 (bodyOf Tryd.f76) Tryd.f76.results.toList cl hn hi (mkL ps d) (mkH hs e) = (f k d.1 d.2.1).bind (leafFn hs fi e val wr) :=
  (run k d e).trans (tree_nat (leafFn hs fi e val wr) (fun b0 => some b0) k d.1 d.2.1).symm
theorem fnIs : FnIs Tryd.prog 76 Tryd.f76 (bodyOf Tryd.f76) 21 := ⟨by kernel_rfl, by kernel_rfl, by kernel_rfl, by kernel_rfl⟩
theorem ok (k : Nat) : CalleeOK Tryd.prog 76 (callee k) :=
  callee_sig (T := Int) fnIs hm (fE k) (loopsOK_of [] (by kernel_rfl) trivial) ps hs cl hn fi (fun (d : ((List Int) × Int × Unit)) (e : Unit) => f k d.1 d.2.1) val wr rfl (fun _ => rfl) (run_f k)
end trailheadref02_Bit
namespace trailheadref02_Less
namespace l0
def step {X : Type} (K : Int → Option X) (Q : Bool → Option X) (G : Int → Option X) (k : Nat) (y800000 : (List Int)) (y800001 : (List Int)) (x5 : Int) : Option X :=
  (bif (decide (x5 ≥ (0 : Int))) then (Option.bind (trailheadref02_Bit.f k y800000 x5) (fun r1 => (Option.bind (trailheadref02_Bit.f k y800001 x5) (fun r2 => (bif (r1 != r2) then (Option.bind (trailheadref02_Bit.f k y800000 x5) (fun r3 => (Option.bind (trailheadref02_Bit.f k y800001 x5) (fun r4 => (Q (decide (r3 < r4))))))) else (G (subI .i64 x5 1))))))) else (K x5))
def go {X : Type} (K : Int → Option X) (Q : Bool → Option X) (k : Nat) (y800000 : (List Int)) (y800001 : (List Int)) : Nat → Int → Option X
  | 0, _ => none
  | n + 1, x5 => step K Q (go K Q k y800000 y800001 n) k y800000 y800001 x5
def f (k : Nat) (y800000 : (List Int)) (y800001 : (List Int)) (n : Nat) (x5 : Int) : Option (Int ⊕ Bool) := go (fun x5 => some (.inl x5)) (fun q0 => some (.inr q0)) k y800000 y800001 n x5
theorem step_nat {X Y : Type} (h : X → Option Y) (K : Int → Option X) (Q : Bool → Option X) (G : Int → Option X) (k : Nat) (y800000 : (List Int)) (y800001 : (List Int)) (x5 : Int) : Option.bind (step K Q G k y800000 y800001 x5) h = step (fun x5 => Option.bind (K x5) h) (fun q0 => Option.bind (Q q0) h) (fun x5 => Option.bind (G x5) h) k y800000 y800001 x5 := by
  simp only [step, bif_bind, sel_bind', Option.bind_assoc, Option.bind_none, Option.bind_some]
theorem go_nat {X Y : Type} (h : X → Option Y) (K : Int → Option X) (Q : Bool → Option X) (k : Nat) (y800000 : (List Int)) (y800001 : (List Int)) (n : Nat) : ∀ (x5 : Int), Option.bind (go K Q k y800000 y800001 n x5) h = go (fun x5 => Option.bind (K x5) h) (fun q0 => Option.bind (Q q0) h) k y800000 y800001 n x5 := by
  induction n with
  | zero => intros; rfl
  | succ n ih => intro x5; show Option.bind (step K Q (go K Q k y800000 y800001 n) k y800000 y800001 x5) h = step (fun x5 => Option.bind (K x5) h) (fun q0 => Option.bind (Q q0) h) (go (fun x5 => Option.bind (K x5) h) (fun q0 => Option.bind (Q q0) h) k y800000 y800001 n) k y800000 y800001 x5; rw [step_nat h]; simp only [ih]
abbrev S : List (Nat × Sh) := [(2, .ptr 800000), (3, .ptr 800001), (5, .data (.int .i64))]
abbrev H : List (Nat × ESh) := [(800000, .cell (.data (.arr .u64 4))), (800001, .cell (.data (.arr .u64 4)))]
abbrev cl : List (Place × Nat × Hint) := []
abbrev hn : List (Nat × Hint) := [(2, .any), (3, .any), (5, .any)]
abbrev kp : List Nat := []
abbrev rc : List (Place × Nat × Hint) := []
abbrev rs : List (Nat × Hint) := [(4, .any)]
abbrev ri : List Nat := []
def KX (d : (Unit × Unit × Int × Unit)) (e : ((List Int) × (List Int) × Unit)) (v : Int) : St := ⟨mkS S ((), (), v, ()), mkH H (e.1, e.2.1, ())⟩
abbrev RS : List (Nat × Sh) := [(4, .data .bool)]
abbrev RH : List (Nat × ESh) := []
def RX (d : (Unit × Unit × Int × Unit)) (e : ((List Int) × (List Int) × Unit)) (v : Bool) : St := ⟨mkS RS (v, ()), mkH RH (())⟩
def sum (k : Nat) : LoopSum := sigLoop S cl hn kp H 0 (fun (d : (Unit × Unit × Int × Unit)) (e : ((List Int) × (List Int) × Unit)) => f k e.1 e.2.1 k d.2.2.1) KX RX
end l0
def tree {X : Type} (K : Bool → Option X) (k : Nat) (a0 : (List Int)) (a1 : (List Int)) : Option X :=
  (Option.bind (trailheadref02_Less.l0.f k a0 a1 k (255 : Int)) (fun r5 => sel r5 (fun v6 => (K false)) (fun q7 => (K q7))))
def f (k : Nat) (a0 : (List Int)) (a1 : (List Int)) : Option Bool := tree (fun b0 => some b0) k a0 a1
theorem tree_nat {X Y : Type} (h : X → Option Y) (K : Bool → Option X) (k : Nat) (a0 : (List Int)) (a1 : (List Int)) : Option.bind (tree K k a0 a1) h = tree (fun b0 => Option.bind (K b0) h) k a0 a1 := by
  simp only [tree, bif_bind, sel_bind', Option.bind_assoc, Option.bind_none, Option.bind_some]
abbrev ps : List Sh := [.data (.arr .u64 4), .data (.arr .u64 4)]
abbrev hs : List (Nat × ESh) := []
abbrev hi : List Nat := hs.map (·.1)
abbrev fi : List Nat := []
abbrev cl : List (Place × Nat × Hint) := []
abbrev hn : List Hint := [.any]
def val (t : Bool) : AV := Sh.mk (.data .bool) t
def wr (t : Bool) : Heap := []
def callee (k : Nat) : Callee := sigCallee ps hs (fun (d : ((List Int) × (List Int) × Unit)) (e : Unit) => f k d.1 d.2.1) val wr
def E (k : Nat) : Env := ⟨fnTab [(76, [trailheadref02_Bit.callee k])], loopTab [(0, l0.sum k)], natsTab [], natTab []⟩
theorem fE (k : Nat) : ∀ f, ∀ c ∈ (E k).fn f, CalleeOK Tryd.prog f c := fnTab_ok ⟨⟨trailheadref02_Bit.ok k, trivial⟩, trivial⟩
namespace l0
theorem round (k : Nat) (d : (Unit × Unit × Int × Unit)) (e : ((List Int) × (List Int) × Unit)) (G : St → Option (Ex × St)) : roundK Tryd.prog (E k) 24 0 (subC (bodyOf Tryd.f57) [1, 0, 1, 0, 0]) (recast cl hn kp) (finBy cl hn kp rc rs ri) G ⟨mkS S d, mkH H e⟩ =
    step (fun x5 => some (.exit 0, KX d e x5)) (fun q0 => some (.ret, RX d e q0)) (fun x5 => G ⟨mkS S ((), (), x5, ()), mkH H (e.1, e.2.1, ())⟩) k e.1 e.2.1 d.2.2.1 := by kernel_rfl
theorem it (k n : Nat) (d : (Unit × Unit × Int × Unit)) (e : ((List Int) × (List Int) × Unit)) : loopIt Tryd.prog (E k) 24 0 (subC (bodyOf Tryd.f57) [1, 0, 1, 0, 0]) (recast cl hn kp) (finBy cl hn kp rc rs ri) n ⟨mkS S d, mkH H e⟩ = go (fun x5 => some (.exit 0, KX d e x5)) (fun q0 => some (.ret, RX d e q0)) k e.1 e.2.1 n d.2.2.1 :=
  loopIt_eq (D := (Unit × Unit × Int × Unit) × ((List Int) × (List Int) × Unit)) (fun p => ⟨mkS S p.1, mkH H p.2⟩) (fun F p => step (fun x5 => some (.exit 0, KX p.1 p.2 x5)) (fun q0 => some (.ret, RX p.1 p.2 q0)) (fun x5 => F (((), (), x5, ()), (p.2.1, p.2.2.1, ()))) k p.2.1 p.2.2.1 p.1.2.2.1) (fun n p => go (fun x5 => some (.exit 0, KX p.1 p.2 x5)) (fun q0 => some (.ret, RX p.1 p.2 q0)) k p.2.1 p.2.2.1 n p.1.2.2.1) (fun _ => rfl) (fun _ _ => rfl) (fun G p => round k p.1 p.2 G) n (d, e)
theorem ok (k : Nat) : LoopOK Tryd.prog 24 (subC (bodyOf Tryd.f57) [1, 0, 1, 0, 0]) (sum k) :=
  loop_sig hm (fE k) (loopsOK_of [] (by kernel_rfl) trivial) S cl hn kp H 0 (fun (d : (Unit × Unit × Int × Unit)) (e : ((List Int) × (List Int) × Unit)) => f k e.1 e.2.1 k d.2.2.1) KX RX cl hn kp rc rs ri k
    (fun d e => (it k k d e).trans (go_nat (exitOf 0 (KX d e) (RX d e)) (fun x5 => some (.inl x5)) (fun q0 => some (.inr q0)) k e.1 e.2.1 k d.2.2.1).symm)
end l0
theorem run (k : Nat) (d : ((List Int) × (List Int) × Unit)) (e : Unit) : runFn Tryd.prog (E k) 24 (bodyOf Tryd.f57) Tryd.f57.results.toList cl hn hi (mkL ps d) (mkH hs e) =
    tree (fun b0 => leafFn hs fi e val wr b0) k d.1 d.2.1 := by kernel_rfl
theorem run_f (k : Nat) (d : ((List Int) × (List Int) × Unit)) (e : Unit) : runFn Tryd.prog (E k) 24 (bodyOf Tryd.f57) Tryd.f57.results.toList cl hn hi (mkL ps d) (mkH hs e) = (f k d.1 d.2.1).bind (leafFn hs fi e val wr) :=
  (run k d e).trans (tree_nat (leafFn hs fi e val wr) (fun b0 => some b0) k d.1 d.2.1).symm
theorem fnIs : FnIs Tryd.prog 57 Tryd.f57 (bodyOf Tryd.f57) 24 := ⟨by kernel_rfl, by kernel_rfl, by kernel_rfl, by kernel_rfl⟩
theorem ok (k : Nat) : CalleeOK Tryd.prog 57 (callee k) :=
  callee_sig (T := Bool) fnIs hm (fE k) (loopsOK_of [(0, subC (bodyOf Tryd.f57) [1, 0, 1, 0, 0])] (by kernel_rfl) ⟨of_loop (l0.sum k) rfl (l0.ok k), trivial⟩) ps hs cl hn fi (fun (d : ((List Int) × (List Int) × Unit)) (e : Unit) => f k d.1 d.2.1) val wr rfl (fun _ => rfl) (run_f k)
end trailheadref02_Less
namespace trailheadlaw06_HeaderSeeks
namespace l0
def step {X : Type} (K : Int → T_3d5633 → Option X) (Q : Bool → Option X) (G : Int → T_3d5633 → Option X) (k : Nat) (x1 : Int) (x6 : Bool) (y0 : (List Int)) (y1 : (List Int)) (y800003 : T_3d5633) (y800004 : (List Int)) (x10 : Int) (y800002 : T_3d5633) : Option X :=
  (bif (decide (x10 < x1)) then (Option.bind (trailheadref06_Id.f k y800002) (fun r5 => (Option.bind (trailheadref03_Number.f k r5) (fun r6 => (Option.bind (trailheadref02_Less.f k y800004 r6) (fun r7 => (bif (!r7) then (bif x6 then (Q (eqDen (.pair (.int .i64) (.pair (.arr .u8 32) (.pair (.arr .u8 32) (.pair (.int .i64) (.pair (.int .i64) (.int .i64)))))) y800003 y800002)) else (Q false)) else (G (addI .i64 x10 1) ((y800002.1, (y800002.2.1, (y800002.2.2.1, (y800002.2.2.2.1, (y800002.2.2.2.2.1, (remI (addI .i64 y800002.2.2.2.2.2 1) 4294967296)))))) : T_3d5633))))))))) else (K x10 y800002))
def go {X : Type} (K : Int → T_3d5633 → Option X) (Q : Bool → Option X) (k : Nat) (x1 : Int) (x6 : Bool) (y0 : (List Int)) (y1 : (List Int)) (y800003 : T_3d5633) (y800004 : (List Int)) : Nat → Int → T_3d5633 → Option X
  | 0, _, _ => none
  | n + 1, x10, y800002 => step K Q (go K Q k x1 x6 y0 y1 y800003 y800004 n) k x1 x6 y0 y1 y800003 y800004 x10 y800002
def f (k : Nat) (x1 : Int) (x6 : Bool) (y0 : (List Int)) (y1 : (List Int)) (y800003 : T_3d5633) (y800004 : (List Int)) (n : Nat) (x10 : Int) (y800002 : T_3d5633) : Option ((Int × T_3d5633) ⊕ Bool) := go (fun x10 y800002 => some (.inl (x10, y800002))) (fun q0 => some (.inr q0)) k x1 x6 y0 y1 y800003 y800004 n x10 y800002
theorem step_nat {X Y : Type} (h : X → Option Y) (K : Int → T_3d5633 → Option X) (Q : Bool → Option X) (G : Int → T_3d5633 → Option X) (k : Nat) (x1 : Int) (x6 : Bool) (y0 : (List Int)) (y1 : (List Int)) (y800003 : T_3d5633) (y800004 : (List Int)) (x10 : Int) (y800002 : T_3d5633) : Option.bind (step K Q G k x1 x6 y0 y1 y800003 y800004 x10 y800002) h = step (fun x10 y800002 => Option.bind (K x10 y800002) h) (fun q0 => Option.bind (Q q0) h) (fun x10 y800002 => Option.bind (G x10 y800002) h) k x1 x6 y0 y1 y800003 y800004 x10 y800002 := by
  simp only [step, bif_bind, sel_bind', Option.bind_assoc, Option.bind_none, Option.bind_some]
theorem go_nat {X Y : Type} (h : X → Option Y) (K : Int → T_3d5633 → Option X) (Q : Bool → Option X) (k : Nat) (x1 : Int) (x6 : Bool) (y0 : (List Int)) (y1 : (List Int)) (y800003 : T_3d5633) (y800004 : (List Int)) (n : Nat) : ∀ (x10 : Int) (y800002 : T_3d5633), Option.bind (go K Q k x1 x6 y0 y1 y800003 y800004 n x10 y800002) h = go (fun x10 y800002 => Option.bind (K x10 y800002) h) (fun q0 => Option.bind (Q q0) h) k x1 x6 y0 y1 y800003 y800004 n x10 y800002 := by
  induction n with
  | zero => intros; rfl
  | succ n ih => intro x10 y800002; show Option.bind (step K Q (go K Q k x1 x6 y0 y1 y800003 y800004 n) k x1 x6 y0 y1 y800003 y800004 x10 y800002) h = step (fun x10 y800002 => Option.bind (K x10 y800002) h) (fun q0 => Option.bind (Q q0) h) (go (fun x10 y800002 => Option.bind (K x10 y800002) h) (fun q0 => Option.bind (Q q0) h) k x1 x6 y0 y1 y800003 y800004 n) k x1 x6 y0 y1 y800003 y800004 x10 y800002; rw [step_nat h]; simp only [ih]
abbrev S : List (Nat × Sh) := [(1, .data (.int .i64)), (2, .ptr 800002), (5, .ptr 800003), (6, .data .bool), (7, .ptr 800004), (10, .data (.int .i64))]
abbrev H : List (Nat × ESh) := [(0, .glob 0 (.arr .u32 8)), (1, .glob 1 (.arr .u32 64)), (800002, .cell (.data (.pair (.int .i64) (.pair (.arr .u8 32) (.pair (.arr .u8 32) (.pair (.int .i64) (.pair (.int .i64) (.int .i64)))))))), (800003, .cell (.data (.pair (.int .i64) (.pair (.arr .u8 32) (.pair (.arr .u8 32) (.pair (.int .i64) (.pair (.int .i64) (.int .i64)))))))), (800004, .cell (.data (.arr .u64 4)))]
abbrev cl : List (Place × Nat × Hint) := []
abbrev hn : List (Nat × Hint) := [(1, .any), (2, .any), (5, .any), (6, .any), (7, .any), (10, .any)]
abbrev kp : List Nat := [0, 1]
abbrev rc : List (Place × Nat × Hint) := []
abbrev rs : List (Nat × Hint) := [(4, .any)]
abbrev ri : List Nat := [0, 1]
def KX (d : (Int × Unit × Unit × Bool × Unit × Int × Unit)) (e : ((List Int) × (List Int) × T_3d5633 × T_3d5633 × (List Int) × Unit)) (v : (Int × T_3d5633)) : St := ⟨mkS S (d.1, (), (), d.2.2.2.1, (), v.1, ()), mkH H (e.1, e.2.1, v.2, e.2.2.2.1, e.2.2.2.2.1, ())⟩
abbrev RS : List (Nat × Sh) := [(4, .data .bool)]
abbrev RH : List (Nat × ESh) := [(0, .glob 0 (.arr .u32 8)), (1, .glob 1 (.arr .u32 64))]
def RX (d : (Int × Unit × Unit × Bool × Unit × Int × Unit)) (e : ((List Int) × (List Int) × T_3d5633 × T_3d5633 × (List Int) × Unit)) (v : Bool) : St := ⟨mkS RS (v, ()), mkH RH (e.1, e.2.1, ())⟩
def sum (k : Nat) : LoopSum := sigLoop S cl hn kp H 0 (fun (d : (Int × Unit × Unit × Bool × Unit × Int × Unit)) (e : ((List Int) × (List Int) × T_3d5633 × T_3d5633 × (List Int) × Unit)) => f k d.1 d.2.2.2.1 e.1 e.2.1 e.2.2.2.1 e.2.2.2.2.1 k d.2.2.2.2.2.1 e.2.2.1) KX RX
end l0
def tree {X : Type} (K : Bool → Option X) (k : Nat) (a0 : T_3d5633) (a1 : Int) (m0 : (List Int)) (m1 : (List Int)) : Option X :=
  (Option.bind (trailheadlaw06_alive.f k m0 m1) (fun r1 => (bif (!r1) then (K false) else (bif (decide (a1 > (40 : Int))) then (K true) else (Option.bind (header_Seek.f k a0 a1 m0 m1) (fun r2 => (Option.bind (trailheadref03_Decode.f k a0.2.2.2.2.1) (fun r3 => (Option.bind (trailheadref06_Good.f k a0) (fun r4 => (bif (!r4) then (bif (eqDen (.pair (.int .i64) (.pair (.arr .u8 32) (.pair (.arr .u8 32) (.pair (.int .i64) (.pair (.int .i64) (.int .i64)))))) r2.1 a0) then (K (!r2.2)) else (K false)) else (bif r3.2.1 then (bif (eqDen (.pair (.int .i64) (.pair (.arr .u8 32) (.pair (.arr .u8 32) (.pair (.int .i64) (.pair (.int .i64) (.int .i64)))))) r2.1 a0) then (K (!r2.2)) else (K false)) else (bif r3.2.2 then (bif (eqDen (.pair (.int .i64) (.pair (.arr .u8 32) (.pair (.arr .u8 32) (.pair (.int .i64) (.pair (.int .i64) (.int .i64)))))) r2.1 a0) then (K (!r2.2)) else (K false)) else (Option.bind (trailheadlaw06_HeaderSeeks.l0.f k a1 r2.2 m0 m1 r2.1 r3.1 k (0 : Int) a0) (fun r8 => sel r8 (fun v9 => (bif (!r2.2) then (K (eqDen (.pair (.int .i64) (.pair (.arr .u8 32) (.pair (.arr .u8 32) (.pair (.int .i64) (.pair (.int .i64) (.int .i64)))))) r2.1 v9.2)) else (K false))) (fun q10 => (K q10)))))))))))))))))
def f (k : Nat) (a0 : T_3d5633) (a1 : Int) (m0 : (List Int)) (m1 : (List Int)) : Option Bool := tree (fun b0 => some b0) k a0 a1 m0 m1
theorem tree_nat {X Y : Type} (h : X → Option Y) (K : Bool → Option X) (k : Nat) (a0 : T_3d5633) (a1 : Int) (m0 : (List Int)) (m1 : (List Int)) : Option.bind (tree K k a0 a1 m0 m1) h = tree (fun b0 => Option.bind (K b0) h) k a0 a1 m0 m1 := by
  simp only [tree, bif_bind, sel_bind', Option.bind_assoc, Option.bind_none, Option.bind_some]
abbrev ps : List Sh := [.data (.pair (.int .i64) (.pair (.arr .u8 32) (.pair (.arr .u8 32) (.pair (.int .i64) (.pair (.int .i64) (.int .i64)))))), .data (.int .i64)]
abbrev hs : List (Nat × ESh) := [(0, .glob 0 (.arr .u32 8)), (1, .glob 1 (.arr .u32 64))]
abbrev hi : List Nat := hs.map (·.1)
abbrev fi : List Nat := [0, 1]
abbrev cl : List (Place × Nat × Hint) := []
abbrev hn : List Hint := [.any]
def val (t : Bool) : AV := Sh.mk (.data .bool) t
def wr (t : Bool) : Heap := []
def callee (k : Nat) : Callee := sigCallee ps hs (fun (d : (T_3d5633 × Int × Unit)) (e : ((List Int) × (List Int) × Unit)) => f k d.1 d.2.1 e.1 e.2.1) val wr
def E (k : Nat) : Env := ⟨fnTab [(29, [trailheadlaw06_alive.callee k]), (55, [header_Seek.callee k]), (56, [trailheadref03_Decode.callee k]), (30, [trailheadref06_Good.callee k]), (33, [trailheadref06_Id.callee k]), (58, [trailheadref03_Number.callee k]), (57, [trailheadref02_Less.callee k])], loopTab [(0, l0.sum k)], natsTab [(29, [0, 1]), (55, [0, 1])], natTab [(0, 0), (1, 1)]⟩
theorem fE (k : Nat) : ∀ f, ∀ c ∈ (E k).fn f, CalleeOK Tryd.prog f c := fnTab_ok ⟨⟨trailheadlaw06_alive.ok k, trivial⟩, ⟨header_Seek.ok k, trivial⟩, ⟨trailheadref03_Decode.ok k, trivial⟩, ⟨trailheadref06_Good.ok k, trivial⟩, ⟨trailheadref06_Id.ok k, trivial⟩, ⟨trailheadref03_Number.ok k, trivial⟩, ⟨trailheadref02_Less.ok k, trivial⟩, trivial⟩
namespace l0
theorem round (k : Nat) (d : (Int × Unit × Unit × Bool × Unit × Int × Unit)) (e : ((List Int) × (List Int) × T_3d5633 × T_3d5633 × (List Int) × Unit)) (G : St → Option (Ex × St)) : roundK Tryd.prog (E k) 73 0 (subC (bodyOf Tryd.f16) [1, 1, 1, 1, 1, 1, 0, 1, 0, 0]) (recast cl hn kp) (finBy cl hn kp rc rs ri) G ⟨mkS S d, mkH H e⟩ =
    step (fun x10 y800002 => some (.exit 0, KX d e (x10, y800002))) (fun q0 => some (.ret, RX d e q0)) (fun x10 y800002 => G ⟨mkS S (d.1, (), (), d.2.2.2.1, (), x10, ()), mkH H (e.1, e.2.1, y800002, e.2.2.2.1, e.2.2.2.2.1, ())⟩) k d.1 d.2.2.2.1 e.1 e.2.1 e.2.2.2.1 e.2.2.2.2.1 d.2.2.2.2.2.1 e.2.2.1 := by kernel_rfl
theorem it (k n : Nat) (d : (Int × Unit × Unit × Bool × Unit × Int × Unit)) (e : ((List Int) × (List Int) × T_3d5633 × T_3d5633 × (List Int) × Unit)) : loopIt Tryd.prog (E k) 73 0 (subC (bodyOf Tryd.f16) [1, 1, 1, 1, 1, 1, 0, 1, 0, 0]) (recast cl hn kp) (finBy cl hn kp rc rs ri) n ⟨mkS S d, mkH H e⟩ = go (fun x10 y800002 => some (.exit 0, KX d e (x10, y800002))) (fun q0 => some (.ret, RX d e q0)) k d.1 d.2.2.2.1 e.1 e.2.1 e.2.2.2.1 e.2.2.2.2.1 n d.2.2.2.2.2.1 e.2.2.1 :=
  loopIt_eq (D := (Int × Unit × Unit × Bool × Unit × Int × Unit) × ((List Int) × (List Int) × T_3d5633 × T_3d5633 × (List Int) × Unit)) (fun p => ⟨mkS S p.1, mkH H p.2⟩) (fun F p => step (fun x10 y800002 => some (.exit 0, KX p.1 p.2 (x10, y800002))) (fun q0 => some (.ret, RX p.1 p.2 q0)) (fun x10 y800002 => F ((p.1.1, (), (), p.1.2.2.2.1, (), x10, ()), (p.2.1, p.2.2.1, y800002, p.2.2.2.2.1, p.2.2.2.2.2.1, ()))) k p.1.1 p.1.2.2.2.1 p.2.1 p.2.2.1 p.2.2.2.2.1 p.2.2.2.2.2.1 p.1.2.2.2.2.2.1 p.2.2.2.1) (fun n p => go (fun x10 y800002 => some (.exit 0, KX p.1 p.2 (x10, y800002))) (fun q0 => some (.ret, RX p.1 p.2 q0)) k p.1.1 p.1.2.2.2.1 p.2.1 p.2.2.1 p.2.2.2.2.1 p.2.2.2.2.2.1 n p.1.2.2.2.2.2.1 p.2.2.2.1) (fun _ => rfl) (fun _ _ => rfl) (fun G p => round k p.1 p.2 G) n (d, e)
theorem ok (k : Nat) : LoopOK Tryd.prog 73 (subC (bodyOf Tryd.f16) [1, 1, 1, 1, 1, 1, 0, 1, 0, 0]) (sum k) :=
  loop_sig hm (fE k) (loopsOK_of [] (by kernel_rfl) trivial) S cl hn kp H 0 (fun (d : (Int × Unit × Unit × Bool × Unit × Int × Unit)) (e : ((List Int) × (List Int) × T_3d5633 × T_3d5633 × (List Int) × Unit)) => f k d.1 d.2.2.2.1 e.1 e.2.1 e.2.2.2.1 e.2.2.2.2.1 k d.2.2.2.2.2.1 e.2.2.1) KX RX cl hn kp rc rs ri k
    (fun d e => (it k k d e).trans (go_nat (exitOf 0 (KX d e) (RX d e)) (fun x10 y800002 => some (.inl (x10, y800002))) (fun q0 => some (.inr q0)) k d.1 d.2.2.2.1 e.1 e.2.1 e.2.2.2.1 e.2.2.2.2.1 k d.2.2.2.2.2.1 e.2.2.1).symm)
end l0
theorem run (k : Nat) (d : (T_3d5633 × Int × Unit)) (e : ((List Int) × (List Int) × Unit)) : runFn Tryd.prog (E k) 73 (bodyOf Tryd.f16) Tryd.f16.results.toList cl hn hi (mkL ps d) (mkH hs e) =
    tree (fun b0 => leafFn hs fi e val wr b0) k d.1 d.2.1 e.1 e.2.1 := by kernel_rfl
theorem run_f (k : Nat) (d : (T_3d5633 × Int × Unit)) (e : ((List Int) × (List Int) × Unit)) : runFn Tryd.prog (E k) 73 (bodyOf Tryd.f16) Tryd.f16.results.toList cl hn hi (mkL ps d) (mkH hs e) = (f k d.1 d.2.1 e.1 e.2.1).bind (leafFn hs fi e val wr) :=
  (run k d e).trans (tree_nat (leafFn hs fi e val wr) (fun b0 => some b0) k d.1 d.2.1 e.1 e.2.1).symm
theorem fnIs : FnIs Tryd.prog 16 Tryd.f16 (bodyOf Tryd.f16) 73 := ⟨by kernel_rfl, by kernel_rfl, by kernel_rfl, by kernel_rfl⟩
theorem ok (k : Nat) : CalleeOK Tryd.prog 16 (callee k) :=
  callee_sig (T := Bool) fnIs hm (fE k) (loopsOK_of [(0, subC (bodyOf Tryd.f16) [1, 1, 1, 1, 1, 1, 0, 1, 0, 0])] (by kernel_rfl) ⟨of_loop (l0.sum k) rfl (l0.ok k), trivial⟩) ps hs cl hn fi (fun (d : (T_3d5633 × Int × Unit)) (e : ((List Int) × (List Int) × Unit)) => f k d.1 d.2.1 e.1 e.2.1) val wr rfl (fun _ => rfl) (run_f k)
end trailheadlaw06_HeaderSeeks
namespace trailheadlaw06_HeaderMines
def tree {X : Type} (K : Bool → Option X) (k : Nat) (a0 : T_3d5633) (a1 : Int) (a2 : Int) (m0 : (List Int)) (m1 : (List Int)) : Option X :=
  (Option.bind (trailheadlaw06_alive.f k m0 m1) (fun r1 => (bif (!r1) then (K false) else (bif (decide (a1 > (40 : Int))) then (K true) else (bif (decide (a2 < (0 : Int))) then (K true) else (bif (decide (a2 > (40 : Int))) then (K true) else (Option.bind (header_Seek.f k a0 a1 m0 m1) (fun r2 => (bif (!r2.2) then (K true) else (Option.bind (header_Seek.f k a0 (addI .i64 a1 a2) m0 m1) (fun r3 => (Option.bind (trailheadref03_Decode.f k a0.2.2.2.2.1) (fun r4 => (bif r3.2 then (bif (eqDen (.pair (.int .i64) (.pair (.arr .u8 32) (.pair (.arr .u8 32) (.pair (.int .i64) (.pair (.int .i64) (.int .i64)))))) r2.1 r3.1) then (bif (eqDen (.pair (.int .i64) (.pair (.arr .u8 32) (.pair (.arr .u8 32) (.pair (.int .i64) (.pair (.int .i64) (.int .i64)))))) ((r2.1.1, (r2.1.2.1, (r2.1.2.2.1, (r2.1.2.2.2.1, (r2.1.2.2.2.2.1, a0.2.2.2.2.2))))) : T_3d5633) a0) then (Option.bind (trailheadref06_Id.f k r2.1) (fun r5 => (Option.bind (trailheadref03_Number.f k r5) (fun r6 => (Option.bind (trailheadref02_Less.f k r4.1 r6) (fun r7 => (K (!r7)))))))) else (K false)) else (K false)) else (K false)))))))))))))))
def f (k : Nat) (a0 : T_3d5633) (a1 : Int) (a2 : Int) (m0 : (List Int)) (m1 : (List Int)) : Option Bool := tree (fun b0 => some b0) k a0 a1 a2 m0 m1
theorem tree_nat {X Y : Type} (h : X → Option Y) (K : Bool → Option X) (k : Nat) (a0 : T_3d5633) (a1 : Int) (a2 : Int) (m0 : (List Int)) (m1 : (List Int)) : Option.bind (tree K k a0 a1 a2 m0 m1) h = tree (fun b0 => Option.bind (K b0) h) k a0 a1 a2 m0 m1 := by
  simp only [tree, bif_bind, sel_bind', Option.bind_assoc, Option.bind_none, Option.bind_some]
abbrev ps : List Sh := [.data (.pair (.int .i64) (.pair (.arr .u8 32) (.pair (.arr .u8 32) (.pair (.int .i64) (.pair (.int .i64) (.int .i64)))))), .data (.int .i64), .data (.int .i64)]
abbrev hs : List (Nat × ESh) := [(0, .glob 0 (.arr .u32 8)), (1, .glob 1 (.arr .u32 64))]
abbrev hi : List Nat := hs.map (·.1)
abbrev fi : List Nat := [0, 1]
abbrev cl : List (Place × Nat × Hint) := []
abbrev hn : List Hint := [.any]
def val (t : Bool) : AV := Sh.mk (.data .bool) t
def wr (t : Bool) : Heap := []
def callee (k : Nat) : Callee := sigCallee ps hs (fun (d : (T_3d5633 × Int × Int × Unit)) (e : ((List Int) × (List Int) × Unit)) => f k d.1 d.2.1 d.2.2.1 e.1 e.2.1) val wr
def E (k : Nat) : Env := ⟨fnTab [(29, [trailheadlaw06_alive.callee k]), (55, [header_Seek.callee k]), (56, [trailheadref03_Decode.callee k]), (33, [trailheadref06_Id.callee k]), (58, [trailheadref03_Number.callee k]), (57, [trailheadref02_Less.callee k])], loopTab [], natsTab [(29, [0, 1]), (55, [0, 1])], natTab [(0, 0), (1, 1)]⟩
theorem fE (k : Nat) : ∀ f, ∀ c ∈ (E k).fn f, CalleeOK Tryd.prog f c := fnTab_ok ⟨⟨trailheadlaw06_alive.ok k, trivial⟩, ⟨header_Seek.ok k, trivial⟩, ⟨trailheadref03_Decode.ok k, trivial⟩, ⟨trailheadref06_Id.ok k, trivial⟩, ⟨trailheadref03_Number.ok k, trivial⟩, ⟨trailheadref02_Less.ok k, trivial⟩, trivial⟩
theorem run (k : Nat) (d : (T_3d5633 × Int × Int × Unit)) (e : ((List Int) × (List Int) × Unit)) : runFn Tryd.prog (E k) 73 (bodyOf Tryd.f17) Tryd.f17.results.toList cl hn hi (mkL ps d) (mkH hs e) =
    tree (fun b0 => leafFn hs fi e val wr b0) k d.1 d.2.1 d.2.2.1 e.1 e.2.1 := by kernel_rfl
theorem run_f (k : Nat) (d : (T_3d5633 × Int × Int × Unit)) (e : ((List Int) × (List Int) × Unit)) : runFn Tryd.prog (E k) 73 (bodyOf Tryd.f17) Tryd.f17.results.toList cl hn hi (mkL ps d) (mkH hs e) = (f k d.1 d.2.1 d.2.2.1 e.1 e.2.1).bind (leafFn hs fi e val wr) :=
  (run k d e).trans (tree_nat (leafFn hs fi e val wr) (fun b0 => some b0) k d.1 d.2.1 d.2.2.1 e.1 e.2.1).symm
theorem fnIs : FnIs Tryd.prog 17 Tryd.f17 (bodyOf Tryd.f17) 73 := ⟨by kernel_rfl, by kernel_rfl, by kernel_rfl, by kernel_rfl⟩
theorem ok (k : Nat) : CalleeOK Tryd.prog 17 (callee k) :=
  callee_sig (T := Bool) fnIs hm (fE k) (loopsOK_of [] (by kernel_rfl) trivial) ps hs cl hn fi (fun (d : (T_3d5633 × Int × Int × Unit)) (e : ((List Int) × (List Int) × Unit)) => f k d.1 d.2.1 d.2.2.1 e.1 e.2.1) val wr rfl (fun _ => rfl) (run_f k)
end trailheadlaw06_HeaderMines
end Go.Proofs.YtnnajeoeeefjaaaDoor.Sy
