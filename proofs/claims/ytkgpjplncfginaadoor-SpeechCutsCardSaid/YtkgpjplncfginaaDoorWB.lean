/- What the Go functions come to, on data: printed by sypr.py. -/
import Derived.Test.YtkgpjplncfginaaDoorSy18
import Derived.Test.YtkgpjplncfginaaDoorProg
import Derived.Test.YtkgpjplncfginaaDoorWA
namespace Go.Proofs.YtkgpjplncfginaaDoor.Sy
open Go Go.Proofs
set_option maxRecDepth 100000
set_option linter.unusedVariables false
set_option linter.unusedSimpArgs false
namespace trailheadlaw08_great
def tree {X : Type} (K : Bool → Option X) (k : Nat) (a0 : T_85bbee) : Option X :=
  (bif (decide (((List.length a0.2.2.2.2.2.1) : Int) > (200 : Int))) then (K true) else (K (decide (((List.length a0.2.2.2.2.2.2.2) : Int) > (100 : Int)))))
def f (k : Nat) (a0 : T_85bbee) : Option Bool := tree (fun b0 => some b0) k a0
theorem tree_nat {X Y : Type} (h : X → Option Y) (K : Bool → Option X) (k : Nat) (a0 : T_85bbee) : Option.bind (tree K k a0) h = tree (fun b0 => Option.bind (K b0) h) k a0 := by
  simp only [tree, bif_bind, sel_bind', Option.bind_assoc, Option.bind_none, Option.bind_some]
abbrev ps : List Sh := [.data (.pair (.int .i64) (.pair (.int .i64) (.pair (.int .i64) (.pair (.int .i64) (.pair (.int .i64) (.pair (.row 28 (.arr .u8 32)) (.pair (.arr .u8 32) (.row 52 (.pair (.int .i64) (.pair (.arr .u8 32) (.pair (.arr .u8 32) (.pair (.int .i64) (.pair (.int .i64) (.int .i64))))))))))))))]
abbrev hs : List (Nat × ESh) := []
abbrev hi : List Nat := hs.map (·.1)
abbrev fi : List Nat := []
abbrev cl : List (Place × Nat × Hint) := []
abbrev hn : List Hint := [.any]
def val (t : Bool) : AV := Sh.mk (.data .bool) t
def wr (t : Bool) : Heap := []
def callee (k : Nat) : Callee := sigCallee ps hs (fun (d : (T_85bbee × Unit)) (e : Unit) => f k d.1) val wr
def E (k : Nat) : Env := ⟨fnTab [], loopTab [], natsTab [], natTab []⟩
theorem fE (k : Nat) : ∀ f, ∀ c ∈ (E k).fn f, CalleeOK Tryd.prog f c := fnTab_ok trivial
theorem run (k : Nat) (d : (T_85bbee × Unit)) (e : Unit) : runFn Tryd.prog (E k) 13 (bodyOf Tryd.f13) Tryd.f13.results.toList cl hn hi (mkL ps d) (mkH hs e) =
    tree (fun b0 => leafFn hs fi e val wr b0) k d.1 := by kernel_rfl
theorem run_f (k : Nat) (d : (T_85bbee × Unit)) (e : Unit) : runFn Tryd.prog (E k) 13 (bodyOf Tryd.f13) Tryd.f13.results.toList cl hn hi (mkL ps d) (mkH hs e) = (f k d.1).bind (leafFn hs fi e val wr) :=
  (run k d e).trans (tree_nat (leafFn hs fi e val wr) (fun b0 => some b0) k d.1).symm
theorem fnIs : FnIs Tryd.prog 13 Tryd.f13 (bodyOf Tryd.f13) 13 := ⟨by kernel_rfl, by kernel_rfl, by kernel_rfl, by kernel_rfl⟩
theorem ok (k : Nat) : CalleeOK Tryd.prog 13 (callee k) :=
  callee_sig (T := Bool) fnIs hm (fE k) (loopsOK_of [] (by kernel_rfl) trivial) ps hs cl hn fi (fun (d : (T_85bbee × Unit)) (e : Unit) => f k d.1) val wr rfl (fun _ => rfl) (run_f k)
end trailheadlaw08_great
namespace trailheadref08_in
def tree {X : Type} (K : Bool → Option X) (k : Nat) (a0 : Int) (a1 : Int) : Option X :=
  (bif (decide (a0 ≥ (0 : Int))) then (bif (decide ((IntKind.wrap .u64 (mulI .i64 8 a1)) < 0)) then none else (K ((shrI .i64 a0 (IntKind.wrap .u64 (mulI .i64 8 a1))) == (0 : Int)))) else (K false))
def f (k : Nat) (a0 : Int) (a1 : Int) : Option Bool := tree (fun b0 => some b0) k a0 a1
theorem tree_nat {X Y : Type} (h : X → Option Y) (K : Bool → Option X) (k : Nat) (a0 : Int) (a1 : Int) : Option.bind (tree K k a0 a1) h = tree (fun b0 => Option.bind (K b0) h) k a0 a1 := by
  simp only [tree, bif_bind, sel_bind', Option.bind_assoc, Option.bind_none, Option.bind_some]
abbrev ps : List Sh := [.data (.int .i64), .data (.int .i64)]
abbrev hs : List (Nat × ESh) := []
abbrev hi : List Nat := hs.map (·.1)
abbrev fi : List Nat := []
abbrev cl : List (Place × Nat × Hint) := []
abbrev hn : List Hint := [.any]
def val (t : Bool) : AV := Sh.mk (.data .bool) t
def wr (t : Bool) : Heap := []
def callee (k : Nat) : Callee := sigCallee ps hs (fun (d : (Int × Int × Unit)) (e : Unit) => f k d.1 d.2.1) val wr
def E (k : Nat) : Env := ⟨fnTab [], loopTab [], natsTab [], natTab []⟩
theorem fE (k : Nat) : ∀ f, ∀ c ∈ (E k).fn f, CalleeOK Tryd.prog f c := fnTab_ok trivial
theorem run (k : Nat) (d : (Int × Int × Unit)) (e : Unit) : runFn Tryd.prog (E k) 15 (bodyOf Tryd.f21) Tryd.f21.results.toList cl hn hi (mkL ps d) (mkH hs e) =
    tree (fun b0 => leafFn hs fi e val wr b0) k d.1 d.2.1 := by kernel_rfl
theorem run_f (k : Nat) (d : (Int × Int × Unit)) (e : Unit) : runFn Tryd.prog (E k) 15 (bodyOf Tryd.f21) Tryd.f21.results.toList cl hn hi (mkL ps d) (mkH hs e) = (f k d.1 d.2.1).bind (leafFn hs fi e val wr) :=
  (run k d e).trans (tree_nat (leafFn hs fi e val wr) (fun b0 => some b0) k d.1 d.2.1).symm
theorem fnIs : FnIs Tryd.prog 21 Tryd.f21 (bodyOf Tryd.f21) 15 := ⟨by kernel_rfl, by kernel_rfl, by kernel_rfl, by kernel_rfl⟩
theorem ok (k : Nat) : CalleeOK Tryd.prog 21 (callee k) :=
  callee_sig (T := Bool) fnIs hm (fE k) (loopsOK_of [] (by kernel_rfl) trivial) ps hs cl hn fi (fun (d : (Int × Int × Unit)) (e : Unit) => f k d.1 d.2.1) val wr rfl (fun _ => rfl) (run_f k)
end trailheadref08_in
namespace trailheadref06_Good
def tree {X : Type} (K : Bool → Option X) (k : Nat) (a0 : T_3d5633) : Option X :=
  (bif (decide (a0.1 ≥ ((-2147483648) : Int))) then (bif (decide (a0.1 ≤ (2147483647 : Int))) then (bif (decide (a0.2.2.2.1 ≥ (0 : Int))) then (bif (decide (a0.2.2.2.1 < (4294967296 : Int))) then (bif (decide (a0.2.2.2.2.1 ≥ (0 : Int))) then (bif (decide (a0.2.2.2.2.1 < (4294967296 : Int))) then (bif (decide (a0.2.2.2.2.2 ≥ (0 : Int))) then (K (decide (a0.2.2.2.2.2 < (4294967296 : Int)))) else (K false)) else (K false)) else (K false)) else (K false)) else (K false)) else (K false)) else (K false))
def f (k : Nat) (a0 : T_3d5633) : Option Bool := tree (fun b0 => some b0) k a0
theorem tree_nat {X Y : Type} (h : X → Option Y) (K : Bool → Option X) (k : Nat) (a0 : T_3d5633) : Option.bind (tree K k a0) h = tree (fun b0 => Option.bind (K b0) h) k a0 := by
  simp only [tree, bif_bind, sel_bind', Option.bind_assoc, Option.bind_none, Option.bind_some]
abbrev ps : List Sh := [.data (.pair (.int .i64) (.pair (.arr .u8 32) (.pair (.arr .u8 32) (.pair (.int .i64) (.pair (.int .i64) (.int .i64))))))]
abbrev hs : List (Nat × ESh) := []
abbrev hi : List Nat := hs.map (·.1)
abbrev fi : List Nat := []
abbrev cl : List (Place × Nat × Hint) := []
abbrev hn : List Hint := [.any]
def val (t : Bool) : AV := Sh.mk (.data .bool) t
def wr (t : Bool) : Heap := []
def callee (k : Nat) : Callee := sigCallee ps hs (fun (d : (T_3d5633 × Unit)) (e : Unit) => f k d.1) val wr
def E (k : Nat) : Env := ⟨fnTab [], loopTab [], natsTab [], natTab []⟩
theorem fE (k : Nat) : ∀ f, ∀ c ∈ (E k).fn f, CalleeOK Tryd.prog f c := fnTab_ok trivial
theorem run (k : Nat) (d : (T_3d5633 × Unit)) (e : Unit) : runFn Tryd.prog (E k) 45 (bodyOf Tryd.f22) Tryd.f22.results.toList cl hn hi (mkL ps d) (mkH hs e) =
    tree (fun b0 => leafFn hs fi e val wr b0) k d.1 := by kernel_rfl
theorem run_f (k : Nat) (d : (T_3d5633 × Unit)) (e : Unit) : runFn Tryd.prog (E k) 45 (bodyOf Tryd.f22) Tryd.f22.results.toList cl hn hi (mkL ps d) (mkH hs e) = (f k d.1).bind (leafFn hs fi e val wr) :=
  (run k d e).trans (tree_nat (leafFn hs fi e val wr) (fun b0 => some b0) k d.1).symm
theorem fnIs : FnIs Tryd.prog 22 Tryd.f22 (bodyOf Tryd.f22) 45 := ⟨by kernel_rfl, by kernel_rfl, by kernel_rfl, by kernel_rfl⟩
theorem ok (k : Nat) : CalleeOK Tryd.prog 22 (callee k) :=
  callee_sig (T := Bool) fnIs hm (fE k) (loopsOK_of [] (by kernel_rfl) trivial) ps hs cl hn fi (fun (d : (T_3d5633 × Unit)) (e : Unit) => f k d.1) val wr rfl (fun _ => rfl) (run_f k)
end trailheadref06_Good
namespace trailheadref08_Good
namespace l1
def step {X : Type} (K : Int → Option X) (Q : Bool → Option X) (G : Int → Option X) (k : Nat) (x42 : Int) (y800000 : T_85bbee) (y800001 : (List T_3d5633)) (x43 : Int) : Option X :=
  (bif (decide (x43 < x42)) then (bif (decide (0 ≤ x43)) then (bif (decide (x43 < ((List.length y800001) : Int))) then (bif (decide ((Int.toNat x43) < (List.length y800001))) then (Option.bind (trailheadref06_Good.f k ((((List.getD y800001 (Int.toNat x43) dfl_31f8ee)).1, ((((List.getD y800001 (Int.toNat x43) dfl_31f8ee)).2).1, (((((List.getD y800001 (Int.toNat x43) dfl_31f8ee)).2).2).1, ((((((List.getD y800001 (Int.toNat x43) dfl_31f8ee)).2).2).2).1, ((((((List.getD y800001 (Int.toNat x43) dfl_31f8ee)).2).2).2).2))))) : T_3d5633)) (fun r6 => (bif (!r6) then (Q false) else (G (addI .i64 x43 1))))) else none) else none) else none) else (K x43))
def go {X : Type} (K : Int → Option X) (Q : Bool → Option X) (k : Nat) (x42 : Int) (y800000 : T_85bbee) (y800001 : (List T_3d5633)) : Nat → Int → Option X
  | 0, _ => none
  | n + 1, x43 => step K Q (go K Q k x42 y800000 y800001 n) k x42 y800000 y800001 x43
def f (k : Nat) (x42 : Int) (y800000 : T_85bbee) (y800001 : (List T_3d5633)) (n : Nat) (x43 : Int) : Option (Int ⊕ Bool) := go (fun x43 => some (.inl x43)) (fun q0 => some (.inr q0)) k x42 y800000 y800001 n x43
theorem step_nat {X Y : Type} (h : X → Option Y) (K : Int → Option X) (Q : Bool → Option X) (G : Int → Option X) (k : Nat) (x42 : Int) (y800000 : T_85bbee) (y800001 : (List T_3d5633)) (x43 : Int) : Option.bind (step K Q G k x42 y800000 y800001 x43) h = step (fun x43 => Option.bind (K x43) h) (fun q0 => Option.bind (Q q0) h) (fun x43 => Option.bind (G x43) h) k x42 y800000 y800001 x43 := by
  simp only [step, bif_bind, sel_bind', Option.bind_assoc, Option.bind_none, Option.bind_some]
theorem go_nat {X Y : Type} (h : X → Option Y) (K : Int → Option X) (Q : Bool → Option X) (k : Nat) (x42 : Int) (y800000 : T_85bbee) (y800001 : (List T_3d5633)) (n : Nat) : ∀ (x43 : Int), Option.bind (go K Q k x42 y800000 y800001 n x43) h = go (fun x43 => Option.bind (K x43) h) (fun q0 => Option.bind (Q q0) h) k x42 y800000 y800001 n x43 := by
  induction n with
  | zero => intros; rfl
  | succ n ih => intro x43; show Option.bind (step K Q (go K Q k x42 y800000 y800001 n) k x42 y800000 y800001 x43) h = step (fun x43 => Option.bind (K x43) h) (fun q0 => Option.bind (Q q0) h) (go (fun x43 => Option.bind (K x43) h) (fun q0 => Option.bind (Q q0) h) k x42 y800000 y800001 n) k x42 y800000 y800001 x43; rw [step_nat h]; simp only [ih]
abbrev S : List (Nat × Sh) := [(1, .ptr 800000), (41, .vec 800001), (42, .data (.int .i64)), (43, .data (.int .i64))]
abbrev H : List (Nat × ESh) := [(800000, .cell (.data (.pair (.int .i64) (.pair (.int .i64) (.pair (.int .i64) (.pair (.int .i64) (.pair (.int .i64) (.pair (.row 28 (.arr .u8 32)) (.pair (.arr .u8 32) (.row 52 (.pair (.int .i64) (.pair (.arr .u8 32) (.pair (.arr .u8 32) (.pair (.int .i64) (.pair (.int .i64) (.int .i64)))))))))))))))), (800001, .rows 0 52 (.pair (.int .i64) (.pair (.arr .u8 32) (.pair (.arr .u8 32) (.pair (.int .i64) (.pair (.int .i64) (.int .i64)))))))]
abbrev cl : List (Place × Nat × Hint) := []
abbrev hn : List (Nat × Hint) := [(1, .any), (41, .any), (42, .any), (43, .any)]
abbrev kp : List Nat := []
abbrev rc : List (Place × Nat × Hint) := []
abbrev rs : List (Nat × Hint) := [(2, .any)]
abbrev ri : List Nat := []
def KX (d : (Unit × Unit × Int × Int × Unit)) (e : (T_85bbee × (List T_3d5633) × Unit)) (v : Int) : St := ⟨mkS S ((), (), d.2.2.1, v, ()), mkH H (e.1, e.2.1, ())⟩
abbrev RS : List (Nat × Sh) := [(2, .data .bool)]
abbrev RH : List (Nat × ESh) := []
def RX (d : (Unit × Unit × Int × Int × Unit)) (e : (T_85bbee × (List T_3d5633) × Unit)) (v : Bool) : St := ⟨mkS RS (v, ()), mkH RH (())⟩
def sum (k : Nat) : LoopSum := sigLoop S cl hn kp H 1 (fun (d : (Unit × Unit × Int × Int × Unit)) (e : (T_85bbee × (List T_3d5633) × Unit)) => f k d.2.2.1 e.1 e.2.1 k d.2.2.2.1) KX RX
end l1
def tree {X : Type} (K : Bool → Option X) (k : Nat) (a0 : T_85bbee) : Option X :=
  (bif (a0.1 == (1 : Int)) then (Option.bind (trailheadref08_in.f k a0.2.1 (4 : Int)) (fun r1 => (bif r1 then (Option.bind (trailheadref08_in.f k a0.2.2.2.1 (4 : Int)) (fun r2 => (bif r2 then (Option.bind (trailheadref08_in.f k a0.2.2.1 (7 : Int)) (fun r3 => (bif r3 then (Option.bind (trailheadref08_in.f k a0.2.2.2.2.1 (7 : Int)) (fun r4 => (K r4))) else (K false)))) else (K false)))) else (K false)))) else (bif (a0.1 == (3 : Int)) then (Option.bind (trailheadref08_in.f k a0.2.1 (4 : Int)) (fun r5 => (bif r5 then (K (decide (((List.length a0.2.2.2.2.2.1) : Int) ≤ (32 : Int)))) else (K false)))) else (bif (a0.1 == (4 : Int)) then (Option.bind (trailheadref08_Good.l1.f k ((List.length a0.2.2.2.2.2.2.2) : Int) a0 a0.2.2.2.2.2.2.2 k (0 : Int)) (fun r7 => sel r7 (fun v8 => (K (decide (((List.length a0.2.2.2.2.2.2.2) : Int) ≤ (64 : Int))))) (fun q9 => (K q9)))) else (bif (a0.1 == (5 : Int)) then (K (decide (((List.length a0.2.2.2.2.2.1) : Int) ≤ (32 : Int)))) else (bif (a0.1 == (6 : Int)) then (bif (a0.1 == (6 : Int)) then (Option.bind (trailheadref08_in.f k a0.2.2.2.2.1 (7 : Int)) (fun r10 => (K r10))) else (bif (a0.1 == (2 : Int)) then (K true) else (K (a0.1 == (8 : Int))))) else (bif (a0.1 == (7 : Int)) then (Option.bind (trailheadref08_in.f k a0.2.2.2.2.1 (7 : Int)) (fun r11 => (K r11))) else (bif (a0.1 == (2 : Int)) then (K true) else (K (a0.1 == (8 : Int))))))))))
def f (k : Nat) (a0 : T_85bbee) : Option Bool := tree (fun b0 => some b0) k a0
theorem tree_nat {X Y : Type} (h : X → Option Y) (K : Bool → Option X) (k : Nat) (a0 : T_85bbee) : Option.bind (tree K k a0) h = tree (fun b0 => Option.bind (K b0) h) k a0 := by
  simp only [tree, bif_bind, sel_bind', Option.bind_assoc, Option.bind_none, Option.bind_some]
abbrev ps : List Sh := [.data (.pair (.int .i64) (.pair (.int .i64) (.pair (.int .i64) (.pair (.int .i64) (.pair (.int .i64) (.pair (.row 28 (.arr .u8 32)) (.pair (.arr .u8 32) (.row 52 (.pair (.int .i64) (.pair (.arr .u8 32) (.pair (.arr .u8 32) (.pair (.int .i64) (.pair (.int .i64) (.int .i64))))))))))))))]
abbrev hs : List (Nat × ESh) := []
abbrev hi : List Nat := hs.map (·.1)
abbrev fi : List Nat := []
abbrev cl : List (Place × Nat × Hint) := []
abbrev hn : List Hint := [.any]
def val (t : Bool) : AV := Sh.mk (.data .bool) t
def wr (t : Bool) : Heap := []
def callee (k : Nat) : Callee := sigCallee ps hs (fun (d : (T_85bbee × Unit)) (e : Unit) => f k d.1) val wr
def E (k : Nat) : Env := ⟨fnTab [(21, [trailheadref08_in.callee k]), (22, [trailheadref06_Good.callee k])], loopTab [(1, l1.sum k)], natsTab [], natTab []⟩
theorem fE (k : Nat) : ∀ f, ∀ c ∈ (E k).fn f, CalleeOK Tryd.prog f c := fnTab_ok ⟨⟨trailheadref08_in.ok k, trivial⟩, ⟨trailheadref06_Good.ok k, trivial⟩, trivial⟩
namespace l1
theorem round (k : Nat) (d : (Unit × Unit × Int × Int × Unit)) (e : (T_85bbee × (List T_3d5633) × Unit)) (G : St → Option (Ex × St)) : roundK Tryd.prog (E k) 75 1 (subC (bodyOf Tryd.f14) [1, 0, 1, 0, 1, 1, 1, 1, 1, 0, 0, 1, 0, 0]) (recast cl hn kp) (finBy cl hn kp rc rs ri) G ⟨mkS S d, mkH H e⟩ =
    step (fun x43 => some (.exit 1, KX d e x43)) (fun q0 => some (.ret, RX d e q0)) (fun x43 => G ⟨mkS S ((), (), d.2.2.1, x43, ()), mkH H (e.1, e.2.1, ())⟩) k d.2.2.1 e.1 e.2.1 d.2.2.2.1 := by kernel_rfl
theorem it (k n : Nat) (d : (Unit × Unit × Int × Int × Unit)) (e : (T_85bbee × (List T_3d5633) × Unit)) : loopIt Tryd.prog (E k) 75 1 (subC (bodyOf Tryd.f14) [1, 0, 1, 0, 1, 1, 1, 1, 1, 0, 0, 1, 0, 0]) (recast cl hn kp) (finBy cl hn kp rc rs ri) n ⟨mkS S d, mkH H e⟩ = go (fun x43 => some (.exit 1, KX d e x43)) (fun q0 => some (.ret, RX d e q0)) k d.2.2.1 e.1 e.2.1 n d.2.2.2.1 :=
  loopIt_eq (D := (Unit × Unit × Int × Int × Unit) × (T_85bbee × (List T_3d5633) × Unit)) (fun p => ⟨mkS S p.1, mkH H p.2⟩) (fun F p => step (fun x43 => some (.exit 1, KX p.1 p.2 x43)) (fun q0 => some (.ret, RX p.1 p.2 q0)) (fun x43 => F (((), (), p.1.2.2.1, x43, ()), (p.2.1, p.2.2.1, ()))) k p.1.2.2.1 p.2.1 p.2.2.1 p.1.2.2.2.1) (fun n p => go (fun x43 => some (.exit 1, KX p.1 p.2 x43)) (fun q0 => some (.ret, RX p.1 p.2 q0)) k p.1.2.2.1 p.2.1 p.2.2.1 n p.1.2.2.2.1) (fun _ => rfl) (fun _ _ => rfl) (fun G p => round k p.1 p.2 G) n (d, e)
theorem ok (k : Nat) : LoopOK Tryd.prog 75 (subC (bodyOf Tryd.f14) [1, 0, 1, 0, 1, 1, 1, 1, 1, 0, 0, 1, 0, 0]) (sum k) :=
  loop_sig hm (fE k) (loopsOK_of [] (by kernel_rfl) trivial) S cl hn kp H 1 (fun (d : (Unit × Unit × Int × Int × Unit)) (e : (T_85bbee × (List T_3d5633) × Unit)) => f k d.2.2.1 e.1 e.2.1 k d.2.2.2.1) KX RX cl hn kp rc rs ri k
    (fun d e => (it k k d e).trans (go_nat (exitOf 1 (KX d e) (RX d e)) (fun x43 => some (.inl x43)) (fun q0 => some (.inr q0)) k d.2.2.1 e.1 e.2.1 k d.2.2.2.1).symm)
end l1
theorem run (k : Nat) (d : (T_85bbee × Unit)) (e : Unit) : runFn Tryd.prog (E k) 75 (bodyOf Tryd.f14) Tryd.f14.results.toList cl hn hi (mkL ps d) (mkH hs e) =
    tree (fun b0 => leafFn hs fi e val wr b0) k d.1 := by kernel_rfl
theorem run_f (k : Nat) (d : (T_85bbee × Unit)) (e : Unit) : runFn Tryd.prog (E k) 75 (bodyOf Tryd.f14) Tryd.f14.results.toList cl hn hi (mkL ps d) (mkH hs e) = (f k d.1).bind (leafFn hs fi e val wr) :=
  (run k d e).trans (tree_nat (leafFn hs fi e val wr) (fun b0 => some b0) k d.1).symm
theorem fnIs : FnIs Tryd.prog 14 Tryd.f14 (bodyOf Tryd.f14) 75 := ⟨by kernel_rfl, by kernel_rfl, by kernel_rfl, by kernel_rfl⟩
theorem ok (k : Nat) : CalleeOK Tryd.prog 14 (callee k) :=
  callee_sig (T := Bool) fnIs hm (fE k) (loopsOK_of [(1, subC (bodyOf Tryd.f14) [1, 0, 1, 0, 1, 1, 1, 1, 1, 0, 0, 1, 0, 0])] (by kernel_rfl) ⟨of_loop (l1.sum k) rfl (l1.ok k), trivial⟩) ps hs cl hn fi (fun (d : (T_85bbee × Unit)) (e : Unit) => f k d.1) val wr rfl (fun _ => rfl) (run_f k)
end trailheadref08_Good
namespace speech_bare_v2
def tree {X : Type} (K : T_85bbee → Option X) (k : Nat) (a0 : T_85bbee) : Option X :=
  (bif (a0.1 == (1 : Int)) then (K ((a0.1, (a0.2.1, (a0.2.2.1, (a0.2.2.2.1, (a0.2.2.2.2.1, ([], ([0, 0, 0, 0, 0, 0, 0, 0, 0, 0, 0, 0, 0, 0, 0, 0, 0, 0, 0, 0, 0, 0, 0, 0, 0, 0, 0, 0, 0, 0, 0, 0], []))))))) : T_85bbee)) else (bif (a0.1 == (3 : Int)) then (K ((a0.1, (a0.2.1, (0, (0, (0, (a0.2.2.2.2.2.1, (a0.2.2.2.2.2.2.1, []))))))) : T_85bbee)) else (bif (a0.1 == (4 : Int)) then (K ((a0.1, (0, (0, (0, (0, ([], ([0, 0, 0, 0, 0, 0, 0, 0, 0, 0, 0, 0, 0, 0, 0, 0, 0, 0, 0, 0, 0, 0, 0, 0, 0, 0, 0, 0, 0, 0, 0, 0], a0.2.2.2.2.2.2.2))))))) : T_85bbee)) else (bif (a0.1 == (5 : Int)) then (K ((a0.1, (0, (0, (0, (0, (a0.2.2.2.2.2.1, ([0, 0, 0, 0, 0, 0, 0, 0, 0, 0, 0, 0, 0, 0, 0, 0, 0, 0, 0, 0, 0, 0, 0, 0, 0, 0, 0, 0, 0, 0, 0, 0], []))))))) : T_85bbee)) else (bif (a0.1 == (6 : Int)) then (bif (a0.1 == (6 : Int)) then (K ((a0.1, (0, (0, (0, (a0.2.2.2.2.1, ([], ([0, 0, 0, 0, 0, 0, 0, 0, 0, 0, 0, 0, 0, 0, 0, 0, 0, 0, 0, 0, 0, 0, 0, 0, 0, 0, 0, 0, 0, 0, 0, 0], []))))))) : T_85bbee)) else (K ((a0.1, (0, (0, (0, (0, ([], ([0, 0, 0, 0, 0, 0, 0, 0, 0, 0, 0, 0, 0, 0, 0, 0, 0, 0, 0, 0, 0, 0, 0, 0, 0, 0, 0, 0, 0, 0, 0, 0], []))))))) : T_85bbee))) else (bif (a0.1 == (7 : Int)) then (K ((a0.1, (0, (0, (0, (a0.2.2.2.2.1, ([], ([0, 0, 0, 0, 0, 0, 0, 0, 0, 0, 0, 0, 0, 0, 0, 0, 0, 0, 0, 0, 0, 0, 0, 0, 0, 0, 0, 0, 0, 0, 0, 0], []))))))) : T_85bbee)) else (K ((a0.1, (0, (0, (0, (0, ([], ([0, 0, 0, 0, 0, 0, 0, 0, 0, 0, 0, 0, 0, 0, 0, 0, 0, 0, 0, 0, 0, 0, 0, 0, 0, 0, 0, 0, 0, 0, 0, 0], []))))))) : T_85bbee))))))))
def f (k : Nat) (a0 : T_85bbee) : Option T_85bbee := tree (fun b0 => some b0) k a0
theorem tree_nat {X Y : Type} (h : X → Option Y) (K : T_85bbee → Option X) (k : Nat) (a0 : T_85bbee) : Option.bind (tree K k a0) h = tree (fun b0 => Option.bind (K b0) h) k a0 := by
  simp only [tree, bif_bind, sel_bind', Option.bind_assoc, Option.bind_none, Option.bind_some]
abbrev ps : List Sh := [.data (.pair (.int .i64) (.pair (.int .i64) (.pair (.int .i64) (.pair (.int .i64) (.pair (.int .i64) (.pair (.row 28 (.arr .u8 32)) (.pair (.arr .u8 32) (.row 52 (.pair (.int .i64) (.pair (.arr .u8 32) (.pair (.arr .u8 32) (.pair (.int .i64) (.pair (.int .i64) (.int .i64))))))))))))))]
abbrev hs : List (Nat × ESh) := []
abbrev hi : List Nat := hs.map (·.1)
abbrev fi : List Nat := []
abbrev cl : List (Place × Nat × Hint) := []
abbrev hn : List Hint := [(.norm (.pair (.int .i64) (.pair (.int .i64) (.pair (.int .i64) (.pair (.int .i64) (.pair (.int .i64) (.pair (.row 28 (.arr .u8 32)) (.pair (.arr .u8 32) (.row 52 (.pair (.int .i64) (.pair (.arr .u8 32) (.pair (.arr .u8 32) (.pair (.int .i64) (.pair (.int .i64) (.int .i64)))))))))))))))]
def val (t : T_85bbee) : AV := Sh.mk (.data (.pair (.int .i64) (.pair (.int .i64) (.pair (.int .i64) (.pair (.int .i64) (.pair (.int .i64) (.pair (.row 28 (.arr .u8 32)) (.pair (.arr .u8 32) (.row 52 (.pair (.int .i64) (.pair (.arr .u8 32) (.pair (.arr .u8 32) (.pair (.int .i64) (.pair (.int .i64) (.int .i64))))))))))))))) t
def wr (t : T_85bbee) : Heap := []
def callee (k : Nat) : Callee := sigCallee ps hs (fun (d : (T_85bbee × Unit)) (e : Unit) => f k d.1) val wr
def E (k : Nat) : Env := ⟨fnTab [], loopTab [], natsTab [], natTab []⟩
theorem fE (k : Nat) : ∀ f, ∀ c ∈ (E k).fn f, CalleeOK Tryd.prog f c := fnTab_ok trivial
theorem run (k : Nat) (d : (T_85bbee × Unit)) (e : Unit) : runFn Tryd.prog (E k) 51 (bodyOf Tryd.f23) Tryd.f23.results.toList cl hn hi (mkL ps d) (mkH hs e) =
    tree (fun b0 => leafFn hs fi e val wr b0) k d.1 := by kernel_rfl
theorem run_f (k : Nat) (d : (T_85bbee × Unit)) (e : Unit) : runFn Tryd.prog (E k) 51 (bodyOf Tryd.f23) Tryd.f23.results.toList cl hn hi (mkL ps d) (mkH hs e) = (f k d.1).bind (leafFn hs fi e val wr) :=
  (run k d e).trans (tree_nat (leafFn hs fi e val wr) (fun b0 => some b0) k d.1).symm
theorem fnIs : FnIs Tryd.prog 23 Tryd.f23 (bodyOf Tryd.f23) 51 := ⟨by kernel_rfl, by kernel_rfl, by kernel_rfl, by kernel_rfl⟩
theorem ok (k : Nat) : CalleeOK Tryd.prog 23 (callee k) :=
  callee_sig (T := T_85bbee) fnIs hm (fE k) (loopsOK_of [] (by kernel_rfl) trivial) ps hs cl hn fi (fun (d : (T_85bbee × Unit)) (e : Unit) => f k d.1) val wr rfl (fun _ => rfl) (run_f k)
end speech_bare_v2
namespace slices_Equal_api_Hash_api_Hash_v1
namespace l0
def step {X : Type} (K : Int → Option X) (Q : Bool → Option X) (G : Int → Option X) (k : Nat) (x12 : Int) (y0 : (List (List Int))) (y1 : (List (List Int))) (x13 : Int) : Option X :=
  (bif (decide (x13 < x12)) then (bif (decide (0 ≤ x13)) then (bif (decide (x13 < ((List.length y0) : Int))) then (bif (decide ((Int.toNat x13) < (List.length y0))) then (bif (decide (0 ≤ x13)) then (bif (decide (x13 < ((List.length y1) : Int))) then (bif (decide ((Int.toNat x13) < (List.length y1))) then (bif (!(decide ((List.getD y0 (Int.toNat x13) (List.replicate 32 0 : (List Int))) = (List.getD y1 (Int.toNat x13) (List.replicate 32 0 : (List Int)))))) then (Q false) else (G (addI .i64 x13 1))) else none) else none) else none) else none) else none) else none) else (K x13))
def go {X : Type} (K : Int → Option X) (Q : Bool → Option X) (k : Nat) (x12 : Int) (y0 : (List (List Int))) (y1 : (List (List Int))) : Nat → Int → Option X
  | 0, _ => none
  | n + 1, x13 => step K Q (go K Q k x12 y0 y1 n) k x12 y0 y1 x13
def f (k : Nat) (x12 : Int) (y0 : (List (List Int))) (y1 : (List (List Int))) (n : Nat) (x13 : Int) : Option (Int ⊕ Bool) := go (fun x13 => some (.inl x13)) (fun q0 => some (.inr q0)) k x12 y0 y1 n x13
theorem step_nat {X Y : Type} (h : X → Option Y) (K : Int → Option X) (Q : Bool → Option X) (G : Int → Option X) (k : Nat) (x12 : Int) (y0 : (List (List Int))) (y1 : (List (List Int))) (x13 : Int) : Option.bind (step K Q G k x12 y0 y1 x13) h = step (fun x13 => Option.bind (K x13) h) (fun q0 => Option.bind (Q q0) h) (fun x13 => Option.bind (G x13) h) k x12 y0 y1 x13 := by
  simp only [step, bif_bind, sel_bind', Option.bind_assoc, Option.bind_none, Option.bind_some]
theorem go_nat {X Y : Type} (h : X → Option Y) (K : Int → Option X) (Q : Bool → Option X) (k : Nat) (x12 : Int) (y0 : (List (List Int))) (y1 : (List (List Int))) (n : Nat) : ∀ (x13 : Int), Option.bind (go K Q k x12 y0 y1 n x13) h = go (fun x13 => Option.bind (K x13) h) (fun q0 => Option.bind (Q q0) h) k x12 y0 y1 n x13 := by
  induction n with
  | zero => intros; rfl
  | succ n ih => intro x13; show Option.bind (step K Q (go K Q k x12 y0 y1 n) k x12 y0 y1 x13) h = step (fun x13 => Option.bind (K x13) h) (fun q0 => Option.bind (Q q0) h) (go (fun x13 => Option.bind (K x13) h) (fun q0 => Option.bind (Q q0) h) k x12 y0 y1 n) k x12 y0 y1 x13; rw [step_nat h]; simp only [ih]
abbrev S : List (Nat × Sh) := [(0, .vec 0), (1, .vec 1), (12, .data (.int .i64)), (13, .data (.int .i64))]
abbrev H : List (Nat × ESh) := [(0, .rows 0 28 (.arr .u8 32)), (1, .rows 0 28 (.arr .u8 32))]
abbrev cl : List (Place × Nat × Hint) := []
abbrev hn : List (Nat × Hint) := [(0, .any), (1, .any), (12, .any), (13, .any)]
abbrev kp : List Nat := [0, 1]
abbrev rc : List (Place × Nat × Hint) := []
abbrev rs : List (Nat × Hint) := [(4, .any)]
abbrev ri : List Nat := [0, 1]
def KX (d : (Unit × Unit × Int × Int × Unit)) (e : ((List (List Int)) × (List (List Int)) × Unit)) (v : Int) : St := ⟨mkS S ((), (), d.2.2.1, v, ()), mkH H (e.1, e.2.1, ())⟩
abbrev RS : List (Nat × Sh) := [(4, .data .bool)]
abbrev RH : List (Nat × ESh) := [(0, .rows 0 28 (.arr .u8 32)), (1, .rows 0 28 (.arr .u8 32))]
def RX (d : (Unit × Unit × Int × Int × Unit)) (e : ((List (List Int)) × (List (List Int)) × Unit)) (v : Bool) : St := ⟨mkS RS (v, ()), mkH RH (e.1, e.2.1, ())⟩
def sum (k : Nat) : LoopSum := sigLoop S cl hn kp H 0 (fun (d : (Unit × Unit × Int × Int × Unit)) (e : ((List (List Int)) × (List (List Int)) × Unit)) => f k d.2.2.1 e.1 e.2.1 k d.2.2.2.1) KX RX
end l0
def tree {X : Type} (K : Bool → Option X) (k : Nat) (m0 : (List (List Int))) (m1 : (List (List Int))) : Option X :=
  (bif (((List.length m0) : Int) != ((List.length m1) : Int)) then (K false) else (Option.bind (slices_Equal_api_Hash_api_Hash_v1.l0.f k ((List.length m0) : Int) m0 m1 k (0 : Int)) (fun r1 => sel r1 (fun v2 => (K true)) (fun q3 => (K q3)))))
def f (k : Nat) (m0 : (List (List Int))) (m1 : (List (List Int))) : Option Bool := tree (fun b0 => some b0) k m0 m1
theorem tree_nat {X Y : Type} (h : X → Option Y) (K : Bool → Option X) (k : Nat) (m0 : (List (List Int))) (m1 : (List (List Int))) : Option.bind (tree K k m0 m1) h = tree (fun b0 => Option.bind (K b0) h) k m0 m1 := by
  simp only [tree, bif_bind, sel_bind', Option.bind_assoc, Option.bind_none, Option.bind_some]
abbrev ps : List Sh := [.vec 0, .vec 1]
abbrev hs : List (Nat × ESh) := [(0, .rows 0 28 (.arr .u8 32)), (1, .rows 0 28 (.arr .u8 32))]
abbrev hi : List Nat := hs.map (·.1)
abbrev fi : List Nat := [0, 1]
abbrev cl : List (Place × Nat × Hint) := []
abbrev hn : List Hint := [.any]
def val (t : Bool) : AV := Sh.mk (.data .bool) t
def wr (t : Bool) : Heap := []
def callee (k : Nat) : Callee := sigCallee ps hs (fun (d : (Unit × Unit × Unit)) (e : ((List (List Int)) × (List (List Int)) × Unit)) => f k e.1 e.2.1) val wr
def E (k : Nat) : Env := ⟨fnTab [], loopTab [(0, l0.sum k)], natsTab [], natTab []⟩
theorem fE (k : Nat) : ∀ f, ∀ c ∈ (E k).fn f, CalleeOK Tryd.prog f c := fnTab_ok trivial
namespace l0
theorem round (k : Nat) (d : (Unit × Unit × Int × Int × Unit)) (e : ((List (List Int)) × (List (List Int)) × Unit)) (G : St → Option (Ex × St)) : roundK Tryd.prog (E k) 26 0 (subC (bodyOf Tryd.f24) [1, 1, 0, 1, 0, 0]) (recast cl hn kp) (finBy cl hn kp rc rs ri) G ⟨mkS S d, mkH H e⟩ =
    step (fun x13 => some (.exit 0, KX d e x13)) (fun q0 => some (.ret, RX d e q0)) (fun x13 => G ⟨mkS S ((), (), d.2.2.1, x13, ()), mkH H (e.1, e.2.1, ())⟩) k d.2.2.1 e.1 e.2.1 d.2.2.2.1 := by kernel_rfl
theorem it (k n : Nat) (d : (Unit × Unit × Int × Int × Unit)) (e : ((List (List Int)) × (List (List Int)) × Unit)) : loopIt Tryd.prog (E k) 26 0 (subC (bodyOf Tryd.f24) [1, 1, 0, 1, 0, 0]) (recast cl hn kp) (finBy cl hn kp rc rs ri) n ⟨mkS S d, mkH H e⟩ = go (fun x13 => some (.exit 0, KX d e x13)) (fun q0 => some (.ret, RX d e q0)) k d.2.2.1 e.1 e.2.1 n d.2.2.2.1 :=
  loopIt_eq (D := (Unit × Unit × Int × Int × Unit) × ((List (List Int)) × (List (List Int)) × Unit)) (fun p => ⟨mkS S p.1, mkH H p.2⟩) (fun F p => step (fun x13 => some (.exit 0, KX p.1 p.2 x13)) (fun q0 => some (.ret, RX p.1 p.2 q0)) (fun x13 => F (((), (), p.1.2.2.1, x13, ()), (p.2.1, p.2.2.1, ()))) k p.1.2.2.1 p.2.1 p.2.2.1 p.1.2.2.2.1) (fun n p => go (fun x13 => some (.exit 0, KX p.1 p.2 x13)) (fun q0 => some (.ret, RX p.1 p.2 q0)) k p.1.2.2.1 p.2.1 p.2.2.1 n p.1.2.2.2.1) (fun _ => rfl) (fun _ _ => rfl) (fun G p => round k p.1 p.2 G) n (d, e)
theorem ok (k : Nat) : LoopOK Tryd.prog 26 (subC (bodyOf Tryd.f24) [1, 1, 0, 1, 0, 0]) (sum k) :=
  loop_sig hm (fE k) (loopsOK_of [] (by kernel_rfl) trivial) S cl hn kp H 0 (fun (d : (Unit × Unit × Int × Int × Unit)) (e : ((List (List Int)) × (List (List Int)) × Unit)) => f k d.2.2.1 e.1 e.2.1 k d.2.2.2.1) KX RX cl hn kp rc rs ri k
    (fun d e => (it k k d e).trans (go_nat (exitOf 0 (KX d e) (RX d e)) (fun x13 => some (.inl x13)) (fun q0 => some (.inr q0)) k d.2.2.1 e.1 e.2.1 k d.2.2.2.1).symm)
end l0
theorem run (k : Nat) (d : (Unit × Unit × Unit)) (e : ((List (List Int)) × (List (List Int)) × Unit)) : runFn Tryd.prog (E k) 26 (bodyOf Tryd.f24) Tryd.f24.results.toList cl hn hi (mkL ps d) (mkH hs e) =
    tree (fun b0 => leafFn hs fi e val wr b0) k e.1 e.2.1 := by kernel_rfl
theorem run_f (k : Nat) (d : (Unit × Unit × Unit)) (e : ((List (List Int)) × (List (List Int)) × Unit)) : runFn Tryd.prog (E k) 26 (bodyOf Tryd.f24) Tryd.f24.results.toList cl hn hi (mkL ps d) (mkH hs e) = (f k e.1 e.2.1).bind (leafFn hs fi e val wr) :=
  (run k d e).trans (tree_nat (leafFn hs fi e val wr) (fun b0 => some b0) k e.1 e.2.1).symm
theorem fnIs : FnIs Tryd.prog 24 Tryd.f24 (bodyOf Tryd.f24) 26 := ⟨by kernel_rfl, by kernel_rfl, by kernel_rfl, by kernel_rfl⟩
theorem ok (k : Nat) : CalleeOK Tryd.prog 24 (callee k) :=
  callee_sig (T := Bool) fnIs hm (fE k) (loopsOK_of [(0, subC (bodyOf Tryd.f24) [1, 1, 0, 1, 0, 0])] (by kernel_rfl) ⟨of_loop (l0.sum k) rfl (l0.ok k), trivial⟩) ps hs cl hn fi (fun (d : (Unit × Unit × Unit)) (e : ((List (List Int)) × (List (List Int)) × Unit)) => f k e.1 e.2.1) val wr rfl (fun _ => rfl) (run_f k)
end slices_Equal_api_Hash_api_Hash_v1
namespace slices_Equal_api_Header_api_Header_v1
namespace l0
def step {X : Type} (K : Int → Option X) (Q : Bool → Option X) (G : Int → Option X) (k : Nat) (x12 : Int) (y0 : (List T_3d5633)) (y1 : (List T_3d5633)) (x13 : Int) : Option X :=
  (bif (decide (x13 < x12)) then (bif (decide (0 ≤ x13)) then (bif (decide (x13 < ((List.length y0) : Int))) then (bif (decide ((Int.toNat x13) < (List.length y0))) then (bif (decide (0 ≤ x13)) then (bif (decide (x13 < ((List.length y1) : Int))) then (bif (decide ((Int.toNat x13) < (List.length y1))) then (bif (!(eqDen (.pair (.int .i64) (.pair (.arr .u8 32) (.pair (.arr .u8 32) (.pair (.int .i64) (.pair (.int .i64) (.int .i64)))))) ((((List.getD y0 (Int.toNat x13) dfl_31f8ee)).1, ((((List.getD y0 (Int.toNat x13) dfl_31f8ee)).2).1, (((((List.getD y0 (Int.toNat x13) dfl_31f8ee)).2).2).1, ((((((List.getD y0 (Int.toNat x13) dfl_31f8ee)).2).2).2).1, ((((((List.getD y0 (Int.toNat x13) dfl_31f8ee)).2).2).2).2))))) : T_3d5633) ((((List.getD y1 (Int.toNat x13) dfl_31f8ee)).1, ((((List.getD y1 (Int.toNat x13) dfl_31f8ee)).2).1, (((((List.getD y1 (Int.toNat x13) dfl_31f8ee)).2).2).1, ((((((List.getD y1 (Int.toNat x13) dfl_31f8ee)).2).2).2).1, ((((((List.getD y1 (Int.toNat x13) dfl_31f8ee)).2).2).2).2))))) : T_3d5633))) then (Q false) else (G (addI .i64 x13 1))) else none) else none) else none) else none) else none) else none) else (K x13))
def go {X : Type} (K : Int → Option X) (Q : Bool → Option X) (k : Nat) (x12 : Int) (y0 : (List T_3d5633)) (y1 : (List T_3d5633)) : Nat → Int → Option X
  | 0, _ => none
  | n + 1, x13 => step K Q (go K Q k x12 y0 y1 n) k x12 y0 y1 x13
def f (k : Nat) (x12 : Int) (y0 : (List T_3d5633)) (y1 : (List T_3d5633)) (n : Nat) (x13 : Int) : Option (Int ⊕ Bool) := go (fun x13 => some (.inl x13)) (fun q0 => some (.inr q0)) k x12 y0 y1 n x13
theorem step_nat {X Y : Type} (h : X → Option Y) (K : Int → Option X) (Q : Bool → Option X) (G : Int → Option X) (k : Nat) (x12 : Int) (y0 : (List T_3d5633)) (y1 : (List T_3d5633)) (x13 : Int) : Option.bind (step K Q G k x12 y0 y1 x13) h = step (fun x13 => Option.bind (K x13) h) (fun q0 => Option.bind (Q q0) h) (fun x13 => Option.bind (G x13) h) k x12 y0 y1 x13 := by
  simp only [step, bif_bind, sel_bind', Option.bind_assoc, Option.bind_none, Option.bind_some]
theorem go_nat {X Y : Type} (h : X → Option Y) (K : Int → Option X) (Q : Bool → Option X) (k : Nat) (x12 : Int) (y0 : (List T_3d5633)) (y1 : (List T_3d5633)) (n : Nat) : ∀ (x13 : Int), Option.bind (go K Q k x12 y0 y1 n x13) h = go (fun x13 => Option.bind (K x13) h) (fun q0 => Option.bind (Q q0) h) k x12 y0 y1 n x13 := by
  induction n with
  | zero => intros; rfl
  | succ n ih => intro x13; show Option.bind (step K Q (go K Q k x12 y0 y1 n) k x12 y0 y1 x13) h = step (fun x13 => Option.bind (K x13) h) (fun q0 => Option.bind (Q q0) h) (go (fun x13 => Option.bind (K x13) h) (fun q0 => Option.bind (Q q0) h) k x12 y0 y1 n) k x12 y0 y1 x13; rw [step_nat h]; simp only [ih]
abbrev S : List (Nat × Sh) := [(0, .vec 0), (1, .vec 1), (12, .data (.int .i64)), (13, .data (.int .i64))]
abbrev H : List (Nat × ESh) := [(0, .rows 0 52 (.pair (.int .i64) (.pair (.arr .u8 32) (.pair (.arr .u8 32) (.pair (.int .i64) (.pair (.int .i64) (.int .i64))))))), (1, .rows 0 52 (.pair (.int .i64) (.pair (.arr .u8 32) (.pair (.arr .u8 32) (.pair (.int .i64) (.pair (.int .i64) (.int .i64)))))))]
abbrev cl : List (Place × Nat × Hint) := []
abbrev hn : List (Nat × Hint) := [(0, .any), (1, .any), (12, .any), (13, .any)]
abbrev kp : List Nat := [0, 1]
abbrev rc : List (Place × Nat × Hint) := []
abbrev rs : List (Nat × Hint) := [(4, .any)]
abbrev ri : List Nat := [0, 1]
def KX (d : (Unit × Unit × Int × Int × Unit)) (e : ((List T_3d5633) × (List T_3d5633) × Unit)) (v : Int) : St := ⟨mkS S ((), (), d.2.2.1, v, ()), mkH H (e.1, e.2.1, ())⟩
abbrev RS : List (Nat × Sh) := [(4, .data .bool)]
abbrev RH : List (Nat × ESh) := [(0, .rows 0 52 (.pair (.int .i64) (.pair (.arr .u8 32) (.pair (.arr .u8 32) (.pair (.int .i64) (.pair (.int .i64) (.int .i64))))))), (1, .rows 0 52 (.pair (.int .i64) (.pair (.arr .u8 32) (.pair (.arr .u8 32) (.pair (.int .i64) (.pair (.int .i64) (.int .i64)))))))]
def RX (d : (Unit × Unit × Int × Int × Unit)) (e : ((List T_3d5633) × (List T_3d5633) × Unit)) (v : Bool) : St := ⟨mkS RS (v, ()), mkH RH (e.1, e.2.1, ())⟩
def sum (k : Nat) : LoopSum := sigLoop S cl hn kp H 0 (fun (d : (Unit × Unit × Int × Int × Unit)) (e : ((List T_3d5633) × (List T_3d5633) × Unit)) => f k d.2.2.1 e.1 e.2.1 k d.2.2.2.1) KX RX
end l0
def tree {X : Type} (K : Bool → Option X) (k : Nat) (m0 : (List T_3d5633)) (m1 : (List T_3d5633)) : Option X :=
  (bif (((List.length m0) : Int) != ((List.length m1) : Int)) then (K false) else (Option.bind (slices_Equal_api_Header_api_Header_v1.l0.f k ((List.length m0) : Int) m0 m1 k (0 : Int)) (fun r1 => sel r1 (fun v2 => (K true)) (fun q3 => (K q3)))))
def f (k : Nat) (m0 : (List T_3d5633)) (m1 : (List T_3d5633)) : Option Bool := tree (fun b0 => some b0) k m0 m1
theorem tree_nat {X Y : Type} (h : X → Option Y) (K : Bool → Option X) (k : Nat) (m0 : (List T_3d5633)) (m1 : (List T_3d5633)) : Option.bind (tree K k m0 m1) h = tree (fun b0 => Option.bind (K b0) h) k m0 m1 := by
  simp only [tree, bif_bind, sel_bind', Option.bind_assoc, Option.bind_none, Option.bind_some]
abbrev ps : List Sh := [.vec 0, .vec 1]
abbrev hs : List (Nat × ESh) := [(0, .rows 0 52 (.pair (.int .i64) (.pair (.arr .u8 32) (.pair (.arr .u8 32) (.pair (.int .i64) (.pair (.int .i64) (.int .i64))))))), (1, .rows 0 52 (.pair (.int .i64) (.pair (.arr .u8 32) (.pair (.arr .u8 32) (.pair (.int .i64) (.pair (.int .i64) (.int .i64)))))))]
abbrev hi : List Nat := hs.map (·.1)
abbrev fi : List Nat := [0, 1]
abbrev cl : List (Place × Nat × Hint) := []
abbrev hn : List Hint := [.any]
def val (t : Bool) : AV := Sh.mk (.data .bool) t
def wr (t : Bool) : Heap := []
def callee (k : Nat) : Callee := sigCallee ps hs (fun (d : (Unit × Unit × Unit)) (e : ((List T_3d5633) × (List T_3d5633) × Unit)) => f k e.1 e.2.1) val wr
def E (k : Nat) : Env := ⟨fnTab [], loopTab [(0, l0.sum k)], natsTab [], natTab []⟩
theorem fE (k : Nat) : ∀ f, ∀ c ∈ (E k).fn f, CalleeOK Tryd.prog f c := fnTab_ok trivial
namespace l0
theorem round (k : Nat) (d : (Unit × Unit × Int × Int × Unit)) (e : ((List T_3d5633) × (List T_3d5633) × Unit)) (G : St → Option (Ex × St)) : roundK Tryd.prog (E k) 26 0 (subC (bodyOf Tryd.f25) [1, 1, 0, 1, 0, 0]) (recast cl hn kp) (finBy cl hn kp rc rs ri) G ⟨mkS S d, mkH H e⟩ =
    step (fun x13 => some (.exit 0, KX d e x13)) (fun q0 => some (.ret, RX d e q0)) (fun x13 => G ⟨mkS S ((), (), d.2.2.1, x13, ()), mkH H (e.1, e.2.1, ())⟩) k d.2.2.1 e.1 e.2.1 d.2.2.2.1 := by kernel_rfl
theorem it (k n : Nat) (d : (Unit × Unit × Int × Int × Unit)) (e : ((List T_3d5633) × (List T_3d5633) × Unit)) : loopIt Tryd.prog (E k) 26 0 (subC (bodyOf Tryd.f25) [1, 1, 0, 1, 0, 0]) (recast cl hn kp) (finBy cl hn kp rc rs ri) n ⟨mkS S d, mkH H e⟩ = go (fun x13 => some (.exit 0, KX d e x13)) (fun q0 => some (.ret, RX d e q0)) k d.2.2.1 e.1 e.2.1 n d.2.2.2.1 :=
  loopIt_eq (D := (Unit × Unit × Int × Int × Unit) × ((List T_3d5633) × (List T_3d5633) × Unit)) (fun p => ⟨mkS S p.1, mkH H p.2⟩) (fun F p => step (fun x13 => some (.exit 0, KX p.1 p.2 x13)) (fun q0 => some (.ret, RX p.1 p.2 q0)) (fun x13 => F (((), (), p.1.2.2.1, x13, ()), (p.2.1, p.2.2.1, ()))) k p.1.2.2.1 p.2.1 p.2.2.1 p.1.2.2.2.1) (fun n p => go (fun x13 => some (.exit 0, KX p.1 p.2 x13)) (fun q0 => some (.ret, RX p.1 p.2 q0)) k p.1.2.2.1 p.2.1 p.2.2.1 n p.1.2.2.2.1) (fun _ => rfl) (fun _ _ => rfl) (fun G p => round k p.1 p.2 G) n (d, e)
theorem ok (k : Nat) : LoopOK Tryd.prog 26 (subC (bodyOf Tryd.f25) [1, 1, 0, 1, 0, 0]) (sum k) :=
  loop_sig hm (fE k) (loopsOK_of [] (by kernel_rfl) trivial) S cl hn kp H 0 (fun (d : (Unit × Unit × Int × Int × Unit)) (e : ((List T_3d5633) × (List T_3d5633) × Unit)) => f k d.2.2.1 e.1 e.2.1 k d.2.2.2.1) KX RX cl hn kp rc rs ri k
    (fun d e => (it k k d e).trans (go_nat (exitOf 0 (KX d e) (RX d e)) (fun x13 => some (.inl x13)) (fun q0 => some (.inr q0)) k d.2.2.1 e.1 e.2.1 k d.2.2.2.1).symm)
end l0
theorem run (k : Nat) (d : (Unit × Unit × Unit)) (e : ((List T_3d5633) × (List T_3d5633) × Unit)) : runFn Tryd.prog (E k) 26 (bodyOf Tryd.f25) Tryd.f25.results.toList cl hn hi (mkL ps d) (mkH hs e) =
    tree (fun b0 => leafFn hs fi e val wr b0) k e.1 e.2.1 := by kernel_rfl
theorem run_f (k : Nat) (d : (Unit × Unit × Unit)) (e : ((List T_3d5633) × (List T_3d5633) × Unit)) : runFn Tryd.prog (E k) 26 (bodyOf Tryd.f25) Tryd.f25.results.toList cl hn hi (mkL ps d) (mkH hs e) = (f k e.1 e.2.1).bind (leafFn hs fi e val wr) :=
  (run k d e).trans (tree_nat (leafFn hs fi e val wr) (fun b0 => some b0) k e.1 e.2.1).symm
theorem fnIs : FnIs Tryd.prog 25 Tryd.f25 (bodyOf Tryd.f25) 26 := ⟨by kernel_rfl, by kernel_rfl, by kernel_rfl, by kernel_rfl⟩
theorem ok (k : Nat) : CalleeOK Tryd.prog 25 (callee k) :=
  callee_sig (T := Bool) fnIs hm (fE k) (loopsOK_of [(0, subC (bodyOf Tryd.f25) [1, 1, 0, 1, 0, 0])] (by kernel_rfl) ⟨of_loop (l0.sum k) rfl (l0.ok k), trivial⟩) ps hs cl hn fi (fun (d : (Unit × Unit × Unit)) (e : ((List T_3d5633) × (List T_3d5633) × Unit)) => f k e.1 e.2.1) val wr rfl (fun _ => rfl) (run_f k)
end slices_Equal_api_Header_api_Header_v1
namespace speech_Same_v1
def tree {X : Type} (K : Bool → Option X) (k : Nat) (a0 : T_85bbee) (a1 : T_85bbee) : Option X :=
  (Option.bind (speech_bare_v2.f k a0) (fun r1 => (Option.bind (speech_bare_v2.f k a1) (fun r2 => (bif (r1.1 == r2.1) then (bif (r1.2.1 == r2.2.1) then (bif (r1.2.2.1 == r2.2.2.1) then (bif (r1.2.2.2.1 == r2.2.2.2.1) then (bif (r1.2.2.2.2.1 == r2.2.2.2.2.1) then (bif (decide (r1.2.2.2.2.2.2.1 = r2.2.2.2.2.2.2.1)) then (Option.bind (slices_Equal_api_Hash_api_Hash_v1.f k r1.2.2.2.2.2.1 r2.2.2.2.2.2.1) (fun r3 => (bif r3 then (Option.bind (slices_Equal_api_Header_api_Header_v1.f k r1.2.2.2.2.2.2.2 r2.2.2.2.2.2.2.2) (fun r4 => (K r4))) else (K false)))) else (K false)) else (K false)) else (K false)) else (K false)) else (K false)) else (K false))))))
def f (k : Nat) (a0 : T_85bbee) (a1 : T_85bbee) : Option Bool := tree (fun b0 => some b0) k a0 a1
theorem tree_nat {X Y : Type} (h : X → Option Y) (K : Bool → Option X) (k : Nat) (a0 : T_85bbee) (a1 : T_85bbee) : Option.bind (tree K k a0 a1) h = tree (fun b0 => Option.bind (K b0) h) k a0 a1 := by
  simp only [tree, bif_bind, sel_bind', Option.bind_assoc, Option.bind_none, Option.bind_some]
abbrev ps : List Sh := [.data (.pair (.int .i64) (.pair (.int .i64) (.pair (.int .i64) (.pair (.int .i64) (.pair (.int .i64) (.pair (.row 28 (.arr .u8 32)) (.pair (.arr .u8 32) (.row 52 (.pair (.int .i64) (.pair (.arr .u8 32) (.pair (.arr .u8 32) (.pair (.int .i64) (.pair (.int .i64) (.int .i64)))))))))))))), .data (.pair (.int .i64) (.pair (.int .i64) (.pair (.int .i64) (.pair (.int .i64) (.pair (.int .i64) (.pair (.row 28 (.arr .u8 32)) (.pair (.arr .u8 32) (.row 52 (.pair (.int .i64) (.pair (.arr .u8 32) (.pair (.arr .u8 32) (.pair (.int .i64) (.pair (.int .i64) (.int .i64))))))))))))))]
abbrev hs : List (Nat × ESh) := []
abbrev hi : List Nat := hs.map (·.1)
abbrev fi : List Nat := []
abbrev cl : List (Place × Nat × Hint) := []
abbrev hn : List Hint := [.any]
def val (t : Bool) : AV := Sh.mk (.data .bool) t
def wr (t : Bool) : Heap := []
def callee (k : Nat) : Callee := sigCallee ps hs (fun (d : (T_85bbee × T_85bbee × Unit)) (e : Unit) => f k d.1 d.2.1) val wr
def E (k : Nat) : Env := ⟨fnTab [(23, [speech_bare_v2.callee k]), (24, [slices_Equal_api_Hash_api_Hash_v1.callee k]), (25, [slices_Equal_api_Header_api_Header_v1.callee k])], loopTab [], natsTab [], natTab []⟩
theorem fE (k : Nat) : ∀ f, ∀ c ∈ (E k).fn f, CalleeOK Tryd.prog f c := fnTab_ok ⟨⟨speech_bare_v2.ok k, trivial⟩, ⟨slices_Equal_api_Hash_api_Hash_v1.ok k, trivial⟩, ⟨slices_Equal_api_Header_api_Header_v1.ok k, trivial⟩, trivial⟩
theorem run (k : Nat) (d : (T_85bbee × T_85bbee × Unit)) (e : Unit) : runFn Tryd.prog (E k) 63 (bodyOf Tryd.f15) Tryd.f15.results.toList cl hn hi (mkL ps d) (mkH hs e) =
    tree (fun b0 => leafFn hs fi e val wr b0) k d.1 d.2.1 := by kernel_rfl
theorem run_f (k : Nat) (d : (T_85bbee × T_85bbee × Unit)) (e : Unit) : runFn Tryd.prog (E k) 63 (bodyOf Tryd.f15) Tryd.f15.results.toList cl hn hi (mkL ps d) (mkH hs e) = (f k d.1 d.2.1).bind (leafFn hs fi e val wr) :=
  (run k d e).trans (tree_nat (leafFn hs fi e val wr) (fun b0 => some b0) k d.1 d.2.1).symm
theorem fnIs : FnIs Tryd.prog 15 Tryd.f15 (bodyOf Tryd.f15) 63 := ⟨by kernel_rfl, by kernel_rfl, by kernel_rfl, by kernel_rfl⟩
theorem ok (k : Nat) : CalleeOK Tryd.prog 15 (callee k) :=
  callee_sig (T := Bool) fnIs hm (fE k) (loopsOK_of [] (by kernel_rfl) trivial) ps hs cl hn fi (fun (d : (T_85bbee × T_85bbee × Unit)) (e : Unit) => f k d.1 d.2.1) val wr rfl (fun _ => rfl) (run_f k)
end speech_Same_v1
namespace trailheadref05_Count
def tree {X : Type} (K : (List Int) → Option X) (k : Nat) (a0 : Int) : Option X :=
  (bif (decide (a0 < (0 : Int))) then (K ([0] : (List Int))) else (bif (decide (a0 < (253 : Int))) then (Option.bind (trailheadref05_Number.f k (1 : Int) a0) (fun r1 => (K r1))) else (bif (decide (a0 < (65536 : Int))) then (Option.bind (trailheadref05_Number.f k (2 : Int) a0) (fun r2 => (bif (fits (1 + (List.length r2))) then (K (([253] : (List Int)) ++ r2)) else none))) else (bif (decide (a0 < (4294967296 : Int))) then (Option.bind (trailheadref05_Number.f k (4 : Int) a0) (fun r3 => (bif (fits (1 + (List.length r3))) then (K (([254] : (List Int)) ++ r3)) else none))) else (Option.bind (trailheadref05_Number.f k (8 : Int) a0) (fun r4 => (bif (fits (1 + (List.length r4))) then (K (([255] : (List Int)) ++ r4)) else none)))))))
def f (k : Nat) (a0 : Int) : Option (List Int) := tree (fun b0 => some b0) k a0
theorem tree_nat {X Y : Type} (h : X → Option Y) (K : (List Int) → Option X) (k : Nat) (a0 : Int) : Option.bind (tree K k a0) h = tree (fun b0 => Option.bind (K b0) h) k a0 := by
  simp only [tree, bif_bind, sel_bind', Option.bind_assoc, Option.bind_none, Option.bind_some]
abbrev ps : List Sh := [.data (.int .i64)]
abbrev hs : List (Nat × ESh) := []
abbrev hi : List Nat := hs.map (·.1)
abbrev fi : List Nat := []
abbrev cl : List (Place × Nat × Hint) := []
abbrev hn : List Hint := [.any]
def val (t : (List Int)) : AV := Sh.mk (.data .str) t
def wr (t : (List Int)) : Heap := []
def callee (k : Nat) : Callee := sigCallee ps hs (fun (d : (Int × Unit)) (e : Unit) => f k d.1) val wr
def E (k : Nat) : Env := ⟨fnTab [(26, [trailheadref05_Number.callee k])], loopTab [], natsTab [], natTab []⟩
theorem fE (k : Nat) : ∀ f, ∀ c ∈ (E k).fn f, CalleeOK Tryd.prog f c := fnTab_ok ⟨⟨trailheadref05_Number.ok k, trivial⟩, trivial⟩
theorem run (k : Nat) (d : (Int × Unit)) (e : Unit) : runFn Tryd.prog (E k) 22 (bodyOf Tryd.f27) Tryd.f27.results.toList cl hn hi (mkL ps d) (mkH hs e) =
    tree (fun b0 => leafFn hs fi e val wr b0) k d.1 := by kernel_rfl
theorem run_f (k : Nat) (d : (Int × Unit)) (e : Unit) : runFn Tryd.prog (E k) 22 (bodyOf Tryd.f27) Tryd.f27.results.toList cl hn hi (mkL ps d) (mkH hs e) = (f k d.1).bind (leafFn hs fi e val wr) :=
  (run k d e).trans (tree_nat (leafFn hs fi e val wr) (fun b0 => some b0) k d.1).symm
theorem fnIs : FnIs Tryd.prog 27 Tryd.f27 (bodyOf Tryd.f27) 22 := ⟨by kernel_rfl, by kernel_rfl, by kernel_rfl, by kernel_rfl⟩
theorem ok (k : Nat) : CalleeOK Tryd.prog 27 (callee k) :=
  callee_sig (T := (List Int)) fnIs hm (fE k) (loopsOK_of [] (by kernel_rfl) trivial) ps hs cl hn fi (fun (d : (Int × Unit)) (e : Unit) => f k d.1) val wr rfl (fun _ => rfl) (run_f k)
end trailheadref05_Count
namespace trailheadref06_Bytes
def tree {X : Type} (K : (List Int) → Option X) (k : Nat) (a0 : T_3d5633) : Option X :=
  (Option.bind (trailheadref05_Number.f k (4 : Int) a0.1) (fun r1 => (Option.bind (trailheadref05_Name.f k a0.2.1) (fun r2 => (bif (fits ((List.length r1) + (List.length r2))) then (Option.bind (trailheadref05_Name.f k a0.2.2.1) (fun r3 => (bif (fits ((List.length (r1 ++ r2)) + (List.length r3))) then (Option.bind (trailheadref05_Number.f k (4 : Int) a0.2.2.2.1) (fun r4 => (bif (fits ((List.length ((r1 ++ r2) ++ r3)) + (List.length r4))) then (Option.bind (trailheadref05_Number.f k (4 : Int) a0.2.2.2.2.1) (fun r5 => (bif (fits ((List.length (((r1 ++ r2) ++ r3) ++ r4)) + (List.length r5))) then (Option.bind (trailheadref05_Number.f k (4 : Int) a0.2.2.2.2.2) (fun r6 => (bif (fits ((List.length ((((r1 ++ r2) ++ r3) ++ r4) ++ r5)) + (List.length r6))) then (K (((((r1 ++ r2) ++ r3) ++ r4) ++ r5) ++ r6)) else none))) else none))) else none))) else none))) else none)))))
def f (k : Nat) (a0 : T_3d5633) : Option (List Int) := tree (fun b0 => some b0) k a0
theorem tree_nat {X Y : Type} (h : X → Option Y) (K : (List Int) → Option X) (k : Nat) (a0 : T_3d5633) : Option.bind (tree K k a0) h = tree (fun b0 => Option.bind (K b0) h) k a0 := by
  simp only [tree, bif_bind, sel_bind', Option.bind_assoc, Option.bind_none, Option.bind_some]
abbrev ps : List Sh := [.data (.pair (.int .i64) (.pair (.arr .u8 32) (.pair (.arr .u8 32) (.pair (.int .i64) (.pair (.int .i64) (.int .i64))))))]
abbrev hs : List (Nat × ESh) := []
abbrev hi : List Nat := hs.map (·.1)
abbrev fi : List Nat := []
abbrev cl : List (Place × Nat × Hint) := []
abbrev hn : List Hint := [.any]
def val (t : (List Int)) : AV := Sh.mk (.data .str) t
def wr (t : (List Int)) : Heap := []
def callee (k : Nat) : Callee := sigCallee ps hs (fun (d : (T_3d5633 × Unit)) (e : Unit) => f k d.1) val wr
def E (k : Nat) : Env := ⟨fnTab [(26, [trailheadref05_Number.callee k]), (28, [trailheadref05_Name.callee k])], loopTab [], natsTab [], natTab []⟩
theorem fE (k : Nat) : ∀ f, ∀ c ∈ (E k).fn f, CalleeOK Tryd.prog f c := fnTab_ok ⟨⟨trailheadref05_Number.ok k, trivial⟩, ⟨trailheadref05_Name.ok k, trivial⟩, trivial⟩
theorem run (k : Nat) (d : (T_3d5633 × Unit)) (e : Unit) : runFn Tryd.prog (E k) 28 (bodyOf Tryd.f29) Tryd.f29.results.toList cl hn hi (mkL ps d) (mkH hs e) =
    tree (fun b0 => leafFn hs fi e val wr b0) k d.1 := by kernel_rfl
theorem run_f (k : Nat) (d : (T_3d5633 × Unit)) (e : Unit) : runFn Tryd.prog (E k) 28 (bodyOf Tryd.f29) Tryd.f29.results.toList cl hn hi (mkL ps d) (mkH hs e) = (f k d.1).bind (leafFn hs fi e val wr) :=
  (run k d e).trans (tree_nat (leafFn hs fi e val wr) (fun b0 => some b0) k d.1).symm
theorem fnIs : FnIs Tryd.prog 29 Tryd.f29 (bodyOf Tryd.f29) 28 := ⟨by kernel_rfl, by kernel_rfl, by kernel_rfl, by kernel_rfl⟩
theorem ok (k : Nat) : CalleeOK Tryd.prog 29 (callee k) :=
  callee_sig (T := (List Int)) fnIs hm (fE k) (loopsOK_of [] (by kernel_rfl) trivial) ps hs cl hn fi (fun (d : (T_3d5633 × Unit)) (e : Unit) => f k d.1) val wr rfl (fun _ => rfl) (run_f k)
end trailheadref06_Bytes
namespace trailheadref08_Payload
namespace l1
def step {X : Type} (K : (List Int) → Int → Option X) (G : (List Int) → Int → Option X) (k : Nat) (x41 : Int) (y800000 : T_85bbee) (y800001 : (List (List Int))) (x3 : (List Int)) (x42 : Int) : Option X :=
  (bif (decide (x42 < x41)) then (bif (decide (0 ≤ x42)) then (bif (decide (x42 < ((List.length y800001) : Int))) then (bif (decide ((Int.toNat x42) < (List.length y800001))) then (Option.bind (trailheadref05_Name.f k (List.getD y800001 (Int.toNat x42) (List.replicate 32 0 : (List Int)))) (fun r7 => (bif (fits ((List.length x3) + (List.length r7))) then (G (x3 ++ r7) (addI .i64 x42 1)) else none))) else none) else none) else none) else (K x3 x42))
def go {X : Type} (K : (List Int) → Int → Option X) (k : Nat) (x41 : Int) (y800000 : T_85bbee) (y800001 : (List (List Int))) : Nat → (List Int) → Int → Option X
  | 0, _, _ => none
  | n + 1, x3, x42 => step K (go K k x41 y800000 y800001 n) k x41 y800000 y800001 x3 x42
def f (k : Nat) (x41 : Int) (y800000 : T_85bbee) (y800001 : (List (List Int))) (n : Nat) (x3 : (List Int)) (x42 : Int) : Option ((List Int) × Int) := go (fun x3 x42 => some (x3, x42)) k x41 y800000 y800001 n x3 x42
theorem step_nat {X Y : Type} (h : X → Option Y) (K : (List Int) → Int → Option X) (G : (List Int) → Int → Option X) (k : Nat) (x41 : Int) (y800000 : T_85bbee) (y800001 : (List (List Int))) (x3 : (List Int)) (x42 : Int) : Option.bind (step K G k x41 y800000 y800001 x3 x42) h = step (fun x3 x42 => Option.bind (K x3 x42) h) (fun x3 x42 => Option.bind (G x3 x42) h) k x41 y800000 y800001 x3 x42 := by
  simp only [step, bif_bind, sel_bind', Option.bind_assoc, Option.bind_none, Option.bind_some]
theorem go_nat {X Y : Type} (h : X → Option Y) (K : (List Int) → Int → Option X) (k : Nat) (x41 : Int) (y800000 : T_85bbee) (y800001 : (List (List Int))) (n : Nat) : ∀ (x3 : (List Int)) (x42 : Int), Option.bind (go K k x41 y800000 y800001 n x3 x42) h = go (fun x3 x42 => Option.bind (K x3 x42) h) k x41 y800000 y800001 n x3 x42 := by
  induction n with
  | zero => intros; rfl
  | succ n ih => intro x3 x42; show Option.bind (step K (go K k x41 y800000 y800001 n) k x41 y800000 y800001 x3 x42) h = step (fun x3 x42 => Option.bind (K x3 x42) h) (go (fun x3 x42 => Option.bind (K x3 x42) h) k x41 y800000 y800001 n) k x41 y800000 y800001 x3 x42; rw [step_nat h]; simp only [ih]
abbrev S : List (Nat × Sh) := [(1, .ptr 800000), (3, .data .str), (40, .vec 800001), (41, .data (.int .i64)), (42, .data (.int .i64))]
abbrev H : List (Nat × ESh) := [(800000, .cell (.data (.pair (.int .i64) (.pair (.int .i64) (.pair (.int .i64) (.pair (.int .i64) (.pair (.int .i64) (.pair (.row 28 (.arr .u8 32)) (.pair (.arr .u8 32) (.row 52 (.pair (.int .i64) (.pair (.arr .u8 32) (.pair (.arr .u8 32) (.pair (.int .i64) (.pair (.int .i64) (.int .i64)))))))))))))))), (800001, .rows 0 28 (.arr .u8 32))]
abbrev cl : List (Place × Nat × Hint) := []
abbrev hn : List (Nat × Hint) := [(1, .any), (3, .any), (40, .any), (41, .any), (42, .any)]
abbrev kp : List Nat := []
abbrev rc : List (Place × Nat × Hint) := []
abbrev rs : List (Nat × Hint) := []
abbrev ri : List Nat := []
def KX (d : (Unit × (List Int) × Unit × Int × Int × Unit)) (e : (T_85bbee × (List (List Int)) × Unit)) (v : ((List Int) × Int)) : St := ⟨mkS S ((), v.1, (), d.2.2.2.1, v.2, ()), mkH H (e.1, e.2.1, ())⟩
def sum (k : Nat) : LoopSum := sigLoopX S cl hn kp H 1 (fun (d : (Unit × (List Int) × Unit × Int × Int × Unit)) (e : (T_85bbee × (List (List Int)) × Unit)) => f k d.2.2.2.1 e.1 e.2.1 k d.2.1 d.2.2.2.2.1) KX
end l1
namespace l3
def step {X : Type} (K : (List Int) → Int → Option X) (G : (List Int) → Int → Option X) (k : Nat) (x64 : Int) (y800000 : (List T_3d5633)) (x3 : (List Int)) (x65 : Int) : Option X :=
  (bif (decide (x65 < x64)) then (bif (decide (0 ≤ x65)) then (bif (decide (x65 < ((List.length y800000) : Int))) then (bif (decide ((Int.toNat x65) < (List.length y800000))) then (Option.bind (trailheadref06_Bytes.f k ((((List.getD y800000 (Int.toNat x65) dfl_31f8ee)).1, ((((List.getD y800000 (Int.toNat x65) dfl_31f8ee)).2).1, (((((List.getD y800000 (Int.toNat x65) dfl_31f8ee)).2).2).1, ((((((List.getD y800000 (Int.toNat x65) dfl_31f8ee)).2).2).2).1, ((((((List.getD y800000 (Int.toNat x65) dfl_31f8ee)).2).2).2).2))))) : T_3d5633)) (fun r11 => (bif (fits ((List.length x3) + (List.length r11))) then (bif (fits ((List.length (x3 ++ r11)) + 1)) then (G ((x3 ++ r11) ++ ([0] : (List Int))) (addI .i64 x65 1)) else none) else none))) else none) else none) else none) else (K x3 x65))
def go {X : Type} (K : (List Int) → Int → Option X) (k : Nat) (x64 : Int) (y800000 : (List T_3d5633)) : Nat → (List Int) → Int → Option X
  | 0, _, _ => none
  | n + 1, x3, x65 => step K (go K k x64 y800000 n) k x64 y800000 x3 x65
def f (k : Nat) (x64 : Int) (y800000 : (List T_3d5633)) (n : Nat) (x3 : (List Int)) (x65 : Int) : Option ((List Int) × Int) := go (fun x3 x65 => some (x3, x65)) k x64 y800000 n x3 x65
theorem step_nat {X Y : Type} (h : X → Option Y) (K : (List Int) → Int → Option X) (G : (List Int) → Int → Option X) (k : Nat) (x64 : Int) (y800000 : (List T_3d5633)) (x3 : (List Int)) (x65 : Int) : Option.bind (step K G k x64 y800000 x3 x65) h = step (fun x3 x65 => Option.bind (K x3 x65) h) (fun x3 x65 => Option.bind (G x3 x65) h) k x64 y800000 x3 x65 := by
  simp only [step, bif_bind, sel_bind', Option.bind_assoc, Option.bind_none, Option.bind_some]
theorem go_nat {X Y : Type} (h : X → Option Y) (K : (List Int) → Int → Option X) (k : Nat) (x64 : Int) (y800000 : (List T_3d5633)) (n : Nat) : ∀ (x3 : (List Int)) (x65 : Int), Option.bind (go K k x64 y800000 n x3 x65) h = go (fun x3 x65 => Option.bind (K x3 x65) h) k x64 y800000 n x3 x65 := by
  induction n with
  | zero => intros; rfl
  | succ n ih => intro x3 x65; show Option.bind (step K (go K k x64 y800000 n) k x64 y800000 x3 x65) h = step (fun x3 x65 => Option.bind (K x3 x65) h) (go (fun x3 x65 => Option.bind (K x3 x65) h) k x64 y800000 n) k x64 y800000 x3 x65; rw [step_nat h]; simp only [ih]
abbrev S : List (Nat × Sh) := [(3, .data .str), (63, .vec 800000), (64, .data (.int .i64)), (65, .data (.int .i64))]
abbrev H : List (Nat × ESh) := [(800000, .rows 0 52 (.pair (.int .i64) (.pair (.arr .u8 32) (.pair (.arr .u8 32) (.pair (.int .i64) (.pair (.int .i64) (.int .i64)))))))]
abbrev cl : List (Place × Nat × Hint) := []
abbrev hn : List (Nat × Hint) := [(3, .any), (63, .any), (64, .any), (65, .any)]
abbrev kp : List Nat := []
abbrev rc : List (Place × Nat × Hint) := []
abbrev rs : List (Nat × Hint) := []
abbrev ri : List Nat := []
def KX (d : ((List Int) × Unit × Int × Int × Unit)) (e : ((List T_3d5633) × Unit)) (v : ((List Int) × Int)) : St := ⟨mkS S (v.1, (), d.2.2.1, v.2, ()), mkH H (e.1, ())⟩
def sum (k : Nat) : LoopSum := sigLoopX S cl hn kp H 3 (fun (d : ((List Int) × Unit × Int × Int × Unit)) (e : ((List T_3d5633) × Unit)) => f k d.2.2.1 e.1 k d.1 d.2.2.2.1) KX
end l3
namespace l5
def step {X : Type} (K : (List Int) → Int → Option X) (G : (List Int) → Int → Option X) (k : Nat) (x83 : Int) (y800000 : (List (List Int))) (x3 : (List Int)) (x84 : Int) : Option X :=
  (bif (decide (x84 < x83)) then (bif (decide (0 ≤ x84)) then (bif (decide (x84 < ((List.length y800000) : Int))) then (bif (decide ((Int.toNat x84) < (List.length y800000))) then (bif (fits ((List.length x3) + 4)) then (Option.bind (trailheadref05_Name.f k (List.getD y800000 (Int.toNat x84) (List.replicate 32 0 : (List Int)))) (fun r14 => (bif (fits ((List.length (x3 ++ ([2, 0, 0, 0] : (List Int)))) + (List.length r14))) then (G ((x3 ++ ([2, 0, 0, 0] : (List Int))) ++ r14) (addI .i64 x84 1)) else none))) else none) else none) else none) else none) else (K x3 x84))
def go {X : Type} (K : (List Int) → Int → Option X) (k : Nat) (x83 : Int) (y800000 : (List (List Int))) : Nat → (List Int) → Int → Option X
  | 0, _, _ => none
  | n + 1, x3, x84 => step K (go K k x83 y800000 n) k x83 y800000 x3 x84
def f (k : Nat) (x83 : Int) (y800000 : (List (List Int))) (n : Nat) (x3 : (List Int)) (x84 : Int) : Option ((List Int) × Int) := go (fun x3 x84 => some (x3, x84)) k x83 y800000 n x3 x84
theorem step_nat {X Y : Type} (h : X → Option Y) (K : (List Int) → Int → Option X) (G : (List Int) → Int → Option X) (k : Nat) (x83 : Int) (y800000 : (List (List Int))) (x3 : (List Int)) (x84 : Int) : Option.bind (step K G k x83 y800000 x3 x84) h = step (fun x3 x84 => Option.bind (K x3 x84) h) (fun x3 x84 => Option.bind (G x3 x84) h) k x83 y800000 x3 x84 := by
  simp only [step, bif_bind, sel_bind', Option.bind_assoc, Option.bind_none, Option.bind_some]
theorem go_nat {X Y : Type} (h : X → Option Y) (K : (List Int) → Int → Option X) (k : Nat) (x83 : Int) (y800000 : (List (List Int))) (n : Nat) : ∀ (x3 : (List Int)) (x84 : Int), Option.bind (go K k x83 y800000 n x3 x84) h = go (fun x3 x84 => Option.bind (K x3 x84) h) k x83 y800000 n x3 x84 := by
  induction n with
  | zero => intros; rfl
  | succ n ih => intro x3 x84; show Option.bind (step K (go K k x83 y800000 n) k x83 y800000 x3 x84) h = step (fun x3 x84 => Option.bind (K x3 x84) h) (go (fun x3 x84 => Option.bind (K x3 x84) h) k x83 y800000 n) k x83 y800000 x3 x84; rw [step_nat h]; simp only [ih]
abbrev S : List (Nat × Sh) := [(3, .data .str), (82, .vec 800000), (83, .data (.int .i64)), (84, .data (.int .i64))]
abbrev H : List (Nat × ESh) := [(800000, .rows 0 28 (.arr .u8 32))]
abbrev cl : List (Place × Nat × Hint) := []
abbrev hn : List (Nat × Hint) := [(3, .any), (82, .any), (83, .any), (84, .any)]
abbrev kp : List Nat := []
abbrev rc : List (Place × Nat × Hint) := []
abbrev rs : List (Nat × Hint) := []
abbrev ri : List Nat := []
def KX (d : ((List Int) × Unit × Int × Int × Unit)) (e : ((List (List Int)) × Unit)) (v : ((List Int) × Int)) : St := ⟨mkS S (v.1, (), d.2.2.1, v.2, ()), mkH H (e.1, ())⟩
def sum (k : Nat) : LoopSum := sigLoopX S cl hn kp H 5 (fun (d : ((List Int) × Unit × Int × Int × Unit)) (e : ((List (List Int)) × Unit)) => f k d.2.2.1 e.1 k d.1 d.2.2.2.1) KX
end l5
def tree {X : Type} (K : (List Int) → Option X) (k : Nat) (a0 : T_85bbee) : Option X :=
  (bif (a0.1 == (1 : Int)) then (Option.bind (trailheadref05_Number.f k (4 : Int) a0.2.1) (fun r1 => (Option.bind (trailheadref05_Number.f k (4 : Int) a0.2.2.2.1) (fun r2 => (bif (fits ((List.length r1) + (List.length r2))) then (Option.bind (trailheadref05_Number.f k (7 : Int) a0.2.2.1) (fun r3 => (bif (fits ((List.length (r1 ++ r2)) + (List.length r3))) then (Option.bind (trailheadref05_Number.f k (7 : Int) a0.2.2.2.2.1) (fun r4 => (bif (fits ((List.length ((r1 ++ r2) ++ r3)) + (List.length r4))) then (K (((r1 ++ r2) ++ r3) ++ r4)) else none))) else none))) else none))))) else (bif (a0.1 == (3 : Int)) then (Option.bind (trailheadref05_Number.f k (4 : Int) a0.2.1) (fun r5 => (Option.bind (trailheadref05_Count.f k ((List.length a0.2.2.2.2.2.1) : Int)) (fun r6 => (bif (fits ((List.length r5) + (List.length r6))) then (Option.bind (trailheadref08_Payload.l1.f k ((List.length a0.2.2.2.2.2.1) : Int) a0 a0.2.2.2.2.2.1 k (r5 ++ r6) (0 : Int)) (fun r8 => (Option.bind (trailheadref05_Name.f k a0.2.2.2.2.2.2.1) (fun r9 => (bif (fits ((List.length r8.1) + (List.length r9))) then (K (r8.1 ++ r9)) else none))))) else none))))) else (bif (a0.1 == (4 : Int)) then (Option.bind (trailheadref05_Count.f k ((List.length a0.2.2.2.2.2.2.2) : Int)) (fun r10 => (Option.bind (trailheadref08_Payload.l3.f k ((List.length a0.2.2.2.2.2.2.2) : Int) a0.2.2.2.2.2.2.2 k r10 (0 : Int)) (fun r12 => (K r12.1))))) else (bif (a0.1 == (5 : Int)) then (Option.bind (trailheadref05_Count.f k ((List.length a0.2.2.2.2.2.1) : Int)) (fun r13 => (Option.bind (trailheadref08_Payload.l5.f k ((List.length a0.2.2.2.2.2.1) : Int) a0.2.2.2.2.2.1 k r13 (0 : Int)) (fun r15 => (K r15.1))))) else (bif (a0.1 == (6 : Int)) then (bif (a0.1 == (6 : Int)) then (Option.bind (trailheadref05_Number.f k (7 : Int) a0.2.2.2.2.1) (fun r16 => (K r16))) else (K ([] : (List Int)))) else (bif (a0.1 == (7 : Int)) then (Option.bind (trailheadref05_Number.f k (7 : Int) a0.2.2.2.2.1) (fun r17 => (K r17))) else (K ([] : (List Int)))))))))
def f (k : Nat) (a0 : T_85bbee) : Option (List Int) := tree (fun b0 => some b0) k a0
theorem tree_nat {X Y : Type} (h : X → Option Y) (K : (List Int) → Option X) (k : Nat) (a0 : T_85bbee) : Option.bind (tree K k a0) h = tree (fun b0 => Option.bind (K b0) h) k a0 := by
  simp only [tree, bif_bind, sel_bind', Option.bind_assoc, Option.bind_none, Option.bind_some]
abbrev ps : List Sh := [.data (.pair (.int .i64) (.pair (.int .i64) (.pair (.int .i64) (.pair (.int .i64) (.pair (.int .i64) (.pair (.row 28 (.arr .u8 32)) (.pair (.arr .u8 32) (.row 52 (.pair (.int .i64) (.pair (.arr .u8 32) (.pair (.arr .u8 32) (.pair (.int .i64) (.pair (.int .i64) (.int .i64))))))))))))))]
abbrev hs : List (Nat × ESh) := []
abbrev hi : List Nat := hs.map (·.1)
abbrev fi : List Nat := []
abbrev cl : List (Place × Nat × Hint) := []
abbrev hn : List Hint := [.any]
def val (t : (List Int)) : AV := Sh.mk (.data .str) t
def wr (t : (List Int)) : Heap := []
def callee (k : Nat) : Callee := sigCallee ps hs (fun (d : (T_85bbee × Unit)) (e : Unit) => f k d.1) val wr
def E (k : Nat) : Env := ⟨fnTab [(26, [trailheadref05_Number.callee k]), (27, [trailheadref05_Count.callee k]), (28, [trailheadref05_Name.callee k]), (29, [trailheadref06_Bytes.callee k])], loopTab [(1, l1.sum k), (3, l3.sum k), (5, l5.sum k)], natsTab [], natTab []⟩
theorem fE (k : Nat) : ∀ f, ∀ c ∈ (E k).fn f, CalleeOK Tryd.prog f c := fnTab_ok ⟨⟨trailheadref05_Number.ok k, trivial⟩, ⟨trailheadref05_Count.ok k, trivial⟩, ⟨trailheadref05_Name.ok k, trivial⟩, ⟨trailheadref06_Bytes.ok k, trivial⟩, trivial⟩
namespace l1
theorem round (k : Nat) (d : (Unit × (List Int) × Unit × Int × Int × Unit)) (e : (T_85bbee × (List (List Int)) × Unit)) (G : St → Option (Ex × St)) : roundK Tryd.prog (E k) 101 1 (subC (bodyOf Tryd.f16) [1, 1, 0, 1, 0, 1, 1, 1, 0, 1, 0, 1, 0, 0]) (recast cl hn kp) (finBy cl hn kp rc rs ri) G ⟨mkS S d, mkH H e⟩ =
    step (fun x3 x42 => some (.exit 1, KX d e (x3, x42))) (fun x3 x42 => G ⟨mkS S ((), x3, (), d.2.2.2.1, x42, ()), mkH H (e.1, e.2.1, ())⟩) k d.2.2.2.1 e.1 e.2.1 d.2.1 d.2.2.2.2.1 := by kernel_rfl
theorem it (k n : Nat) (d : (Unit × (List Int) × Unit × Int × Int × Unit)) (e : (T_85bbee × (List (List Int)) × Unit)) : loopIt Tryd.prog (E k) 101 1 (subC (bodyOf Tryd.f16) [1, 1, 0, 1, 0, 1, 1, 1, 0, 1, 0, 1, 0, 0]) (recast cl hn kp) (finBy cl hn kp rc rs ri) n ⟨mkS S d, mkH H e⟩ = go (fun x3 x42 => some (.exit 1, KX d e (x3, x42))) k d.2.2.2.1 e.1 e.2.1 n d.2.1 d.2.2.2.2.1 :=
  loopIt_eq (D := (Unit × (List Int) × Unit × Int × Int × Unit) × (T_85bbee × (List (List Int)) × Unit)) (fun p => ⟨mkS S p.1, mkH H p.2⟩) (fun F p => step (fun x3 x42 => some (.exit 1, KX p.1 p.2 (x3, x42))) (fun x3 x42 => F (((), x3, (), p.1.2.2.2.1, x42, ()), (p.2.1, p.2.2.1, ()))) k p.1.2.2.2.1 p.2.1 p.2.2.1 p.1.2.1 p.1.2.2.2.2.1) (fun n p => go (fun x3 x42 => some (.exit 1, KX p.1 p.2 (x3, x42))) k p.1.2.2.2.1 p.2.1 p.2.2.1 n p.1.2.1 p.1.2.2.2.2.1) (fun _ => rfl) (fun _ _ => rfl) (fun G p => round k p.1 p.2 G) n (d, e)
theorem ok (k : Nat) : LoopOK Tryd.prog 101 (subC (bodyOf Tryd.f16) [1, 1, 0, 1, 0, 1, 1, 1, 0, 1, 0, 1, 0, 0]) (sum k) :=
  loop_sigX hm (fE k) (loopsOK_of [] (by kernel_rfl) trivial) S cl hn kp H 1 (fun (d : (Unit × (List Int) × Unit × Int × Int × Unit)) (e : (T_85bbee × (List (List Int)) × Unit)) => f k d.2.2.2.1 e.1 e.2.1 k d.2.1 d.2.2.2.2.1) KX cl hn kp rc rs ri k
    (fun d e => (it k k d e).trans (go_nat (fun v => some (Ex.exit 1, KX d e v)) (fun x3 x42 => some (x3, x42)) k d.2.2.2.1 e.1 e.2.1 k d.2.1 d.2.2.2.2.1).symm)
end l1
namespace l3
theorem round (k : Nat) (d : ((List Int) × Unit × Int × Int × Unit)) (e : ((List T_3d5633) × Unit)) (G : St → Option (Ex × St)) : roundK Tryd.prog (E k) 101 3 (subC (bodyOf Tryd.f16) [1, 1, 0, 1, 0, 1, 1, 1, 1, 1, 0, 1, 1, 0, 0]) (recast cl hn kp) (finBy cl hn kp rc rs ri) G ⟨mkS S d, mkH H e⟩ =
    step (fun x3 x65 => some (.exit 3, KX d e (x3, x65))) (fun x3 x65 => G ⟨mkS S (x3, (), d.2.2.1, x65, ()), mkH H (e.1, ())⟩) k d.2.2.1 e.1 d.1 d.2.2.2.1 := by kernel_rfl
theorem it (k n : Nat) (d : ((List Int) × Unit × Int × Int × Unit)) (e : ((List T_3d5633) × Unit)) : loopIt Tryd.prog (E k) 101 3 (subC (bodyOf Tryd.f16) [1, 1, 0, 1, 0, 1, 1, 1, 1, 1, 0, 1, 1, 0, 0]) (recast cl hn kp) (finBy cl hn kp rc rs ri) n ⟨mkS S d, mkH H e⟩ = go (fun x3 x65 => some (.exit 3, KX d e (x3, x65))) k d.2.2.1 e.1 n d.1 d.2.2.2.1 :=
  loopIt_eq (D := ((List Int) × Unit × Int × Int × Unit) × ((List T_3d5633) × Unit)) (fun p => ⟨mkS S p.1, mkH H p.2⟩) (fun F p => step (fun x3 x65 => some (.exit 3, KX p.1 p.2 (x3, x65))) (fun x3 x65 => F ((x3, (), p.1.2.2.1, x65, ()), (p.2.1, ()))) k p.1.2.2.1 p.2.1 p.1.1 p.1.2.2.2.1) (fun n p => go (fun x3 x65 => some (.exit 3, KX p.1 p.2 (x3, x65))) k p.1.2.2.1 p.2.1 n p.1.1 p.1.2.2.2.1) (fun _ => rfl) (fun _ _ => rfl) (fun G p => round k p.1 p.2 G) n (d, e)
theorem ok (k : Nat) : LoopOK Tryd.prog 101 (subC (bodyOf Tryd.f16) [1, 1, 0, 1, 0, 1, 1, 1, 1, 1, 0, 1, 1, 0, 0]) (sum k) :=
  loop_sigX hm (fE k) (loopsOK_of [] (by kernel_rfl) trivial) S cl hn kp H 3 (fun (d : ((List Int) × Unit × Int × Int × Unit)) (e : ((List T_3d5633) × Unit)) => f k d.2.2.1 e.1 k d.1 d.2.2.2.1) KX cl hn kp rc rs ri k
    (fun d e => (it k k d e).trans (go_nat (fun v => some (Ex.exit 3, KX d e v)) (fun x3 x65 => some (x3, x65)) k d.2.2.1 e.1 k d.1 d.2.2.2.1).symm)
end l3
namespace l5
theorem round (k : Nat) (d : ((List Int) × Unit × Int × Int × Unit)) (e : ((List (List Int)) × Unit)) (G : St → Option (Ex × St)) : roundK Tryd.prog (E k) 101 5 (subC (bodyOf Tryd.f16) [1, 1, 0, 1, 0, 1, 1, 1, 1, 1, 1, 1, 0, 1, 1, 0, 0]) (recast cl hn kp) (finBy cl hn kp rc rs ri) G ⟨mkS S d, mkH H e⟩ =
    step (fun x3 x84 => some (.exit 5, KX d e (x3, x84))) (fun x3 x84 => G ⟨mkS S (x3, (), d.2.2.1, x84, ()), mkH H (e.1, ())⟩) k d.2.2.1 e.1 d.1 d.2.2.2.1 := by kernel_rfl
theorem it (k n : Nat) (d : ((List Int) × Unit × Int × Int × Unit)) (e : ((List (List Int)) × Unit)) : loopIt Tryd.prog (E k) 101 5 (subC (bodyOf Tryd.f16) [1, 1, 0, 1, 0, 1, 1, 1, 1, 1, 1, 1, 0, 1, 1, 0, 0]) (recast cl hn kp) (finBy cl hn kp rc rs ri) n ⟨mkS S d, mkH H e⟩ = go (fun x3 x84 => some (.exit 5, KX d e (x3, x84))) k d.2.2.1 e.1 n d.1 d.2.2.2.1 :=
  loopIt_eq (D := ((List Int) × Unit × Int × Int × Unit) × ((List (List Int)) × Unit)) (fun p => ⟨mkS S p.1, mkH H p.2⟩) (fun F p => step (fun x3 x84 => some (.exit 5, KX p.1 p.2 (x3, x84))) (fun x3 x84 => F ((x3, (), p.1.2.2.1, x84, ()), (p.2.1, ()))) k p.1.2.2.1 p.2.1 p.1.1 p.1.2.2.2.1) (fun n p => go (fun x3 x84 => some (.exit 5, KX p.1 p.2 (x3, x84))) k p.1.2.2.1 p.2.1 n p.1.1 p.1.2.2.2.1) (fun _ => rfl) (fun _ _ => rfl) (fun G p => round k p.1 p.2 G) n (d, e)
theorem ok (k : Nat) : LoopOK Tryd.prog 101 (subC (bodyOf Tryd.f16) [1, 1, 0, 1, 0, 1, 1, 1, 1, 1, 1, 1, 0, 1, 1, 0, 0]) (sum k) :=
  loop_sigX hm (fE k) (loopsOK_of [] (by kernel_rfl) trivial) S cl hn kp H 5 (fun (d : ((List Int) × Unit × Int × Int × Unit)) (e : ((List (List Int)) × Unit)) => f k d.2.2.1 e.1 k d.1 d.2.2.2.1) KX cl hn kp rc rs ri k
    (fun d e => (it k k d e).trans (go_nat (fun v => some (Ex.exit 5, KX d e v)) (fun x3 x84 => some (x3, x84)) k d.2.2.1 e.1 k d.1 d.2.2.2.1).symm)
end l5
theorem run (k : Nat) (d : (T_85bbee × Unit)) (e : Unit) : runFn Tryd.prog (E k) 101 (bodyOf Tryd.f16) Tryd.f16.results.toList cl hn hi (mkL ps d) (mkH hs e) =
    tree (fun b0 => leafFn hs fi e val wr b0) k d.1 := by kernel_rfl
theorem run_f (k : Nat) (d : (T_85bbee × Unit)) (e : Unit) : runFn Tryd.prog (E k) 101 (bodyOf Tryd.f16) Tryd.f16.results.toList cl hn hi (mkL ps d) (mkH hs e) = (f k d.1).bind (leafFn hs fi e val wr) :=
  (run k d e).trans (tree_nat (leafFn hs fi e val wr) (fun b0 => some b0) k d.1).symm
theorem fnIs : FnIs Tryd.prog 16 Tryd.f16 (bodyOf Tryd.f16) 101 := ⟨by kernel_rfl, by kernel_rfl, by kernel_rfl, by kernel_rfl⟩
theorem ok (k : Nat) : CalleeOK Tryd.prog 16 (callee k) :=
  callee_sig (T := (List Int)) fnIs hm (fE k) (loopsOK_of [(1, subC (bodyOf Tryd.f16) [1, 1, 0, 1, 0, 1, 1, 1, 0, 1, 0, 1, 0, 0]), (3, subC (bodyOf Tryd.f16) [1, 1, 0, 1, 0, 1, 1, 1, 1, 1, 0, 1, 1, 0, 0]), (5, subC (bodyOf Tryd.f16) [1, 1, 0, 1, 0, 1, 1, 1, 1, 1, 1, 1, 0, 1, 1, 0, 0])] (by kernel_rfl) ⟨of_loop (l1.sum k) rfl (l1.ok k), ⟨of_loop (l3.sum k) rfl (l3.ok k), ⟨of_loop (l5.sum k) rfl (l5.ok k), trivial⟩⟩⟩) ps hs cl hn fi (fun (d : (T_85bbee × Unit)) (e : Unit) => f k d.1) val wr rfl (fun _ => rfl) (run_f k)
end trailheadref08_Payload
namespace trailheadlaw08_SpeechSame
def tree {X : Type} (K : Bool → Option X) (k : Nat) (a0 : T_85bbee) (a1 : T_85bbee) (m0 : T_9fe11e) (m1 : (List Int)) (m2 : (List Int)) : Option X :=
  (Option.bind (trailheadlaw08_alive.f k m0 m1 m2) (fun r1 => (bif (!r1) then (K false) else (Option.bind (trailheadlaw08_great.f k a0) (fun r2 => (bif r2 then (K true) else (Option.bind (trailheadlaw08_great.f k a1) (fun r3 => (bif r3 then (K true) else (Option.bind (trailheadref08_Good.f k a0) (fun r4 => (bif (!r4) then (K true) else (Option.bind (trailheadref08_Good.f k a1) (fun r5 => (bif (!r5) then (K true) else (Option.bind (speech_Same_v1.f k a0 a1) (fun r6 => (bif (a0.1 == a1.1) then (Option.bind (trailheadref08_Payload.f k a0) (fun r7 => (Option.bind (trailheadref08_Payload.f k a1) (fun r8 => (bif (r6 == (decide (r7 = r8))) then (Option.bind (speech_Same_v1.f k a0 a0) (fun r9 => (K r9))) else (K false)))))) else (bif (r6 == false) then (Option.bind (speech_Same_v1.f k a0 a0) (fun r10 => (K r10))) else (K false))))))))))))))))))))
def f (k : Nat) (a0 : T_85bbee) (a1 : T_85bbee) (m0 : T_9fe11e) (m1 : (List Int)) (m2 : (List Int)) : Option Bool := tree (fun b0 => some b0) k a0 a1 m0 m1 m2
theorem tree_nat {X Y : Type} (h : X → Option Y) (K : Bool → Option X) (k : Nat) (a0 : T_85bbee) (a1 : T_85bbee) (m0 : T_9fe11e) (m1 : (List Int)) (m2 : (List Int)) : Option.bind (tree K k a0 a1 m0 m1 m2) h = tree (fun b0 => Option.bind (K b0) h) k a0 a1 m0 m1 m2 := by
  simp only [tree, bif_bind, sel_bind', Option.bind_assoc, Option.bind_none, Option.bind_some]
abbrev ps : List Sh := [.data (.pair (.int .i64) (.pair (.int .i64) (.pair (.int .i64) (.pair (.int .i64) (.pair (.int .i64) (.pair (.row 28 (.arr .u8 32)) (.pair (.arr .u8 32) (.row 52 (.pair (.int .i64) (.pair (.arr .u8 32) (.pair (.arr .u8 32) (.pair (.int .i64) (.pair (.int .i64) (.int .i64)))))))))))))), .data (.pair (.int .i64) (.pair (.int .i64) (.pair (.int .i64) (.pair (.int .i64) (.pair (.int .i64) (.pair (.row 28 (.arr .u8 32)) (.pair (.arr .u8 32) (.row 52 (.pair (.int .i64) (.pair (.arr .u8 32) (.pair (.arr .u8 32) (.pair (.int .i64) (.pair (.int .i64) (.int .i64))))))))))))))]
abbrev hs : List (Nat × ESh) := [(0, .glob 0 (.pair .str (.pair .str (.pair .str (.pair .str (.pair .str (.pair .str (.pair .str (.pair .str .str))))))))), (1, .glob 2 (.arr .u32 8)), (2, .glob 3 (.arr .u32 64))]
abbrev hi : List Nat := hs.map (·.1)
abbrev fi : List Nat := [0, 1, 2]
abbrev cl : List (Place × Nat × Hint) := []
abbrev hn : List Hint := [.any]
def val (t : Bool) : AV := Sh.mk (.data .bool) t
def wr (t : Bool) : Heap := []
def callee (k : Nat) : Callee := sigCallee ps hs (fun (d : (T_85bbee × T_85bbee × Unit)) (e : (T_9fe11e × (List Int) × (List Int) × Unit)) => f k d.1 d.2.1 e.1 e.2.1 e.2.2.1) val wr
def E (k : Nat) : Env := ⟨fnTab [(8, [trailheadlaw08_alive.callee k]), (13, [trailheadlaw08_great.callee k]), (14, [trailheadref08_Good.callee k]), (15, [speech_Same_v1.callee k]), (16, [trailheadref08_Payload.callee k])], loopTab [], natsTab [(8, [0, 1, 2])], natTab [(0, 0), (2, 1), (3, 2)]⟩
theorem fE (k : Nat) : ∀ f, ∀ c ∈ (E k).fn f, CalleeOK Tryd.prog f c := fnTab_ok ⟨⟨trailheadlaw08_alive.ok k, trivial⟩, ⟨trailheadlaw08_great.ok k, trivial⟩, ⟨trailheadref08_Good.ok k, trivial⟩, ⟨speech_Same_v1.ok k, trivial⟩, ⟨trailheadref08_Payload.ok k, trivial⟩, trivial⟩
theorem run (k : Nat) (d : (T_85bbee × T_85bbee × Unit)) (e : (T_9fe11e × (List Int) × (List Int) × Unit)) : runFn Tryd.prog (E k) 44 (bodyOf Tryd.f4) Tryd.f4.results.toList cl hn hi (mkL ps d) (mkH hs e) =
    tree (fun b0 => leafFn hs fi e val wr b0) k d.1 d.2.1 e.1 e.2.1 e.2.2.1 := by kernel_rfl
theorem run_f (k : Nat) (d : (T_85bbee × T_85bbee × Unit)) (e : (T_9fe11e × (List Int) × (List Int) × Unit)) : runFn Tryd.prog (E k) 44 (bodyOf Tryd.f4) Tryd.f4.results.toList cl hn hi (mkL ps d) (mkH hs e) = (f k d.1 d.2.1 e.1 e.2.1 e.2.2.1).bind (leafFn hs fi e val wr) :=
  (run k d e).trans (tree_nat (leafFn hs fi e val wr) (fun b0 => some b0) k d.1 d.2.1 e.1 e.2.1 e.2.2.1).symm
theorem fnIs : FnIs Tryd.prog 4 Tryd.f4 (bodyOf Tryd.f4) 44 := ⟨by kernel_rfl, by kernel_rfl, by kernel_rfl, by kernel_rfl⟩
theorem ok (k : Nat) : CalleeOK Tryd.prog 4 (callee k) :=
  callee_sig (T := Bool) fnIs hm (fE k) (loopsOK_of [] (by kernel_rfl) trivial) ps hs cl hn fi (fun (d : (T_85bbee × T_85bbee × Unit)) (e : (T_9fe11e × (List Int) × (List Int) × Unit)) => f k d.1 d.2.1 e.1 e.2.1 e.2.2.1) val wr rfl (fun _ => rfl) (run_f k)
end trailheadlaw08_SpeechSame
namespace trailheadlaw08_SpeechBare
def tree {X : Type} (K : Bool → Option X) (k : Nat) (a0 : T_85bbee) (a1 : T_85bbee) (m0 : T_9fe11e) (m1 : (List Int)) (m2 : (List Int)) : Option X :=
  (Option.bind (trailheadlaw08_alive.f k m0 m1 m2) (fun r1 => (bif (!r1) then (K false) else (Option.bind (trailheadlaw08_great.f k a0) (fun r2 => (bif r2 then (K true) else (Option.bind (trailheadlaw08_great.f k a1) (fun r3 => (bif r3 then (K true) else (Option.bind (trailheadref08_Good.f k a0) (fun r4 => (bif (!r4) then (K true) else (bif (a0.1 == (1 : Int)) then (Option.bind (speech_Bytes.f k a0 m0 m1 m2) (fun r5 => (Option.bind (speech_Bytes.f k ((a0.1, (a0.2.1, (a0.2.2.1, (a0.2.2.2.1, (a0.2.2.2.2.1, a1.2.2.2.2.2))))) : T_85bbee) m0 m1 m2) (fun r6 => (bif (r5.2 == (0 : Int)) then (bif (r6.2 == (0 : Int)) then (bif (decide (r5.1 = r6.1)) then (Option.bind (speech_Same_v1.f k a0 ((a0.1, (a0.2.1, (a0.2.2.1, (a0.2.2.2.1, (a0.2.2.2.2.1, a1.2.2.2.2.2))))) : T_85bbee)) (fun r7 => (K r7))) else (K false)) else (K false)) else (K false)))))) else (bif (a0.1 == (3 : Int)) then (Option.bind (speech_Bytes.f k a0 m0 m1 m2) (fun r8 => (Option.bind (speech_Bytes.f k ((a0.1, (a0.2.1, (a1.2.2.1, (a1.2.2.2.1, (a1.2.2.2.2.1, (a0.2.2.2.2.2.1, (a0.2.2.2.2.2.2.1, a1.2.2.2.2.2.2.2))))))) : T_85bbee) m0 m1 m2) (fun r9 => (bif (r8.2 == (0 : Int)) then (bif (r9.2 == (0 : Int)) then (bif (decide (r8.1 = r9.1)) then (Option.bind (speech_Same_v1.f k a0 ((a0.1, (a0.2.1, (a1.2.2.1, (a1.2.2.2.1, (a1.2.2.2.2.1, (a0.2.2.2.2.2.1, (a0.2.2.2.2.2.2.1, a1.2.2.2.2.2.2.2))))))) : T_85bbee)) (fun r10 => (K r10))) else (K false)) else (K false)) else (K false)))))) else (bif (a0.1 == (4 : Int)) then (Option.bind (speech_Bytes.f k a0 m0 m1 m2) (fun r11 => (Option.bind (speech_Bytes.f k ((a0.1, (a1.2.1, (a1.2.2.1, (a1.2.2.2.1, (a1.2.2.2.2.1, (a1.2.2.2.2.2.1, (a1.2.2.2.2.2.2.1, a0.2.2.2.2.2.2.2))))))) : T_85bbee) m0 m1 m2) (fun r12 => (bif (r11.2 == (0 : Int)) then (bif (r12.2 == (0 : Int)) then (bif (decide (r11.1 = r12.1)) then (Option.bind (speech_Same_v1.f k a0 ((a0.1, (a1.2.1, (a1.2.2.1, (a1.2.2.2.1, (a1.2.2.2.2.1, (a1.2.2.2.2.2.1, (a1.2.2.2.2.2.2.1, a0.2.2.2.2.2.2.2))))))) : T_85bbee)) (fun r13 => (K r13))) else (K false)) else (K false)) else (K false)))))) else (bif (a0.1 == (5 : Int)) then (Option.bind (speech_Bytes.f k a0 m0 m1 m2) (fun r14 => (Option.bind (speech_Bytes.f k ((a0.1, (a1.2.1, (a1.2.2.1, (a1.2.2.2.1, (a1.2.2.2.2.1, (a0.2.2.2.2.2.1, a1.2.2.2.2.2.2)))))) : T_85bbee) m0 m1 m2) (fun r15 => (bif (r14.2 == (0 : Int)) then (bif (r15.2 == (0 : Int)) then (bif (decide (r14.1 = r15.1)) then (Option.bind (speech_Same_v1.f k a0 ((a0.1, (a1.2.1, (a1.2.2.1, (a1.2.2.2.1, (a1.2.2.2.2.1, (a0.2.2.2.2.2.1, a1.2.2.2.2.2.2)))))) : T_85bbee)) (fun r16 => (K r16))) else (K false)) else (K false)) else (K false)))))) else (bif (a0.1 == (6 : Int)) then (bif (a0.1 == (6 : Int)) then (Option.bind (speech_Bytes.f k a0 m0 m1 m2) (fun r17 => (Option.bind (speech_Bytes.f k ((a0.1, (a1.2.1, (a1.2.2.1, (a1.2.2.2.1, (a0.2.2.2.2.1, a1.2.2.2.2.2))))) : T_85bbee) m0 m1 m2) (fun r18 => (bif (r17.2 == (0 : Int)) then (bif (r18.2 == (0 : Int)) then (bif (decide (r17.1 = r18.1)) then (Option.bind (speech_Same_v1.f k a0 ((a0.1, (a1.2.1, (a1.2.2.1, (a1.2.2.2.1, (a0.2.2.2.2.1, a1.2.2.2.2.2))))) : T_85bbee)) (fun r19 => (K r19))) else (K false)) else (K false)) else (K false)))))) else (Option.bind (speech_Bytes.f k a0 m0 m1 m2) (fun r20 => (Option.bind (speech_Bytes.f k ((a0.1, a1.2) : T_85bbee) m0 m1 m2) (fun r21 => (bif (r20.2 == (0 : Int)) then (bif (r21.2 == (0 : Int)) then (bif (decide (r20.1 = r21.1)) then (Option.bind (speech_Same_v1.f k a0 ((a0.1, a1.2) : T_85bbee)) (fun r22 => (K r22))) else (K false)) else (K false)) else (K false))))))) else (bif (a0.1 == (7 : Int)) then (Option.bind (speech_Bytes.f k a0 m0 m1 m2) (fun r23 => (Option.bind (speech_Bytes.f k ((a0.1, (a1.2.1, (a1.2.2.1, (a1.2.2.2.1, (a0.2.2.2.2.1, a1.2.2.2.2.2))))) : T_85bbee) m0 m1 m2) (fun r24 => (bif (r23.2 == (0 : Int)) then (bif (r24.2 == (0 : Int)) then (bif (decide (r23.1 = r24.1)) then (Option.bind (speech_Same_v1.f k a0 ((a0.1, (a1.2.1, (a1.2.2.1, (a1.2.2.2.1, (a0.2.2.2.2.1, a1.2.2.2.2.2))))) : T_85bbee)) (fun r25 => (K r25))) else (K false)) else (K false)) else (K false)))))) else (Option.bind (speech_Bytes.f k a0 m0 m1 m2) (fun r26 => (Option.bind (speech_Bytes.f k ((a0.1, a1.2) : T_85bbee) m0 m1 m2) (fun r27 => (bif (r26.2 == (0 : Int)) then (bif (r27.2 == (0 : Int)) then (bif (decide (r26.1 = r27.1)) then (Option.bind (speech_Same_v1.f k a0 ((a0.1, a1.2) : T_85bbee)) (fun r28 => (K r28))) else (K false)) else (K false)) else (K false))))))))))))))))))))))))
def f (k : Nat) (a0 : T_85bbee) (a1 : T_85bbee) (m0 : T_9fe11e) (m1 : (List Int)) (m2 : (List Int)) : Option Bool := tree (fun b0 => some b0) k a0 a1 m0 m1 m2
theorem tree_nat {X Y : Type} (h : X → Option Y) (K : Bool → Option X) (k : Nat) (a0 : T_85bbee) (a1 : T_85bbee) (m0 : T_9fe11e) (m1 : (List Int)) (m2 : (List Int)) : Option.bind (tree K k a0 a1 m0 m1 m2) h = tree (fun b0 => Option.bind (K b0) h) k a0 a1 m0 m1 m2 := by
  simp only [tree, bif_bind, sel_bind', Option.bind_assoc, Option.bind_none, Option.bind_some]
abbrev ps : List Sh := [.data (.pair (.int .i64) (.pair (.int .i64) (.pair (.int .i64) (.pair (.int .i64) (.pair (.int .i64) (.pair (.row 28 (.arr .u8 32)) (.pair (.arr .u8 32) (.row 52 (.pair (.int .i64) (.pair (.arr .u8 32) (.pair (.arr .u8 32) (.pair (.int .i64) (.pair (.int .i64) (.int .i64)))))))))))))), .data (.pair (.int .i64) (.pair (.int .i64) (.pair (.int .i64) (.pair (.int .i64) (.pair (.int .i64) (.pair (.row 28 (.arr .u8 32)) (.pair (.arr .u8 32) (.row 52 (.pair (.int .i64) (.pair (.arr .u8 32) (.pair (.arr .u8 32) (.pair (.int .i64) (.pair (.int .i64) (.int .i64))))))))))))))]
abbrev hs : List (Nat × ESh) := [(0, .glob 0 (.pair .str (.pair .str (.pair .str (.pair .str (.pair .str (.pair .str (.pair .str (.pair .str .str))))))))), (1, .glob 2 (.arr .u32 8)), (2, .glob 3 (.arr .u32 64))]
abbrev hi : List Nat := hs.map (·.1)
abbrev fi : List Nat := [0, 1, 2]
abbrev cl : List (Place × Nat × Hint) := []
abbrev hn : List Hint := [.any]
def val (t : Bool) : AV := Sh.mk (.data .bool) t
def wr (t : Bool) : Heap := []
def callee (k : Nat) : Callee := sigCallee ps hs (fun (d : (T_85bbee × T_85bbee × Unit)) (e : (T_9fe11e × (List Int) × (List Int) × Unit)) => f k d.1 d.2.1 e.1 e.2.1 e.2.2.1) val wr
def E (k : Nat) : Env := ⟨fnTab [(8, [trailheadlaw08_alive.callee k]), (13, [trailheadlaw08_great.callee k]), (14, [trailheadref08_Good.callee k]), (17, [speech_Bytes.callee k]), (15, [speech_Same_v1.callee k])], loopTab [], natsTab [(8, [0, 1, 2]), (17, [0, 1, 2])], natTab [(0, 0), (2, 1), (3, 2)]⟩
theorem fE (k : Nat) : ∀ f, ∀ c ∈ (E k).fn f, CalleeOK Tryd.prog f c := fnTab_ok ⟨⟨trailheadlaw08_alive.ok k, trivial⟩, ⟨trailheadlaw08_great.ok k, trivial⟩, ⟨trailheadref08_Good.ok k, trivial⟩, ⟨speech_Bytes.ok k, trivial⟩, ⟨speech_Same_v1.ok k, trivial⟩, trivial⟩
theorem run (k : Nat) (d : (T_85bbee × T_85bbee × Unit)) (e : (T_9fe11e × (List Int) × (List Int) × Unit)) : runFn Tryd.prog (E k) 96 (bodyOf Tryd.f5) Tryd.f5.results.toList cl hn hi (mkL ps d) (mkH hs e) =
    tree (fun b0 => leafFn hs fi e val wr b0) k d.1 d.2.1 e.1 e.2.1 e.2.2.1 := by kernel_rfl
theorem run_f (k : Nat) (d : (T_85bbee × T_85bbee × Unit)) (e : (T_9fe11e × (List Int) × (List Int) × Unit)) : runFn Tryd.prog (E k) 96 (bodyOf Tryd.f5) Tryd.f5.results.toList cl hn hi (mkL ps d) (mkH hs e) = (f k d.1 d.2.1 e.1 e.2.1 e.2.2.1).bind (leafFn hs fi e val wr) :=
  (run k d e).trans (tree_nat (leafFn hs fi e val wr) (fun b0 => some b0) k d.1 d.2.1 e.1 e.2.1 e.2.2.1).symm
theorem fnIs : FnIs Tryd.prog 5 Tryd.f5 (bodyOf Tryd.f5) 96 := ⟨by kernel_rfl, by kernel_rfl, by kernel_rfl, by kernel_rfl⟩
theorem ok (k : Nat) : CalleeOK Tryd.prog 5 (callee k) :=
  callee_sig (T := Bool) fnIs hm (fE k) (loopsOK_of [] (by kernel_rfl) trivial) ps hs cl hn fi (fun (d : (T_85bbee × T_85bbee × Unit)) (e : (T_9fe11e × (List Int) × (List Int) × Unit)) => f k d.1 d.2.1 e.1 e.2.1 e.2.2.1) val wr rfl (fun _ => rfl) (run_f k)
end trailheadlaw08_SpeechBare
namespace scroll_On
def tree {X : Type} (K : ((List Int) × Bool) → Option X) (k : Nat) (a0 : (List Int)) : Option X :=
  (K ((a0, false) : ((List Int) × Bool)))
def f (k : Nat) (a0 : (List Int)) : Option ((List Int) × Bool) := tree (fun b0 => some b0) k a0
theorem tree_nat {X Y : Type} (h : X → Option Y) (K : ((List Int) × Bool) → Option X) (k : Nat) (a0 : (List Int)) : Option.bind (tree K k a0) h = tree (fun b0 => Option.bind (K b0) h) k a0 := by
  simp only [tree, bif_bind, sel_bind', Option.bind_assoc, Option.bind_none, Option.bind_some]
abbrev ps : List Sh := [.data .str]
abbrev hs : List (Nat × ESh) := []
abbrev hi : List Nat := hs.map (·.1)
abbrev fi : List Nat := [900000]
abbrev cl : List (Place × Nat × Hint) := []
abbrev hn : List Hint := [.any]
def val (t : ((List Int) × Bool)) : AV := Sh.mk (.ptr 900000) ()
def wr (t : ((List Int) × Bool)) : Heap := [(900000, ESh.mk (.cell (.data (.pair .str .bool))) t)]
def callee (k : Nat) : Callee := sigCallee ps hs (fun (d : ((List Int) × Unit)) (e : Unit) => f k d.1) val wr
def E (k : Nat) : Env := ⟨fnTab [], loopTab [], natsTab [], natTab []⟩
theorem fE (k : Nat) : ∀ f, ∀ c ∈ (E k).fn f, CalleeOK Tryd.prog f c := fnTab_ok trivial
theorem run (k : Nat) (d : ((List Int) × Unit)) (e : Unit) : runFn Tryd.prog (E k) 6 (bodyOf Tryd.f33) Tryd.f33.results.toList cl hn hi (mkL ps d) (mkH hs e) =
    tree (fun b0 => leafFn hs fi e val wr b0) k d.1 := by kernel_rfl
theorem run_f (k : Nat) (d : ((List Int) × Unit)) (e : Unit) : runFn Tryd.prog (E k) 6 (bodyOf Tryd.f33) Tryd.f33.results.toList cl hn hi (mkL ps d) (mkH hs e) = (f k d.1).bind (leafFn hs fi e val wr) :=
  (run k d e).trans (tree_nat (leafFn hs fi e val wr) (fun b0 => some b0) k d.1).symm
theorem fnIs : FnIs Tryd.prog 33 Tryd.f33 (bodyOf Tryd.f33) 6 := ⟨by kernel_rfl, by kernel_rfl, by kernel_rfl, by kernel_rfl⟩
theorem ok (k : Nat) : CalleeOK Tryd.prog 33 (callee k) :=
  callee_sig (T := ((List Int) × Bool)) fnIs hm (fE k) (loopsOK_of [] (by kernel_rfl) trivial) ps hs cl hn fi (fun (d : ((List Int) × Unit)) (e : Unit) => f k d.1) val wr rfl (fun _ => rfl) (run_f k)
end scroll_On
namespace scroll_Eye_Blind
def tree {X : Type} (K : ((List Int) × Bool) → Option X) (k : Nat) (m0 : ((List Int) × Bool)) : Option X :=
  (K (([], true) : ((List Int) × Bool)))
def f (k : Nat) (m0 : ((List Int) × Bool)) : Option ((List Int) × Bool) := tree (fun b0 => some b0) k m0
theorem tree_nat {X Y : Type} (h : X → Option Y) (K : ((List Int) × Bool) → Option X) (k : Nat) (m0 : ((List Int) × Bool)) : Option.bind (tree K k m0) h = tree (fun b0 => Option.bind (K b0) h) k m0 := by
  simp only [tree, bif_bind, sel_bind', Option.bind_assoc, Option.bind_none, Option.bind_some]
abbrev ps : List Sh := [.ptr 0]
abbrev hs : List (Nat × ESh) := [(0, .cell (.data (.pair .str .bool)))]
abbrev hi : List Nat := hs.map (·.1)
abbrev fi : List Nat := [0]
abbrev cl : List (Place × Nat × Hint) := []
abbrev hn : List Hint := []
def val (t : ((List Int) × Bool)) : AV := .tnil
def wr (t : ((List Int) × Bool)) : Heap := [(0, ESh.mk (.cell (.data (.pair .str .bool))) t)]
def callee (k : Nat) : Callee := sigCallee ps hs (fun (d : (Unit × Unit)) (e : (((List Int) × Bool) × Unit)) => f k e.1) val wr
def E (k : Nat) : Env := ⟨fnTab [], loopTab [], natsTab [], natTab []⟩
theorem fE (k : Nat) : ∀ f, ∀ c ∈ (E k).fn f, CalleeOK Tryd.prog f c := fnTab_ok trivial
theorem run (k : Nat) (d : (Unit × Unit)) (e : (((List Int) × Bool) × Unit)) : runFn Tryd.prog (E k) 10 (bodyOf Tryd.f59) Tryd.f59.results.toList cl hn hi (mkL ps d) (mkH hs e) =
    tree (fun b0 => leafFn hs fi e val wr b0) k e.1 := by kernel_rfl
theorem run_f (k : Nat) (d : (Unit × Unit)) (e : (((List Int) × Bool) × Unit)) : runFn Tryd.prog (E k) 10 (bodyOf Tryd.f59) Tryd.f59.results.toList cl hn hi (mkL ps d) (mkH hs e) = (f k e.1).bind (leafFn hs fi e val wr) :=
  (run k d e).trans (tree_nat (leafFn hs fi e val wr) (fun b0 => some b0) k e.1).symm
theorem fnIs : FnIs Tryd.prog 59 Tryd.f59 (bodyOf Tryd.f59) 10 := ⟨by kernel_rfl, by kernel_rfl, by kernel_rfl, by kernel_rfl⟩
theorem ok (k : Nat) : CalleeOK Tryd.prog 59 (callee k) :=
  callee_sig (T := ((List Int) × Bool)) fnIs hm (fE k) (loopsOK_of [] (by kernel_rfl) trivial) ps hs cl hn fi (fun (d : (Unit × Unit)) (e : (((List Int) × Bool) × Unit)) => f k e.1) val wr rfl (fun _ => rfl) (run_f k)
end scroll_Eye_Blind
namespace scroll_Eye_Raw
def tree {X : Type} (K : (List Int) → ((List Int) × Bool) → Option X) (k : Nat) (a1 : Int) (m0 : ((List Int) × Bool)) : Option X :=
  (bif m0.2 then (Option.bind (scroll_Eye_Blind.f k m0) (fun r1 => (K ([] : (List Int)) r1))) else (bif (decide (a1 < (0 : Int))) then (Option.bind (scroll_Eye_Blind.f k m0) (fun r2 => (K ([] : (List Int)) r2))) else (bif (decide (a1 > ((List.length m0.1) : Int))) then (Option.bind (scroll_Eye_Blind.f k m0) (fun r3 => (K ([] : (List Int)) r3))) else (bif (decide (0 ≤ a1)) then (bif (decide (a1 ≤ ((List.length m0.1) : Int))) then (bif (decide (0 ≤ a1)) then (bif (decide (a1 ≤ ((List.length m0.1) : Int))) then (K (List.take (Int.toNat a1) m0.1) (((List.drop (Int.toNat a1) m0.1), m0.2) : ((List Int) × Bool))) else none) else none) else none) else none))))
def f (k : Nat) (a1 : Int) (m0 : ((List Int) × Bool)) : Option ((List Int) × ((List Int) × Bool)) := tree (fun b0 b1 => some (b0, b1)) k a1 m0
theorem tree_nat {X Y : Type} (h : X → Option Y) (K : (List Int) → ((List Int) × Bool) → Option X) (k : Nat) (a1 : Int) (m0 : ((List Int) × Bool)) : Option.bind (tree K k a1 m0) h = tree (fun b0 b1 => Option.bind (K b0 b1) h) k a1 m0 := by
  simp only [tree, bif_bind, sel_bind', Option.bind_assoc, Option.bind_none, Option.bind_some]
abbrev ps : List Sh := [.ptr 0, .data (.int .i64)]
abbrev hs : List (Nat × ESh) := [(0, .cell (.data (.pair .str .bool)))]
abbrev hi : List Nat := hs.map (·.1)
abbrev fi : List Nat := [0]
abbrev cl : List (Place × Nat × Hint) := []
abbrev hn : List Hint := [.any]
def val (t : ((List Int) × ((List Int) × Bool))) : AV := Sh.mk (.data .str) t.1
def wr (t : ((List Int) × ((List Int) × Bool))) : Heap := [(0, ESh.mk (.cell (.data (.pair .str .bool))) t.2)]
def callee (k : Nat) : Callee := sigCallee ps hs (fun (d : (Unit × Int × Unit)) (e : (((List Int) × Bool) × Unit)) => f k d.2.1 e.1) val wr
def E (k : Nat) : Env := ⟨fnTab [(59, [scroll_Eye_Blind.callee k])], loopTab [], natsTab [], natTab []⟩
theorem fE (k : Nat) : ∀ f, ∀ c ∈ (E k).fn f, CalleeOK Tryd.prog f c := fnTab_ok ⟨⟨scroll_Eye_Blind.ok k, trivial⟩, trivial⟩
theorem run (k : Nat) (d : (Unit × Int × Unit)) (e : (((List Int) × Bool) × Unit)) : runFn Tryd.prog (E k) 45 (bodyOf Tryd.f55) Tryd.f55.results.toList cl hn hi (mkL ps d) (mkH hs e) =
    tree (fun b0 b1 => leafFn hs fi e val wr (b0, b1)) k d.2.1 e.1 := by kernel_rfl
theorem run_f (k : Nat) (d : (Unit × Int × Unit)) (e : (((List Int) × Bool) × Unit)) : runFn Tryd.prog (E k) 45 (bodyOf Tryd.f55) Tryd.f55.results.toList cl hn hi (mkL ps d) (mkH hs e) = (f k d.2.1 e.1).bind (leafFn hs fi e val wr) :=
  (run k d e).trans (tree_nat (leafFn hs fi e val wr) (fun b0 b1 => some (b0, b1)) k d.2.1 e.1).symm
theorem fnIs : FnIs Tryd.prog 55 Tryd.f55 (bodyOf Tryd.f55) 45 := ⟨by kernel_rfl, by kernel_rfl, by kernel_rfl, by kernel_rfl⟩
theorem ok (k : Nat) : CalleeOK Tryd.prog 55 (callee k) :=
  callee_sig (T := ((List Int) × ((List Int) × Bool))) fnIs hm (fE k) (loopsOK_of [] (by kernel_rfl) trivial) ps hs cl hn fi (fun (d : (Unit × Int × Unit)) (e : (((List Int) × Bool) × Unit)) => f k d.2.1 e.1) val wr rfl (fun _ => rfl) (run_f k)
end scroll_Eye_Raw
namespace scroll_Eye_Get
namespace l0
def step {X : Type} (K : Int → Int → Option X) (G : Int → Int → Option X) (k : Nat) (x5 : (List Int)) (x14 : Int) (y0 : ((List Int) × Bool)) (x6 : Int) (x15 : Int) : Option X :=
  (bif (decide (x15 < x14)) then (bif (decide (0 ≤ x15)) then (bif (decide (x15 < ((List.length x5) : Int))) then (bif (decide ((mulI .i64 8 x15) < 0)) then none else (G (orI .i64 x6 (shlI .i64 (IntKind.wrap .i64 (List.getD x5 (Int.toNat x15) 0)) (mulI .i64 8 x15))) (addI .i64 x15 1))) else none) else none) else (K x6 x15))
def go {X : Type} (K : Int → Int → Option X) (k : Nat) (x5 : (List Int)) (x14 : Int) (y0 : ((List Int) × Bool)) : Nat → Int → Int → Option X
  | 0, _, _ => none
  | n + 1, x6, x15 => step K (go K k x5 x14 y0 n) k x5 x14 y0 x6 x15
def f (k : Nat) (x5 : (List Int)) (x14 : Int) (y0 : ((List Int) × Bool)) (n : Nat) (x6 : Int) (x15 : Int) : Option (Int × Int) := go (fun x6 x15 => some (x6, x15)) k x5 x14 y0 n x6 x15
theorem step_nat {X Y : Type} (h : X → Option Y) (K : Int → Int → Option X) (G : Int → Int → Option X) (k : Nat) (x5 : (List Int)) (x14 : Int) (y0 : ((List Int) × Bool)) (x6 : Int) (x15 : Int) : Option.bind (step K G k x5 x14 y0 x6 x15) h = step (fun x6 x15 => Option.bind (K x6 x15) h) (fun x6 x15 => Option.bind (G x6 x15) h) k x5 x14 y0 x6 x15 := by
  simp only [step, bif_bind, sel_bind', Option.bind_assoc, Option.bind_none, Option.bind_some]
theorem go_nat {X Y : Type} (h : X → Option Y) (K : Int → Int → Option X) (k : Nat) (x5 : (List Int)) (x14 : Int) (y0 : ((List Int) × Bool)) (n : Nat) : ∀ (x6 : Int) (x15 : Int), Option.bind (go K k x5 x14 y0 n x6 x15) h = go (fun x6 x15 => Option.bind (K x6 x15) h) k x5 x14 y0 n x6 x15 := by
  induction n with
  | zero => intros; rfl
  | succ n ih => intro x6 x15; show Option.bind (step K (go K k x5 x14 y0 n) k x5 x14 y0 x6 x15) h = step (fun x6 x15 => Option.bind (K x6 x15) h) (go (fun x6 x15 => Option.bind (K x6 x15) h) k x5 x14 y0 n) k x5 x14 y0 x6 x15; rw [step_nat h]; simp only [ih]
abbrev S : List (Nat × Sh) := [(5, .data .str), (6, .data (.int .i64)), (14, .data (.int .i64)), (15, .data (.int .i64))]
abbrev H : List (Nat × ESh) := [(0, .cell (.data (.pair .str .bool)))]
abbrev cl : List (Place × Nat × Hint) := []
abbrev hn : List (Nat × Hint) := [(5, .any), (6, .any), (14, .any), (15, .any)]
abbrev kp : List Nat := [0]
abbrev rc : List (Place × Nat × Hint) := []
abbrev rs : List (Nat × Hint) := []
abbrev ri : List Nat := [0]
def KX (d : ((List Int) × Int × Int × Int × Unit)) (e : (((List Int) × Bool) × Unit)) (v : (Int × Int)) : St := ⟨mkS S (d.1, v.1, d.2.2.1, v.2, ()), mkH H (e.1, ())⟩
def sum (k : Nat) : LoopSum := sigLoopX S cl hn kp H 0 (fun (d : ((List Int) × Int × Int × Int × Unit)) (e : (((List Int) × Bool) × Unit)) => f k d.1 d.2.2.1 e.1 k d.2.1 d.2.2.2.1) KX
end l0
def tree {X : Type} (K : Int → ((List Int) × Bool) → Option X) (k : Nat) (a1 : Int) (m0 : ((List Int) × Bool)) : Option X :=
  (Option.bind (scroll_Eye_Raw.f k (mnI (mxI a1 1) 7) m0) (fun r1 => (Option.bind (scroll_Eye_Get.l0.f k r1.1 ((List.length r1.1) : Int) r1.2 k (0 : Int) (0 : Int)) (fun r2 => (K r2.1 r1.2)))))
def f (k : Nat) (a1 : Int) (m0 : ((List Int) × Bool)) : Option (Int × ((List Int) × Bool)) := tree (fun b0 b1 => some (b0, b1)) k a1 m0
theorem tree_nat {X Y : Type} (h : X → Option Y) (K : Int → ((List Int) × Bool) → Option X) (k : Nat) (a1 : Int) (m0 : ((List Int) × Bool)) : Option.bind (tree K k a1 m0) h = tree (fun b0 b1 => Option.bind (K b0 b1) h) k a1 m0 := by
  simp only [tree, bif_bind, sel_bind', Option.bind_assoc, Option.bind_none, Option.bind_some]
abbrev ps : List Sh := [.ptr 0, .data (.int .i64)]
abbrev hs : List (Nat × ESh) := [(0, .cell (.data (.pair .str .bool)))]
abbrev hi : List Nat := hs.map (·.1)
abbrev fi : List Nat := [0]
abbrev cl : List (Place × Nat × Hint) := []
abbrev hn : List Hint := [.any]
def val (t : (Int × ((List Int) × Bool))) : AV := Sh.mk (.data (.int .i64)) t.1
def wr (t : (Int × ((List Int) × Bool))) : Heap := [(0, ESh.mk (.cell (.data (.pair .str .bool))) t.2)]
def callee (k : Nat) : Callee := sigCallee ps hs (fun (d : (Unit × Int × Unit)) (e : (((List Int) × Bool) × Unit)) => f k d.2.1 e.1) val wr
def E (k : Nat) : Env := ⟨fnTab [(55, [scroll_Eye_Raw.callee k])], loopTab [(0, l0.sum k)], natsTab [], natTab []⟩
theorem fE (k : Nat) : ∀ f, ∀ c ∈ (E k).fn f, CalleeOK Tryd.prog f c := fnTab_ok ⟨⟨scroll_Eye_Raw.ok k, trivial⟩, trivial⟩
namespace l0
theorem round (k : Nat) (d : ((List Int) × Int × Int × Int × Unit)) (e : (((List Int) × Bool) × Unit)) (G : St → Option (Ex × St)) : roundK Tryd.prog (E k) 29 0 (subC (bodyOf Tryd.f34) [1, 1, 0, 1, 0, 0]) (recast cl hn kp) (finBy cl hn kp rc rs ri) G ⟨mkS S d, mkH H e⟩ =
    step (fun x6 x15 => some (.exit 0, KX d e (x6, x15))) (fun x6 x15 => G ⟨mkS S (d.1, x6, d.2.2.1, x15, ()), mkH H (e.1, ())⟩) k d.1 d.2.2.1 e.1 d.2.1 d.2.2.2.1 := by kernel_rfl
theorem it (k n : Nat) (d : ((List Int) × Int × Int × Int × Unit)) (e : (((List Int) × Bool) × Unit)) : loopIt Tryd.prog (E k) 29 0 (subC (bodyOf Tryd.f34) [1, 1, 0, 1, 0, 0]) (recast cl hn kp) (finBy cl hn kp rc rs ri) n ⟨mkS S d, mkH H e⟩ = go (fun x6 x15 => some (.exit 0, KX d e (x6, x15))) k d.1 d.2.2.1 e.1 n d.2.1 d.2.2.2.1 :=
  loopIt_eq (D := ((List Int) × Int × Int × Int × Unit) × (((List Int) × Bool) × Unit)) (fun p => ⟨mkS S p.1, mkH H p.2⟩) (fun F p => step (fun x6 x15 => some (.exit 0, KX p.1 p.2 (x6, x15))) (fun x6 x15 => F ((p.1.1, x6, p.1.2.2.1, x15, ()), (p.2.1, ()))) k p.1.1 p.1.2.2.1 p.2.1 p.1.2.1 p.1.2.2.2.1) (fun n p => go (fun x6 x15 => some (.exit 0, KX p.1 p.2 (x6, x15))) k p.1.1 p.1.2.2.1 p.2.1 n p.1.2.1 p.1.2.2.2.1) (fun _ => rfl) (fun _ _ => rfl) (fun G p => round k p.1 p.2 G) n (d, e)
theorem ok (k : Nat) : LoopOK Tryd.prog 29 (subC (bodyOf Tryd.f34) [1, 1, 0, 1, 0, 0]) (sum k) :=
  loop_sigX hm (fE k) (loopsOK_of [] (by kernel_rfl) trivial) S cl hn kp H 0 (fun (d : ((List Int) × Int × Int × Int × Unit)) (e : (((List Int) × Bool) × Unit)) => f k d.1 d.2.2.1 e.1 k d.2.1 d.2.2.2.1) KX cl hn kp rc rs ri k
    (fun d e => (it k k d e).trans (go_nat (fun v => some (Ex.exit 0, KX d e v)) (fun x6 x15 => some (x6, x15)) k d.1 d.2.2.1 e.1 k d.2.1 d.2.2.2.1).symm)
end l0
theorem run (k : Nat) (d : (Unit × Int × Unit)) (e : (((List Int) × Bool) × Unit)) : runFn Tryd.prog (E k) 29 (bodyOf Tryd.f34) Tryd.f34.results.toList cl hn hi (mkL ps d) (mkH hs e) =
    tree (fun b0 b1 => leafFn hs fi e val wr (b0, b1)) k d.2.1 e.1 := by kernel_rfl
theorem run_f (k : Nat) (d : (Unit × Int × Unit)) (e : (((List Int) × Bool) × Unit)) : runFn Tryd.prog (E k) 29 (bodyOf Tryd.f34) Tryd.f34.results.toList cl hn hi (mkL ps d) (mkH hs e) = (f k d.2.1 e.1).bind (leafFn hs fi e val wr) :=
  (run k d e).trans (tree_nat (leafFn hs fi e val wr) (fun b0 b1 => some (b0, b1)) k d.2.1 e.1).symm
theorem fnIs : FnIs Tryd.prog 34 Tryd.f34 (bodyOf Tryd.f34) 29 := ⟨by kernel_rfl, by kernel_rfl, by kernel_rfl, by kernel_rfl⟩
theorem ok (k : Nat) : CalleeOK Tryd.prog 34 (callee k) :=
  callee_sig (T := (Int × ((List Int) × Bool))) fnIs hm (fE k) (loopsOK_of [(0, subC (bodyOf Tryd.f34) [1, 1, 0, 1, 0, 0])] (by kernel_rfl) ⟨of_loop (l0.sum k) rfl (l0.ok k), trivial⟩) ps hs cl hn fi (fun (d : (Unit × Int × Unit)) (e : (((List Int) × Bool) × Unit)) => f k d.2.1 e.1) val wr rfl (fun _ => rfl) (run_f k)
end scroll_Eye_Get
namespace scroll_Eye_Done
def tree {X : Type} (K : Bool → Option X) (k : Nat) (m0 : ((List Int) × Bool)) : Option X :=
  (bif (!m0.2) then (K (decide (m0.1 = ([] : (List Int))))) else (K false))
def f (k : Nat) (m0 : ((List Int) × Bool)) : Option Bool := tree (fun b0 => some b0) k m0
theorem tree_nat {X Y : Type} (h : X → Option Y) (K : Bool → Option X) (k : Nat) (m0 : ((List Int) × Bool)) : Option.bind (tree K k m0) h = tree (fun b0 => Option.bind (K b0) h) k m0 := by
  simp only [tree, bif_bind, sel_bind', Option.bind_assoc, Option.bind_none, Option.bind_some]
abbrev ps : List Sh := [.ptr 0]
abbrev hs : List (Nat × ESh) := [(0, .cell (.data (.pair .str .bool)))]
abbrev hi : List Nat := hs.map (·.1)
abbrev fi : List Nat := [0]
abbrev cl : List (Place × Nat × Hint) := []
abbrev hn : List Hint := [.any]
def val (t : Bool) : AV := Sh.mk (.data .bool) t
def wr (t : Bool) : Heap := []
def callee (k : Nat) : Callee := sigCallee ps hs (fun (d : (Unit × Unit)) (e : (((List Int) × Bool) × Unit)) => f k e.1) val wr
def E (k : Nat) : Env := ⟨fnTab [], loopTab [], natsTab [], natTab []⟩
theorem fE (k : Nat) : ∀ f, ∀ c ∈ (E k).fn f, CalleeOK Tryd.prog f c := fnTab_ok trivial
theorem run (k : Nat) (d : (Unit × Unit)) (e : (((List Int) × Bool) × Unit)) : runFn Tryd.prog (E k) 19 (bodyOf Tryd.f40) Tryd.f40.results.toList cl hn hi (mkL ps d) (mkH hs e) =
    tree (fun b0 => leafFn hs fi e val wr b0) k e.1 := by kernel_rfl
theorem run_f (k : Nat) (d : (Unit × Unit)) (e : (((List Int) × Bool) × Unit)) : runFn Tryd.prog (E k) 19 (bodyOf Tryd.f40) Tryd.f40.results.toList cl hn hi (mkL ps d) (mkH hs e) = (f k e.1).bind (leafFn hs fi e val wr) :=
  (run k d e).trans (tree_nat (leafFn hs fi e val wr) (fun b0 => some b0) k e.1).symm
theorem fnIs : FnIs Tryd.prog 40 Tryd.f40 (bodyOf Tryd.f40) 19 := ⟨by kernel_rfl, by kernel_rfl, by kernel_rfl, by kernel_rfl⟩
theorem ok (k : Nat) : CalleeOK Tryd.prog 40 (callee k) :=
  callee_sig (T := Bool) fnIs hm (fE k) (loopsOK_of [] (by kernel_rfl) trivial) ps hs cl hn fi (fun (d : (Unit × Unit)) (e : (((List Int) × Bool) × Unit)) => f k e.1) val wr rfl (fun _ => rfl) (run_f k)
end scroll_Eye_Done
namespace scroll_Eye_Wide
def tree {X : Type} (K : Int → ((List Int) × Bool) → Option X) (k : Nat) (m0 : ((List Int) × Bool)) : Option X :=
  (Option.bind (scroll_Eye_Get.f k (4 : Int) m0) (fun r1 => (Option.bind (scroll_Eye_Get.f k (4 : Int) r1.2) (fun r2 => (bif (decide (r2.1 ≥ (2147483648 : Int))) then (Option.bind (scroll_Eye_Blind.f k r2.2) (fun r3 => (K (0 : Int) r3))) else (K (orI .i64 (shlI .i64 r2.1 32) r1.1) r2.2))))))
def f (k : Nat) (m0 : ((List Int) × Bool)) : Option (Int × ((List Int) × Bool)) := tree (fun b0 b1 => some (b0, b1)) k m0
theorem tree_nat {X Y : Type} (h : X → Option Y) (K : Int → ((List Int) × Bool) → Option X) (k : Nat) (m0 : ((List Int) × Bool)) : Option.bind (tree K k m0) h = tree (fun b0 b1 => Option.bind (K b0 b1) h) k m0 := by
  simp only [tree, bif_bind, sel_bind', Option.bind_assoc, Option.bind_none, Option.bind_some]
abbrev ps : List Sh := [.ptr 0]
abbrev hs : List (Nat × ESh) := [(0, .cell (.data (.pair .str .bool)))]
abbrev hi : List Nat := hs.map (·.1)
abbrev fi : List Nat := [0]
abbrev cl : List (Place × Nat × Hint) := []
abbrev hn : List Hint := [.any]
def val (t : (Int × ((List Int) × Bool))) : AV := Sh.mk (.data (.int .i64)) t.1
def wr (t : (Int × ((List Int) × Bool))) : Heap := [(0, ESh.mk (.cell (.data (.pair .str .bool))) t.2)]
def callee (k : Nat) : Callee := sigCallee ps hs (fun (d : (Unit × Unit)) (e : (((List Int) × Bool) × Unit)) => f k e.1) val wr
def E (k : Nat) : Env := ⟨fnTab [(34, [scroll_Eye_Get.callee k]), (59, [scroll_Eye_Blind.callee k])], loopTab [], natsTab [], natTab []⟩
theorem fE (k : Nat) : ∀ f, ∀ c ∈ (E k).fn f, CalleeOK Tryd.prog f c := fnTab_ok ⟨⟨scroll_Eye_Get.ok k, trivial⟩, ⟨scroll_Eye_Blind.ok k, trivial⟩, trivial⟩
theorem run (k : Nat) (d : (Unit × Unit)) (e : (((List Int) × Bool) × Unit)) : runFn Tryd.prog (E k) 17 (bodyOf Tryd.f71) Tryd.f71.results.toList cl hn hi (mkL ps d) (mkH hs e) =
    tree (fun b0 b1 => leafFn hs fi e val wr (b0, b1)) k e.1 := by kernel_rfl
theorem run_f (k : Nat) (d : (Unit × Unit)) (e : (((List Int) × Bool) × Unit)) : runFn Tryd.prog (E k) 17 (bodyOf Tryd.f71) Tryd.f71.results.toList cl hn hi (mkL ps d) (mkH hs e) = (f k e.1).bind (leafFn hs fi e val wr) :=
  (run k d e).trans (tree_nat (leafFn hs fi e val wr) (fun b0 b1 => some (b0, b1)) k e.1).symm
theorem fnIs : FnIs Tryd.prog 71 Tryd.f71 (bodyOf Tryd.f71) 17 := ⟨by kernel_rfl, by kernel_rfl, by kernel_rfl, by kernel_rfl⟩
theorem ok (k : Nat) : CalleeOK Tryd.prog 71 (callee k) :=
  callee_sig (T := (Int × ((List Int) × Bool))) fnIs hm (fE k) (loopsOK_of [] (by kernel_rfl) trivial) ps hs cl hn fi (fun (d : (Unit × Unit)) (e : (((List Int) × Bool) × Unit)) => f k e.1) val wr rfl (fun _ => rfl) (run_f k)
end scroll_Eye_Wide
namespace scroll_Eye_Count
def tree {X : Type} (K : Int → ((List Int) × Bool) → Option X) (k : Nat) (a1 : Int) (m0 : ((List Int) × Bool)) : Option X :=
  (Option.bind (scroll_Eye_Get.f k (1 : Int) m0) (fun r1 => (bif (r1.1 == (253 : Int)) then (Option.bind (scroll_Eye_Get.f k (2 : Int) r1.2) (fun r2 => (bif (decide (r2.1 < (253 : Int))) then (Option.bind (scroll_Eye_Blind.f k r2.2) (fun r3 => (K (0 : Int) r3))) else (bif (decide (r2.1 > a1)) then (Option.bind (scroll_Eye_Blind.f k r2.2) (fun r4 => (K (0 : Int) r4))) else (K r2.1 r2.2))))) else (bif (r1.1 == (254 : Int)) then (Option.bind (scroll_Eye_Get.f k (4 : Int) r1.2) (fun r5 => (bif (decide (r5.1 < (65536 : Int))) then (Option.bind (scroll_Eye_Blind.f k r5.2) (fun r6 => (K (0 : Int) r6))) else (bif (decide (r5.1 > a1)) then (Option.bind (scroll_Eye_Blind.f k r5.2) (fun r7 => (K (0 : Int) r7))) else (K r5.1 r5.2))))) else (bif (r1.1 == (255 : Int)) then (Option.bind (scroll_Eye_Wide.f k r1.2) (fun r8 => (bif (decide (r8.1 < (4294967296 : Int))) then (Option.bind (scroll_Eye_Blind.f k r8.2) (fun r9 => (K (0 : Int) r9))) else (bif (decide (r8.1 > a1)) then (Option.bind (scroll_Eye_Blind.f k r8.2) (fun r10 => (K (0 : Int) r10))) else (K r8.1 r8.2))))) else (bif (decide (r1.1 < (0 : Int))) then (Option.bind (scroll_Eye_Blind.f k r1.2) (fun r11 => (K (0 : Int) r11))) else (bif (decide (r1.1 > a1)) then (Option.bind (scroll_Eye_Blind.f k r1.2) (fun r12 => (K (0 : Int) r12))) else (K r1.1 r1.2))))))))
def f (k : Nat) (a1 : Int) (m0 : ((List Int) × Bool)) : Option (Int × ((List Int) × Bool)) := tree (fun b0 b1 => some (b0, b1)) k a1 m0
theorem tree_nat {X Y : Type} (h : X → Option Y) (K : Int → ((List Int) × Bool) → Option X) (k : Nat) (a1 : Int) (m0 : ((List Int) × Bool)) : Option.bind (tree K k a1 m0) h = tree (fun b0 b1 => Option.bind (K b0 b1) h) k a1 m0 := by
  simp only [tree, bif_bind, sel_bind', Option.bind_assoc, Option.bind_none, Option.bind_some]
abbrev ps : List Sh := [.ptr 0, .data (.int .i64)]
abbrev hs : List (Nat × ESh) := [(0, .cell (.data (.pair .str .bool)))]
abbrev hi : List Nat := hs.map (·.1)
abbrev fi : List Nat := [0]
abbrev cl : List (Place × Nat × Hint) := []
abbrev hn : List Hint := [.any]
def val (t : (Int × ((List Int) × Bool))) : AV := Sh.mk (.data (.int .i64)) t.1
def wr (t : (Int × ((List Int) × Bool))) : Heap := [(0, ESh.mk (.cell (.data (.pair .str .bool))) t.2)]
def callee (k : Nat) : Callee := sigCallee ps hs (fun (d : (Unit × Int × Unit)) (e : (((List Int) × Bool) × Unit)) => f k d.2.1 e.1) val wr
def E (k : Nat) : Env := ⟨fnTab [(34, [scroll_Eye_Get.callee k]), (59, [scroll_Eye_Blind.callee k]), (71, [scroll_Eye_Wide.callee k])], loopTab [], natsTab [], natTab []⟩
theorem fE (k : Nat) : ∀ f, ∀ c ∈ (E k).fn f, CalleeOK Tryd.prog f c := fnTab_ok ⟨⟨scroll_Eye_Get.ok k, trivial⟩, ⟨scroll_Eye_Blind.ok k, trivial⟩, ⟨scroll_Eye_Wide.ok k, trivial⟩, trivial⟩
theorem run (k : Nat) (d : (Unit × Int × Unit)) (e : (((List Int) × Bool) × Unit)) : runFn Tryd.prog (E k) 33 (bodyOf Tryd.f56) Tryd.f56.results.toList cl hn hi (mkL ps d) (mkH hs e) =
    tree (fun b0 b1 => leafFn hs fi e val wr (b0, b1)) k d.2.1 e.1 := by kernel_rfl
theorem run_f (k : Nat) (d : (Unit × Int × Unit)) (e : (((List Int) × Bool) × Unit)) : runFn Tryd.prog (E k) 33 (bodyOf Tryd.f56) Tryd.f56.results.toList cl hn hi (mkL ps d) (mkH hs e) = (f k d.2.1 e.1).bind (leafFn hs fi e val wr) :=
  (run k d e).trans (tree_nat (leafFn hs fi e val wr) (fun b0 b1 => some (b0, b1)) k d.2.1 e.1).symm
theorem fnIs : FnIs Tryd.prog 56 Tryd.f56 (bodyOf Tryd.f56) 33 := ⟨by kernel_rfl, by kernel_rfl, by kernel_rfl, by kernel_rfl⟩
theorem ok (k : Nat) : CalleeOK Tryd.prog 56 (callee k) :=
  callee_sig (T := (Int × ((List Int) × Bool))) fnIs hm (fE k) (loopsOK_of [] (by kernel_rfl) trivial) ps hs cl hn fi (fun (d : (Unit × Int × Unit)) (e : (((List Int) × Bool) × Unit)) => f k d.2.1 e.1) val wr rfl (fun _ => rfl) (run_f k)
end scroll_Eye_Count
namespace scroll_Eye_Name
def tree {X : Type} (K : (List Int) → ((List Int) × Bool) → Option X) (k : Nat) (m0 : ((List Int) × Bool)) : Option X :=
  (Option.bind (scroll_Eye_Raw.f k (32 : Int) m0) (fun r1 => (K ((List.take 32 r1.1) ++ (List.drop (min (List.length r1.1) 32) ([0, 0, 0, 0, 0, 0, 0, 0, 0, 0, 0, 0, 0, 0, 0, 0, 0, 0, 0, 0, 0, 0, 0, 0, 0, 0, 0, 0, 0, 0, 0, 0] : (List Int)))) r1.2)))
def f (k : Nat) (m0 : ((List Int) × Bool)) : Option ((List Int) × ((List Int) × Bool)) := tree (fun b0 b1 => some (b0, b1)) k m0
theorem tree_nat {X Y : Type} (h : X → Option Y) (K : (List Int) → ((List Int) × Bool) → Option X) (k : Nat) (m0 : ((List Int) × Bool)) : Option.bind (tree K k m0) h = tree (fun b0 b1 => Option.bind (K b0 b1) h) k m0 := by
  simp only [tree, bif_bind, sel_bind', Option.bind_assoc, Option.bind_none, Option.bind_some]
abbrev ps : List Sh := [.ptr 0]
abbrev hs : List (Nat × ESh) := [(0, .cell (.data (.pair .str .bool)))]
abbrev hi : List Nat := hs.map (·.1)
abbrev fi : List Nat := [0]
abbrev cl : List (Place × Nat × Hint) := []
abbrev hn : List Hint := [.any]
def val (t : ((List Int) × ((List Int) × Bool))) : AV := Sh.mk (.data (.arr .u8 32)) t.1
def wr (t : ((List Int) × ((List Int) × Bool))) : Heap := [(0, ESh.mk (.cell (.data (.pair .str .bool))) t.2)]
def callee (k : Nat) : Callee := sigCallee ps hs (fun (d : (Unit × Unit)) (e : (((List Int) × Bool) × Unit)) => f k e.1) val wr
def E (k : Nat) : Env := ⟨fnTab [(55, [scroll_Eye_Raw.callee k])], loopTab [], natsTab [], natTab []⟩
theorem fE (k : Nat) : ∀ f, ∀ c ∈ (E k).fn f, CalleeOK Tryd.prog f c := fnTab_ok ⟨⟨scroll_Eye_Raw.ok k, trivial⟩, trivial⟩
theorem run (k : Nat) (d : (Unit × Unit)) (e : (((List Int) × Bool) × Unit)) : runFn Tryd.prog (E k) 9 (bodyOf Tryd.f36) Tryd.f36.results.toList cl hn hi (mkL ps d) (mkH hs e) =
    tree (fun b0 b1 => leafFn hs fi e val wr (b0, b1)) k e.1 := by kernel_rfl
theorem run_f (k : Nat) (d : (Unit × Unit)) (e : (((List Int) × Bool) × Unit)) : runFn Tryd.prog (E k) 9 (bodyOf Tryd.f36) Tryd.f36.results.toList cl hn hi (mkL ps d) (mkH hs e) = (f k e.1).bind (leafFn hs fi e val wr) :=
  (run k d e).trans (tree_nat (leafFn hs fi e val wr) (fun b0 b1 => some (b0, b1)) k e.1).symm
theorem fnIs : FnIs Tryd.prog 36 Tryd.f36 (bodyOf Tryd.f36) 9 := ⟨by kernel_rfl, by kernel_rfl, by kernel_rfl, by kernel_rfl⟩
theorem ok (k : Nat) : CalleeOK Tryd.prog 36 (callee k) :=
  callee_sig (T := ((List Int) × ((List Int) × Bool))) fnIs hm (fE k) (loopsOK_of [] (by kernel_rfl) trivial) ps hs cl hn fi (fun (d : (Unit × Unit)) (e : (((List Int) × Bool) × Unit)) => f k e.1) val wr rfl (fun _ => rfl) (run_f k)
end scroll_Eye_Name
namespace scroll_Eye_Bad
def tree {X : Type} (K : Bool → Option X) (k : Nat) (m0 : ((List Int) × Bool)) : Option X :=
  (K m0.2)
def f (k : Nat) (m0 : ((List Int) × Bool)) : Option Bool := tree (fun b0 => some b0) k m0
theorem tree_nat {X Y : Type} (h : X → Option Y) (K : Bool → Option X) (k : Nat) (m0 : ((List Int) × Bool)) : Option.bind (tree K k m0) h = tree (fun b0 => Option.bind (K b0) h) k m0 := by
  simp only [tree, bif_bind, sel_bind', Option.bind_assoc, Option.bind_none, Option.bind_some]
abbrev ps : List Sh := [.ptr 0]
abbrev hs : List (Nat × ESh) := [(0, .cell (.data (.pair .str .bool)))]
abbrev hi : List Nat := hs.map (·.1)
abbrev fi : List Nat := [0]
abbrev cl : List (Place × Nat × Hint) := []
abbrev hn : List Hint := [.any]
def val (t : Bool) : AV := Sh.mk (.data .bool) t
def wr (t : Bool) : Heap := []
def callee (k : Nat) : Callee := sigCallee ps hs (fun (d : (Unit × Unit)) (e : (((List Int) × Bool) × Unit)) => f k e.1) val wr
def E (k : Nat) : Env := ⟨fnTab [], loopTab [], natsTab [], natTab []⟩
theorem fE (k : Nat) : ∀ f, ∀ c ∈ (E k).fn f, CalleeOK Tryd.prog f c := fnTab_ok trivial
theorem run (k : Nat) (d : (Unit × Unit)) (e : (((List Int) × Bool) × Unit)) : runFn Tryd.prog (E k) 11 (bodyOf Tryd.f57) Tryd.f57.results.toList cl hn hi (mkL ps d) (mkH hs e) =
    tree (fun b0 => leafFn hs fi e val wr b0) k e.1 := by kernel_rfl
theorem run_f (k : Nat) (d : (Unit × Unit)) (e : (((List Int) × Bool) × Unit)) : runFn Tryd.prog (E k) 11 (bodyOf Tryd.f57) Tryd.f57.results.toList cl hn hi (mkL ps d) (mkH hs e) = (f k e.1).bind (leafFn hs fi e val wr) :=
  (run k d e).trans (tree_nat (leafFn hs fi e val wr) (fun b0 => some b0) k e.1).symm
theorem fnIs : FnIs Tryd.prog 57 Tryd.f57 (bodyOf Tryd.f57) 11 := ⟨by kernel_rfl, by kernel_rfl, by kernel_rfl, by kernel_rfl⟩
theorem ok (k : Nat) : CalleeOK Tryd.prog 57 (callee k) :=
  callee_sig (T := Bool) fnIs hm (fE k) (loopsOK_of [] (by kernel_rfl) trivial) ps hs cl hn fi (fun (d : (Unit × Unit)) (e : (((List Int) × Bool) × Unit)) => f k e.1) val wr rfl (fun _ => rfl) (run_f k)
end scroll_Eye_Bad
namespace speech_some_api_Hash
namespace l0
def step {X : Type} (K : Int → ((List Int) × Bool) → (List (List Int)) → Option X) (Q : ((List Int) × Bool) → Option X) (G : Int → ((List Int) × Bool) → (List (List Int)) → Option X) (k : Nat) (x11 : Int) (x12 : Int) (y0 : ((List Int) × Bool)) (y800001 : (List (List Int))) : Option X :=
  (bif (decide (x12 < x11)) then (Option.bind (scroll_Eye_Name.f k y0) (fun r2 => (Option.bind (scroll_Eye_Bad.f k r2.2) (fun r3 => (bif r3 then (Q r2.2) else (bif (fits (((List.length y800001) + 1) * 32)) then (G (addI .i64 x12 1) r2.2 (y800001 ++ ([r2.1] : (List (List Int))))) else none)))))) else (K x12 y0 y800001))
def go {X : Type} (K : Int → ((List Int) × Bool) → (List (List Int)) → Option X) (Q : ((List Int) × Bool) → Option X) (k : Nat) (x11 : Int) : Nat → Int → ((List Int) × Bool) → (List (List Int)) → Option X
  | 0, _, _, _ => none
  | n + 1, x12, y0, y800001 => step K Q (go K Q k x11 n) k x11 x12 y0 y800001
def f (k : Nat) (x11 : Int) (n : Nat) (x12 : Int) (y0 : ((List Int) × Bool)) (y800001 : (List (List Int))) : Option ((Int × (((List Int) × Bool) × (List (List Int)))) ⊕ ((List Int) × Bool)) := go (fun x12 y0 y800001 => some (.inl (x12, y0, y800001))) (fun q0 => some (.inr q0)) k x11 n x12 y0 y800001
theorem step_nat {X Y : Type} (h : X → Option Y) (K : Int → ((List Int) × Bool) → (List (List Int)) → Option X) (Q : ((List Int) × Bool) → Option X) (G : Int → ((List Int) × Bool) → (List (List Int)) → Option X) (k : Nat) (x11 : Int) (x12 : Int) (y0 : ((List Int) × Bool)) (y800001 : (List (List Int))) : Option.bind (step K Q G k x11 x12 y0 y800001) h = step (fun x12 y0 y800001 => Option.bind (K x12 y0 y800001) h) (fun q0 => Option.bind (Q q0) h) (fun x12 y0 y800001 => Option.bind (G x12 y0 y800001) h) k x11 x12 y0 y800001 := by
  simp only [step, bif_bind, sel_bind', Option.bind_assoc, Option.bind_none, Option.bind_some]
theorem go_nat {X Y : Type} (h : X → Option Y) (K : Int → ((List Int) × Bool) → (List (List Int)) → Option X) (Q : ((List Int) × Bool) → Option X) (k : Nat) (x11 : Int) (n : Nat) : ∀ (x12 : Int) (y0 : ((List Int) × Bool)) (y800001 : (List (List Int))), Option.bind (go K Q k x11 n x12 y0 y800001) h = go (fun x12 y0 y800001 => Option.bind (K x12 y0 y800001) h) (fun q0 => Option.bind (Q q0) h) k x11 n x12 y0 y800001 := by
  induction n with
  | zero => intros; rfl
  | succ n ih => intro x12 y0 y800001; show Option.bind (step K Q (go K Q k x11 n) k x11 x12 y0 y800001) h = step (fun x12 y0 y800001 => Option.bind (K x12 y0 y800001) h) (fun q0 => Option.bind (Q q0) h) (go (fun x12 y0 y800001 => Option.bind (K x12 y0 y800001) h) (fun q0 => Option.bind (Q q0) h) k x11 n) k x11 x12 y0 y800001; rw [step_nat h]; simp only [ih]
abbrev S : List (Nat × Sh) := [(0, .ptr 0), (2, .fn 36), (7, .vec 800001), (11, .data (.int .i64)), (12, .data (.int .i64))]
abbrev H : List (Nat × ESh) := [(0, .cell (.data (.pair .str .bool))), (800001, .rows 2 28 (.arr .u8 32))]
abbrev cl : List (Place × Nat × Hint) := []
abbrev hn : List (Nat × Hint) := [(0, .any), (2, .any), (7, (.row 2 28 (.arr .u8 32))), (11, .any), (12, .any)]
abbrev kp : List Nat := [0]
abbrev rc : List (Place × Nat × Hint) := []
abbrev rs : List (Nat × Hint) := [(6, .any)]
abbrev ri : List Nat := [0]
def KX (d : (Unit × Unit × Unit × Int × Int × Unit)) (e : (((List Int) × Bool) × (List (List Int)) × Unit)) (v : (Int × (((List Int) × Bool) × (List (List Int))))) : St := ⟨mkS S ((), (), (), d.2.2.2.1, v.1, ()), mkH H (v.2.1, v.2.2, ())⟩
abbrev RS : List (Nat × Sh) := [(6, .nils)]
abbrev RH : List (Nat × ESh) := [(0, .cell (.data (.pair .str .bool)))]
def RX (d : (Unit × Unit × Unit × Int × Int × Unit)) (e : (((List Int) × Bool) × (List (List Int)) × Unit)) (v : ((List Int) × Bool)) : St := ⟨mkS RS ((), ()), mkH RH (v, ())⟩
def sum (k : Nat) : LoopSum := sigLoop S cl hn kp H 0 (fun (d : (Unit × Unit × Unit × Int × Int × Unit)) (e : (((List Int) × Bool) × (List (List Int)) × Unit)) => f k d.2.2.2.1 k d.2.2.2.2.1 e.1 e.2.1) KX RX
end l0
def tree {X : Type} (K : ((List Int) × Bool) → (List (List Int)) → Option X) (k : Nat) (a1 : Int) (m0 : ((List Int) × Bool)) : Option X :=
  (Option.bind (scroll_Eye_Count.f k a1 m0) (fun r1 => (Option.bind (speech_some_api_Hash.l0.f k r1.1 k (0 : Int) r1.2 ([] : (List (List Int)))) (fun r4 => sel r4 (fun v5 => (K v5.2.1 v5.2.2)) (fun q6 => (K q6 ([] : (List (List Int)))))))))
def f (k : Nat) (a1 : Int) (m0 : ((List Int) × Bool)) : Option (((List Int) × Bool) × (List (List Int))) := tree (fun b0 b1 => some (b0, b1)) k a1 m0
theorem tree_nat {X Y : Type} (h : X → Option Y) (K : ((List Int) × Bool) → (List (List Int)) → Option X) (k : Nat) (a1 : Int) (m0 : ((List Int) × Bool)) : Option.bind (tree K k a1 m0) h = tree (fun b0 b1 => Option.bind (K b0 b1) h) k a1 m0 := by
  simp only [tree, bif_bind, sel_bind', Option.bind_assoc, Option.bind_none, Option.bind_some]
abbrev ps : List Sh := [.ptr 0, .data (.int .i64), .fn 36]
abbrev hs : List (Nat × ESh) := [(0, .cell (.data (.pair .str .bool)))]
abbrev hi : List Nat := hs.map (·.1)
abbrev fi : List Nat := [0, 900001]
abbrev cl : List (Place × Nat × Hint) := []
abbrev hn : List Hint := [(.row 2 28 (.arr .u8 32))]
def val (t : (((List Int) × Bool) × (List (List Int)))) : AV := Sh.mk (.vec 900001) ()
def wr (t : (((List Int) × Bool) × (List (List Int)))) : Heap := [(0, ESh.mk (.cell (.data (.pair .str .bool))) t.1), (900001, ESh.mk (.rows 2 28 (.arr .u8 32)) t.2)]
def callee (k : Nat) : Callee := sigCallee ps hs (fun (d : (Unit × Int × Unit × Unit)) (e : (((List Int) × Bool) × Unit)) => f k d.2.1 e.1) val wr
def E (k : Nat) : Env := ⟨fnTab [(56, [scroll_Eye_Count.callee k]), (36, [scroll_Eye_Name.callee k]), (57, [scroll_Eye_Bad.callee k])], loopTab [(0, l0.sum k)], natsTab [], natTab []⟩
theorem fE (k : Nat) : ∀ f, ∀ c ∈ (E k).fn f, CalleeOK Tryd.prog f c := fnTab_ok ⟨⟨scroll_Eye_Count.ok k, trivial⟩, ⟨scroll_Eye_Name.ok k, trivial⟩, ⟨scroll_Eye_Bad.ok k, trivial⟩, trivial⟩
namespace l0
theorem round (k : Nat) (d : (Unit × Unit × Unit × Int × Int × Unit)) (e : (((List Int) × Bool) × (List (List Int)) × Unit)) (G : St → Option (Ex × St)) : roundK Tryd.prog (E k) 25 0 (subC (bodyOf Tryd.f35) [1, 1, 0, 1, 0, 0]) (recast cl hn kp) (finBy cl hn kp rc rs ri) G ⟨mkS S d, mkH H e⟩ =
    step (fun x12 y0 y800001 => some (.exit 0, KX d e (x12, y0, y800001))) (fun q0 => some (.ret, RX d e q0)) (fun x12 y0 y800001 => G ⟨mkS S ((), (), (), d.2.2.2.1, x12, ()), mkH H (y0, y800001, ())⟩) k d.2.2.2.1 d.2.2.2.2.1 e.1 e.2.1 := by kernel_rfl
theorem it (k n : Nat) (d : (Unit × Unit × Unit × Int × Int × Unit)) (e : (((List Int) × Bool) × (List (List Int)) × Unit)) : loopIt Tryd.prog (E k) 25 0 (subC (bodyOf Tryd.f35) [1, 1, 0, 1, 0, 0]) (recast cl hn kp) (finBy cl hn kp rc rs ri) n ⟨mkS S d, mkH H e⟩ = go (fun x12 y0 y800001 => some (.exit 0, KX d e (x12, y0, y800001))) (fun q0 => some (.ret, RX d e q0)) k d.2.2.2.1 n d.2.2.2.2.1 e.1 e.2.1 :=
  loopIt_eq (D := (Unit × Unit × Unit × Int × Int × Unit) × (((List Int) × Bool) × (List (List Int)) × Unit)) (fun p => ⟨mkS S p.1, mkH H p.2⟩) (fun F p => step (fun x12 y0 y800001 => some (.exit 0, KX p.1 p.2 (x12, y0, y800001))) (fun q0 => some (.ret, RX p.1 p.2 q0)) (fun x12 y0 y800001 => F (((), (), (), p.1.2.2.2.1, x12, ()), (y0, y800001, ()))) k p.1.2.2.2.1 p.1.2.2.2.2.1 p.2.1 p.2.2.1) (fun n p => go (fun x12 y0 y800001 => some (.exit 0, KX p.1 p.2 (x12, y0, y800001))) (fun q0 => some (.ret, RX p.1 p.2 q0)) k p.1.2.2.2.1 n p.1.2.2.2.2.1 p.2.1 p.2.2.1) (fun _ => rfl) (fun _ _ => rfl) (fun G p => round k p.1 p.2 G) n (d, e)
theorem ok (k : Nat) : LoopOK Tryd.prog 25 (subC (bodyOf Tryd.f35) [1, 1, 0, 1, 0, 0]) (sum k) :=
  loop_sig hm (fE k) (loopsOK_of [] (by kernel_rfl) trivial) S cl hn kp H 0 (fun (d : (Unit × Unit × Unit × Int × Int × Unit)) (e : (((List Int) × Bool) × (List (List Int)) × Unit)) => f k d.2.2.2.1 k d.2.2.2.2.1 e.1 e.2.1) KX RX cl hn kp rc rs ri k
    (fun d e => (it k k d e).trans (go_nat (exitOf 0 (KX d e) (RX d e)) (fun x12 y0 y800001 => some (.inl (x12, y0, y800001))) (fun q0 => some (.inr q0)) k d.2.2.2.1 k d.2.2.2.2.1 e.1 e.2.1).symm)
end l0
theorem run (k : Nat) (d : (Unit × Int × Unit × Unit)) (e : (((List Int) × Bool) × Unit)) : runFn Tryd.prog (E k) 25 (bodyOf Tryd.f35) Tryd.f35.results.toList cl hn hi (mkL ps d) (mkH hs e) =
    tree (fun b0 b1 => leafFn hs fi e val wr (b0, b1)) k d.2.1 e.1 := by kernel_rfl
theorem run_f (k : Nat) (d : (Unit × Int × Unit × Unit)) (e : (((List Int) × Bool) × Unit)) : runFn Tryd.prog (E k) 25 (bodyOf Tryd.f35) Tryd.f35.results.toList cl hn hi (mkL ps d) (mkH hs e) = (f k d.2.1 e.1).bind (leafFn hs fi e val wr) :=
  (run k d e).trans (tree_nat (leafFn hs fi e val wr) (fun b0 b1 => some (b0, b1)) k d.2.1 e.1).symm
theorem fnIs : FnIs Tryd.prog 35 Tryd.f35 (bodyOf Tryd.f35) 25 := ⟨by kernel_rfl, by kernel_rfl, by kernel_rfl, by kernel_rfl⟩
theorem ok (k : Nat) : CalleeOK Tryd.prog 35 (callee k) :=
  callee_sig (T := (((List Int) × Bool) × (List (List Int)))) fnIs hm (fE k) (loopsOK_of [(0, subC (bodyOf Tryd.f35) [1, 1, 0, 1, 0, 0])] (by kernel_rfl) ⟨of_loop (l0.sum k) rfl (l0.ok k), trivial⟩) ps hs cl hn fi (fun (d : (Unit × Int × Unit × Unit)) (e : (((List Int) × Bool) × Unit)) => f k d.2.1 e.1) val wr rfl (fun _ => rfl) (run_f k)
end speech_some_api_Hash
namespace header_Read
def tree {X : Type} (K : T_3d5633 → ((List Int) × Bool) → Option X) (k : Nat) (m0 : ((List Int) × Bool)) : Option X :=
  (Option.bind (scroll_Eye_Get.f k (4 : Int) m0) (fun r1 => (Option.bind (scroll_Eye_Name.f k r1.2) (fun r2 => (Option.bind (scroll_Eye_Name.f k r2.2) (fun r3 => (Option.bind (scroll_Eye_Get.f k (4 : Int) r3.2) (fun r4 => (Option.bind (scroll_Eye_Get.f k (4 : Int) r4.2) (fun r5 => (Option.bind (scroll_Eye_Get.f k (4 : Int) r5.2) (fun r6 => (Option.bind (scroll_Eye_Bad.f k r6.2) (fun r7 => (bif r7 then (K ((0, ([0, 0, 0, 0, 0, 0, 0, 0, 0, 0, 0, 0, 0, 0, 0, 0, 0, 0, 0, 0, 0, 0, 0, 0, 0, 0, 0, 0, 0, 0, 0, 0], ([0, 0, 0, 0, 0, 0, 0, 0, 0, 0, 0, 0, 0, 0, 0, 0, 0, 0, 0, 0, 0, 0, 0, 0, 0, 0, 0, 0, 0, 0, 0, 0], (0, (0, 0))))) : T_3d5633) r6.2) else (K (((IntKind.wrap .i64 (IntKind.wrap .i32 r1.1)), (r2.1, (r3.1, (r4.1, (r5.1, r6.1))))) : T_3d5633) r6.2))))))))))))))))
def f (k : Nat) (m0 : ((List Int) × Bool)) : Option (T_3d5633 × ((List Int) × Bool)) := tree (fun b0 b1 => some (b0, b1)) k m0
theorem tree_nat {X Y : Type} (h : X → Option Y) (K : T_3d5633 → ((List Int) × Bool) → Option X) (k : Nat) (m0 : ((List Int) × Bool)) : Option.bind (tree K k m0) h = tree (fun b0 b1 => Option.bind (K b0 b1) h) k m0 := by
  simp only [tree, bif_bind, sel_bind', Option.bind_assoc, Option.bind_none, Option.bind_some]
abbrev ps : List Sh := [.ptr 0]
abbrev hs : List (Nat × ESh) := [(0, .cell (.data (.pair .str .bool)))]
abbrev hi : List Nat := hs.map (·.1)
abbrev fi : List Nat := [0]
abbrev cl : List (Place × Nat × Hint) := []
abbrev hn : List Hint := [.any]
def val (t : (T_3d5633 × ((List Int) × Bool))) : AV := Sh.mk (.data (.pair (.int .i64) (.pair (.arr .u8 32) (.pair (.arr .u8 32) (.pair (.int .i64) (.pair (.int .i64) (.int .i64))))))) t.1
def wr (t : (T_3d5633 × ((List Int) × Bool))) : Heap := [(0, ESh.mk (.cell (.data (.pair .str .bool))) t.2)]
def callee (k : Nat) : Callee := sigCallee ps hs (fun (d : (Unit × Unit)) (e : (((List Int) × Bool) × Unit)) => f k e.1) val wr
def E (k : Nat) : Env := ⟨fnTab [(34, [scroll_Eye_Get.callee k]), (36, [scroll_Eye_Name.callee k]), (57, [scroll_Eye_Bad.callee k])], loopTab [], natsTab [], natTab []⟩
theorem fE (k : Nat) : ∀ f, ∀ c ∈ (E k).fn f, CalleeOK Tryd.prog f c := fnTab_ok ⟨⟨scroll_Eye_Get.ok k, trivial⟩, ⟨scroll_Eye_Name.ok k, trivial⟩, ⟨scroll_Eye_Bad.ok k, trivial⟩, trivial⟩
theorem run (k : Nat) (d : (Unit × Unit)) (e : (((List Int) × Bool) × Unit)) : runFn Tryd.prog (E k) 25 (bodyOf Tryd.f58) Tryd.f58.results.toList cl hn hi (mkL ps d) (mkH hs e) =
    tree (fun b0 b1 => leafFn hs fi e val wr (b0, b1)) k e.1 := by kernel_rfl
theorem run_f (k : Nat) (d : (Unit × Unit)) (e : (((List Int) × Bool) × Unit)) : runFn Tryd.prog (E k) 25 (bodyOf Tryd.f58) Tryd.f58.results.toList cl hn hi (mkL ps d) (mkH hs e) = (f k e.1).bind (leafFn hs fi e val wr) :=
  (run k d e).trans (tree_nat (leafFn hs fi e val wr) (fun b0 b1 => some (b0, b1)) k e.1).symm
theorem fnIs : FnIs Tryd.prog 58 Tryd.f58 (bodyOf Tryd.f58) 25 := ⟨by kernel_rfl, by kernel_rfl, by kernel_rfl, by kernel_rfl⟩
theorem ok (k : Nat) : CalleeOK Tryd.prog 58 (callee k) :=
  callee_sig (T := (T_3d5633 × ((List Int) × Bool))) fnIs hm (fE k) (loopsOK_of [] (by kernel_rfl) trivial) ps hs cl hn fi (fun (d : (Unit × Unit)) (e : (((List Int) × Bool) × Unit)) => f k e.1) val wr rfl (fun _ => rfl) (run_f k)
end header_Read
namespace speech_head
def tree {X : Type} (K : T_3d5633 → ((List Int) × Bool) → Option X) (k : Nat) (m0 : ((List Int) × Bool)) : Option X :=
  (Option.bind (header_Read.f k m0) (fun r1 => (Option.bind (scroll_Eye_Count.f k (0 : Int) r1.2) (fun r2 => (K r1.1 r2.2)))))
def f (k : Nat) (m0 : ((List Int) × Bool)) : Option (T_3d5633 × ((List Int) × Bool)) := tree (fun b0 b1 => some (b0, b1)) k m0
theorem tree_nat {X Y : Type} (h : X → Option Y) (K : T_3d5633 → ((List Int) × Bool) → Option X) (k : Nat) (m0 : ((List Int) × Bool)) : Option.bind (tree K k m0) h = tree (fun b0 b1 => Option.bind (K b0 b1) h) k m0 := by
  simp only [tree, bif_bind, sel_bind', Option.bind_assoc, Option.bind_none, Option.bind_some]
abbrev ps : List Sh := [.ptr 0]
abbrev hs : List (Nat × ESh) := [(0, .cell (.data (.pair .str .bool)))]
abbrev hi : List Nat := hs.map (·.1)
abbrev fi : List Nat := [0]
abbrev cl : List (Place × Nat × Hint) := []
abbrev hn : List Hint := [.any]
def val (t : (T_3d5633 × ((List Int) × Bool))) : AV := Sh.mk (.data (.pair (.int .i64) (.pair (.arr .u8 32) (.pair (.arr .u8 32) (.pair (.int .i64) (.pair (.int .i64) (.int .i64))))))) t.1
def wr (t : (T_3d5633 × ((List Int) × Bool))) : Heap := [(0, ESh.mk (.cell (.data (.pair .str .bool))) t.2)]
def callee (k : Nat) : Callee := sigCallee ps hs (fun (d : (Unit × Unit)) (e : (((List Int) × Bool) × Unit)) => f k e.1) val wr
def E (k : Nat) : Env := ⟨fnTab [(58, [header_Read.callee k]), (56, [scroll_Eye_Count.callee k])], loopTab [], natsTab [], natTab []⟩
theorem fE (k : Nat) : ∀ f, ∀ c ∈ (E k).fn f, CalleeOK Tryd.prog f c := fnTab_ok ⟨⟨header_Read.ok k, trivial⟩, ⟨scroll_Eye_Count.ok k, trivial⟩, trivial⟩
theorem run (k : Nat) (d : (Unit × Unit)) (e : (((List Int) × Bool) × Unit)) : runFn Tryd.prog (E k) 9 (bodyOf Tryd.f38) Tryd.f38.results.toList cl hn hi (mkL ps d) (mkH hs e) =
    tree (fun b0 b1 => leafFn hs fi e val wr (b0, b1)) k e.1 := by kernel_rfl
theorem run_f (k : Nat) (d : (Unit × Unit)) (e : (((List Int) × Bool) × Unit)) : runFn Tryd.prog (E k) 9 (bodyOf Tryd.f38) Tryd.f38.results.toList cl hn hi (mkL ps d) (mkH hs e) = (f k e.1).bind (leafFn hs fi e val wr) :=
  (run k d e).trans (tree_nat (leafFn hs fi e val wr) (fun b0 b1 => some (b0, b1)) k e.1).symm
theorem fnIs : FnIs Tryd.prog 38 Tryd.f38 (bodyOf Tryd.f38) 9 := ⟨by kernel_rfl, by kernel_rfl, by kernel_rfl, by kernel_rfl⟩
theorem ok (k : Nat) : CalleeOK Tryd.prog 38 (callee k) :=
  callee_sig (T := (T_3d5633 × ((List Int) × Bool))) fnIs hm (fE k) (loopsOK_of [] (by kernel_rfl) trivial) ps hs cl hn fi (fun (d : (Unit × Unit)) (e : (((List Int) × Bool) × Unit)) => f k e.1) val wr rfl (fun _ => rfl) (run_f k)
end speech_head
namespace speech_some_api_Header
namespace l0
def step {X : Type} (K : Int → ((List Int) × Bool) → (List T_3d5633) → Option X) (Q : ((List Int) × Bool) → Option X) (G : Int → ((List Int) × Bool) → (List T_3d5633) → Option X) (k : Nat) (x11 : Int) (x12 : Int) (y0 : ((List Int) × Bool)) (y800001 : (List T_3d5633)) : Option X :=
  (bif (decide (x12 < x11)) then (Option.bind (speech_head.f k y0) (fun r2 => (Option.bind (scroll_Eye_Bad.f k r2.2) (fun r3 => (bif r3 then (Q r2.2) else (bif (fits (((List.length y800001) + 1) * 96)) then (G (addI .i64 x12 1) r2.2 (y800001 ++ ([r2.1] : (List T_3d5633)))) else none)))))) else (K x12 y0 y800001))
def go {X : Type} (K : Int → ((List Int) × Bool) → (List T_3d5633) → Option X) (Q : ((List Int) × Bool) → Option X) (k : Nat) (x11 : Int) : Nat → Int → ((List Int) × Bool) → (List T_3d5633) → Option X
  | 0, _, _, _ => none
  | n + 1, x12, y0, y800001 => step K Q (go K Q k x11 n) k x11 x12 y0 y800001
def f (k : Nat) (x11 : Int) (n : Nat) (x12 : Int) (y0 : ((List Int) × Bool)) (y800001 : (List T_3d5633)) : Option ((Int × (((List Int) × Bool) × (List T_3d5633))) ⊕ ((List Int) × Bool)) := go (fun x12 y0 y800001 => some (.inl (x12, y0, y800001))) (fun q0 => some (.inr q0)) k x11 n x12 y0 y800001
theorem step_nat {X Y : Type} (h : X → Option Y) (K : Int → ((List Int) × Bool) → (List T_3d5633) → Option X) (Q : ((List Int) × Bool) → Option X) (G : Int → ((List Int) × Bool) → (List T_3d5633) → Option X) (k : Nat) (x11 : Int) (x12 : Int) (y0 : ((List Int) × Bool)) (y800001 : (List T_3d5633)) : Option.bind (step K Q G k x11 x12 y0 y800001) h = step (fun x12 y0 y800001 => Option.bind (K x12 y0 y800001) h) (fun q0 => Option.bind (Q q0) h) (fun x12 y0 y800001 => Option.bind (G x12 y0 y800001) h) k x11 x12 y0 y800001 := by
  simp only [step, bif_bind, sel_bind', Option.bind_assoc, Option.bind_none, Option.bind_some]
theorem go_nat {X Y : Type} (h : X → Option Y) (K : Int → ((List Int) × Bool) → (List T_3d5633) → Option X) (Q : ((List Int) × Bool) → Option X) (k : Nat) (x11 : Int) (n : Nat) : ∀ (x12 : Int) (y0 : ((List Int) × Bool)) (y800001 : (List T_3d5633)), Option.bind (go K Q k x11 n x12 y0 y800001) h = go (fun x12 y0 y800001 => Option.bind (K x12 y0 y800001) h) (fun q0 => Option.bind (Q q0) h) k x11 n x12 y0 y800001 := by
  induction n with
  | zero => intros; rfl
  | succ n ih => intro x12 y0 y800001; show Option.bind (step K Q (go K Q k x11 n) k x11 x12 y0 y800001) h = step (fun x12 y0 y800001 => Option.bind (K x12 y0 y800001) h) (fun q0 => Option.bind (Q q0) h) (go (fun x12 y0 y800001 => Option.bind (K x12 y0 y800001) h) (fun q0 => Option.bind (Q q0) h) k x11 n) k x11 x12 y0 y800001; rw [step_nat h]; simp only [ih]
abbrev S : List (Nat × Sh) := [(0, .ptr 0), (2, .fn 38), (7, .vec 800001), (11, .data (.int .i64)), (12, .data (.int .i64))]
abbrev H : List (Nat × ESh) := [(0, .cell (.data (.pair .str .bool))), (800001, .rows 2 52 (.pair (.int .i64) (.pair (.arr .u8 32) (.pair (.arr .u8 32) (.pair (.int .i64) (.pair (.int .i64) (.int .i64)))))))]
abbrev cl : List (Place × Nat × Hint) := []
abbrev hn : List (Nat × Hint) := [(0, .any), (2, .any), (7, (.row 2 52 (.pair (.int .i64) (.pair (.arr .u8 32) (.pair (.arr .u8 32) (.pair (.int .i64) (.pair (.int .i64) (.int .i64)))))))), (11, .any), (12, .any)]
abbrev kp : List Nat := [0]
abbrev rc : List (Place × Nat × Hint) := []
abbrev rs : List (Nat × Hint) := [(6, .any)]
abbrev ri : List Nat := [0]
def KX (d : (Unit × Unit × Unit × Int × Int × Unit)) (e : (((List Int) × Bool) × (List T_3d5633) × Unit)) (v : (Int × (((List Int) × Bool) × (List T_3d5633)))) : St := ⟨mkS S ((), (), (), d.2.2.2.1, v.1, ()), mkH H (v.2.1, v.2.2, ())⟩
abbrev RS : List (Nat × Sh) := [(6, .nils)]
abbrev RH : List (Nat × ESh) := [(0, .cell (.data (.pair .str .bool)))]
def RX (d : (Unit × Unit × Unit × Int × Int × Unit)) (e : (((List Int) × Bool) × (List T_3d5633) × Unit)) (v : ((List Int) × Bool)) : St := ⟨mkS RS ((), ()), mkH RH (v, ())⟩
def sum (k : Nat) : LoopSum := sigLoop S cl hn kp H 0 (fun (d : (Unit × Unit × Unit × Int × Int × Unit)) (e : (((List Int) × Bool) × (List T_3d5633) × Unit)) => f k d.2.2.2.1 k d.2.2.2.2.1 e.1 e.2.1) KX RX
end l0
def tree {X : Type} (K : ((List Int) × Bool) → (List T_3d5633) → Option X) (k : Nat) (a1 : Int) (m0 : ((List Int) × Bool)) : Option X :=
  (Option.bind (scroll_Eye_Count.f k a1 m0) (fun r1 => (Option.bind (speech_some_api_Header.l0.f k r1.1 k (0 : Int) r1.2 ([] : (List T_3d5633))) (fun r4 => sel r4 (fun v5 => (K v5.2.1 v5.2.2)) (fun q6 => (K q6 ([] : (List T_3d5633))))))))
def f (k : Nat) (a1 : Int) (m0 : ((List Int) × Bool)) : Option (((List Int) × Bool) × (List T_3d5633)) := tree (fun b0 b1 => some (b0, b1)) k a1 m0
theorem tree_nat {X Y : Type} (h : X → Option Y) (K : ((List Int) × Bool) → (List T_3d5633) → Option X) (k : Nat) (a1 : Int) (m0 : ((List Int) × Bool)) : Option.bind (tree K k a1 m0) h = tree (fun b0 b1 => Option.bind (K b0 b1) h) k a1 m0 := by
  simp only [tree, bif_bind, sel_bind', Option.bind_assoc, Option.bind_none, Option.bind_some]
abbrev ps : List Sh := [.ptr 0, .data (.int .i64), .fn 38]
abbrev hs : List (Nat × ESh) := [(0, .cell (.data (.pair .str .bool)))]
abbrev hi : List Nat := hs.map (·.1)
abbrev fi : List Nat := [0, 900001]
abbrev cl : List (Place × Nat × Hint) := []
abbrev hn : List Hint := [(.row 2 52 (.pair (.int .i64) (.pair (.arr .u8 32) (.pair (.arr .u8 32) (.pair (.int .i64) (.pair (.int .i64) (.int .i64)))))))]
def val (t : (((List Int) × Bool) × (List T_3d5633))) : AV := Sh.mk (.vec 900001) ()
def wr (t : (((List Int) × Bool) × (List T_3d5633))) : Heap := [(0, ESh.mk (.cell (.data (.pair .str .bool))) t.1), (900001, ESh.mk (.rows 2 52 (.pair (.int .i64) (.pair (.arr .u8 32) (.pair (.arr .u8 32) (.pair (.int .i64) (.pair (.int .i64) (.int .i64))))))) t.2)]
def callee (k : Nat) : Callee := sigCallee ps hs (fun (d : (Unit × Int × Unit × Unit)) (e : (((List Int) × Bool) × Unit)) => f k d.2.1 e.1) val wr
def E (k : Nat) : Env := ⟨fnTab [(56, [scroll_Eye_Count.callee k]), (38, [speech_head.callee k]), (57, [scroll_Eye_Bad.callee k])], loopTab [(0, l0.sum k)], natsTab [], natTab []⟩
theorem fE (k : Nat) : ∀ f, ∀ c ∈ (E k).fn f, CalleeOK Tryd.prog f c := fnTab_ok ⟨⟨scroll_Eye_Count.ok k, trivial⟩, ⟨speech_head.ok k, trivial⟩, ⟨scroll_Eye_Bad.ok k, trivial⟩, trivial⟩
namespace l0
theorem round (k : Nat) (d : (Unit × Unit × Unit × Int × Int × Unit)) (e : (((List Int) × Bool) × (List T_3d5633) × Unit)) (G : St → Option (Ex × St)) : roundK Tryd.prog (E k) 25 0 (subC (bodyOf Tryd.f37) [1, 1, 0, 1, 0, 0]) (recast cl hn kp) (finBy cl hn kp rc rs ri) G ⟨mkS S d, mkH H e⟩ =
    step (fun x12 y0 y800001 => some (.exit 0, KX d e (x12, y0, y800001))) (fun q0 => some (.ret, RX d e q0)) (fun x12 y0 y800001 => G ⟨mkS S ((), (), (), d.2.2.2.1, x12, ()), mkH H (y0, y800001, ())⟩) k d.2.2.2.1 d.2.2.2.2.1 e.1 e.2.1 := by kernel_rfl
theorem it (k n : Nat) (d : (Unit × Unit × Unit × Int × Int × Unit)) (e : (((List Int) × Bool) × (List T_3d5633) × Unit)) : loopIt Tryd.prog (E k) 25 0 (subC (bodyOf Tryd.f37) [1, 1, 0, 1, 0, 0]) (recast cl hn kp) (finBy cl hn kp rc rs ri) n ⟨mkS S d, mkH H e⟩ = go (fun x12 y0 y800001 => some (.exit 0, KX d e (x12, y0, y800001))) (fun q0 => some (.ret, RX d e q0)) k d.2.2.2.1 n d.2.2.2.2.1 e.1 e.2.1 :=
  loopIt_eq (D := (Unit × Unit × Unit × Int × Int × Unit) × (((List Int) × Bool) × (List T_3d5633) × Unit)) (fun p => ⟨mkS S p.1, mkH H p.2⟩) (fun F p => step (fun x12 y0 y800001 => some (.exit 0, KX p.1 p.2 (x12, y0, y800001))) (fun q0 => some (.ret, RX p.1 p.2 q0)) (fun x12 y0 y800001 => F (((), (), (), p.1.2.2.2.1, x12, ()), (y0, y800001, ()))) k p.1.2.2.2.1 p.1.2.2.2.2.1 p.2.1 p.2.2.1) (fun n p => go (fun x12 y0 y800001 => some (.exit 0, KX p.1 p.2 (x12, y0, y800001))) (fun q0 => some (.ret, RX p.1 p.2 q0)) k p.1.2.2.2.1 n p.1.2.2.2.2.1 p.2.1 p.2.2.1) (fun _ => rfl) (fun _ _ => rfl) (fun G p => round k p.1 p.2 G) n (d, e)
theorem ok (k : Nat) : LoopOK Tryd.prog 25 (subC (bodyOf Tryd.f37) [1, 1, 0, 1, 0, 0]) (sum k) :=
  loop_sig hm (fE k) (loopsOK_of [] (by kernel_rfl) trivial) S cl hn kp H 0 (fun (d : (Unit × Unit × Unit × Int × Int × Unit)) (e : (((List Int) × Bool) × (List T_3d5633) × Unit)) => f k d.2.2.2.1 k d.2.2.2.2.1 e.1 e.2.1) KX RX cl hn kp rc rs ri k
    (fun d e => (it k k d e).trans (go_nat (exitOf 0 (KX d e) (RX d e)) (fun x12 y0 y800001 => some (.inl (x12, y0, y800001))) (fun q0 => some (.inr q0)) k d.2.2.2.1 k d.2.2.2.2.1 e.1 e.2.1).symm)
end l0
theorem run (k : Nat) (d : (Unit × Int × Unit × Unit)) (e : (((List Int) × Bool) × Unit)) : runFn Tryd.prog (E k) 25 (bodyOf Tryd.f37) Tryd.f37.results.toList cl hn hi (mkL ps d) (mkH hs e) =
    tree (fun b0 b1 => leafFn hs fi e val wr (b0, b1)) k d.2.1 e.1 := by kernel_rfl
theorem run_f (k : Nat) (d : (Unit × Int × Unit × Unit)) (e : (((List Int) × Bool) × Unit)) : runFn Tryd.prog (E k) 25 (bodyOf Tryd.f37) Tryd.f37.results.toList cl hn hi (mkL ps d) (mkH hs e) = (f k d.2.1 e.1).bind (leafFn hs fi e val wr) :=
  (run k d e).trans (tree_nat (leafFn hs fi e val wr) (fun b0 b1 => some (b0, b1)) k d.2.1 e.1).symm
theorem fnIs : FnIs Tryd.prog 37 Tryd.f37 (bodyOf Tryd.f37) 25 := ⟨by kernel_rfl, by kernel_rfl, by kernel_rfl, by kernel_rfl⟩
theorem ok (k : Nat) : CalleeOK Tryd.prog 37 (callee k) :=
  callee_sig (T := (((List Int) × Bool) × (List T_3d5633))) fnIs hm (fE k) (loopsOK_of [(0, subC (bodyOf Tryd.f37) [1, 1, 0, 1, 0, 0])] (by kernel_rfl) ⟨of_loop (l0.sum k) rfl (l0.ok k), trivial⟩) ps hs cl hn fi (fun (d : (Unit × Int × Unit × Unit)) (e : (((List Int) × Bool) × Unit)) => f k d.2.1 e.1) val wr rfl (fun _ => rfl) (run_f k)
end speech_some_api_Header
namespace speech_thing
def tree {X : Type} (K : (List Int) → ((List Int) × Bool) → Option X) (k : Nat) (m0 : ((List Int) × Bool)) : Option X :=
  (Option.bind (scroll_Eye_Get.f k (4 : Int) m0) (fun r1 => (bif (r1.1 != (2 : Int)) then (Option.bind (scroll_Eye_Blind.f k r1.2) (fun r2 => (Option.bind (scroll_Eye_Name.f k r2) (fun r3 => (K r3.1 r3.2))))) else (Option.bind (scroll_Eye_Name.f k r1.2) (fun r4 => (K r4.1 r4.2))))))
def f (k : Nat) (m0 : ((List Int) × Bool)) : Option ((List Int) × ((List Int) × Bool)) := tree (fun b0 b1 => some (b0, b1)) k m0
theorem tree_nat {X Y : Type} (h : X → Option Y) (K : (List Int) → ((List Int) × Bool) → Option X) (k : Nat) (m0 : ((List Int) × Bool)) : Option.bind (tree K k m0) h = tree (fun b0 b1 => Option.bind (K b0 b1) h) k m0 := by
  simp only [tree, bif_bind, sel_bind', Option.bind_assoc, Option.bind_none, Option.bind_some]
abbrev ps : List Sh := [.ptr 0]
abbrev hs : List (Nat × ESh) := [(0, .cell (.data (.pair .str .bool)))]
abbrev hi : List Nat := hs.map (·.1)
abbrev fi : List Nat := [0]
abbrev cl : List (Place × Nat × Hint) := []
abbrev hn : List Hint := [.any]
def val (t : ((List Int) × ((List Int) × Bool))) : AV := Sh.mk (.data (.arr .u8 32)) t.1
def wr (t : ((List Int) × ((List Int) × Bool))) : Heap := [(0, ESh.mk (.cell (.data (.pair .str .bool))) t.2)]
def callee (k : Nat) : Callee := sigCallee ps hs (fun (d : (Unit × Unit)) (e : (((List Int) × Bool) × Unit)) => f k e.1) val wr
def E (k : Nat) : Env := ⟨fnTab [(34, [scroll_Eye_Get.callee k]), (59, [scroll_Eye_Blind.callee k]), (36, [scroll_Eye_Name.callee k])], loopTab [], natsTab [], natTab []⟩
theorem fE (k : Nat) : ∀ f, ∀ c ∈ (E k).fn f, CalleeOK Tryd.prog f c := fnTab_ok ⟨⟨scroll_Eye_Get.ok k, trivial⟩, ⟨scroll_Eye_Blind.ok k, trivial⟩, ⟨scroll_Eye_Name.ok k, trivial⟩, trivial⟩
theorem run (k : Nat) (d : (Unit × Unit)) (e : (((List Int) × Bool) × Unit)) : runFn Tryd.prog (E k) 10 (bodyOf Tryd.f39) Tryd.f39.results.toList cl hn hi (mkL ps d) (mkH hs e) =
    tree (fun b0 b1 => leafFn hs fi e val wr (b0, b1)) k e.1 := by kernel_rfl
theorem run_f (k : Nat) (d : (Unit × Unit)) (e : (((List Int) × Bool) × Unit)) : runFn Tryd.prog (E k) 10 (bodyOf Tryd.f39) Tryd.f39.results.toList cl hn hi (mkL ps d) (mkH hs e) = (f k e.1).bind (leafFn hs fi e val wr) :=
  (run k d e).trans (tree_nat (leafFn hs fi e val wr) (fun b0 b1 => some (b0, b1)) k e.1).symm
theorem fnIs : FnIs Tryd.prog 39 Tryd.f39 (bodyOf Tryd.f39) 10 := ⟨by kernel_rfl, by kernel_rfl, by kernel_rfl, by kernel_rfl⟩
theorem ok (k : Nat) : CalleeOK Tryd.prog 39 (callee k) :=
  callee_sig (T := ((List Int) × ((List Int) × Bool))) fnIs hm (fE k) (loopsOK_of [] (by kernel_rfl) trivial) ps hs cl hn fi (fun (d : (Unit × Unit)) (e : (((List Int) × Bool) × Unit)) => f k e.1) val wr rfl (fun _ => rfl) (run_f k)
end speech_thing
namespace speech_some_api_Hash_v1
namespace l0
def step {X : Type} (K : Int → ((List Int) × Bool) → (List (List Int)) → Option X) (Q : ((List Int) × Bool) → Option X) (G : Int → ((List Int) × Bool) → (List (List Int)) → Option X) (k : Nat) (x11 : Int) (x12 : Int) (y0 : ((List Int) × Bool)) (y800001 : (List (List Int))) : Option X :=
  (bif (decide (x12 < x11)) then (Option.bind (speech_thing.f k y0) (fun r2 => (Option.bind (scroll_Eye_Bad.f k r2.2) (fun r3 => (bif r3 then (Q r2.2) else (bif (fits (((List.length y800001) + 1) * 32)) then (G (addI .i64 x12 1) r2.2 (y800001 ++ ([r2.1] : (List (List Int))))) else none)))))) else (K x12 y0 y800001))
def go {X : Type} (K : Int → ((List Int) × Bool) → (List (List Int)) → Option X) (Q : ((List Int) × Bool) → Option X) (k : Nat) (x11 : Int) : Nat → Int → ((List Int) × Bool) → (List (List Int)) → Option X
  | 0, _, _, _ => none
  | n + 1, x12, y0, y800001 => step K Q (go K Q k x11 n) k x11 x12 y0 y800001
def f (k : Nat) (x11 : Int) (n : Nat) (x12 : Int) (y0 : ((List Int) × Bool)) (y800001 : (List (List Int))) : Option ((Int × (((List Int) × Bool) × (List (List Int)))) ⊕ ((List Int) × Bool)) := go (fun x12 y0 y800001 => some (.inl (x12, y0, y800001))) (fun q0 => some (.inr q0)) k x11 n x12 y0 y800001
theorem step_nat {X Y : Type} (h : X → Option Y) (K : Int → ((List Int) × Bool) → (List (List Int)) → Option X) (Q : ((List Int) × Bool) → Option X) (G : Int → ((List Int) × Bool) → (List (List Int)) → Option X) (k : Nat) (x11 : Int) (x12 : Int) (y0 : ((List Int) × Bool)) (y800001 : (List (List Int))) : Option.bind (step K Q G k x11 x12 y0 y800001) h = step (fun x12 y0 y800001 => Option.bind (K x12 y0 y800001) h) (fun q0 => Option.bind (Q q0) h) (fun x12 y0 y800001 => Option.bind (G x12 y0 y800001) h) k x11 x12 y0 y800001 := by
  simp only [step, bif_bind, sel_bind', Option.bind_assoc, Option.bind_none, Option.bind_some]
theorem go_nat {X Y : Type} (h : X → Option Y) (K : Int → ((List Int) × Bool) → (List (List Int)) → Option X) (Q : ((List Int) × Bool) → Option X) (k : Nat) (x11 : Int) (n : Nat) : ∀ (x12 : Int) (y0 : ((List Int) × Bool)) (y800001 : (List (List Int))), Option.bind (go K Q k x11 n x12 y0 y800001) h = go (fun x12 y0 y800001 => Option.bind (K x12 y0 y800001) h) (fun q0 => Option.bind (Q q0) h) k x11 n x12 y0 y800001 := by
  induction n with
  | zero => intros; rfl
  | succ n ih => intro x12 y0 y800001; show Option.bind (step K Q (go K Q k x11 n) k x11 x12 y0 y800001) h = step (fun x12 y0 y800001 => Option.bind (K x12 y0 y800001) h) (fun q0 => Option.bind (Q q0) h) (go (fun x12 y0 y800001 => Option.bind (K x12 y0 y800001) h) (fun q0 => Option.bind (Q q0) h) k x11 n) k x11 x12 y0 y800001; rw [step_nat h]; simp only [ih]
abbrev S : List (Nat × Sh) := [(0, .ptr 0), (2, .fn 39), (7, .vec 800001), (11, .data (.int .i64)), (12, .data (.int .i64))]
abbrev H : List (Nat × ESh) := [(0, .cell (.data (.pair .str .bool))), (800001, .rows 2 28 (.arr .u8 32))]
abbrev cl : List (Place × Nat × Hint) := []
abbrev hn : List (Nat × Hint) := [(0, .any), (2, .any), (7, (.row 2 28 (.arr .u8 32))), (11, .any), (12, .any)]
abbrev kp : List Nat := [0]
abbrev rc : List (Place × Nat × Hint) := []
abbrev rs : List (Nat × Hint) := [(6, .any)]
abbrev ri : List Nat := [0]
def KX (d : (Unit × Unit × Unit × Int × Int × Unit)) (e : (((List Int) × Bool) × (List (List Int)) × Unit)) (v : (Int × (((List Int) × Bool) × (List (List Int))))) : St := ⟨mkS S ((), (), (), d.2.2.2.1, v.1, ()), mkH H (v.2.1, v.2.2, ())⟩
abbrev RS : List (Nat × Sh) := [(6, .nils)]
abbrev RH : List (Nat × ESh) := [(0, .cell (.data (.pair .str .bool)))]
def RX (d : (Unit × Unit × Unit × Int × Int × Unit)) (e : (((List Int) × Bool) × (List (List Int)) × Unit)) (v : ((List Int) × Bool)) : St := ⟨mkS RS ((), ()), mkH RH (v, ())⟩
def sum (k : Nat) : LoopSum := sigLoop S cl hn kp H 0 (fun (d : (Unit × Unit × Unit × Int × Int × Unit)) (e : (((List Int) × Bool) × (List (List Int)) × Unit)) => f k d.2.2.2.1 k d.2.2.2.2.1 e.1 e.2.1) KX RX
end l0
def tree {X : Type} (K : ((List Int) × Bool) → (List (List Int)) → Option X) (k : Nat) (a1 : Int) (m0 : ((List Int) × Bool)) : Option X :=
  (Option.bind (scroll_Eye_Count.f k a1 m0) (fun r1 => (Option.bind (speech_some_api_Hash_v1.l0.f k r1.1 k (0 : Int) r1.2 ([] : (List (List Int)))) (fun r4 => sel r4 (fun v5 => (K v5.2.1 v5.2.2)) (fun q6 => (K q6 ([] : (List (List Int)))))))))
def f (k : Nat) (a1 : Int) (m0 : ((List Int) × Bool)) : Option (((List Int) × Bool) × (List (List Int))) := tree (fun b0 b1 => some (b0, b1)) k a1 m0
theorem tree_nat {X Y : Type} (h : X → Option Y) (K : ((List Int) × Bool) → (List (List Int)) → Option X) (k : Nat) (a1 : Int) (m0 : ((List Int) × Bool)) : Option.bind (tree K k a1 m0) h = tree (fun b0 b1 => Option.bind (K b0 b1) h) k a1 m0 := by
  simp only [tree, bif_bind, sel_bind', Option.bind_assoc, Option.bind_none, Option.bind_some]
abbrev ps : List Sh := [.ptr 0, .data (.int .i64), .fn 39]
abbrev hs : List (Nat × ESh) := [(0, .cell (.data (.pair .str .bool)))]
abbrev hi : List Nat := hs.map (·.1)
abbrev fi : List Nat := [0, 900001]
abbrev cl : List (Place × Nat × Hint) := []
abbrev hn : List Hint := [(.row 2 28 (.arr .u8 32))]
def val (t : (((List Int) × Bool) × (List (List Int)))) : AV := Sh.mk (.vec 900001) ()
def wr (t : (((List Int) × Bool) × (List (List Int)))) : Heap := [(0, ESh.mk (.cell (.data (.pair .str .bool))) t.1), (900001, ESh.mk (.rows 2 28 (.arr .u8 32)) t.2)]
def callee (k : Nat) : Callee := sigCallee ps hs (fun (d : (Unit × Int × Unit × Unit)) (e : (((List Int) × Bool) × Unit)) => f k d.2.1 e.1) val wr
def E (k : Nat) : Env := ⟨fnTab [(56, [scroll_Eye_Count.callee k]), (39, [speech_thing.callee k]), (57, [scroll_Eye_Bad.callee k])], loopTab [(0, l0.sum k)], natsTab [], natTab []⟩
theorem fE (k : Nat) : ∀ f, ∀ c ∈ (E k).fn f, CalleeOK Tryd.prog f c := fnTab_ok ⟨⟨scroll_Eye_Count.ok k, trivial⟩, ⟨speech_thing.ok k, trivial⟩, ⟨scroll_Eye_Bad.ok k, trivial⟩, trivial⟩
namespace l0
theorem round (k : Nat) (d : (Unit × Unit × Unit × Int × Int × Unit)) (e : (((List Int) × Bool) × (List (List Int)) × Unit)) (G : St → Option (Ex × St)) : roundK Tryd.prog (E k) 25 0 (subC (bodyOf Tryd.f35) [1, 1, 0, 1, 0, 0]) (recast cl hn kp) (finBy cl hn kp rc rs ri) G ⟨mkS S d, mkH H e⟩ =
    step (fun x12 y0 y800001 => some (.exit 0, KX d e (x12, y0, y800001))) (fun q0 => some (.ret, RX d e q0)) (fun x12 y0 y800001 => G ⟨mkS S ((), (), (), d.2.2.2.1, x12, ()), mkH H (y0, y800001, ())⟩) k d.2.2.2.1 d.2.2.2.2.1 e.1 e.2.1 := by kernel_rfl
theorem it (k n : Nat) (d : (Unit × Unit × Unit × Int × Int × Unit)) (e : (((List Int) × Bool) × (List (List Int)) × Unit)) : loopIt Tryd.prog (E k) 25 0 (subC (bodyOf Tryd.f35) [1, 1, 0, 1, 0, 0]) (recast cl hn kp) (finBy cl hn kp rc rs ri) n ⟨mkS S d, mkH H e⟩ = go (fun x12 y0 y800001 => some (.exit 0, KX d e (x12, y0, y800001))) (fun q0 => some (.ret, RX d e q0)) k d.2.2.2.1 n d.2.2.2.2.1 e.1 e.2.1 :=
  loopIt_eq (D := (Unit × Unit × Unit × Int × Int × Unit) × (((List Int) × Bool) × (List (List Int)) × Unit)) (fun p => ⟨mkS S p.1, mkH H p.2⟩) (fun F p => step (fun x12 y0 y800001 => some (.exit 0, KX p.1 p.2 (x12, y0, y800001))) (fun q0 => some (.ret, RX p.1 p.2 q0)) (fun x12 y0 y800001 => F (((), (), (), p.1.2.2.2.1, x12, ()), (y0, y800001, ()))) k p.1.2.2.2.1 p.1.2.2.2.2.1 p.2.1 p.2.2.1) (fun n p => go (fun x12 y0 y800001 => some (.exit 0, KX p.1 p.2 (x12, y0, y800001))) (fun q0 => some (.ret, RX p.1 p.2 q0)) k p.1.2.2.2.1 n p.1.2.2.2.2.1 p.2.1 p.2.2.1) (fun _ => rfl) (fun _ _ => rfl) (fun G p => round k p.1 p.2 G) n (d, e)
theorem ok (k : Nat) : LoopOK Tryd.prog 25 (subC (bodyOf Tryd.f35) [1, 1, 0, 1, 0, 0]) (sum k) :=
  loop_sig hm (fE k) (loopsOK_of [] (by kernel_rfl) trivial) S cl hn kp H 0 (fun (d : (Unit × Unit × Unit × Int × Int × Unit)) (e : (((List Int) × Bool) × (List (List Int)) × Unit)) => f k d.2.2.2.1 k d.2.2.2.2.1 e.1 e.2.1) KX RX cl hn kp rc rs ri k
    (fun d e => (it k k d e).trans (go_nat (exitOf 0 (KX d e) (RX d e)) (fun x12 y0 y800001 => some (.inl (x12, y0, y800001))) (fun q0 => some (.inr q0)) k d.2.2.2.1 k d.2.2.2.2.1 e.1 e.2.1).symm)
end l0
theorem run (k : Nat) (d : (Unit × Int × Unit × Unit)) (e : (((List Int) × Bool) × Unit)) : runFn Tryd.prog (E k) 25 (bodyOf Tryd.f35) Tryd.f35.results.toList cl hn hi (mkL ps d) (mkH hs e) =
    tree (fun b0 b1 => leafFn hs fi e val wr (b0, b1)) k d.2.1 e.1 := by kernel_rfl
theorem run_f (k : Nat) (d : (Unit × Int × Unit × Unit)) (e : (((List Int) × Bool) × Unit)) : runFn Tryd.prog (E k) 25 (bodyOf Tryd.f35) Tryd.f35.results.toList cl hn hi (mkL ps d) (mkH hs e) = (f k d.2.1 e.1).bind (leafFn hs fi e val wr) :=
  (run k d e).trans (tree_nat (leafFn hs fi e val wr) (fun b0 b1 => some (b0, b1)) k d.2.1 e.1).symm
theorem fnIs : FnIs Tryd.prog 35 Tryd.f35 (bodyOf Tryd.f35) 25 := ⟨by kernel_rfl, by kernel_rfl, by kernel_rfl, by kernel_rfl⟩
theorem ok (k : Nat) : CalleeOK Tryd.prog 35 (callee k) :=
  callee_sig (T := (((List Int) × Bool) × (List (List Int)))) fnIs hm (fE k) (loopsOK_of [(0, subC (bodyOf Tryd.f35) [1, 1, 0, 1, 0, 0])] (by kernel_rfl) ⟨of_loop (l0.sum k) rfl (l0.ok k), trivial⟩) ps hs cl hn fi (fun (d : (Unit × Int × Unit × Unit)) (e : (((List Int) × Bool) × Unit)) => f k d.2.1 e.1) val wr rfl (fun _ => rfl) (run_f k)
end speech_some_api_Hash_v1
namespace speech_Read
def tree {X : Type} (K : T_85bbee → Int → Option X) (k : Nat) (a0 : ((List Int) × (List Int))) (m0 : T_9fe11e) : Option X :=
  (Option.bind (speech_Kind.f k a0.1 m0) (fun r1 => (bif (r1 == (0 : Int)) then (K ((r1, (0, (0, (0, (0, ([], ([0, 0, 0, 0, 0, 0, 0, 0, 0, 0, 0, 0, 0, 0, 0, 0, 0, 0, 0, 0, 0, 0, 0, 0, 0, 0, 0, 0, 0, 0, 0, 0], []))))))) : T_85bbee) (5 : Int)) else (Option.bind (scroll_On.f k a0.2) (fun r2 => (bif (r1 == (1 : Int)) then (Option.bind (scroll_Eye_Get.f k (4 : Int) r2) (fun r3 => (Option.bind (scroll_Eye_Get.f k (4 : Int) r3.2) (fun r4 => (Option.bind (scroll_Eye_Get.f k (7 : Int) r4.2) (fun r5 => (Option.bind (scroll_Eye_Get.f k (7 : Int) r5.2) (fun r6 => (Option.bind (scroll_Eye_Done.f k r6.2) (fun r7 => (bif (!r7) then (K ((0, (0, (0, (0, (0, ([], ([0, 0, 0, 0, 0, 0, 0, 0, 0, 0, 0, 0, 0, 0, 0, 0, 0, 0, 0, 0, 0, 0, 0, 0, 0, 0, 0, 0, 0, 0, 0, 0], []))))))) : T_85bbee) (4 : Int)) else (K ((r1, (r3.1, (r5.1, (r4.1, (r6.1, ([], ([0, 0, 0, 0, 0, 0, 0, 0, 0, 0, 0, 0, 0, 0, 0, 0, 0, 0, 0, 0, 0, 0, 0, 0, 0, 0, 0, 0, 0, 0, 0, 0], []))))))) : T_85bbee) (0 : Int))))))))))))) else (bif (r1 == (3 : Int)) then (Option.bind (scroll_Eye_Get.f k (4 : Int) r2) (fun r8 => (Option.bind (speech_some_api_Hash.f k (32 : Int) r8.2) (fun r9 => (Option.bind (scroll_Eye_Name.f k r9.1) (fun r10 => (Option.bind (scroll_Eye_Done.f k r10.2) (fun r11 => (bif (!r11) then (K ((0, (0, (0, (0, (0, ([], ([0, 0, 0, 0, 0, 0, 0, 0, 0, 0, 0, 0, 0, 0, 0, 0, 0, 0, 0, 0, 0, 0, 0, 0, 0, 0, 0, 0, 0, 0, 0, 0], []))))))) : T_85bbee) (4 : Int)) else (K ((r1, (r8.1, (0, (0, (0, (r9.2, (r10.1, []))))))) : T_85bbee) (0 : Int))))))))))) else (bif (r1 == (4 : Int)) then (Option.bind (speech_some_api_Header.f k (64 : Int) r2) (fun r12 => (Option.bind (scroll_Eye_Done.f k r12.1) (fun r13 => (bif (!r13) then (K ((0, (0, (0, (0, (0, ([], ([0, 0, 0, 0, 0, 0, 0, 0, 0, 0, 0, 0, 0, 0, 0, 0, 0, 0, 0, 0, 0, 0, 0, 0, 0, 0, 0, 0, 0, 0, 0, 0], []))))))) : T_85bbee) (4 : Int)) else (K ((r1, (0, (0, (0, (0, ([], ([0, 0, 0, 0, 0, 0, 0, 0, 0, 0, 0, 0, 0, 0, 0, 0, 0, 0, 0, 0, 0, 0, 0, 0, 0, 0, 0, 0, 0, 0, 0, 0], r12.2))))))) : T_85bbee) (0 : Int))))))) else (bif (r1 == (5 : Int)) then (Option.bind (speech_some_api_Hash_v1.f k (32 : Int) r2) (fun r14 => (Option.bind (scroll_Eye_Done.f k r14.1) (fun r15 => (bif (!r15) then (K ((0, (0, (0, (0, (0, ([], ([0, 0, 0, 0, 0, 0, 0, 0, 0, 0, 0, 0, 0, 0, 0, 0, 0, 0, 0, 0, 0, 0, 0, 0, 0, 0, 0, 0, 0, 0, 0, 0], []))))))) : T_85bbee) (4 : Int)) else (K ((r1, (0, (0, (0, (0, (r14.2, ([0, 0, 0, 0, 0, 0, 0, 0, 0, 0, 0, 0, 0, 0, 0, 0, 0, 0, 0, 0, 0, 0, 0, 0, 0, 0, 0, 0, 0, 0, 0, 0], []))))))) : T_85bbee) (0 : Int))))))) else (bif (r1 == (6 : Int)) then (bif (r1 == (6 : Int)) then (Option.bind (scroll_Eye_Get.f k (7 : Int) r2) (fun r16 => (Option.bind (scroll_Eye_Done.f k r16.2) (fun r17 => (bif (!r17) then (K ((0, (0, (0, (0, (0, ([], ([0, 0, 0, 0, 0, 0, 0, 0, 0, 0, 0, 0, 0, 0, 0, 0, 0, 0, 0, 0, 0, 0, 0, 0, 0, 0, 0, 0, 0, 0, 0, 0], []))))))) : T_85bbee) (4 : Int)) else (K ((r1, (0, (0, (0, (r16.1, ([], ([0, 0, 0, 0, 0, 0, 0, 0, 0, 0, 0, 0, 0, 0, 0, 0, 0, 0, 0, 0, 0, 0, 0, 0, 0, 0, 0, 0, 0, 0, 0, 0], []))))))) : T_85bbee) (0 : Int))))))) else (Option.bind (scroll_Eye_Done.f k r2) (fun r18 => (bif (!r18) then (K ((0, (0, (0, (0, (0, ([], ([0, 0, 0, 0, 0, 0, 0, 0, 0, 0, 0, 0, 0, 0, 0, 0, 0, 0, 0, 0, 0, 0, 0, 0, 0, 0, 0, 0, 0, 0, 0, 0], []))))))) : T_85bbee) (4 : Int)) else (K ((r1, (0, (0, (0, (0, ([], ([0, 0, 0, 0, 0, 0, 0, 0, 0, 0, 0, 0, 0, 0, 0, 0, 0, 0, 0, 0, 0, 0, 0, 0, 0, 0, 0, 0, 0, 0, 0, 0], []))))))) : T_85bbee) (0 : Int)))))) else (bif (r1 == (7 : Int)) then (Option.bind (scroll_Eye_Get.f k (7 : Int) r2) (fun r19 => (Option.bind (scroll_Eye_Done.f k r19.2) (fun r20 => (bif (!r20) then (K ((0, (0, (0, (0, (0, ([], ([0, 0, 0, 0, 0, 0, 0, 0, 0, 0, 0, 0, 0, 0, 0, 0, 0, 0, 0, 0, 0, 0, 0, 0, 0, 0, 0, 0, 0, 0, 0, 0], []))))))) : T_85bbee) (4 : Int)) else (K ((r1, (0, (0, (0, (r19.1, ([], ([0, 0, 0, 0, 0, 0, 0, 0, 0, 0, 0, 0, 0, 0, 0, 0, 0, 0, 0, 0, 0, 0, 0, 0, 0, 0, 0, 0, 0, 0, 0, 0], []))))))) : T_85bbee) (0 : Int))))))) else (Option.bind (scroll_Eye_Done.f k r2) (fun r21 => (bif (!r21) then (K ((0, (0, (0, (0, (0, ([], ([0, 0, 0, 0, 0, 0, 0, 0, 0, 0, 0, 0, 0, 0, 0, 0, 0, 0, 0, 0, 0, 0, 0, 0, 0, 0, 0, 0, 0, 0, 0, 0], []))))))) : T_85bbee) (4 : Int)) else (K ((r1, (0, (0, (0, (0, ([], ([0, 0, 0, 0, 0, 0, 0, 0, 0, 0, 0, 0, 0, 0, 0, 0, 0, 0, 0, 0, 0, 0, 0, 0, 0, 0, 0, 0, 0, 0, 0, 0], []))))))) : T_85bbee) (0 : Int))))))))))))))))
def f (k : Nat) (a0 : ((List Int) × (List Int))) (m0 : T_9fe11e) : Option (T_85bbee × Int) := tree (fun b0 b1 => some (b0, b1)) k a0 m0
theorem tree_nat {X Y : Type} (h : X → Option Y) (K : T_85bbee → Int → Option X) (k : Nat) (a0 : ((List Int) × (List Int))) (m0 : T_9fe11e) : Option.bind (tree K k a0 m0) h = tree (fun b0 b1 => Option.bind (K b0 b1) h) k a0 m0 := by
  simp only [tree, bif_bind, sel_bind', Option.bind_assoc, Option.bind_none, Option.bind_some]
abbrev ps : List Sh := [.data (.pair .str .str)]
abbrev hs : List (Nat × ESh) := [(0, .glob 0 (.pair .str (.pair .str (.pair .str (.pair .str (.pair .str (.pair .str (.pair .str (.pair .str .str)))))))))]
abbrev hi : List Nat := hs.map (·.1)
abbrev fi : List Nat := [0]
abbrev cl : List (Place × Nat × Hint) := []
abbrev hn : List Hint := [(.norm (.pair (.int .i64) (.pair (.int .i64) (.pair (.int .i64) (.pair (.int .i64) (.pair (.int .i64) (.pair (.row 28 (.arr .u8 32)) (.pair (.arr .u8 32) (.row 52 (.pair (.int .i64) (.pair (.arr .u8 32) (.pair (.arr .u8 32) (.pair (.int .i64) (.pair (.int .i64) (.int .i64))))))))))))))), .any]
def val (t : (T_85bbee × Int)) : AV := .tcons (Sh.mk (.data (.pair (.int .i64) (.pair (.int .i64) (.pair (.int .i64) (.pair (.int .i64) (.pair (.int .i64) (.pair (.row 28 (.arr .u8 32)) (.pair (.arr .u8 32) (.row 52 (.pair (.int .i64) (.pair (.arr .u8 32) (.pair (.arr .u8 32) (.pair (.int .i64) (.pair (.int .i64) (.int .i64))))))))))))))) t.1) (.tcons (Sh.mk (.data (.int .i64)) t.2) .tnil)
def wr (t : (T_85bbee × Int)) : Heap := []
def callee (k : Nat) : Callee := sigCallee ps hs (fun (d : (((List Int) × (List Int)) × Unit)) (e : (T_9fe11e × Unit)) => f k d.1 e.1) val wr
def E (k : Nat) : Env := ⟨fnTab [(11, [speech_Kind.callee k]), (33, [scroll_On.callee k]), (34, [scroll_Eye_Get.callee k]), (40, [scroll_Eye_Done.callee k]), (35, [speech_some_api_Hash.callee k, speech_some_api_Hash_v1.callee k]), (36, [scroll_Eye_Name.callee k]), (37, [speech_some_api_Header.callee k])], loopTab [], natsTab [(11, [0])], natTab [(0, 0)]⟩
theorem fE (k : Nat) : ∀ f, ∀ c ∈ (E k).fn f, CalleeOK Tryd.prog f c := fnTab_ok ⟨⟨speech_Kind.ok k, trivial⟩, ⟨scroll_On.ok k, trivial⟩, ⟨scroll_Eye_Get.ok k, trivial⟩, ⟨scroll_Eye_Done.ok k, trivial⟩, ⟨speech_some_api_Hash.ok k, speech_some_api_Hash_v1.ok k, trivial⟩, ⟨scroll_Eye_Name.ok k, trivial⟩, ⟨speech_some_api_Header.ok k, trivial⟩, trivial⟩
theorem run (k : Nat) (d : (((List Int) × (List Int)) × Unit)) (e : (T_9fe11e × Unit)) : runFn Tryd.prog (E k) 65 (bodyOf Tryd.f18) Tryd.f18.results.toList cl hn hi (mkL ps d) (mkH hs e) =
    tree (fun b0 b1 => leafFn hs fi e val wr (b0, b1)) k d.1 e.1 := by kernel_rfl
theorem run_f (k : Nat) (d : (((List Int) × (List Int)) × Unit)) (e : (T_9fe11e × Unit)) : runFn Tryd.prog (E k) 65 (bodyOf Tryd.f18) Tryd.f18.results.toList cl hn hi (mkL ps d) (mkH hs e) = (f k d.1 e.1).bind (leafFn hs fi e val wr) :=
  (run k d e).trans (tree_nat (leafFn hs fi e val wr) (fun b0 b1 => some (b0, b1)) k d.1 e.1).symm
theorem fnIs : FnIs Tryd.prog 18 Tryd.f18 (bodyOf Tryd.f18) 65 := ⟨by kernel_rfl, by kernel_rfl, by kernel_rfl, by kernel_rfl⟩
theorem ok (k : Nat) : CalleeOK Tryd.prog 18 (callee k) :=
  callee_sig (T := (T_85bbee × Int)) fnIs hm (fE k) (loopsOK_of [] (by kernel_rfl) trivial) ps hs cl hn fi (fun (d : (((List Int) × (List Int)) × Unit)) (e : (T_9fe11e × Unit)) => f k d.1 e.1) val wr rfl (fun _ => rfl) (run_f k)
end speech_Read
namespace trailheadlaw08_SpeechReads
def tree {X : Type} (K : Bool → Option X) (k : Nat) (a0 : (List Int)) (a1 : (List Int)) (m0 : T_9fe11e) (m1 : (List Int)) (m2 : (List Int)) : Option X :=
  (Option.bind (trailheadlaw08_alive.f k m0 m1 m2) (fun r1 => (bif (!r1) then (K false) else (bif (decide (((List.length a1) : Int) > (8192 : Int))) then (K true) else (bif (decide (((List.length a0) : Int) > (100 : Int))) then (K true) else (Option.bind (speech_Read.f k ((a0, a1) : ((List Int) × (List Int))) m0) (fun r2 => (Option.bind (trailheadref08_Kind.f k a0) (fun r3 => (bif (r3 == (0 : Int)) then (bif (r2.2 == (5 : Int)) then (K (r2.1.1 == (0 : Int))) else (K false)) else (bif (r2.2 != (0 : Int)) then (bif (r2.2 == (4 : Int)) then (bif (r2.1.1 == (0 : Int)) then (K ((addI .i64 ((List.length r2.1.2.2.2.2.2.1) : Int) ((List.length r2.1.2.2.2.2.2.2.2) : Int)) == (0 : Int))) else (K false)) else (K false)) else (bif (r2.1.1 == r3) then (Option.bind (trailheadref08_Good.f k r2.1) (fun r4 => (bif r4 then (Option.bind (trailheadref08_Payload.f k r2.1) (fun r5 => (K (decide (r5 = a1))))) else (K false)))) else (K false)))))))))))))
def f (k : Nat) (a0 : (List Int)) (a1 : (List Int)) (m0 : T_9fe11e) (m1 : (List Int)) (m2 : (List Int)) : Option Bool := tree (fun b0 => some b0) k a0 a1 m0 m1 m2
theorem tree_nat {X Y : Type} (h : X → Option Y) (K : Bool → Option X) (k : Nat) (a0 : (List Int)) (a1 : (List Int)) (m0 : T_9fe11e) (m1 : (List Int)) (m2 : (List Int)) : Option.bind (tree K k a0 a1 m0 m1 m2) h = tree (fun b0 => Option.bind (K b0) h) k a0 a1 m0 m1 m2 := by
  simp only [tree, bif_bind, sel_bind', Option.bind_assoc, Option.bind_none, Option.bind_some]
abbrev ps : List Sh := [.data .str, .data .str]
abbrev hs : List (Nat × ESh) := [(0, .glob 0 (.pair .str (.pair .str (.pair .str (.pair .str (.pair .str (.pair .str (.pair .str (.pair .str .str))))))))), (1, .glob 2 (.arr .u32 8)), (2, .glob 3 (.arr .u32 64))]
abbrev hi : List Nat := hs.map (·.1)
abbrev fi : List Nat := [0, 1, 2]
abbrev cl : List (Place × Nat × Hint) := []
abbrev hn : List Hint := [.any]
def val (t : Bool) : AV := Sh.mk (.data .bool) t
def wr (t : Bool) : Heap := []
def callee (k : Nat) : Callee := sigCallee ps hs (fun (d : ((List Int) × (List Int) × Unit)) (e : (T_9fe11e × (List Int) × (List Int) × Unit)) => f k d.1 d.2.1 e.1 e.2.1 e.2.2.1) val wr
def E (k : Nat) : Env := ⟨fnTab [(8, [trailheadlaw08_alive.callee k]), (18, [speech_Read.callee k]), (12, [trailheadref08_Kind.callee k]), (14, [trailheadref08_Good.callee k]), (16, [trailheadref08_Payload.callee k])], loopTab [], natsTab [(8, [0, 1, 2]), (18, [0])], natTab [(0, 0), (2, 1), (3, 2)]⟩
theorem fE (k : Nat) : ∀ f, ∀ c ∈ (E k).fn f, CalleeOK Tryd.prog f c := fnTab_ok ⟨⟨trailheadlaw08_alive.ok k, trivial⟩, ⟨speech_Read.ok k, trivial⟩, ⟨trailheadref08_Kind.ok k, trivial⟩, ⟨trailheadref08_Good.ok k, trivial⟩, ⟨trailheadref08_Payload.ok k, trivial⟩, trivial⟩
theorem run (k : Nat) (d : ((List Int) × (List Int) × Unit)) (e : (T_9fe11e × (List Int) × (List Int) × Unit)) : runFn Tryd.prog (E k) 69 (bodyOf Tryd.f6) Tryd.f6.results.toList cl hn hi (mkL ps d) (mkH hs e) =
    tree (fun b0 => leafFn hs fi e val wr b0) k d.1 d.2.1 e.1 e.2.1 e.2.2.1 := by kernel_rfl
theorem run_f (k : Nat) (d : ((List Int) × (List Int) × Unit)) (e : (T_9fe11e × (List Int) × (List Int) × Unit)) : runFn Tryd.prog (E k) 69 (bodyOf Tryd.f6) Tryd.f6.results.toList cl hn hi (mkL ps d) (mkH hs e) = (f k d.1 d.2.1 e.1 e.2.1 e.2.2.1).bind (leafFn hs fi e val wr) :=
  (run k d e).trans (tree_nat (leafFn hs fi e val wr) (fun b0 => some b0) k d.1 d.2.1 e.1 e.2.1 e.2.2.1).symm
theorem fnIs : FnIs Tryd.prog 6 Tryd.f6 (bodyOf Tryd.f6) 69 := ⟨by kernel_rfl, by kernel_rfl, by kernel_rfl, by kernel_rfl⟩
theorem ok (k : Nat) : CalleeOK Tryd.prog 6 (callee k) :=
  callee_sig (T := Bool) fnIs hm (fE k) (loopsOK_of [] (by kernel_rfl) trivial) ps hs cl hn fi (fun (d : ((List Int) × (List Int) × Unit)) (e : (T_9fe11e × (List Int) × (List Int) × Unit)) => f k d.1 d.2.1 e.1 e.2.1 e.2.2.1) val wr rfl (fun _ => rfl) (run_f k)
end trailheadlaw08_SpeechReads
namespace trailheadlaw08_SpeechCuts
def tree {X : Type} (K : Bool → Option X) (k : Nat) (a0 : T_85bbee) (a1 : Int) (a2 : (List Int)) (m0 : T_9fe11e) (m1 : (List Int)) (m2 : (List Int)) : Option X :=
  (Option.bind (trailheadlaw08_alive.f k m0 m1 m2) (fun r1 => (bif (!r1) then (K false) else (Option.bind (trailheadlaw08_great.f k a0) (fun r2 => (bif r2 then (K true) else (Option.bind (trailheadref08_Good.f k a0) (fun r3 => (bif (!r3) then (K true) else (bif (decide (a2 = ([] : (List Int)))) then (K true) else (bif (decide (((List.length a2) : Int) > (100 : Int))) then (K true) else (Option.bind (trailheadref08_Payload.f k a0) (fun r4 => (Option.bind (trailheadref08_Word.f k a0.1) (fun r5 => (bif (fits ((List.length r4) + (List.length a2))) then (Option.bind (speech_Read.f k ((r5, (r4 ++ a2)) : ((List Int) × (List Int))) m0) (fun r6 => (bif (((List.length r4) : Int) == (0 : Int)) then (K (r6.2 == (4 : Int))) else (bif (decide ((IntKind.wrap .u64 ((List.length r4) : Int)) = 0)) then none else (bif (decide (0 ≤ (IntKind.wrap .i64 (remI (IntKind.wrap .u64 a1) (IntKind.wrap .u64 ((List.length r4) : Int)))))) then (bif (decide ((IntKind.wrap .i64 (remI (IntKind.wrap .u64 a1) (IntKind.wrap .u64 ((List.length r4) : Int)))) ≤ ((List.length r4) : Int))) then (Option.bind (speech_Read.f k ((r5, (List.take (Int.toNat (IntKind.wrap .i64 (remI (IntKind.wrap .u64 a1) (IntKind.wrap .u64 ((List.length r4) : Int))))) r4)) : ((List Int) × (List Int))) m0) (fun r7 => (bif (r6.2 == (4 : Int)) then (K (r7.2 == (4 : Int))) else (K false)))) else none) else none))))) else none))))))))))))))))
def f (k : Nat) (a0 : T_85bbee) (a1 : Int) (a2 : (List Int)) (m0 : T_9fe11e) (m1 : (List Int)) (m2 : (List Int)) : Option Bool := tree (fun b0 => some b0) k a0 a1 a2 m0 m1 m2
theorem tree_nat {X Y : Type} (h : X → Option Y) (K : Bool → Option X) (k : Nat) (a0 : T_85bbee) (a1 : Int) (a2 : (List Int)) (m0 : T_9fe11e) (m1 : (List Int)) (m2 : (List Int)) : Option.bind (tree K k a0 a1 a2 m0 m1 m2) h = tree (fun b0 => Option.bind (K b0) h) k a0 a1 a2 m0 m1 m2 := by
  simp only [tree, bif_bind, sel_bind', Option.bind_assoc, Option.bind_none, Option.bind_some]
abbrev ps : List Sh := [.data (.pair (.int .i64) (.pair (.int .i64) (.pair (.int .i64) (.pair (.int .i64) (.pair (.int .i64) (.pair (.row 28 (.arr .u8 32)) (.pair (.arr .u8 32) (.row 52 (.pair (.int .i64) (.pair (.arr .u8 32) (.pair (.arr .u8 32) (.pair (.int .i64) (.pair (.int .i64) (.int .i64)))))))))))))), .data (.int .i64), .data .str]
abbrev hs : List (Nat × ESh) := [(0, .glob 0 (.pair .str (.pair .str (.pair .str (.pair .str (.pair .str (.pair .str (.pair .str (.pair .str .str))))))))), (1, .glob 2 (.arr .u32 8)), (2, .glob 3 (.arr .u32 64))]
abbrev hi : List Nat := hs.map (·.1)
abbrev fi : List Nat := [0, 1, 2]
abbrev cl : List (Place × Nat × Hint) := []
abbrev hn : List Hint := [.any]
def val (t : Bool) : AV := Sh.mk (.data .bool) t
def wr (t : Bool) : Heap := []
def callee (k : Nat) : Callee := sigCallee ps hs (fun (d : (T_85bbee × Int × (List Int) × Unit)) (e : (T_9fe11e × (List Int) × (List Int) × Unit)) => f k d.1 d.2.1 d.2.2.1 e.1 e.2.1 e.2.2.1) val wr
def E (k : Nat) : Env := ⟨fnTab [(8, [trailheadlaw08_alive.callee k]), (13, [trailheadlaw08_great.callee k]), (14, [trailheadref08_Good.callee k]), (16, [trailheadref08_Payload.callee k]), (10, [trailheadref08_Word.callee k]), (18, [speech_Read.callee k])], loopTab [], natsTab [(8, [0, 1, 2]), (18, [0])], natTab [(0, 0), (2, 1), (3, 2)]⟩
theorem fE (k : Nat) : ∀ f, ∀ c ∈ (E k).fn f, CalleeOK Tryd.prog f c := fnTab_ok ⟨⟨trailheadlaw08_alive.ok k, trivial⟩, ⟨trailheadlaw08_great.ok k, trivial⟩, ⟨trailheadref08_Good.ok k, trivial⟩, ⟨trailheadref08_Payload.ok k, trivial⟩, ⟨trailheadref08_Word.ok k, trivial⟩, ⟨speech_Read.ok k, trivial⟩, trivial⟩
theorem run (k : Nat) (d : (T_85bbee × Int × (List Int) × Unit)) (e : (T_9fe11e × (List Int) × (List Int) × Unit)) : runFn Tryd.prog (E k) 71 (bodyOf Tryd.f7) Tryd.f7.results.toList cl hn hi (mkL ps d) (mkH hs e) =
    tree (fun b0 => leafFn hs fi e val wr b0) k d.1 d.2.1 d.2.2.1 e.1 e.2.1 e.2.2.1 := by kernel_rfl
theorem run_f (k : Nat) (d : (T_85bbee × Int × (List Int) × Unit)) (e : (T_9fe11e × (List Int) × (List Int) × Unit)) : runFn Tryd.prog (E k) 71 (bodyOf Tryd.f7) Tryd.f7.results.toList cl hn hi (mkL ps d) (mkH hs e) = (f k d.1 d.2.1 d.2.2.1 e.1 e.2.1 e.2.2.1).bind (leafFn hs fi e val wr) :=
  (run k d e).trans (tree_nat (leafFn hs fi e val wr) (fun b0 => some b0) k d.1 d.2.1 d.2.2.1 e.1 e.2.1 e.2.2.1).symm
theorem fnIs : FnIs Tryd.prog 7 Tryd.f7 (bodyOf Tryd.f7) 71 := ⟨by kernel_rfl, by kernel_rfl, by kernel_rfl, by kernel_rfl⟩
theorem ok (k : Nat) : CalleeOK Tryd.prog 7 (callee k) :=
  callee_sig (T := Bool) fnIs hm (fE k) (loopsOK_of [] (by kernel_rfl) trivial) ps hs cl hn fi (fun (d : (T_85bbee × Int × (List Int) × Unit)) (e : (T_9fe11e × (List Int) × (List Int) × Unit)) => f k d.1 d.2.1 d.2.2.1 e.1 e.2.1 e.2.2.1) val wr rfl (fun _ => rfl) (run_f k)
end trailheadlaw08_SpeechCuts
end Go.Proofs.YtkgpjplncfginaaDoor.Sy
