/- What the Go functions come to, on data: printed by sypr.py. -/
import Derived.Test.YtkgpjplncfginaaGreatDoorSy18
import Derived.Test.YtkgpjplncfginaaGreatDoorProg
import Derived.Test.YtkgpjplncfginaaGreatDoorX
namespace Go.Proofs.YtkgpjplncfginaaGreatDoor.Sy
open Go Go.Proofs
set_option maxRecDepth 100000
set_option linter.unusedVariables false
set_option linter.unusedSimpArgs false

theorem hm : Tryz.prog.follows .mixedOrders = true := by kernel_rfl
abbrev T_c9e5d2 : Type := ((List Int) × ((List Int) × (Int × (Int × Int))))
abbrev T_3d5633 : Type := (Int × T_c9e5d2)
abbrev T_4b4b42 : Type := ((List Int) × (List T_3d5633))
abbrev T_8b90c4 : Type := ((List (List Int)) × T_4b4b42)
abbrev T_625291 : Type := (Int × T_8b90c4)
abbrev T_5a8113 : Type := (Int × T_625291)
abbrev T_c2a57e : Type := (Int × T_5a8113)
abbrev T_1fb543 : Type := (Int × T_c2a57e)
abbrev T_85bbee : Type := (Int × T_1fb543)
abbrev T_69d2d6 : Type := ((List Int) × ((List Int) × (List Int)))
abbrev T_912d22 : Type := ((List Int) × T_69d2d6)
abbrev T_96dc3b : Type := ((List Int) × T_912d22)
abbrev T_eb48cc : Type := ((List Int) × T_96dc3b)
abbrev T_12fb35 : Type := ((List Int) × T_eb48cc)
abbrev T_3c5c28 : Type := ((List Int) × T_12fb35)
abbrev T_9fe11e : Type := ((List Int) × T_3c5c28)
abbrev dfl_31f8ee : T_3d5633 := ((0 : Int), (((List.replicate 32 0 : (List Int)), (((List.replicate 32 0 : (List Int)), (((0 : Int), (((0 : Int), (0 : Int)) : (Int × Int))) : (Int × (Int × Int)))) : ((List Int) × (Int × (Int × Int))))) : T_c9e5d2))
namespace speech_small
namespace l0
def step {X : Type} (K : Int → Option X) (Q : Bool → Option X) (G : Int → Option X) (k : Nat) (x0 : Int) (x8 : Int) (y0 : (List Int)) (x9 : Int) : Option X :=
  (bif (decide (x9 < x8)) then (bif (decide (0 ≤ x9)) then (bif (decide (x9 < ((List.length y0) : Int))) then (bif (decide ((Int.toNat x9) < (List.length y0))) then (bif (decide ((List.getD y0 (Int.toNat x9) (0 : Int)) < (0 : Int))) then (Q false) else (bif (decide ((mulI .i64 8 x0) < 0)) then none else (bif (decide ((List.getD y0 (Int.toNat x9) (0 : Int)) ≥ (shlI .i64 1 (mulI .i64 8 x0)))) then (Q false) else (G (addI .i64 x9 1))))) else none) else none) else none) else (K x9))
def go {X : Type} (K : Int → Option X) (Q : Bool → Option X) (k : Nat) (x0 : Int) (x8 : Int) (y0 : (List Int)) : Nat → Int → Option X
  | 0, _ => none
  | n + 1, x9 => step K Q (go K Q k x0 x8 y0 n) k x0 x8 y0 x9
def f (k : Nat) (x0 : Int) (x8 : Int) (y0 : (List Int)) (n : Nat) (x9 : Int) : Option (Int ⊕ Bool) := go (fun x9 => some (.inl x9)) (fun q0 => some (.inr q0)) k x0 x8 y0 n x9
theorem step_nat {X Y : Type} (h : X → Option Y) (K : Int → Option X) (Q : Bool → Option X) (G : Int → Option X) (k : Nat) (x0 : Int) (x8 : Int) (y0 : (List Int)) (x9 : Int) : Option.bind (step K Q G k x0 x8 y0 x9) h = step (fun x9 => Option.bind (K x9) h) (fun q0 => Option.bind (Q q0) h) (fun x9 => Option.bind (G x9) h) k x0 x8 y0 x9 := by
  simp only [step, bif_bind, sel_bind', Option.bind_assoc, Option.bind_none, Option.bind_some]
theorem go_nat {X Y : Type} (h : X → Option Y) (K : Int → Option X) (Q : Bool → Option X) (k : Nat) (x0 : Int) (x8 : Int) (y0 : (List Int)) (n : Nat) : ∀ (x9 : Int), Option.bind (go K Q k x0 x8 y0 n x9) h = go (fun x9 => Option.bind (K x9) h) (fun q0 => Option.bind (Q q0) h) k x0 x8 y0 n x9 := by
  induction n with
  | zero => intros; rfl
  | succ n ih => intro x9; show Option.bind (step K Q (go K Q k x0 x8 y0 n) k x0 x8 y0 x9) h = step (fun x9 => Option.bind (K x9) h) (fun q0 => Option.bind (Q q0) h) (go (fun x9 => Option.bind (K x9) h) (fun q0 => Option.bind (Q q0) h) k x0 x8 y0 n) k x0 x8 y0 x9; rw [step_nat h]; simp only [ih]
abbrev S : List (Nat × Sh) := [(0, .data (.int .i64)), (7, .vec 0), (8, .data (.int .i64)), (9, .data (.int .i64))]
abbrev H : List (Nat × ESh) := [(0, .rows 2 3 (.int .i64))]
abbrev cl : List (Place × Nat × Hint) := []
abbrev hn : List (Nat × Hint) := [(0, .any), (7, .any), (8, .any), (9, .any)]
abbrev kp : List Nat := [0]
abbrev rc : List (Place × Nat × Hint) := []
abbrev rs : List (Nat × Hint) := [(4, .any)]
abbrev ri : List Nat := [0]
def KX (d : (Int × Unit × Int × Int × Unit)) (e : ((List Int) × Unit)) (v : Int) : St := ⟨mkS S (d.1, (), d.2.2.1, v, ()), mkH H (e.1, ())⟩
abbrev RS : List (Nat × Sh) := [(4, .data .bool)]
abbrev RH : List (Nat × ESh) := [(0, .rows 2 3 (.int .i64))]
def RX (d : (Int × Unit × Int × Int × Unit)) (e : ((List Int) × Unit)) (v : Bool) : St := ⟨mkS RS (v, ()), mkH RH (e.1, ())⟩
def sum (k : Nat) : LoopSum := sigLoop S cl hn kp H 0 (fun (d : (Int × Unit × Int × Int × Unit)) (e : ((List Int) × Unit)) => f k d.1 d.2.2.1 e.1 k d.2.2.2.1) KX RX
end l0
def tree {X : Type} (K : Bool → Option X) (k : Nat) (a0 : Int) (m0 : (List Int)) : Option X :=
  (Option.bind (speech_small.l0.f k a0 ((List.length m0) : Int) m0 k (0 : Int)) (fun r1 => sel r1 (fun v2 => (K true)) (fun q3 => (K q3))))
def f (k : Nat) (a0 : Int) (m0 : (List Int)) : Option Bool := tree (fun b0 => some b0) k a0 m0
theorem tree_nat {X Y : Type} (h : X → Option Y) (K : Bool → Option X) (k : Nat) (a0 : Int) (m0 : (List Int)) : Option.bind (tree K k a0 m0) h = tree (fun b0 => Option.bind (K b0) h) k a0 m0 := by
  simp only [tree, bif_bind, sel_bind', Option.bind_assoc, Option.bind_none, Option.bind_some]
abbrev ps : List Sh := [.data (.int .i64), .vec 0]
abbrev hs : List (Nat × ESh) := [(0, .rows 2 3 (.int .i64))]
abbrev hi : List Nat := hs.map (·.1)
abbrev fi : List Nat := [0]
abbrev cl : List (Place × Nat × Hint) := []
abbrev hn : List Hint := [.any]
def val (t : Bool) : AV := Sh.mk (.data .bool) t
def wr (t : Bool) : Heap := []
def callee (k : Nat) : Callee := sigCallee ps hs (fun (d : (Int × Unit × Unit)) (e : ((List Int) × Unit)) => f k d.1 e.1) val wr
def E (k : Nat) : Env := ⟨fnTab [], loopTab [(0, l0.sum k)], natsTab [], natTab []⟩
theorem fE (k : Nat) : ∀ f, ∀ c ∈ (E k).fn f, CalleeOK Tryz.prog f c := fnTab_ok trivial
namespace l0
theorem round (k : Nat) (d : (Int × Unit × Int × Int × Unit)) (e : ((List Int) × Unit)) (G : St → Option (Ex × St)) : roundK Tryz.prog (E k) 23 0 (subC (bodyOf Tryz.f20) [1, 0, 1, 0, 0]) (recast cl hn kp) (finBy cl hn kp rc rs ri) G ⟨mkS S d, mkH H e⟩ =
    step (fun x9 => some (.exit 0, KX d e x9)) (fun q0 => some (.ret, RX d e q0)) (fun x9 => G ⟨mkS S (d.1, (), d.2.2.1, x9, ()), mkH H (e.1, ())⟩) k d.1 d.2.2.1 e.1 d.2.2.2.1 := by kernel_rfl
theorem it (k n : Nat) (d : (Int × Unit × Int × Int × Unit)) (e : ((List Int) × Unit)) : loopIt Tryz.prog (E k) 23 0 (subC (bodyOf Tryz.f20) [1, 0, 1, 0, 0]) (recast cl hn kp) (finBy cl hn kp rc rs ri) n ⟨mkS S d, mkH H e⟩ = go (fun x9 => some (.exit 0, KX d e x9)) (fun q0 => some (.ret, RX d e q0)) k d.1 d.2.2.1 e.1 n d.2.2.2.1 :=
  loopIt_eq (D := (Int × Unit × Int × Int × Unit) × ((List Int) × Unit)) (fun p => ⟨mkS S p.1, mkH H p.2⟩) (fun F p => step (fun x9 => some (.exit 0, KX p.1 p.2 x9)) (fun q0 => some (.ret, RX p.1 p.2 q0)) (fun x9 => F ((p.1.1, (), p.1.2.2.1, x9, ()), (p.2.1, ()))) k p.1.1 p.1.2.2.1 p.2.1 p.1.2.2.2.1) (fun n p => go (fun x9 => some (.exit 0, KX p.1 p.2 x9)) (fun q0 => some (.ret, RX p.1 p.2 q0)) k p.1.1 p.1.2.2.1 p.2.1 n p.1.2.2.2.1) (fun _ => rfl) (fun _ _ => rfl) (fun G p => round k p.1 p.2 G) n (d, e)
theorem ok (k : Nat) : LoopOK Tryz.prog 23 (subC (bodyOf Tryz.f20) [1, 0, 1, 0, 0]) (sum k) :=
  loop_sig hm (fE k) (loopsOK_of [] (by kernel_rfl) trivial) S cl hn kp H 0 (fun (d : (Int × Unit × Int × Int × Unit)) (e : ((List Int) × Unit)) => f k d.1 d.2.2.1 e.1 k d.2.2.2.1) KX RX cl hn kp rc rs ri k
    (fun d e => (it k k d e).trans (go_nat (exitOf 0 (KX d e) (RX d e)) (fun x9 => some (.inl x9)) (fun q0 => some (.inr q0)) k d.1 d.2.2.1 e.1 k d.2.2.2.1).symm)
end l0
theorem run (k : Nat) (d : (Int × Unit × Unit)) (e : ((List Int) × Unit)) : runFn Tryz.prog (E k) 23 (bodyOf Tryz.f20) Tryz.f20.results.toList cl hn hi (mkL ps d) (mkH hs e) =
    tree (fun b0 => leafFn hs fi e val wr b0) k d.1 e.1 := by kernel_rfl
theorem run_f (k : Nat) (d : (Int × Unit × Unit)) (e : ((List Int) × Unit)) : runFn Tryz.prog (E k) 23 (bodyOf Tryz.f20) Tryz.f20.results.toList cl hn hi (mkL ps d) (mkH hs e) = (f k d.1 e.1).bind (leafFn hs fi e val wr) :=
  (run k d e).trans (tree_nat (leafFn hs fi e val wr) (fun b0 => some b0) k d.1 e.1).symm
theorem fnIs : FnIs Tryz.prog 20 Tryz.f20 (bodyOf Tryz.f20) 23 := ⟨by kernel_rfl, by kernel_rfl, by kernel_rfl, by kernel_rfl⟩
theorem ok (k : Nat) : CalleeOK Tryz.prog 20 (callee k) :=
  callee_sig (T := Bool) fnIs hm (fE k) (loopsOK_of [(0, subC (bodyOf Tryz.f20) [1, 0, 1, 0, 0])] (by kernel_rfl) ⟨of_loop (l0.sum k) rfl (l0.ok k), trivial⟩) ps hs cl hn fi (fun (d : (Int × Unit × Unit)) (e : ((List Int) × Unit)) => f k d.1 e.1) val wr rfl (fun _ => rfl) (run_f k)
end speech_small
namespace compact_Good
def tree {X : Type} (K : Bool → Option X) (k : Nat) (a0 : Int) : Option X :=
  (bif (decide (a0 ≥ (0 : Int))) then (K (decide (a0 ≤ (4294967295 : Int)))) else (K false))
def f (k : Nat) (a0 : Int) : Option Bool := tree (fun b0 => some b0) k a0
theorem tree_nat {X Y : Type} (h : X → Option Y) (K : Bool → Option X) (k : Nat) (a0 : Int) : Option.bind (tree K k a0) h = tree (fun b0 => Option.bind (K b0) h) k a0 := by
  simp only [tree, bif_bind, sel_bind', Option.bind_assoc, Option.bind_none, Option.bind_some]
abbrev ps : List Sh := [.data (.int .i64)]
abbrev hs : List (Nat × ESh) := []
abbrev hi : List Nat := hs.map (·.1)
abbrev fi : List Nat := []
abbrev cl : List (Place × Nat × Hint) := []
abbrev hn : List Hint := [.any]
def val (t : Bool) : AV := Sh.mk (.data .bool) t
def wr (t : Bool) : Heap := []
def callee (k : Nat) : Callee := sigCallee ps hs (fun (d : (Int × Unit)) (e : Unit) => f k d.1) val wr
def E (k : Nat) : Env := ⟨fnTab [], loopTab [], natsTab [], natTab []⟩
theorem fE (k : Nat) : ∀ f, ∀ c ∈ (E k).fn f, CalleeOK Tryz.prog f c := fnTab_ok trivial
theorem run (k : Nat) (d : (Int × Unit)) (e : Unit) : runFn Tryz.prog (E k) 9 (bodyOf Tryz.f51) Tryz.f51.results.toList cl hn hi (mkL ps d) (mkH hs e) =
    tree (fun b0 => leafFn hs fi e val wr b0) k d.1 := by kernel_rfl
theorem run_f (k : Nat) (d : (Int × Unit)) (e : Unit) : runFn Tryz.prog (E k) 9 (bodyOf Tryz.f51) Tryz.f51.results.toList cl hn hi (mkL ps d) (mkH hs e) = (f k d.1).bind (leafFn hs fi e val wr) :=
  (run k d e).trans (tree_nat (leafFn hs fi e val wr) (fun b0 => some b0) k d.1).symm
theorem fnIs : FnIs Tryz.prog 51 Tryz.f51 (bodyOf Tryz.f51) 9 := ⟨by kernel_rfl, by kernel_rfl, by kernel_rfl, by kernel_rfl⟩
theorem ok (k : Nat) : CalleeOK Tryz.prog 51 (callee k) :=
  callee_sig (T := Bool) fnIs hm (fE k) (loopsOK_of [] (by kernel_rfl) trivial) ps hs cl hn fi (fun (d : (Int × Unit)) (e : Unit) => f k d.1) val wr rfl (fun _ => rfl) (run_f k)
end compact_Good
namespace header_Good
def tree {X : Type} (K : Bool → Option X) (k : Nat) (a0 : T_3d5633) : Option X :=
  (bif (decide (a0.1 ≥ ((-2147483648) : Int))) then (bif (decide (a0.1 < (2147483648 : Int))) then (bif (decide (a0.2.2.2.1 ≥ (0 : Int))) then (bif (decide (a0.2.2.2.1 < (4294967296 : Int))) then (Option.bind (compact_Good.f k a0.2.2.2.2.1) (fun r1 => (bif r1 then (bif (decide (a0.2.2.2.2.2 ≥ (0 : Int))) then (K (decide (a0.2.2.2.2.2 < (4294967296 : Int)))) else (K false)) else (K false)))) else (K false)) else (K false)) else (K false)) else (K false))
def f (k : Nat) (a0 : T_3d5633) : Option Bool := tree (fun b0 => some b0) k a0
theorem tree_nat {X Y : Type} (h : X → Option Y) (K : Bool → Option X) (k : Nat) (a0 : T_3d5633) : Option.bind (tree K k a0) h = tree (fun b0 => Option.bind (K b0) h) k a0 := by
  simp only [tree, bif_bind, sel_bind', Option.bind_assoc, Option.bind_none, Option.bind_some]
abbrev ps : List Sh := [.data (.pair (.int .i64) (.pair (.arr .u8 32) (.pair (.arr .u8 32) (.pair (.int .i64) (.pair (.int .i64) (.int .i64))))))]
abbrev hs : List (Nat × ESh) := []
abbrev hi : List Nat := hs.map (·.1)
abbrev fi : List Nat := []
abbrev cl : List (Place × Nat × Hint) := []
abbrev hn : List Hint := [.any]
def val (t : Bool) : AV := Sh.mk (.data .bool) t
def wr (t : Bool) : Heap := []
def callee (k : Nat) : Callee := sigCallee ps hs (fun (d : (T_3d5633 × Unit)) (e : Unit) => f k d.1) val wr
def E (k : Nat) : Env := ⟨fnTab [(51, [compact_Good.callee k])], loopTab [], natsTab [], natTab []⟩
theorem fE (k : Nat) : ∀ f, ∀ c ∈ (E k).fn f, CalleeOK Tryz.prog f c := fnTab_ok ⟨⟨compact_Good.ok k, trivial⟩, trivial⟩
theorem run (k : Nat) (d : (T_3d5633 × Unit)) (e : Unit) : runFn Tryz.prog (E k) 36 (bodyOf Tryz.f23) Tryz.f23.results.toList cl hn hi (mkL ps d) (mkH hs e) =
    tree (fun b0 => leafFn hs fi e val wr b0) k d.1 := by kernel_rfl
theorem run_f (k : Nat) (d : (T_3d5633 × Unit)) (e : Unit) : runFn Tryz.prog (E k) 36 (bodyOf Tryz.f23) Tryz.f23.results.toList cl hn hi (mkL ps d) (mkH hs e) = (f k d.1).bind (leafFn hs fi e val wr) :=
  (run k d e).trans (tree_nat (leafFn hs fi e val wr) (fun b0 => some b0) k d.1).symm
theorem fnIs : FnIs Tryz.prog 23 Tryz.f23 (bodyOf Tryz.f23) 36 := ⟨by kernel_rfl, by kernel_rfl, by kernel_rfl, by kernel_rfl⟩
theorem ok (k : Nat) : CalleeOK Tryz.prog 23 (callee k) :=
  callee_sig (T := Bool) fnIs hm (fE k) (loopsOK_of [] (by kernel_rfl) trivial) ps hs cl hn fi (fun (d : (T_3d5633 × Unit)) (e : Unit) => f k d.1) val wr rfl (fun _ => rfl) (run_f k)
end header_Good
namespace speech_Good_1
def tree {X : Type} (K : Bool → Option X) (k : Nat) (a0 : T_3d5633) : Option X :=
  (Option.bind (header_Good.f k a0) (fun r1 => (K (!r1))))
def f (k : Nat) (a0 : T_3d5633) : Option Bool := tree (fun b0 => some b0) k a0
theorem tree_nat {X Y : Type} (h : X → Option Y) (K : Bool → Option X) (k : Nat) (a0 : T_3d5633) : Option.bind (tree K k a0) h = tree (fun b0 => Option.bind (K b0) h) k a0 := by
  simp only [tree, bif_bind, sel_bind', Option.bind_assoc, Option.bind_none, Option.bind_some]
abbrev ps : List Sh := [.data (.pair (.int .i64) (.pair (.arr .u8 32) (.pair (.arr .u8 32) (.pair (.int .i64) (.pair (.int .i64) (.int .i64))))))]
abbrev hs : List (Nat × ESh) := []
abbrev hi : List Nat := hs.map (·.1)
abbrev fi : List Nat := []
abbrev cl : List (Place × Nat × Hint) := []
abbrev hn : List Hint := [.any]
def val (t : Bool) : AV := Sh.mk (.data .bool) t
def wr (t : Bool) : Heap := []
def callee (k : Nat) : Callee := sigCallee ps hs (fun (d : (T_3d5633 × Unit)) (e : Unit) => f k d.1) val wr
def E (k : Nat) : Env := ⟨fnTab [(23, [header_Good.callee k])], loopTab [], natsTab [], natTab []⟩
theorem fE (k : Nat) : ∀ f, ∀ c ∈ (E k).fn f, CalleeOK Tryz.prog f c := fnTab_ok ⟨⟨header_Good.ok k, trivial⟩, trivial⟩
theorem run (k : Nat) (d : (T_3d5633 × Unit)) (e : Unit) : runFn Tryz.prog (E k) 6 (bodyOf Tryz.f22) Tryz.f22.results.toList cl hn hi (mkL ps d) (mkH hs e) =
    tree (fun b0 => leafFn hs fi e val wr b0) k d.1 := by kernel_rfl
theorem run_f (k : Nat) (d : (T_3d5633 × Unit)) (e : Unit) : runFn Tryz.prog (E k) 6 (bodyOf Tryz.f22) Tryz.f22.results.toList cl hn hi (mkL ps d) (mkH hs e) = (f k d.1).bind (leafFn hs fi e val wr) :=
  (run k d e).trans (tree_nat (leafFn hs fi e val wr) (fun b0 => some b0) k d.1).symm
theorem fnIs : FnIs Tryz.prog 22 Tryz.f22 (bodyOf Tryz.f22) 6 := ⟨by kernel_rfl, by kernel_rfl, by kernel_rfl, by kernel_rfl⟩
theorem ok (k : Nat) : CalleeOK Tryz.prog 22 (callee k) :=
  callee_sig (T := Bool) fnIs hm (fE k) (loopsOK_of [] (by kernel_rfl) trivial) ps hs cl hn fi (fun (d : (T_3d5633 × Unit)) (e : Unit) => f k d.1) val wr rfl (fun _ => rfl) (run_f k)
end speech_Good_1
namespace slices_IndexFunc_api_Header_api_Header_v1
namespace l0
def step {X : Type} (K : Int → Option X) (Q : Int → Option X) (G : Int → Option X) (k : Nat) (x7 : Int) (y0 : (List T_3d5633)) (x8 : Int) : Option X :=
  (bif (decide (x8 < x7)) then (bif (decide (0 ≤ x8)) then (bif (decide (x8 < ((List.length y0) : Int))) then (bif (decide ((Int.toNat x8) < (List.length y0))) then (Option.bind (speech_Good_1.f k ((((List.getD y0 (Int.toNat x8) dfl_31f8ee)).1, ((((List.getD y0 (Int.toNat x8) dfl_31f8ee)).2).1, (((((List.getD y0 (Int.toNat x8) dfl_31f8ee)).2).2).1, ((((((List.getD y0 (Int.toNat x8) dfl_31f8ee)).2).2).2).1, ((((((List.getD y0 (Int.toNat x8) dfl_31f8ee)).2).2).2).2))))) : T_3d5633)) (fun r1 => (bif r1 then (Q x8) else (G (addI .i64 x8 1))))) else none) else none) else none) else (K x8))
def go {X : Type} (K : Int → Option X) (Q : Int → Option X) (k : Nat) (x7 : Int) (y0 : (List T_3d5633)) : Nat → Int → Option X
  | 0, _ => none
  | n + 1, x8 => step K Q (go K Q k x7 y0 n) k x7 y0 x8
def f (k : Nat) (x7 : Int) (y0 : (List T_3d5633)) (n : Nat) (x8 : Int) : Option (Int ⊕ Int) := go (fun x8 => some (.inl x8)) (fun q0 => some (.inr q0)) k x7 y0 n x8
theorem step_nat {X Y : Type} (h : X → Option Y) (K : Int → Option X) (Q : Int → Option X) (G : Int → Option X) (k : Nat) (x7 : Int) (y0 : (List T_3d5633)) (x8 : Int) : Option.bind (step K Q G k x7 y0 x8) h = step (fun x8 => Option.bind (K x8) h) (fun q0 => Option.bind (Q q0) h) (fun x8 => Option.bind (G x8) h) k x7 y0 x8 := by
  simp only [step, bif_bind, sel_bind', Option.bind_assoc, Option.bind_none, Option.bind_some]
theorem go_nat {X Y : Type} (h : X → Option Y) (K : Int → Option X) (Q : Int → Option X) (k : Nat) (x7 : Int) (y0 : (List T_3d5633)) (n : Nat) : ∀ (x8 : Int), Option.bind (go K Q k x7 y0 n x8) h = go (fun x8 => Option.bind (K x8) h) (fun q0 => Option.bind (Q q0) h) k x7 y0 n x8 := by
  induction n with
  | zero => intros; rfl
  | succ n ih => intro x8; show Option.bind (step K Q (go K Q k x7 y0 n) k x7 y0 x8) h = step (fun x8 => Option.bind (K x8) h) (fun q0 => Option.bind (Q q0) h) (go (fun x8 => Option.bind (K x8) h) (fun q0 => Option.bind (Q q0) h) k x7 y0 n) k x7 y0 x8; rw [step_nat h]; simp only [ih]
abbrev S : List (Nat × Sh) := [(0, .vec 0), (1, .fn 22), (7, .data (.int .i64)), (8, .data (.int .i64))]
abbrev H : List (Nat × ESh) := [(0, .rows 0 44 (.pair (.int .i64) (.pair (.arr .u8 32) (.pair (.arr .u8 32) (.pair (.int .i64) (.pair (.int .i64) (.int .i64)))))))]
abbrev cl : List (Place × Nat × Hint) := []
abbrev hn : List (Nat × Hint) := [(0, .any), (1, .any), (7, .any), (8, .any)]
abbrev kp : List Nat := [0]
abbrev rc : List (Place × Nat × Hint) := []
abbrev rs : List (Nat × Hint) := [(4, .any)]
abbrev ri : List Nat := [0]
def KX (d : (Unit × Unit × Int × Int × Unit)) (e : ((List T_3d5633) × Unit)) (v : Int) : St := ⟨mkS S ((), (), d.2.2.1, v, ()), mkH H (e.1, ())⟩
abbrev RS : List (Nat × Sh) := [(4, .data (.int .i64))]
abbrev RH : List (Nat × ESh) := [(0, .rows 0 44 (.pair (.int .i64) (.pair (.arr .u8 32) (.pair (.arr .u8 32) (.pair (.int .i64) (.pair (.int .i64) (.int .i64)))))))]
def RX (d : (Unit × Unit × Int × Int × Unit)) (e : ((List T_3d5633) × Unit)) (v : Int) : St := ⟨mkS RS (v, ()), mkH RH (e.1, ())⟩
def sum (k : Nat) : LoopSum := sigLoop S cl hn kp H 0 (fun (d : (Unit × Unit × Int × Int × Unit)) (e : ((List T_3d5633) × Unit)) => f k d.2.2.1 e.1 k d.2.2.2.1) KX RX
end l0
def tree {X : Type} (K : Int → Option X) (k : Nat) (m0 : (List T_3d5633)) : Option X :=
  (Option.bind (slices_IndexFunc_api_Header_api_Header_v1.l0.f k ((List.length m0) : Int) m0 k (0 : Int)) (fun r2 => sel r2 (fun v3 => (K ((-1) : Int))) (fun q4 => (K q4))))
def f (k : Nat) (m0 : (List T_3d5633)) : Option Int := tree (fun b0 => some b0) k m0
theorem tree_nat {X Y : Type} (h : X → Option Y) (K : Int → Option X) (k : Nat) (m0 : (List T_3d5633)) : Option.bind (tree K k m0) h = tree (fun b0 => Option.bind (K b0) h) k m0 := by
  simp only [tree, bif_bind, sel_bind', Option.bind_assoc, Option.bind_none, Option.bind_some]
abbrev ps : List Sh := [.vec 0, .fn 22]
abbrev hs : List (Nat × ESh) := [(0, .rows 0 44 (.pair (.int .i64) (.pair (.arr .u8 32) (.pair (.arr .u8 32) (.pair (.int .i64) (.pair (.int .i64) (.int .i64)))))))]
abbrev hi : List Nat := hs.map (·.1)
abbrev fi : List Nat := [0]
abbrev cl : List (Place × Nat × Hint) := []
abbrev hn : List Hint := [.any]
def val (t : Int) : AV := Sh.mk (.data (.int .i64)) t
def wr (t : Int) : Heap := []
def callee (k : Nat) : Callee := sigCallee ps hs (fun (d : (Unit × Unit × Unit)) (e : ((List T_3d5633) × Unit)) => f k e.1) val wr
def E (k : Nat) : Env := ⟨fnTab [(22, [speech_Good_1.callee k])], loopTab [(0, l0.sum k)], natsTab [], natTab []⟩
theorem fE (k : Nat) : ∀ f, ∀ c ∈ (E k).fn f, CalleeOK Tryz.prog f c := fnTab_ok ⟨⟨speech_Good_1.ok k, trivial⟩, trivial⟩
namespace l0
theorem round (k : Nat) (d : (Unit × Unit × Int × Int × Unit)) (e : ((List T_3d5633) × Unit)) (G : St → Option (Ex × St)) : roundK Tryz.prog (E k) 19 0 (subC (bodyOf Tryz.f50) [1, 0, 1, 0, 0]) (recast cl hn kp) (finBy cl hn kp rc rs ri) G ⟨mkS S d, mkH H e⟩ =
    step (fun x8 => some (.exit 0, KX d e x8)) (fun q0 => some (.ret, RX d e q0)) (fun x8 => G ⟨mkS S ((), (), d.2.2.1, x8, ()), mkH H (e.1, ())⟩) k d.2.2.1 e.1 d.2.2.2.1 := by kernel_rfl
theorem it (k n : Nat) (d : (Unit × Unit × Int × Int × Unit)) (e : ((List T_3d5633) × Unit)) : loopIt Tryz.prog (E k) 19 0 (subC (bodyOf Tryz.f50) [1, 0, 1, 0, 0]) (recast cl hn kp) (finBy cl hn kp rc rs ri) n ⟨mkS S d, mkH H e⟩ = go (fun x8 => some (.exit 0, KX d e x8)) (fun q0 => some (.ret, RX d e q0)) k d.2.2.1 e.1 n d.2.2.2.1 :=
  loopIt_eq (D := (Unit × Unit × Int × Int × Unit) × ((List T_3d5633) × Unit)) (fun p => ⟨mkS S p.1, mkH H p.2⟩) (fun F p => step (fun x8 => some (.exit 0, KX p.1 p.2 x8)) (fun q0 => some (.ret, RX p.1 p.2 q0)) (fun x8 => F (((), (), p.1.2.2.1, x8, ()), (p.2.1, ()))) k p.1.2.2.1 p.2.1 p.1.2.2.2.1) (fun n p => go (fun x8 => some (.exit 0, KX p.1 p.2 x8)) (fun q0 => some (.ret, RX p.1 p.2 q0)) k p.1.2.2.1 p.2.1 n p.1.2.2.2.1) (fun _ => rfl) (fun _ _ => rfl) (fun G p => round k p.1 p.2 G) n (d, e)
theorem ok (k : Nat) : LoopOK Tryz.prog 19 (subC (bodyOf Tryz.f50) [1, 0, 1, 0, 0]) (sum k) :=
  loop_sig hm (fE k) (loopsOK_of [] (by kernel_rfl) trivial) S cl hn kp H 0 (fun (d : (Unit × Unit × Int × Int × Unit)) (e : ((List T_3d5633) × Unit)) => f k d.2.2.1 e.1 k d.2.2.2.1) KX RX cl hn kp rc rs ri k
    (fun d e => (it k k d e).trans (go_nat (exitOf 0 (KX d e) (RX d e)) (fun x8 => some (.inl x8)) (fun q0 => some (.inr q0)) k d.2.2.1 e.1 k d.2.2.2.1).symm)
end l0
theorem run (k : Nat) (d : (Unit × Unit × Unit)) (e : ((List T_3d5633) × Unit)) : runFn Tryz.prog (E k) 19 (bodyOf Tryz.f50) Tryz.f50.results.toList cl hn hi (mkL ps d) (mkH hs e) =
    tree (fun b0 => leafFn hs fi e val wr b0) k e.1 := by kernel_rfl
theorem run_f (k : Nat) (d : (Unit × Unit × Unit)) (e : ((List T_3d5633) × Unit)) : runFn Tryz.prog (E k) 19 (bodyOf Tryz.f50) Tryz.f50.results.toList cl hn hi (mkL ps d) (mkH hs e) = (f k e.1).bind (leafFn hs fi e val wr) :=
  (run k d e).trans (tree_nat (leafFn hs fi e val wr) (fun b0 => some b0) k e.1).symm
theorem fnIs : FnIs Tryz.prog 50 Tryz.f50 (bodyOf Tryz.f50) 19 := ⟨by kernel_rfl, by kernel_rfl, by kernel_rfl, by kernel_rfl⟩
theorem ok (k : Nat) : CalleeOK Tryz.prog 50 (callee k) :=
  callee_sig (T := Int) fnIs hm (fE k) (loopsOK_of [(0, subC (bodyOf Tryz.f50) [1, 0, 1, 0, 0])] (by kernel_rfl) ⟨of_loop (l0.sum k) rfl (l0.ok k), trivial⟩) ps hs cl hn fi (fun (d : (Unit × Unit × Unit)) (e : ((List T_3d5633) × Unit)) => f k e.1) val wr rfl (fun _ => rfl) (run_f k)
end slices_IndexFunc_api_Header_api_Header_v1
namespace slices_ContainsFunc_api_Header_api_Header_v1
def tree {X : Type} (K : Bool → Option X) (k : Nat) (m0 : (List T_3d5633)) : Option X :=
  (Option.bind (slices_IndexFunc_api_Header_api_Header_v1.f k m0) (fun r1 => (K (decide (r1 ≥ (0 : Int))))))
def f (k : Nat) (m0 : (List T_3d5633)) : Option Bool := tree (fun b0 => some b0) k m0
theorem tree_nat {X Y : Type} (h : X → Option Y) (K : Bool → Option X) (k : Nat) (m0 : (List T_3d5633)) : Option.bind (tree K k m0) h = tree (fun b0 => Option.bind (K b0) h) k m0 := by
  simp only [tree, bif_bind, sel_bind', Option.bind_assoc, Option.bind_none, Option.bind_some]
abbrev ps : List Sh := [.vec 0, .fn 22]
abbrev hs : List (Nat × ESh) := [(0, .rows 0 44 (.pair (.int .i64) (.pair (.arr .u8 32) (.pair (.arr .u8 32) (.pair (.int .i64) (.pair (.int .i64) (.int .i64)))))))]
abbrev hi : List Nat := hs.map (·.1)
abbrev fi : List Nat := [0]
abbrev cl : List (Place × Nat × Hint) := []
abbrev hn : List Hint := [.any]
def val (t : Bool) : AV := Sh.mk (.data .bool) t
def wr (t : Bool) : Heap := []
def callee (k : Nat) : Callee := sigCallee ps hs (fun (d : (Unit × Unit × Unit)) (e : ((List T_3d5633) × Unit)) => f k e.1) val wr
def E (k : Nat) : Env := ⟨fnTab [(50, [slices_IndexFunc_api_Header_api_Header_v1.callee k])], loopTab [], natsTab [], natTab []⟩
theorem fE (k : Nat) : ∀ f, ∀ c ∈ (E k).fn f, CalleeOK Tryz.prog f c := fnTab_ok ⟨⟨slices_IndexFunc_api_Header_api_Header_v1.ok k, trivial⟩, trivial⟩
theorem run (k : Nat) (d : (Unit × Unit × Unit)) (e : ((List T_3d5633) × Unit)) : runFn Tryz.prog (E k) 9 (bodyOf Tryz.f21) Tryz.f21.results.toList cl hn hi (mkL ps d) (mkH hs e) =
    tree (fun b0 => leafFn hs fi e val wr b0) k e.1 := by kernel_rfl
theorem run_f (k : Nat) (d : (Unit × Unit × Unit)) (e : ((List T_3d5633) × Unit)) : runFn Tryz.prog (E k) 9 (bodyOf Tryz.f21) Tryz.f21.results.toList cl hn hi (mkL ps d) (mkH hs e) = (f k e.1).bind (leafFn hs fi e val wr) :=
  (run k d e).trans (tree_nat (leafFn hs fi e val wr) (fun b0 => some b0) k e.1).symm
theorem fnIs : FnIs Tryz.prog 21 Tryz.f21 (bodyOf Tryz.f21) 9 := ⟨by kernel_rfl, by kernel_rfl, by kernel_rfl, by kernel_rfl⟩
theorem ok (k : Nat) : CalleeOK Tryz.prog 21 (callee k) :=
  callee_sig (T := Bool) fnIs hm (fE k) (loopsOK_of [] (by kernel_rfl) trivial) ps hs cl hn fi (fun (d : (Unit × Unit × Unit)) (e : ((List T_3d5633) × Unit)) => f k e.1) val wr rfl (fun _ => rfl) (run_f k)
end slices_ContainsFunc_api_Header_api_Header_v1
namespace speech_Good
def tree {X : Type} (K : Bool → Option X) (k : Nat) (a0 : T_85bbee) : Option X :=
  (bif (a0.1 == (1 : Int)) then (Option.bind (speech_small.f k (4 : Int) ([a0.2.1, a0.2.2.2.1] : (List Int))) (fun r1 => (bif r1 then (Option.bind (speech_small.f k (7 : Int) ([a0.2.2.1, a0.2.2.2.2.1] : (List Int))) (fun r2 => (K r2))) else (K false)))) else (bif (a0.1 == (3 : Int)) then (Option.bind (speech_small.f k (4 : Int) ([a0.2.1] : (List Int))) (fun r3 => (bif r3 then (K (decide (((List.length a0.2.2.2.2.2.1) : Int) ≤ (32 : Int)))) else (K false)))) else (bif (a0.1 == (4 : Int)) then (bif (decide (((List.length a0.2.2.2.2.2.2.2) : Int) ≤ (64 : Int))) then (Option.bind (slices_ContainsFunc_api_Header_api_Header_v1.f k a0.2.2.2.2.2.2.2) (fun r4 => (K (!r4)))) else (K false)) else (bif (a0.1 == (5 : Int)) then (K (decide (((List.length a0.2.2.2.2.2.1) : Int) ≤ (32 : Int)))) else (bif (a0.1 == (6 : Int)) then (bif (a0.1 == (6 : Int)) then (Option.bind (speech_small.f k (7 : Int) ([a0.2.2.2.2.1] : (List Int))) (fun r5 => (K r5))) else (bif (a0.1 == (2 : Int)) then (K true) else (K (a0.1 == (8 : Int))))) else (bif (a0.1 == (7 : Int)) then (Option.bind (speech_small.f k (7 : Int) ([a0.2.2.2.2.1] : (List Int))) (fun r6 => (K r6))) else (bif (a0.1 == (2 : Int)) then (K true) else (K (a0.1 == (8 : Int))))))))))
def f (k : Nat) (a0 : T_85bbee) : Option Bool := tree (fun b0 => some b0) k a0
theorem tree_nat {X Y : Type} (h : X → Option Y) (K : Bool → Option X) (k : Nat) (a0 : T_85bbee) : Option.bind (tree K k a0) h = tree (fun b0 => Option.bind (K b0) h) k a0 := by
  simp only [tree, bif_bind, sel_bind', Option.bind_assoc, Option.bind_none, Option.bind_some]
abbrev ps : List Sh := [.data (.pair (.int .i64) (.pair (.int .i64) (.pair (.int .i64) (.pair (.int .i64) (.pair (.int .i64) (.pair (.row 24 (.arr .u8 32)) (.pair (.arr .u8 32) (.row 44 (.pair (.int .i64) (.pair (.arr .u8 32) (.pair (.arr .u8 32) (.pair (.int .i64) (.pair (.int .i64) (.int .i64))))))))))))))]
abbrev hs : List (Nat × ESh) := []
abbrev hi : List Nat := hs.map (·.1)
abbrev fi : List Nat := []
abbrev cl : List (Place × Nat × Hint) := []
abbrev hn : List Hint := [.any]
def val (t : Bool) : AV := Sh.mk (.data .bool) t
def wr (t : Bool) : Heap := []
def callee (k : Nat) : Callee := sigCallee ps hs (fun (d : (T_85bbee × Unit)) (e : Unit) => f k d.1) val wr
def E (k : Nat) : Env := ⟨fnTab [(20, [speech_small.callee k]), (21, [slices_ContainsFunc_api_Header_api_Header_v1.callee k])], loopTab [], natsTab [], natTab []⟩
theorem fE (k : Nat) : ∀ f, ∀ c ∈ (E k).fn f, CalleeOK Tryz.prog f c := fnTab_ok ⟨⟨speech_small.ok k, trivial⟩, ⟨slices_ContainsFunc_api_Header_api_Header_v1.ok k, trivial⟩, trivial⟩
theorem run (k : Nat) (d : (T_85bbee × Unit)) (e : Unit) : runFn Tryz.prog (E k) 66 (bodyOf Tryz.f8) Tryz.f8.results.toList cl hn hi (mkL ps d) (mkH hs e) =
    tree (fun b0 => leafFn hs fi e val wr b0) k d.1 := by kernel_rfl
theorem run_f (k : Nat) (d : (T_85bbee × Unit)) (e : Unit) : runFn Tryz.prog (E k) 66 (bodyOf Tryz.f8) Tryz.f8.results.toList cl hn hi (mkL ps d) (mkH hs e) = (f k d.1).bind (leafFn hs fi e val wr) :=
  (run k d e).trans (tree_nat (leafFn hs fi e val wr) (fun b0 => some b0) k d.1).symm
theorem fnIs : FnIs Tryz.prog 8 Tryz.f8 (bodyOf Tryz.f8) 66 := ⟨by kernel_rfl, by kernel_rfl, by kernel_rfl, by kernel_rfl⟩
theorem ok (k : Nat) : CalleeOK Tryz.prog 8 (callee k) :=
  callee_sig (T := Bool) fnIs hm (fE k) (loopsOK_of [] (by kernel_rfl) trivial) ps hs cl hn fi (fun (d : (T_85bbee × Unit)) (e : Unit) => f k d.1) val wr rfl (fun _ => rfl) (run_f k)
end speech_Good
namespace speech_Word
def tree {X : Type} (K : (List Int) → Option X) (k : Nat) (a0 : Int) (m0 : T_9fe11e) : Option X :=
  (bif (decide (a0 < (1 : Int))) then (K ([] : (List Int))) else (bif (decide (a0 ≥ (9 : Int))) then (K ([] : (List Int))) else (bif (decide (0 ≤ a0)) then (bif (decide (a0 < 9)) then (bif (decide ((0 + (Int.toNat a0)) < (List.length (strsL (.pair .str (.pair .str (.pair .str (.pair .str (.pair .str (.pair .str (.pair .str (.pair .str .str)))))))) m0)))) then (K (List.getD (strsL (.pair .str (.pair .str (.pair .str (.pair .str (.pair .str (.pair .str (.pair .str (.pair .str .str)))))))) m0) (0 + (Int.toNat a0)) ([] : (List Int)))) else none) else none) else none)))
def f (k : Nat) (a0 : Int) (m0 : T_9fe11e) : Option (List Int) := tree (fun b0 => some b0) k a0 m0
theorem tree_nat {X Y : Type} (h : X → Option Y) (K : (List Int) → Option X) (k : Nat) (a0 : Int) (m0 : T_9fe11e) : Option.bind (tree K k a0 m0) h = tree (fun b0 => Option.bind (K b0) h) k a0 m0 := by
  simp only [tree, bif_bind, sel_bind', Option.bind_assoc, Option.bind_none, Option.bind_some]
abbrev ps : List Sh := [.data (.int .i64)]
abbrev hs : List (Nat × ESh) := [(0, .glob 0 (.pair .str (.pair .str (.pair .str (.pair .str (.pair .str (.pair .str (.pair .str (.pair .str .str)))))))))]
abbrev hi : List Nat := hs.map (·.1)
abbrev fi : List Nat := [0]
abbrev cl : List (Place × Nat × Hint) := []
abbrev hn : List Hint := [.any]
def val (t : (List Int)) : AV := Sh.mk (.data .str) t
def wr (t : (List Int)) : Heap := []
def callee (k : Nat) : Callee := sigCallee ps hs (fun (d : (Int × Unit)) (e : (T_9fe11e × Unit)) => f k d.1 e.1) val wr
def E (k : Nat) : Env := ⟨fnTab [], loopTab [], natsTab [], natTab [(0, 0)]⟩
theorem fE (k : Nat) : ∀ f, ∀ c ∈ (E k).fn f, CalleeOK Tryz.prog f c := fnTab_ok trivial
theorem run (k : Nat) (d : (Int × Unit)) (e : (T_9fe11e × Unit)) : runFn Tryz.prog (E k) 12 (bodyOf Tryz.f18) Tryz.f18.results.toList cl hn hi (mkL ps d) (mkH hs e) =
    tree (fun b0 => leafFn hs fi e val wr b0) k d.1 e.1 := by kernel_rfl
theorem run_f (k : Nat) (d : (Int × Unit)) (e : (T_9fe11e × Unit)) : runFn Tryz.prog (E k) 12 (bodyOf Tryz.f18) Tryz.f18.results.toList cl hn hi (mkL ps d) (mkH hs e) = (f k d.1 e.1).bind (leafFn hs fi e val wr) :=
  (run k d e).trans (tree_nat (leafFn hs fi e val wr) (fun b0 => some b0) k d.1 e.1).symm
theorem fnIs : FnIs Tryz.prog 18 Tryz.f18 (bodyOf Tryz.f18) 12 := ⟨by kernel_rfl, by kernel_rfl, by kernel_rfl, by kernel_rfl⟩
theorem ok (k : Nat) : CalleeOK Tryz.prog 18 (callee k) :=
  callee_sig (T := (List Int)) fnIs hm (fE k) (loopsOK_of [] (by kernel_rfl) trivial) ps hs cl hn fi (fun (d : (Int × Unit)) (e : (T_9fe11e × Unit)) => f k d.1 e.1) val wr rfl (fun _ => rfl) (run_f k)
end speech_Word
namespace scroll_Pen_Put
namespace l2
def step {X : Type} (K : Int → (List Int) → Option X) (G : Int → (List Int) → Option X) (k : Nat) (x1 : Int) (x7 : Int) (x10 : Int) (x11 : Int) (x17 : Int) (y1 : (List Int)) (x18 : Int) (y800002 : (List Int)) : Option X :=
  (bif (decide (x18 < x17)) then (bif (decide ((mulI .i64 8 x18) < 0)) then none else (bif (fits (((List.length y800002) + 1) * 1)) then (G (addI .i64 x18 1) (y800002 ++ ([(IntKind.wrap .u8 (shrI .i64 x7 (mulI .i64 8 x18)))] : (List Int)))) else none)) else (K x18 y800002))
def go {X : Type} (K : Int → (List Int) → Option X) (k : Nat) (x1 : Int) (x7 : Int) (x10 : Int) (x11 : Int) (x17 : Int) (y1 : (List Int)) : Nat → Int → (List Int) → Option X
  | 0, _, _ => none
  | n + 1, x18, y800002 => step K (go K k x1 x7 x10 x11 x17 y1 n) k x1 x7 x10 x11 x17 y1 x18 y800002
def f (k : Nat) (x1 : Int) (x7 : Int) (x10 : Int) (x11 : Int) (x17 : Int) (y1 : (List Int)) (n : Nat) (x18 : Int) (y800002 : (List Int)) : Option (Int × (List Int)) := go (fun x18 y800002 => some (x18, y800002)) k x1 x7 x10 x11 x17 y1 n x18 y800002
theorem step_nat {X Y : Type} (h : X → Option Y) (K : Int → (List Int) → Option X) (G : Int → (List Int) → Option X) (k : Nat) (x1 : Int) (x7 : Int) (x10 : Int) (x11 : Int) (x17 : Int) (y1 : (List Int)) (x18 : Int) (y800002 : (List Int)) : Option.bind (step K G k x1 x7 x10 x11 x17 y1 x18 y800002) h = step (fun x18 y800002 => Option.bind (K x18 y800002) h) (fun x18 y800002 => Option.bind (G x18 y800002) h) k x1 x7 x10 x11 x17 y1 x18 y800002 := by
  simp only [step, bif_bind, sel_bind', Option.bind_assoc, Option.bind_none, Option.bind_some]
theorem go_nat {X Y : Type} (h : X → Option Y) (K : Int → (List Int) → Option X) (k : Nat) (x1 : Int) (x7 : Int) (x10 : Int) (x11 : Int) (x17 : Int) (y1 : (List Int)) (n : Nat) : ∀ (x18 : Int) (y800002 : (List Int)), Option.bind (go K k x1 x7 x10 x11 x17 y1 n x18 y800002) h = go (fun x18 y800002 => Option.bind (K x18 y800002) h) k x1 x7 x10 x11 x17 y1 n x18 y800002 := by
  induction n with
  | zero => intros; rfl
  | succ n ih => intro x18 y800002; show Option.bind (step K (go K k x1 x7 x10 x11 x17 y1 n) k x1 x7 x10 x11 x17 y1 x18 y800002) h = step (fun x18 y800002 => Option.bind (K x18 y800002) h) (go (fun x18 y800002 => Option.bind (K x18 y800002) h) k x1 x7 x10 x11 x17 y1 n) k x1 x7 x10 x11 x17 y1 x18 y800002; rw [step_nat h]; simp only [ih]
abbrev S : List (Nat × Sh) := [(0, .ptr 0), (1, .data (.int .i64)), (7, .data (.int .i64)), (9, .vec 1), (10, .data (.int .i64)), (11, .data (.int .i64)), (17, .data (.int .i64)), (18, .data (.int .i64))]
abbrev H : List (Nat × ESh) := [(0, .cell (.one (.vec 800002))), (1, .rows 2 3 (.int .i64)), (800002, .rows 2 5 (.int .u8))]
abbrev cl : List (Place × Nat × Hint) := [(.id 0, 0, (.row 2 5 (.int .u8)))]
abbrev hn : List (Nat × Hint) := [(0, .any), (1, .any), (7, .any), (9, .any), (10, .any), (11, .any), (17, .any), (18, .any)]
abbrev kp : List Nat := [0, 1]
abbrev rc : List (Place × Nat × Hint) := []
abbrev rs : List (Nat × Hint) := []
abbrev ri : List Nat := [0, 1]
def KX (d : (Unit × Int × Int × Unit × Int × Int × Int × Int × Unit)) (e : (Unit × (List Int) × (List Int) × Unit)) (v : (Int × (List Int))) : St := ⟨mkS S ((), d.2.1, d.2.2.1, (), d.2.2.2.2.1, d.2.2.2.2.2.1, d.2.2.2.2.2.2.1, v.1, ()), mkH H ((), e.2.1, v.2, ())⟩
def sum (k : Nat) : LoopSum := sigLoopX S cl hn kp H 2 (fun (d : (Unit × Int × Int × Unit × Int × Int × Int × Int × Unit)) (e : (Unit × (List Int) × (List Int) × Unit)) => f k d.2.1 d.2.2.1 d.2.2.2.2.1 d.2.2.2.2.2.1 d.2.2.2.2.2.2.1 e.2.1 k d.2.2.2.2.2.2.2.1 e.2.2.1) KX
end l2
namespace l0
def step {X : Type} (K : Int → (List Int) → Option X) (G : Int → (List Int) → Option X) (k : Nat) (x1 : Int) (x10 : Int) (y1 : (List Int)) (x11 : Int) (y800002 : (List Int)) : Option X :=
  (bif (decide (x11 < x10)) then (bif (decide (0 ≤ x11)) then (bif (decide (x11 < ((List.length y1) : Int))) then (bif (decide ((Int.toNat x11) < (List.length y1))) then (Option.bind (scroll_Pen_Put.l2.f k x1 (List.getD y1 (Int.toNat x11) (0 : Int)) x10 x11 (mnI (mxI x1 1) 8) y1 k (0 : Int) y800002) (fun r1 => (G (addI .i64 x11 1) r1.2))) else none) else none) else none) else (K x11 y800002))
def go {X : Type} (K : Int → (List Int) → Option X) (k : Nat) (x1 : Int) (x10 : Int) (y1 : (List Int)) : Nat → Int → (List Int) → Option X
  | 0, _, _ => none
  | n + 1, x11, y800002 => step K (go K k x1 x10 y1 n) k x1 x10 y1 x11 y800002
def f (k : Nat) (x1 : Int) (x10 : Int) (y1 : (List Int)) (n : Nat) (x11 : Int) (y800002 : (List Int)) : Option (Int × (List Int)) := go (fun x11 y800002 => some (x11, y800002)) k x1 x10 y1 n x11 y800002
theorem step_nat {X Y : Type} (h : X → Option Y) (K : Int → (List Int) → Option X) (G : Int → (List Int) → Option X) (k : Nat) (x1 : Int) (x10 : Int) (y1 : (List Int)) (x11 : Int) (y800002 : (List Int)) : Option.bind (step K G k x1 x10 y1 x11 y800002) h = step (fun x11 y800002 => Option.bind (K x11 y800002) h) (fun x11 y800002 => Option.bind (G x11 y800002) h) k x1 x10 y1 x11 y800002 := by
  simp only [step, bif_bind, sel_bind', Option.bind_assoc, Option.bind_none, Option.bind_some]
theorem go_nat {X Y : Type} (h : X → Option Y) (K : Int → (List Int) → Option X) (k : Nat) (x1 : Int) (x10 : Int) (y1 : (List Int)) (n : Nat) : ∀ (x11 : Int) (y800002 : (List Int)), Option.bind (go K k x1 x10 y1 n x11 y800002) h = go (fun x11 y800002 => Option.bind (K x11 y800002) h) k x1 x10 y1 n x11 y800002 := by
  induction n with
  | zero => intros; rfl
  | succ n ih => intro x11 y800002; show Option.bind (step K (go K k x1 x10 y1 n) k x1 x10 y1 x11 y800002) h = step (fun x11 y800002 => Option.bind (K x11 y800002) h) (go (fun x11 y800002 => Option.bind (K x11 y800002) h) k x1 x10 y1 n) k x1 x10 y1 x11 y800002; rw [step_nat h]; simp only [ih]
abbrev S : List (Nat × Sh) := [(0, .ptr 0), (1, .data (.int .i64)), (9, .vec 1), (10, .data (.int .i64)), (11, .data (.int .i64))]
abbrev H : List (Nat × ESh) := [(0, .cell (.one (.vec 800002))), (1, .rows 2 3 (.int .i64)), (800002, .rows 2 5 (.int .u8))]
abbrev cl : List (Place × Nat × Hint) := [(.id 0, 0, (.row 2 5 (.int .u8)))]
abbrev hn : List (Nat × Hint) := [(0, .any), (1, .any), (9, .any), (10, .any), (11, .any)]
abbrev kp : List Nat := [0, 1]
abbrev rc : List (Place × Nat × Hint) := []
abbrev rs : List (Nat × Hint) := []
abbrev ri : List Nat := [0, 1]
def KX (d : (Unit × Int × Unit × Int × Int × Unit)) (e : (Unit × (List Int) × (List Int) × Unit)) (v : (Int × (List Int))) : St := ⟨mkS S ((), d.2.1, (), d.2.2.2.1, v.1, ()), mkH H ((), e.2.1, v.2, ())⟩
def sum (k : Nat) : LoopSum := sigLoopX S cl hn kp H 0 (fun (d : (Unit × Int × Unit × Int × Int × Unit)) (e : (Unit × (List Int) × (List Int) × Unit)) => f k d.2.1 d.2.2.2.1 e.2.1 k d.2.2.2.2.1 e.2.2.1) KX
end l0
def tree {X : Type} (K : (List Int) → Option X) (k : Nat) (a1 : Int) (m1 : (List Int)) : Option X :=
  (Option.bind (scroll_Pen_Put.l0.f k a1 ((List.length m1) : Int) m1 k (0 : Int) ([] : (List Int))) (fun r2 => (K r2.2)))
def f (k : Nat) (a1 : Int) (m1 : (List Int)) : Option (List Int) := tree (fun b0 => some b0) k a1 m1
theorem tree_nat {X Y : Type} (h : X → Option Y) (K : (List Int) → Option X) (k : Nat) (a1 : Int) (m1 : (List Int)) : Option.bind (tree K k a1 m1) h = tree (fun b0 => Option.bind (K b0) h) k a1 m1 := by
  simp only [tree, bif_bind, sel_bind', Option.bind_assoc, Option.bind_none, Option.bind_some]
abbrev ps : List Sh := [.ptr 0, .data (.int .i64), .vec 1]
abbrev hs : List (Nat × ESh) := [(0, .cell (.one .nils)), (1, .rows 2 3 (.int .i64))]
abbrev hi : List Nat := hs.map (·.1)
abbrev fi : List Nat := [0, 1, 900002]
abbrev cl : List (Place × Nat × Hint) := []
abbrev hn : List Hint := []
def val (t : (List Int)) : AV := .tnil
def wr (t : (List Int)) : Heap := [(0, ESh.mk (.cell (.one (.vec 900002))) ()), (900002, ESh.mk (.rows 2 5 (.int .u8)) t)]
def callee (k : Nat) : Callee := sigCallee ps hs (fun (d : (Unit × Int × Unit × Unit)) (e : (Unit × (List Int) × Unit)) => f k d.2.1 e.2.1) val wr
def E (k : Nat) : Env := ⟨fnTab [], loopTab [(2, l2.sum k), (0, l0.sum k)], natsTab [], natTab []⟩
theorem fE (k : Nat) : ∀ f, ∀ c ∈ (E k).fn f, CalleeOK Tryz.prog f c := fnTab_ok trivial
namespace l2
theorem round (k : Nat) (d : (Unit × Int × Int × Unit × Int × Int × Int × Int × Unit)) (e : (Unit × (List Int) × (List Int) × Unit)) (G : St → Option (Ex × St)) : roundK Tryz.prog (E k) 37 2 (subC (bodyOf Tryz.f42) [1, 0, 0, 1, 1, 0, 0, 1, 1, 0, 0]) (recast cl hn kp) (finBy cl hn kp rc rs ri) G ⟨mkS S d, mkH H e⟩ =
    step (fun x18 y800002 => some (.exit 2, KX d e (x18, y800002))) (fun x18 y800002 => G ⟨mkS S ((), d.2.1, d.2.2.1, (), d.2.2.2.2.1, d.2.2.2.2.2.1, d.2.2.2.2.2.2.1, x18, ()), mkH H ((), e.2.1, y800002, ())⟩) k d.2.1 d.2.2.1 d.2.2.2.2.1 d.2.2.2.2.2.1 d.2.2.2.2.2.2.1 e.2.1 d.2.2.2.2.2.2.2.1 e.2.2.1 := by kernel_rfl
theorem it (k n : Nat) (d : (Unit × Int × Int × Unit × Int × Int × Int × Int × Unit)) (e : (Unit × (List Int) × (List Int) × Unit)) : loopIt Tryz.prog (E k) 37 2 (subC (bodyOf Tryz.f42) [1, 0, 0, 1, 1, 0, 0, 1, 1, 0, 0]) (recast cl hn kp) (finBy cl hn kp rc rs ri) n ⟨mkS S d, mkH H e⟩ = go (fun x18 y800002 => some (.exit 2, KX d e (x18, y800002))) k d.2.1 d.2.2.1 d.2.2.2.2.1 d.2.2.2.2.2.1 d.2.2.2.2.2.2.1 e.2.1 n d.2.2.2.2.2.2.2.1 e.2.2.1 :=
  loopIt_eq (D := (Unit × Int × Int × Unit × Int × Int × Int × Int × Unit) × (Unit × (List Int) × (List Int) × Unit)) (fun p => ⟨mkS S p.1, mkH H p.2⟩) (fun F p => step (fun x18 y800002 => some (.exit 2, KX p.1 p.2 (x18, y800002))) (fun x18 y800002 => F (((), p.1.2.1, p.1.2.2.1, (), p.1.2.2.2.2.1, p.1.2.2.2.2.2.1, p.1.2.2.2.2.2.2.1, x18, ()), ((), p.2.2.1, y800002, ()))) k p.1.2.1 p.1.2.2.1 p.1.2.2.2.2.1 p.1.2.2.2.2.2.1 p.1.2.2.2.2.2.2.1 p.2.2.1 p.1.2.2.2.2.2.2.2.1 p.2.2.2.1) (fun n p => go (fun x18 y800002 => some (.exit 2, KX p.1 p.2 (x18, y800002))) k p.1.2.1 p.1.2.2.1 p.1.2.2.2.2.1 p.1.2.2.2.2.2.1 p.1.2.2.2.2.2.2.1 p.2.2.1 n p.1.2.2.2.2.2.2.2.1 p.2.2.2.1) (fun _ => rfl) (fun _ _ => rfl) (fun G p => round k p.1 p.2 G) n (d, e)
theorem ok (k : Nat) : LoopOK Tryz.prog 37 (subC (bodyOf Tryz.f42) [1, 0, 0, 1, 1, 0, 0, 1, 1, 0, 0]) (sum k) :=
  loop_sigX hm (fE k) (loopsOK_of [] (by kernel_rfl) trivial) S cl hn kp H 2 (fun (d : (Unit × Int × Int × Unit × Int × Int × Int × Int × Unit)) (e : (Unit × (List Int) × (List Int) × Unit)) => f k d.2.1 d.2.2.1 d.2.2.2.2.1 d.2.2.2.2.2.1 d.2.2.2.2.2.2.1 e.2.1 k d.2.2.2.2.2.2.2.1 e.2.2.1) KX cl hn kp rc rs ri k
    (fun d e => (it k k d e).trans (go_nat (fun v => some (Ex.exit 2, KX d e v)) (fun x18 y800002 => some (x18, y800002)) k d.2.1 d.2.2.1 d.2.2.2.2.1 d.2.2.2.2.2.1 d.2.2.2.2.2.2.1 e.2.1 k d.2.2.2.2.2.2.2.1 e.2.2.1).symm)
end l2
namespace l0
theorem round (k : Nat) (d : (Unit × Int × Unit × Int × Int × Unit)) (e : (Unit × (List Int) × (List Int) × Unit)) (G : St → Option (Ex × St)) : roundK Tryz.prog (E k) 37 0 (subC (bodyOf Tryz.f42) [1, 0, 0]) (recast cl hn kp) (finBy cl hn kp rc rs ri) G ⟨mkS S d, mkH H e⟩ =
    step (fun x11 y800002 => some (.exit 0, KX d e (x11, y800002))) (fun x11 y800002 => G ⟨mkS S ((), d.2.1, (), d.2.2.2.1, x11, ()), mkH H ((), e.2.1, y800002, ())⟩) k d.2.1 d.2.2.2.1 e.2.1 d.2.2.2.2.1 e.2.2.1 := by kernel_rfl
theorem it (k n : Nat) (d : (Unit × Int × Unit × Int × Int × Unit)) (e : (Unit × (List Int) × (List Int) × Unit)) : loopIt Tryz.prog (E k) 37 0 (subC (bodyOf Tryz.f42) [1, 0, 0]) (recast cl hn kp) (finBy cl hn kp rc rs ri) n ⟨mkS S d, mkH H e⟩ = go (fun x11 y800002 => some (.exit 0, KX d e (x11, y800002))) k d.2.1 d.2.2.2.1 e.2.1 n d.2.2.2.2.1 e.2.2.1 :=
  loopIt_eq (D := (Unit × Int × Unit × Int × Int × Unit) × (Unit × (List Int) × (List Int) × Unit)) (fun p => ⟨mkS S p.1, mkH H p.2⟩) (fun F p => step (fun x11 y800002 => some (.exit 0, KX p.1 p.2 (x11, y800002))) (fun x11 y800002 => F (((), p.1.2.1, (), p.1.2.2.2.1, x11, ()), ((), p.2.2.1, y800002, ()))) k p.1.2.1 p.1.2.2.2.1 p.2.2.1 p.1.2.2.2.2.1 p.2.2.2.1) (fun n p => go (fun x11 y800002 => some (.exit 0, KX p.1 p.2 (x11, y800002))) k p.1.2.1 p.1.2.2.2.1 p.2.2.1 n p.1.2.2.2.2.1 p.2.2.2.1) (fun _ => rfl) (fun _ _ => rfl) (fun G p => round k p.1 p.2 G) n (d, e)
theorem ok (k : Nat) : LoopOK Tryz.prog 37 (subC (bodyOf Tryz.f42) [1, 0, 0]) (sum k) :=
  loop_sigX hm (fE k) (loopsOK_of [(2, subC (bodyOf Tryz.f42) [1, 0, 0, 1, 1, 0, 0, 1, 1, 0, 0])] (by kernel_rfl) ⟨of_loop (l2.sum k) rfl (l2.ok k), trivial⟩) S cl hn kp H 0 (fun (d : (Unit × Int × Unit × Int × Int × Unit)) (e : (Unit × (List Int) × (List Int) × Unit)) => f k d.2.1 d.2.2.2.1 e.2.1 k d.2.2.2.2.1 e.2.2.1) KX cl hn kp rc rs ri k
    (fun d e => (it k k d e).trans (go_nat (fun v => some (Ex.exit 0, KX d e v)) (fun x11 y800002 => some (x11, y800002)) k d.2.1 d.2.2.2.1 e.2.1 k d.2.2.2.2.1 e.2.2.1).symm)
end l0
theorem run (k : Nat) (d : (Unit × Int × Unit × Unit)) (e : (Unit × (List Int) × Unit)) : runFn Tryz.prog (E k) 37 (bodyOf Tryz.f42) Tryz.f42.results.toList cl hn hi (mkL ps d) (mkH hs e) =
    tree (fun b0 => leafFn hs fi e val wr b0) k d.2.1 e.2.1 := by kernel_rfl
theorem run_f (k : Nat) (d : (Unit × Int × Unit × Unit)) (e : (Unit × (List Int) × Unit)) : runFn Tryz.prog (E k) 37 (bodyOf Tryz.f42) Tryz.f42.results.toList cl hn hi (mkL ps d) (mkH hs e) = (f k d.2.1 e.2.1).bind (leafFn hs fi e val wr) :=
  (run k d e).trans (tree_nat (leafFn hs fi e val wr) (fun b0 => some b0) k d.2.1 e.2.1).symm
theorem fnIs : FnIs Tryz.prog 42 Tryz.f42 (bodyOf Tryz.f42) 37 := ⟨by kernel_rfl, by kernel_rfl, by kernel_rfl, by kernel_rfl⟩
theorem ok (k : Nat) : CalleeOK Tryz.prog 42 (callee k) :=
  callee_sig (T := (List Int)) fnIs hm (fE k) (loopsOK_of [(0, subC (bodyOf Tryz.f42) [1, 0, 0])] (by kernel_rfl) ⟨of_loop (l0.sum k) rfl (l0.ok k), trivial⟩) ps hs cl hn fi (fun (d : (Unit × Int × Unit × Unit)) (e : (Unit × (List Int) × Unit)) => f k d.2.1 e.2.1) val wr rfl (fun _ => rfl) (run_f k)
end scroll_Pen_Put
namespace scroll_Pen_Put_v1
namespace l2
def step {X : Type} (K : Int → (List Int) → Option X) (G : Int → (List Int) → Option X) (k : Nat) (x1 : Int) (x7 : Int) (x10 : Int) (x11 : Int) (x17 : Int) (y1 : (List Int)) (x18 : Int) (y800003 : (List Int)) : Option X :=
  (bif (decide (x18 < x17)) then (bif (decide ((mulI .i64 8 x18) < 0)) then none else (bif (fits (((List.length y800003) + 1) * 1)) then (G (addI .i64 x18 1) (y800003 ++ ([(IntKind.wrap .u8 (shrI .i64 x7 (mulI .i64 8 x18)))] : (List Int)))) else none)) else (K x18 y800003))
def go {X : Type} (K : Int → (List Int) → Option X) (k : Nat) (x1 : Int) (x7 : Int) (x10 : Int) (x11 : Int) (x17 : Int) (y1 : (List Int)) : Nat → Int → (List Int) → Option X
  | 0, _, _ => none
  | n + 1, x18, y800003 => step K (go K k x1 x7 x10 x11 x17 y1 n) k x1 x7 x10 x11 x17 y1 x18 y800003
def f (k : Nat) (x1 : Int) (x7 : Int) (x10 : Int) (x11 : Int) (x17 : Int) (y1 : (List Int)) (n : Nat) (x18 : Int) (y800003 : (List Int)) : Option (Int × (List Int)) := go (fun x18 y800003 => some (x18, y800003)) k x1 x7 x10 x11 x17 y1 n x18 y800003
theorem step_nat {X Y : Type} (h : X → Option Y) (K : Int → (List Int) → Option X) (G : Int → (List Int) → Option X) (k : Nat) (x1 : Int) (x7 : Int) (x10 : Int) (x11 : Int) (x17 : Int) (y1 : (List Int)) (x18 : Int) (y800003 : (List Int)) : Option.bind (step K G k x1 x7 x10 x11 x17 y1 x18 y800003) h = step (fun x18 y800003 => Option.bind (K x18 y800003) h) (fun x18 y800003 => Option.bind (G x18 y800003) h) k x1 x7 x10 x11 x17 y1 x18 y800003 := by
  simp only [step, bif_bind, sel_bind', Option.bind_assoc, Option.bind_none, Option.bind_some]
theorem go_nat {X Y : Type} (h : X → Option Y) (K : Int → (List Int) → Option X) (k : Nat) (x1 : Int) (x7 : Int) (x10 : Int) (x11 : Int) (x17 : Int) (y1 : (List Int)) (n : Nat) : ∀ (x18 : Int) (y800003 : (List Int)), Option.bind (go K k x1 x7 x10 x11 x17 y1 n x18 y800003) h = go (fun x18 y800003 => Option.bind (K x18 y800003) h) k x1 x7 x10 x11 x17 y1 n x18 y800003 := by
  induction n with
  | zero => intros; rfl
  | succ n ih => intro x18 y800003; show Option.bind (step K (go K k x1 x7 x10 x11 x17 y1 n) k x1 x7 x10 x11 x17 y1 x18 y800003) h = step (fun x18 y800003 => Option.bind (K x18 y800003) h) (go (fun x18 y800003 => Option.bind (K x18 y800003) h) k x1 x7 x10 x11 x17 y1 n) k x1 x7 x10 x11 x17 y1 x18 y800003; rw [step_nat h]; simp only [ih]
abbrev S : List (Nat × Sh) := [(0, .ptr 0), (1, .data (.int .i64)), (7, .data (.int .i64)), (9, .vec 1), (10, .data (.int .i64)), (11, .data (.int .i64)), (17, .data (.int .i64)), (18, .data (.int .i64))]
abbrev H : List (Nat × ESh) := [(0, .cell (.one (.vec 800003))), (1, .rows 2 3 (.int .i64)), (2, .dead), (800003, .rows 2 5 (.int .u8))]
abbrev cl : List (Place × Nat × Hint) := [(.id 0, 0, .move)]
abbrev hn : List (Nat × Hint) := [(0, .any), (1, .any), (7, .any), (9, .any), (10, .any), (11, .any), (17, .any), (18, .any)]
abbrev kp : List Nat := [0, 1, 2]
abbrev rc : List (Place × Nat × Hint) := []
abbrev rs : List (Nat × Hint) := []
abbrev ri : List Nat := [0, 1, 2]
def KX (d : (Unit × Int × Int × Unit × Int × Int × Int × Int × Unit)) (e : (Unit × (List Int) × Unit × (List Int) × Unit)) (v : (Int × (List Int))) : St := ⟨mkS S ((), d.2.1, d.2.2.1, (), d.2.2.2.2.1, d.2.2.2.2.2.1, d.2.2.2.2.2.2.1, v.1, ()), mkH H ((), e.2.1, (), v.2, ())⟩
def sum (k : Nat) : LoopSum := sigLoopX S cl hn kp H 2 (fun (d : (Unit × Int × Int × Unit × Int × Int × Int × Int × Unit)) (e : (Unit × (List Int) × Unit × (List Int) × Unit)) => f k d.2.1 d.2.2.1 d.2.2.2.2.1 d.2.2.2.2.2.1 d.2.2.2.2.2.2.1 e.2.1 k d.2.2.2.2.2.2.2.1 e.2.2.2.1) KX
end l2
namespace l0
def step {X : Type} (K : Int → (List Int) → Option X) (G : Int → (List Int) → Option X) (k : Nat) (x1 : Int) (x10 : Int) (y1 : (List Int)) (x11 : Int) (y800003 : (List Int)) : Option X :=
  (bif (decide (x11 < x10)) then (bif (decide (0 ≤ x11)) then (bif (decide (x11 < ((List.length y1) : Int))) then (bif (decide ((Int.toNat x11) < (List.length y1))) then (Option.bind (scroll_Pen_Put_v1.l2.f k x1 (List.getD y1 (Int.toNat x11) (0 : Int)) x10 x11 (mnI (mxI x1 1) 8) y1 k (0 : Int) y800003) (fun r1 => (G (addI .i64 x11 1) r1.2))) else none) else none) else none) else (K x11 y800003))
def go {X : Type} (K : Int → (List Int) → Option X) (k : Nat) (x1 : Int) (x10 : Int) (y1 : (List Int)) : Nat → Int → (List Int) → Option X
  | 0, _, _ => none
  | n + 1, x11, y800003 => step K (go K k x1 x10 y1 n) k x1 x10 y1 x11 y800003
def f (k : Nat) (x1 : Int) (x10 : Int) (y1 : (List Int)) (n : Nat) (x11 : Int) (y800003 : (List Int)) : Option (Int × (List Int)) := go (fun x11 y800003 => some (x11, y800003)) k x1 x10 y1 n x11 y800003
theorem step_nat {X Y : Type} (h : X → Option Y) (K : Int → (List Int) → Option X) (G : Int → (List Int) → Option X) (k : Nat) (x1 : Int) (x10 : Int) (y1 : (List Int)) (x11 : Int) (y800003 : (List Int)) : Option.bind (step K G k x1 x10 y1 x11 y800003) h = step (fun x11 y800003 => Option.bind (K x11 y800003) h) (fun x11 y800003 => Option.bind (G x11 y800003) h) k x1 x10 y1 x11 y800003 := by
  simp only [step, bif_bind, sel_bind', Option.bind_assoc, Option.bind_none, Option.bind_some]
theorem go_nat {X Y : Type} (h : X → Option Y) (K : Int → (List Int) → Option X) (k : Nat) (x1 : Int) (x10 : Int) (y1 : (List Int)) (n : Nat) : ∀ (x11 : Int) (y800003 : (List Int)), Option.bind (go K k x1 x10 y1 n x11 y800003) h = go (fun x11 y800003 => Option.bind (K x11 y800003) h) k x1 x10 y1 n x11 y800003 := by
  induction n with
  | zero => intros; rfl
  | succ n ih => intro x11 y800003; show Option.bind (step K (go K k x1 x10 y1 n) k x1 x10 y1 x11 y800003) h = step (fun x11 y800003 => Option.bind (K x11 y800003) h) (go (fun x11 y800003 => Option.bind (K x11 y800003) h) k x1 x10 y1 n) k x1 x10 y1 x11 y800003; rw [step_nat h]; simp only [ih]
abbrev S : List (Nat × Sh) := [(0, .ptr 0), (1, .data (.int .i64)), (9, .vec 1), (10, .data (.int .i64)), (11, .data (.int .i64))]
abbrev H : List (Nat × ESh) := [(0, .cell (.one (.vec 800003))), (1, .rows 2 3 (.int .i64)), (2, .dead), (800003, .rows 2 5 (.int .u8))]
abbrev cl : List (Place × Nat × Hint) := [(.id 0, 0, .move)]
abbrev hn : List (Nat × Hint) := [(0, .any), (1, .any), (9, .any), (10, .any), (11, .any)]
abbrev kp : List Nat := [0, 1, 2]
abbrev rc : List (Place × Nat × Hint) := []
abbrev rs : List (Nat × Hint) := []
abbrev ri : List Nat := [0, 1, 2]
def KX (d : (Unit × Int × Unit × Int × Int × Unit)) (e : (Unit × (List Int) × Unit × (List Int) × Unit)) (v : (Int × (List Int))) : St := ⟨mkS S ((), d.2.1, (), d.2.2.2.1, v.1, ()), mkH H ((), e.2.1, (), v.2, ())⟩
def sum (k : Nat) : LoopSum := sigLoopX S cl hn kp H 0 (fun (d : (Unit × Int × Unit × Int × Int × Unit)) (e : (Unit × (List Int) × Unit × (List Int) × Unit)) => f k d.2.1 d.2.2.2.1 e.2.1 k d.2.2.2.2.1 e.2.2.2.1) KX
end l0
def tree {X : Type} (K : (List Int) → Option X) (k : Nat) (a1 : Int) (m1 : (List Int)) (m2 : (List Int)) : Option X :=
  (Option.bind (scroll_Pen_Put_v1.l0.f k a1 ((List.length m1) : Int) m1 k (0 : Int) m2) (fun r2 => (K r2.2)))
def f (k : Nat) (a1 : Int) (m1 : (List Int)) (m2 : (List Int)) : Option (List Int) := tree (fun b0 => some b0) k a1 m1 m2
theorem tree_nat {X Y : Type} (h : X → Option Y) (K : (List Int) → Option X) (k : Nat) (a1 : Int) (m1 : (List Int)) (m2 : (List Int)) : Option.bind (tree K k a1 m1 m2) h = tree (fun b0 => Option.bind (K b0) h) k a1 m1 m2 := by
  simp only [tree, bif_bind, sel_bind', Option.bind_assoc, Option.bind_none, Option.bind_some]
abbrev ps : List Sh := [.ptr 0, .data (.int .i64), .vec 1]
abbrev hs : List (Nat × ESh) := [(0, .cell (.one (.vec 2))), (1, .rows 2 3 (.int .i64)), (2, .rows 2 5 (.int .u8))]
abbrev hi : List Nat := hs.map (·.1)
abbrev fi : List Nat := [0, 1, 2, 900003]
abbrev cl : List (Place × Nat × Hint) := []
abbrev hn : List Hint := []
def val (t : (List Int)) : AV := .tnil
def wr (t : (List Int)) : Heap := [(0, ESh.mk (.cell (.one (.vec 900003))) ()), (2, ESh.mk (.dead) ()), (900003, ESh.mk (.rows 2 5 (.int .u8)) t)]
def callee (k : Nat) : Callee := sigCallee ps hs (fun (d : (Unit × Int × Unit × Unit)) (e : (Unit × (List Int) × (List Int) × Unit)) => f k d.2.1 e.2.1 e.2.2.1) val wr
def E (k : Nat) : Env := ⟨fnTab [], loopTab [(2, l2.sum k), (0, l0.sum k)], natsTab [], natTab []⟩
theorem fE (k : Nat) : ∀ f, ∀ c ∈ (E k).fn f, CalleeOK Tryz.prog f c := fnTab_ok trivial
namespace l2
theorem round (k : Nat) (d : (Unit × Int × Int × Unit × Int × Int × Int × Int × Unit)) (e : (Unit × (List Int) × Unit × (List Int) × Unit)) (G : St → Option (Ex × St)) : roundK Tryz.prog (E k) 37 2 (subC (bodyOf Tryz.f42) [1, 0, 0, 1, 1, 0, 0, 1, 1, 0, 0]) (recast cl hn kp) (finBy cl hn kp rc rs ri) G ⟨mkS S d, mkH H e⟩ =
    step (fun x18 y800003 => some (.exit 2, KX d e (x18, y800003))) (fun x18 y800003 => G ⟨mkS S ((), d.2.1, d.2.2.1, (), d.2.2.2.2.1, d.2.2.2.2.2.1, d.2.2.2.2.2.2.1, x18, ()), mkH H ((), e.2.1, (), y800003, ())⟩) k d.2.1 d.2.2.1 d.2.2.2.2.1 d.2.2.2.2.2.1 d.2.2.2.2.2.2.1 e.2.1 d.2.2.2.2.2.2.2.1 e.2.2.2.1 := by kernel_rfl
theorem it (k n : Nat) (d : (Unit × Int × Int × Unit × Int × Int × Int × Int × Unit)) (e : (Unit × (List Int) × Unit × (List Int) × Unit)) : loopIt Tryz.prog (E k) 37 2 (subC (bodyOf Tryz.f42) [1, 0, 0, 1, 1, 0, 0, 1, 1, 0, 0]) (recast cl hn kp) (finBy cl hn kp rc rs ri) n ⟨mkS S d, mkH H e⟩ = go (fun x18 y800003 => some (.exit 2, KX d e (x18, y800003))) k d.2.1 d.2.2.1 d.2.2.2.2.1 d.2.2.2.2.2.1 d.2.2.2.2.2.2.1 e.2.1 n d.2.2.2.2.2.2.2.1 e.2.2.2.1 :=
  loopIt_eq (D := (Unit × Int × Int × Unit × Int × Int × Int × Int × Unit) × (Unit × (List Int) × Unit × (List Int) × Unit)) (fun p => ⟨mkS S p.1, mkH H p.2⟩) (fun F p => step (fun x18 y800003 => some (.exit 2, KX p.1 p.2 (x18, y800003))) (fun x18 y800003 => F (((), p.1.2.1, p.1.2.2.1, (), p.1.2.2.2.2.1, p.1.2.2.2.2.2.1, p.1.2.2.2.2.2.2.1, x18, ()), ((), p.2.2.1, (), y800003, ()))) k p.1.2.1 p.1.2.2.1 p.1.2.2.2.2.1 p.1.2.2.2.2.2.1 p.1.2.2.2.2.2.2.1 p.2.2.1 p.1.2.2.2.2.2.2.2.1 p.2.2.2.2.1) (fun n p => go (fun x18 y800003 => some (.exit 2, KX p.1 p.2 (x18, y800003))) k p.1.2.1 p.1.2.2.1 p.1.2.2.2.2.1 p.1.2.2.2.2.2.1 p.1.2.2.2.2.2.2.1 p.2.2.1 n p.1.2.2.2.2.2.2.2.1 p.2.2.2.2.1) (fun _ => rfl) (fun _ _ => rfl) (fun G p => round k p.1 p.2 G) n (d, e)
theorem ok (k : Nat) : LoopOK Tryz.prog 37 (subC (bodyOf Tryz.f42) [1, 0, 0, 1, 1, 0, 0, 1, 1, 0, 0]) (sum k) :=
  loop_sigX hm (fE k) (loopsOK_of [] (by kernel_rfl) trivial) S cl hn kp H 2 (fun (d : (Unit × Int × Int × Unit × Int × Int × Int × Int × Unit)) (e : (Unit × (List Int) × Unit × (List Int) × Unit)) => f k d.2.1 d.2.2.1 d.2.2.2.2.1 d.2.2.2.2.2.1 d.2.2.2.2.2.2.1 e.2.1 k d.2.2.2.2.2.2.2.1 e.2.2.2.1) KX cl hn kp rc rs ri k
    (fun d e => (it k k d e).trans (go_nat (fun v => some (Ex.exit 2, KX d e v)) (fun x18 y800003 => some (x18, y800003)) k d.2.1 d.2.2.1 d.2.2.2.2.1 d.2.2.2.2.2.1 d.2.2.2.2.2.2.1 e.2.1 k d.2.2.2.2.2.2.2.1 e.2.2.2.1).symm)
end l2
namespace l0
theorem round (k : Nat) (d : (Unit × Int × Unit × Int × Int × Unit)) (e : (Unit × (List Int) × Unit × (List Int) × Unit)) (G : St → Option (Ex × St)) : roundK Tryz.prog (E k) 37 0 (subC (bodyOf Tryz.f42) [1, 0, 0]) (recast cl hn kp) (finBy cl hn kp rc rs ri) G ⟨mkS S d, mkH H e⟩ =
    step (fun x11 y800003 => some (.exit 0, KX d e (x11, y800003))) (fun x11 y800003 => G ⟨mkS S ((), d.2.1, (), d.2.2.2.1, x11, ()), mkH H ((), e.2.1, (), y800003, ())⟩) k d.2.1 d.2.2.2.1 e.2.1 d.2.2.2.2.1 e.2.2.2.1 := by kernel_rfl
theorem it (k n : Nat) (d : (Unit × Int × Unit × Int × Int × Unit)) (e : (Unit × (List Int) × Unit × (List Int) × Unit)) : loopIt Tryz.prog (E k) 37 0 (subC (bodyOf Tryz.f42) [1, 0, 0]) (recast cl hn kp) (finBy cl hn kp rc rs ri) n ⟨mkS S d, mkH H e⟩ = go (fun x11 y800003 => some (.exit 0, KX d e (x11, y800003))) k d.2.1 d.2.2.2.1 e.2.1 n d.2.2.2.2.1 e.2.2.2.1 :=
  loopIt_eq (D := (Unit × Int × Unit × Int × Int × Unit) × (Unit × (List Int) × Unit × (List Int) × Unit)) (fun p => ⟨mkS S p.1, mkH H p.2⟩) (fun F p => step (fun x11 y800003 => some (.exit 0, KX p.1 p.2 (x11, y800003))) (fun x11 y800003 => F (((), p.1.2.1, (), p.1.2.2.2.1, x11, ()), ((), p.2.2.1, (), y800003, ()))) k p.1.2.1 p.1.2.2.2.1 p.2.2.1 p.1.2.2.2.2.1 p.2.2.2.2.1) (fun n p => go (fun x11 y800003 => some (.exit 0, KX p.1 p.2 (x11, y800003))) k p.1.2.1 p.1.2.2.2.1 p.2.2.1 n p.1.2.2.2.2.1 p.2.2.2.2.1) (fun _ => rfl) (fun _ _ => rfl) (fun G p => round k p.1 p.2 G) n (d, e)
theorem ok (k : Nat) : LoopOK Tryz.prog 37 (subC (bodyOf Tryz.f42) [1, 0, 0]) (sum k) :=
  loop_sigX hm (fE k) (loopsOK_of [(2, subC (bodyOf Tryz.f42) [1, 0, 0, 1, 1, 0, 0, 1, 1, 0, 0])] (by kernel_rfl) ⟨of_loop (l2.sum k) rfl (l2.ok k), trivial⟩) S cl hn kp H 0 (fun (d : (Unit × Int × Unit × Int × Int × Unit)) (e : (Unit × (List Int) × Unit × (List Int) × Unit)) => f k d.2.1 d.2.2.2.1 e.2.1 k d.2.2.2.2.1 e.2.2.2.1) KX cl hn kp rc rs ri k
    (fun d e => (it k k d e).trans (go_nat (fun v => some (Ex.exit 0, KX d e v)) (fun x11 y800003 => some (x11, y800003)) k d.2.1 d.2.2.2.1 e.2.1 k d.2.2.2.2.1 e.2.2.2.1).symm)
end l0
theorem run (k : Nat) (d : (Unit × Int × Unit × Unit)) (e : (Unit × (List Int) × (List Int) × Unit)) : runFn Tryz.prog (E k) 37 (bodyOf Tryz.f42) Tryz.f42.results.toList cl hn hi (mkL ps d) (mkH hs e) =
    tree (fun b0 => leafFn hs fi e val wr b0) k d.2.1 e.2.1 e.2.2.1 := by kernel_rfl
theorem run_f (k : Nat) (d : (Unit × Int × Unit × Unit)) (e : (Unit × (List Int) × (List Int) × Unit)) : runFn Tryz.prog (E k) 37 (bodyOf Tryz.f42) Tryz.f42.results.toList cl hn hi (mkL ps d) (mkH hs e) = (f k d.2.1 e.2.1 e.2.2.1).bind (leafFn hs fi e val wr) :=
  (run k d e).trans (tree_nat (leafFn hs fi e val wr) (fun b0 => some b0) k d.2.1 e.2.1 e.2.2.1).symm
theorem fnIs : FnIs Tryz.prog 42 Tryz.f42 (bodyOf Tryz.f42) 37 := ⟨by kernel_rfl, by kernel_rfl, by kernel_rfl, by kernel_rfl⟩
theorem ok (k : Nat) : CalleeOK Tryz.prog 42 (callee k) :=
  callee_sig (T := (List Int)) fnIs hm (fE k) (loopsOK_of [(0, subC (bodyOf Tryz.f42) [1, 0, 0])] (by kernel_rfl) ⟨of_loop (l0.sum k) rfl (l0.ok k), trivial⟩) ps hs cl hn fi (fun (d : (Unit × Int × Unit × Unit)) (e : (Unit × (List Int) × (List Int) × Unit)) => f k d.2.1 e.2.1 e.2.2.1) val wr rfl (fun _ => rfl) (run_f k)
end scroll_Pen_Put_v1
namespace scroll_Pen_Text
def tree {X : Type} (K : (List Int) → Option X) (k : Nat) (m1 : (List Int)) : Option X :=
  (K (toStr m1))
def f (k : Nat) (m1 : (List Int)) : Option (List Int) := tree (fun b0 => some b0) k m1
theorem tree_nat {X Y : Type} (h : X → Option Y) (K : (List Int) → Option X) (k : Nat) (m1 : (List Int)) : Option.bind (tree K k m1) h = tree (fun b0 => Option.bind (K b0) h) k m1 := by
  simp only [tree, bif_bind, sel_bind', Option.bind_assoc, Option.bind_none, Option.bind_some]
abbrev ps : List Sh := [.ptr 0]
abbrev hs : List (Nat × ESh) := [(0, .cell (.one (.vec 1))), (1, .rows 2 5 (.int .u8))]
abbrev hi : List Nat := hs.map (·.1)
abbrev fi : List Nat := [0, 1]
abbrev cl : List (Place × Nat × Hint) := []
abbrev hn : List Hint := [.any]
def val (t : (List Int)) : AV := Sh.mk (.data .str) t
def wr (t : (List Int)) : Heap := []
def callee (k : Nat) : Callee := sigCallee ps hs (fun (d : (Unit × Unit)) (e : (Unit × (List Int) × Unit)) => f k e.2.1) val wr
def E (k : Nat) : Env := ⟨fnTab [], loopTab [], natsTab [], natTab []⟩
theorem fE (k : Nat) : ∀ f, ∀ c ∈ (E k).fn f, CalleeOK Tryz.prog f c := fnTab_ok trivial
theorem run (k : Nat) (d : (Unit × Unit)) (e : (Unit × (List Int) × Unit)) : runFn Tryz.prog (E k) 8 (bodyOf Tryz.f46) Tryz.f46.results.toList cl hn hi (mkL ps d) (mkH hs e) =
    tree (fun b0 => leafFn hs fi e val wr b0) k e.2.1 := by kernel_rfl
theorem run_f (k : Nat) (d : (Unit × Unit)) (e : (Unit × (List Int) × Unit)) : runFn Tryz.prog (E k) 8 (bodyOf Tryz.f46) Tryz.f46.results.toList cl hn hi (mkL ps d) (mkH hs e) = (f k e.2.1).bind (leafFn hs fi e val wr) :=
  (run k d e).trans (tree_nat (leafFn hs fi e val wr) (fun b0 => some b0) k e.2.1).symm
theorem fnIs : FnIs Tryz.prog 46 Tryz.f46 (bodyOf Tryz.f46) 8 := ⟨by kernel_rfl, by kernel_rfl, by kernel_rfl, by kernel_rfl⟩
theorem ok (k : Nat) : CalleeOK Tryz.prog 46 (callee k) :=
  callee_sig (T := (List Int)) fnIs hm (fE k) (loopsOK_of [] (by kernel_rfl) trivial) ps hs cl hn fi (fun (d : (Unit × Unit)) (e : (Unit × (List Int) × Unit)) => f k e.2.1) val wr rfl (fun _ => rfl) (run_f k)
end scroll_Pen_Text
namespace scroll_Pen_Count
def tree {X : Type} (K : (List Int) → Option X) (k : Nat) (a1 : Int) (m1 : (List Int)) : Option X :=
  (bif (decide (a1 ≤ (252 : Int))) then (Option.bind (scroll_Pen_Put_v1.f k (1 : Int) ([(mxI a1 0)] : (List Int)) m1) (fun r1 => (K r1))) else (bif (decide (a1 ≤ (65535 : Int))) then (Option.bind (scroll_Pen_Put_v1.f k (1 : Int) ([253] : (List Int)) m1) (fun r2 => (Option.bind (scroll_Pen_Put_v1.f k (2 : Int) ([a1] : (List Int)) r2) (fun r3 => (K r3))))) else (bif (decide (a1 ≤ (4294967295 : Int))) then (Option.bind (scroll_Pen_Put_v1.f k (1 : Int) ([254] : (List Int)) m1) (fun r4 => (Option.bind (scroll_Pen_Put_v1.f k (4 : Int) ([a1] : (List Int)) r4) (fun r5 => (K r5))))) else (Option.bind (scroll_Pen_Put_v1.f k (1 : Int) ([255] : (List Int)) m1) (fun r6 => (Option.bind (scroll_Pen_Put_v1.f k (8 : Int) ([a1] : (List Int)) r6) (fun r7 => (K r7))))))))
def f (k : Nat) (a1 : Int) (m1 : (List Int)) : Option (List Int) := tree (fun b0 => some b0) k a1 m1
theorem tree_nat {X Y : Type} (h : X → Option Y) (K : (List Int) → Option X) (k : Nat) (a1 : Int) (m1 : (List Int)) : Option.bind (tree K k a1 m1) h = tree (fun b0 => Option.bind (K b0) h) k a1 m1 := by
  simp only [tree, bif_bind, sel_bind', Option.bind_assoc, Option.bind_none, Option.bind_some]
abbrev ps : List Sh := [.ptr 0, .data (.int .i64)]
abbrev hs : List (Nat × ESh) := [(0, .cell (.one (.vec 1))), (1, .rows 2 5 (.int .u8))]
abbrev hi : List Nat := hs.map (·.1)
abbrev fi : List Nat := [0, 1, 900002]
abbrev cl : List (Place × Nat × Hint) := []
abbrev hn : List Hint := []
def val (t : (List Int)) : AV := .tnil
def wr (t : (List Int)) : Heap := [(0, ESh.mk (.cell (.one (.vec 900002))) ()), (1, ESh.mk (.dead) ()), (900002, ESh.mk (.rows 2 5 (.int .u8)) t)]
def callee (k : Nat) : Callee := sigCallee ps hs (fun (d : (Unit × Int × Unit)) (e : (Unit × (List Int) × Unit)) => f k d.2.1 e.2.1) val wr
def E (k : Nat) : Env := ⟨fnTab [(42, [scroll_Pen_Put_v1.callee k])], loopTab [], natsTab [], natTab []⟩
theorem fE (k : Nat) : ∀ f, ∀ c ∈ (E k).fn f, CalleeOK Tryz.prog f c := fnTab_ok ⟨⟨scroll_Pen_Put_v1.ok k, trivial⟩, trivial⟩
theorem run (k : Nat) (d : (Unit × Int × Unit)) (e : (Unit × (List Int) × Unit)) : runFn Tryz.prog (E k) 39 (bodyOf Tryz.f47) Tryz.f47.results.toList cl hn hi (mkL ps d) (mkH hs e) =
    tree (fun b0 => leafFn hs fi e val wr b0) k d.2.1 e.2.1 := by kernel_rfl
theorem run_f (k : Nat) (d : (Unit × Int × Unit)) (e : (Unit × (List Int) × Unit)) : runFn Tryz.prog (E k) 39 (bodyOf Tryz.f47) Tryz.f47.results.toList cl hn hi (mkL ps d) (mkH hs e) = (f k d.2.1 e.2.1).bind (leafFn hs fi e val wr) :=
  (run k d e).trans (tree_nat (leafFn hs fi e val wr) (fun b0 => some b0) k d.2.1 e.2.1).symm
theorem fnIs : FnIs Tryz.prog 47 Tryz.f47 (bodyOf Tryz.f47) 39 := ⟨by kernel_rfl, by kernel_rfl, by kernel_rfl, by kernel_rfl⟩
theorem ok (k : Nat) : CalleeOK Tryz.prog 47 (callee k) :=
  callee_sig (T := (List Int)) fnIs hm (fE k) (loopsOK_of [] (by kernel_rfl) trivial) ps hs cl hn fi (fun (d : (Unit × Int × Unit)) (e : (Unit × (List Int) × Unit)) => f k d.2.1 e.2.1) val wr rfl (fun _ => rfl) (run_f k)
end scroll_Pen_Count
namespace scroll_Pen_Names_v1
namespace l0
def step {X : Type} (K : Int → (List Int) → Option X) (G : Int → (List Int) → Option X) (k : Nat) (x7 : Int) (y1 : (List (List Int))) (x8 : Int) (y800003 : (List Int)) : Option X :=
  (bif (decide (x8 < x7)) then (bif (decide (0 ≤ x8)) then (bif (decide (x8 < ((List.length y1) : Int))) then (bif (decide ((Int.toNat x8) < (List.length y1))) then (bif (fits (((List.length y800003) + (List.length (List.take 32 (List.getD y1 (Int.toNat x8) (List.replicate 32 0 : (List Int)))))) * 1)) then (G (addI .i64 x8 1) (y800003 ++ (List.take 32 (List.getD y1 (Int.toNat x8) (List.replicate 32 0 : (List Int)))))) else none) else none) else none) else none) else (K x8 y800003))
def go {X : Type} (K : Int → (List Int) → Option X) (k : Nat) (x7 : Int) (y1 : (List (List Int))) : Nat → Int → (List Int) → Option X
  | 0, _, _ => none
  | n + 1, x8, y800003 => step K (go K k x7 y1 n) k x7 y1 x8 y800003
def f (k : Nat) (x7 : Int) (y1 : (List (List Int))) (n : Nat) (x8 : Int) (y800003 : (List Int)) : Option (Int × (List Int)) := go (fun x8 y800003 => some (x8, y800003)) k x7 y1 n x8 y800003
theorem step_nat {X Y : Type} (h : X → Option Y) (K : Int → (List Int) → Option X) (G : Int → (List Int) → Option X) (k : Nat) (x7 : Int) (y1 : (List (List Int))) (x8 : Int) (y800003 : (List Int)) : Option.bind (step K G k x7 y1 x8 y800003) h = step (fun x8 y800003 => Option.bind (K x8 y800003) h) (fun x8 y800003 => Option.bind (G x8 y800003) h) k x7 y1 x8 y800003 := by
  simp only [step, bif_bind, sel_bind', Option.bind_assoc, Option.bind_none, Option.bind_some]
theorem go_nat {X Y : Type} (h : X → Option Y) (K : Int → (List Int) → Option X) (k : Nat) (x7 : Int) (y1 : (List (List Int))) (n : Nat) : ∀ (x8 : Int) (y800003 : (List Int)), Option.bind (go K k x7 y1 n x8 y800003) h = go (fun x8 y800003 => Option.bind (K x8 y800003) h) k x7 y1 n x8 y800003 := by
  induction n with
  | zero => intros; rfl
  | succ n ih => intro x8 y800003; show Option.bind (step K (go K k x7 y1 n) k x7 y1 x8 y800003) h = step (fun x8 y800003 => Option.bind (K x8 y800003) h) (go (fun x8 y800003 => Option.bind (K x8 y800003) h) k x7 y1 n) k x7 y1 x8 y800003; rw [step_nat h]; simp only [ih]
abbrev S : List (Nat × Sh) := [(0, .ptr 0), (6, .vec 1), (7, .data (.int .i64)), (8, .data (.int .i64))]
abbrev H : List (Nat × ESh) := [(0, .cell (.one (.vec 800003))), (1, .rows 0 24 (.arr .u8 32)), (2, .dead), (800003, .rows 2 5 (.int .u8))]
abbrev cl : List (Place × Nat × Hint) := [(.id 0, 0, .move)]
abbrev hn : List (Nat × Hint) := [(0, .any), (6, .any), (7, .any), (8, .any)]
abbrev kp : List Nat := [0, 1, 2]
abbrev rc : List (Place × Nat × Hint) := []
abbrev rs : List (Nat × Hint) := []
abbrev ri : List Nat := [0, 1, 2]
def KX (d : (Unit × Unit × Int × Int × Unit)) (e : (Unit × (List (List Int)) × Unit × (List Int) × Unit)) (v : (Int × (List Int))) : St := ⟨mkS S ((), (), d.2.2.1, v.1, ()), mkH H ((), e.2.1, (), v.2, ())⟩
def sum (k : Nat) : LoopSum := sigLoopX S cl hn kp H 0 (fun (d : (Unit × Unit × Int × Int × Unit)) (e : (Unit × (List (List Int)) × Unit × (List Int) × Unit)) => f k d.2.2.1 e.2.1 k d.2.2.2.1 e.2.2.2.1) KX
end l0
def tree {X : Type} (K : (List Int) → Option X) (k : Nat) (m1 : (List (List Int))) (m2 : (List Int)) : Option X :=
  (Option.bind (scroll_Pen_Names_v1.l0.f k ((List.length m1) : Int) m1 k (0 : Int) m2) (fun r1 => (K r1.2)))
def f (k : Nat) (m1 : (List (List Int))) (m2 : (List Int)) : Option (List Int) := tree (fun b0 => some b0) k m1 m2
theorem tree_nat {X Y : Type} (h : X → Option Y) (K : (List Int) → Option X) (k : Nat) (m1 : (List (List Int))) (m2 : (List Int)) : Option.bind (tree K k m1 m2) h = tree (fun b0 => Option.bind (K b0) h) k m1 m2 := by
  simp only [tree, bif_bind, sel_bind', Option.bind_assoc, Option.bind_none, Option.bind_some]
abbrev ps : List Sh := [.ptr 0, .vec 1]
abbrev hs : List (Nat × ESh) := [(0, .cell (.one (.vec 2))), (1, .rows 0 24 (.arr .u8 32)), (2, .rows 2 5 (.int .u8))]
abbrev hi : List Nat := hs.map (·.1)
abbrev fi : List Nat := [0, 1, 2, 900003]
abbrev cl : List (Place × Nat × Hint) := []
abbrev hn : List Hint := []
def val (t : (List Int)) : AV := .tnil
def wr (t : (List Int)) : Heap := [(0, ESh.mk (.cell (.one (.vec 900003))) ()), (2, ESh.mk (.dead) ()), (900003, ESh.mk (.rows 2 5 (.int .u8)) t)]
def callee (k : Nat) : Callee := sigCallee ps hs (fun (d : (Unit × Unit × Unit)) (e : (Unit × (List (List Int)) × (List Int) × Unit)) => f k e.2.1 e.2.2.1) val wr
def E (k : Nat) : Env := ⟨fnTab [], loopTab [(0, l0.sum k)], natsTab [], natTab []⟩
theorem fE (k : Nat) : ∀ f, ∀ c ∈ (E k).fn f, CalleeOK Tryz.prog f c := fnTab_ok trivial
namespace l0
theorem round (k : Nat) (d : (Unit × Unit × Int × Int × Unit)) (e : (Unit × (List (List Int)) × Unit × (List Int) × Unit)) (G : St → Option (Ex × St)) : roundK Tryz.prog (E k) 22 0 (subC (bodyOf Tryz.f48) [1, 0, 0]) (recast cl hn kp) (finBy cl hn kp rc rs ri) G ⟨mkS S d, mkH H e⟩ =
    step (fun x8 y800003 => some (.exit 0, KX d e (x8, y800003))) (fun x8 y800003 => G ⟨mkS S ((), (), d.2.2.1, x8, ()), mkH H ((), e.2.1, (), y800003, ())⟩) k d.2.2.1 e.2.1 d.2.2.2.1 e.2.2.2.1 := by kernel_rfl
theorem it (k n : Nat) (d : (Unit × Unit × Int × Int × Unit)) (e : (Unit × (List (List Int)) × Unit × (List Int) × Unit)) : loopIt Tryz.prog (E k) 22 0 (subC (bodyOf Tryz.f48) [1, 0, 0]) (recast cl hn kp) (finBy cl hn kp rc rs ri) n ⟨mkS S d, mkH H e⟩ = go (fun x8 y800003 => some (.exit 0, KX d e (x8, y800003))) k d.2.2.1 e.2.1 n d.2.2.2.1 e.2.2.2.1 :=
  loopIt_eq (D := (Unit × Unit × Int × Int × Unit) × (Unit × (List (List Int)) × Unit × (List Int) × Unit)) (fun p => ⟨mkS S p.1, mkH H p.2⟩) (fun F p => step (fun x8 y800003 => some (.exit 0, KX p.1 p.2 (x8, y800003))) (fun x8 y800003 => F (((), (), p.1.2.2.1, x8, ()), ((), p.2.2.1, (), y800003, ()))) k p.1.2.2.1 p.2.2.1 p.1.2.2.2.1 p.2.2.2.2.1) (fun n p => go (fun x8 y800003 => some (.exit 0, KX p.1 p.2 (x8, y800003))) k p.1.2.2.1 p.2.2.1 n p.1.2.2.2.1 p.2.2.2.2.1) (fun _ => rfl) (fun _ _ => rfl) (fun G p => round k p.1 p.2 G) n (d, e)
theorem ok (k : Nat) : LoopOK Tryz.prog 22 (subC (bodyOf Tryz.f48) [1, 0, 0]) (sum k) :=
  loop_sigX hm (fE k) (loopsOK_of [] (by kernel_rfl) trivial) S cl hn kp H 0 (fun (d : (Unit × Unit × Int × Int × Unit)) (e : (Unit × (List (List Int)) × Unit × (List Int) × Unit)) => f k d.2.2.1 e.2.1 k d.2.2.2.1 e.2.2.2.1) KX cl hn kp rc rs ri k
    (fun d e => (it k k d e).trans (go_nat (fun v => some (Ex.exit 0, KX d e v)) (fun x8 y800003 => some (x8, y800003)) k d.2.2.1 e.2.1 k d.2.2.2.1 e.2.2.2.1).symm)
end l0
theorem run (k : Nat) (d : (Unit × Unit × Unit)) (e : (Unit × (List (List Int)) × (List Int) × Unit)) : runFn Tryz.prog (E k) 22 (bodyOf Tryz.f48) Tryz.f48.results.toList cl hn hi (mkL ps d) (mkH hs e) =
    tree (fun b0 => leafFn hs fi e val wr b0) k e.2.1 e.2.2.1 := by kernel_rfl
theorem run_f (k : Nat) (d : (Unit × Unit × Unit)) (e : (Unit × (List (List Int)) × (List Int) × Unit)) : runFn Tryz.prog (E k) 22 (bodyOf Tryz.f48) Tryz.f48.results.toList cl hn hi (mkL ps d) (mkH hs e) = (f k e.2.1 e.2.2.1).bind (leafFn hs fi e val wr) :=
  (run k d e).trans (tree_nat (leafFn hs fi e val wr) (fun b0 => some b0) k e.2.1 e.2.2.1).symm
theorem fnIs : FnIs Tryz.prog 48 Tryz.f48 (bodyOf Tryz.f48) 22 := ⟨by kernel_rfl, by kernel_rfl, by kernel_rfl, by kernel_rfl⟩
theorem ok (k : Nat) : CalleeOK Tryz.prog 48 (callee k) :=
  callee_sig (T := (List Int)) fnIs hm (fE k) (loopsOK_of [(0, subC (bodyOf Tryz.f48) [1, 0, 0])] (by kernel_rfl) ⟨of_loop (l0.sum k) rfl (l0.ok k), trivial⟩) ps hs cl hn fi (fun (d : (Unit × Unit × Unit)) (e : (Unit × (List (List Int)) × (List Int) × Unit)) => f k e.2.1 e.2.2.1) val wr rfl (fun _ => rfl) (run_f k)
end scroll_Pen_Names_v1
namespace scroll_Pen_Names
namespace l0
def step {X : Type} (K : Int → (List Int) → Option X) (G : Int → (List Int) → Option X) (k : Nat) (x7 : Int) (y1 : (List (List Int))) (x8 : Int) (y800003 : (List Int)) : Option X :=
  (bif (decide (x8 < x7)) then (bif (decide (0 ≤ x8)) then (bif (decide (x8 < ((List.length y1) : Int))) then (bif (decide ((Int.toNat x8) < (List.length y1))) then (bif (fits (((List.length y800003) + (List.length (List.take 32 (List.getD y1 (Int.toNat x8) (List.replicate 32 0 : (List Int)))))) * 1)) then (G (addI .i64 x8 1) (y800003 ++ (List.take 32 (List.getD y1 (Int.toNat x8) (List.replicate 32 0 : (List Int)))))) else none) else none) else none) else none) else (K x8 y800003))
def go {X : Type} (K : Int → (List Int) → Option X) (k : Nat) (x7 : Int) (y1 : (List (List Int))) : Nat → Int → (List Int) → Option X
  | 0, _, _ => none
  | n + 1, x8, y800003 => step K (go K k x7 y1 n) k x7 y1 x8 y800003
def f (k : Nat) (x7 : Int) (y1 : (List (List Int))) (n : Nat) (x8 : Int) (y800003 : (List Int)) : Option (Int × (List Int)) := go (fun x8 y800003 => some (x8, y800003)) k x7 y1 n x8 y800003
theorem step_nat {X Y : Type} (h : X → Option Y) (K : Int → (List Int) → Option X) (G : Int → (List Int) → Option X) (k : Nat) (x7 : Int) (y1 : (List (List Int))) (x8 : Int) (y800003 : (List Int)) : Option.bind (step K G k x7 y1 x8 y800003) h = step (fun x8 y800003 => Option.bind (K x8 y800003) h) (fun x8 y800003 => Option.bind (G x8 y800003) h) k x7 y1 x8 y800003 := by
  simp only [step, bif_bind, sel_bind', Option.bind_assoc, Option.bind_none, Option.bind_some]
theorem go_nat {X Y : Type} (h : X → Option Y) (K : Int → (List Int) → Option X) (k : Nat) (x7 : Int) (y1 : (List (List Int))) (n : Nat) : ∀ (x8 : Int) (y800003 : (List Int)), Option.bind (go K k x7 y1 n x8 y800003) h = go (fun x8 y800003 => Option.bind (K x8 y800003) h) k x7 y1 n x8 y800003 := by
  induction n with
  | zero => intros; rfl
  | succ n ih => intro x8 y800003; show Option.bind (step K (go K k x7 y1 n) k x7 y1 x8 y800003) h = step (fun x8 y800003 => Option.bind (K x8 y800003) h) (go (fun x8 y800003 => Option.bind (K x8 y800003) h) k x7 y1 n) k x7 y1 x8 y800003; rw [step_nat h]; simp only [ih]
abbrev S : List (Nat × Sh) := [(0, .ptr 0), (6, .vec 1), (7, .data (.int .i64)), (8, .data (.int .i64))]
abbrev H : List (Nat × ESh) := [(0, .cell (.one (.vec 800003))), (1, .rows 2 24 (.arr .u8 32)), (2, .dead), (800003, .rows 2 5 (.int .u8))]
abbrev cl : List (Place × Nat × Hint) := [(.id 0, 0, .move)]
abbrev hn : List (Nat × Hint) := [(0, .any), (6, .any), (7, .any), (8, .any)]
abbrev kp : List Nat := [0, 1, 2]
abbrev rc : List (Place × Nat × Hint) := []
abbrev rs : List (Nat × Hint) := []
abbrev ri : List Nat := [0, 1, 2]
def KX (d : (Unit × Unit × Int × Int × Unit)) (e : (Unit × (List (List Int)) × Unit × (List Int) × Unit)) (v : (Int × (List Int))) : St := ⟨mkS S ((), (), d.2.2.1, v.1, ()), mkH H ((), e.2.1, (), v.2, ())⟩
def sum (k : Nat) : LoopSum := sigLoopX S cl hn kp H 0 (fun (d : (Unit × Unit × Int × Int × Unit)) (e : (Unit × (List (List Int)) × Unit × (List Int) × Unit)) => f k d.2.2.1 e.2.1 k d.2.2.2.1 e.2.2.2.1) KX
end l0
def tree {X : Type} (K : (List Int) → Option X) (k : Nat) (m1 : (List (List Int))) (m2 : (List Int)) : Option X :=
  (Option.bind (scroll_Pen_Names.l0.f k ((List.length m1) : Int) m1 k (0 : Int) m2) (fun r1 => (K r1.2)))
def f (k : Nat) (m1 : (List (List Int))) (m2 : (List Int)) : Option (List Int) := tree (fun b0 => some b0) k m1 m2
theorem tree_nat {X Y : Type} (h : X → Option Y) (K : (List Int) → Option X) (k : Nat) (m1 : (List (List Int))) (m2 : (List Int)) : Option.bind (tree K k m1 m2) h = tree (fun b0 => Option.bind (K b0) h) k m1 m2 := by
  simp only [tree, bif_bind, sel_bind', Option.bind_assoc, Option.bind_none, Option.bind_some]
abbrev ps : List Sh := [.ptr 0, .vec 1]
abbrev hs : List (Nat × ESh) := [(0, .cell (.one (.vec 2))), (1, .rows 2 24 (.arr .u8 32)), (2, .rows 2 5 (.int .u8))]
abbrev hi : List Nat := hs.map (·.1)
abbrev fi : List Nat := [0, 1, 2, 900003]
abbrev cl : List (Place × Nat × Hint) := []
abbrev hn : List Hint := []
def val (t : (List Int)) : AV := .tnil
def wr (t : (List Int)) : Heap := [(0, ESh.mk (.cell (.one (.vec 900003))) ()), (2, ESh.mk (.dead) ()), (900003, ESh.mk (.rows 2 5 (.int .u8)) t)]
def callee (k : Nat) : Callee := sigCallee ps hs (fun (d : (Unit × Unit × Unit)) (e : (Unit × (List (List Int)) × (List Int) × Unit)) => f k e.2.1 e.2.2.1) val wr
def E (k : Nat) : Env := ⟨fnTab [], loopTab [(0, l0.sum k)], natsTab [], natTab []⟩
theorem fE (k : Nat) : ∀ f, ∀ c ∈ (E k).fn f, CalleeOK Tryz.prog f c := fnTab_ok trivial
namespace l0
theorem round (k : Nat) (d : (Unit × Unit × Int × Int × Unit)) (e : (Unit × (List (List Int)) × Unit × (List Int) × Unit)) (G : St → Option (Ex × St)) : roundK Tryz.prog (E k) 22 0 (subC (bodyOf Tryz.f48) [1, 0, 0]) (recast cl hn kp) (finBy cl hn kp rc rs ri) G ⟨mkS S d, mkH H e⟩ =
    step (fun x8 y800003 => some (.exit 0, KX d e (x8, y800003))) (fun x8 y800003 => G ⟨mkS S ((), (), d.2.2.1, x8, ()), mkH H ((), e.2.1, (), y800003, ())⟩) k d.2.2.1 e.2.1 d.2.2.2.1 e.2.2.2.1 := by kernel_rfl
theorem it (k n : Nat) (d : (Unit × Unit × Int × Int × Unit)) (e : (Unit × (List (List Int)) × Unit × (List Int) × Unit)) : loopIt Tryz.prog (E k) 22 0 (subC (bodyOf Tryz.f48) [1, 0, 0]) (recast cl hn kp) (finBy cl hn kp rc rs ri) n ⟨mkS S d, mkH H e⟩ = go (fun x8 y800003 => some (.exit 0, KX d e (x8, y800003))) k d.2.2.1 e.2.1 n d.2.2.2.1 e.2.2.2.1 :=
  loopIt_eq (D := (Unit × Unit × Int × Int × Unit) × (Unit × (List (List Int)) × Unit × (List Int) × Unit)) (fun p => ⟨mkS S p.1, mkH H p.2⟩) (fun F p => step (fun x8 y800003 => some (.exit 0, KX p.1 p.2 (x8, y800003))) (fun x8 y800003 => F (((), (), p.1.2.2.1, x8, ()), ((), p.2.2.1, (), y800003, ()))) k p.1.2.2.1 p.2.2.1 p.1.2.2.2.1 p.2.2.2.2.1) (fun n p => go (fun x8 y800003 => some (.exit 0, KX p.1 p.2 (x8, y800003))) k p.1.2.2.1 p.2.2.1 n p.1.2.2.2.1 p.2.2.2.2.1) (fun _ => rfl) (fun _ _ => rfl) (fun G p => round k p.1 p.2 G) n (d, e)
theorem ok (k : Nat) : LoopOK Tryz.prog 22 (subC (bodyOf Tryz.f48) [1, 0, 0]) (sum k) :=
  loop_sigX hm (fE k) (loopsOK_of [] (by kernel_rfl) trivial) S cl hn kp H 0 (fun (d : (Unit × Unit × Int × Int × Unit)) (e : (Unit × (List (List Int)) × Unit × (List Int) × Unit)) => f k d.2.2.1 e.2.1 k d.2.2.2.1 e.2.2.2.1) KX cl hn kp rc rs ri k
    (fun d e => (it k k d e).trans (go_nat (fun v => some (Ex.exit 0, KX d e v)) (fun x8 y800003 => some (x8, y800003)) k d.2.2.1 e.2.1 k d.2.2.2.1 e.2.2.2.1).symm)
end l0
theorem run (k : Nat) (d : (Unit × Unit × Unit)) (e : (Unit × (List (List Int)) × (List Int) × Unit)) : runFn Tryz.prog (E k) 22 (bodyOf Tryz.f48) Tryz.f48.results.toList cl hn hi (mkL ps d) (mkH hs e) =
    tree (fun b0 => leafFn hs fi e val wr b0) k e.2.1 e.2.2.1 := by kernel_rfl
theorem run_f (k : Nat) (d : (Unit × Unit × Unit)) (e : (Unit × (List (List Int)) × (List Int) × Unit)) : runFn Tryz.prog (E k) 22 (bodyOf Tryz.f48) Tryz.f48.results.toList cl hn hi (mkL ps d) (mkH hs e) = (f k e.2.1 e.2.2.1).bind (leafFn hs fi e val wr) :=
  (run k d e).trans (tree_nat (leafFn hs fi e val wr) (fun b0 => some b0) k e.2.1 e.2.2.1).symm
theorem fnIs : FnIs Tryz.prog 48 Tryz.f48 (bodyOf Tryz.f48) 22 := ⟨by kernel_rfl, by kernel_rfl, by kernel_rfl, by kernel_rfl⟩
theorem ok (k : Nat) : CalleeOK Tryz.prog 48 (callee k) :=
  callee_sig (T := (List Int)) fnIs hm (fE k) (loopsOK_of [(0, subC (bodyOf Tryz.f48) [1, 0, 0])] (by kernel_rfl) ⟨of_loop (l0.sum k) rfl (l0.ok k), trivial⟩) ps hs cl hn fi (fun (d : (Unit × Unit × Unit)) (e : (Unit × (List (List Int)) × (List Int) × Unit)) => f k e.2.1 e.2.2.1) val wr rfl (fun _ => rfl) (run_f k)
end scroll_Pen_Names
namespace scroll_Pen_Count_v1
def tree {X : Type} (K : (List Int) → Option X) (k : Nat) (a1 : Int) : Option X :=
  (bif (decide (a1 ≤ (252 : Int))) then (Option.bind (scroll_Pen_Put.f k (1 : Int) ([(mxI a1 0)] : (List Int))) (fun r1 => (K r1))) else (bif (decide (a1 ≤ (65535 : Int))) then (Option.bind (scroll_Pen_Put.f k (1 : Int) ([253] : (List Int))) (fun r2 => (Option.bind (scroll_Pen_Put_v1.f k (2 : Int) ([a1] : (List Int)) r2) (fun r3 => (K r3))))) else (bif (decide (a1 ≤ (4294967295 : Int))) then (Option.bind (scroll_Pen_Put.f k (1 : Int) ([254] : (List Int))) (fun r4 => (Option.bind (scroll_Pen_Put_v1.f k (4 : Int) ([a1] : (List Int)) r4) (fun r5 => (K r5))))) else (Option.bind (scroll_Pen_Put.f k (1 : Int) ([255] : (List Int))) (fun r6 => (Option.bind (scroll_Pen_Put_v1.f k (8 : Int) ([a1] : (List Int)) r6) (fun r7 => (K r7))))))))
def f (k : Nat) (a1 : Int) : Option (List Int) := tree (fun b0 => some b0) k a1
theorem tree_nat {X Y : Type} (h : X → Option Y) (K : (List Int) → Option X) (k : Nat) (a1 : Int) : Option.bind (tree K k a1) h = tree (fun b0 => Option.bind (K b0) h) k a1 := by
  simp only [tree, bif_bind, sel_bind', Option.bind_assoc, Option.bind_none, Option.bind_some]
abbrev ps : List Sh := [.ptr 0, .data (.int .i64)]
abbrev hs : List (Nat × ESh) := [(0, .cell (.one .nils))]
abbrev hi : List Nat := hs.map (·.1)
abbrev fi : List Nat := [0, 900001]
abbrev cl : List (Place × Nat × Hint) := []
abbrev hn : List Hint := []
def val (t : (List Int)) : AV := .tnil
def wr (t : (List Int)) : Heap := [(0, ESh.mk (.cell (.one (.vec 900001))) ()), (900001, ESh.mk (.rows 2 5 (.int .u8)) t)]
def callee (k : Nat) : Callee := sigCallee ps hs (fun (d : (Unit × Int × Unit)) (e : (Unit × Unit)) => f k d.2.1) val wr
def E (k : Nat) : Env := ⟨fnTab [(42, [scroll_Pen_Put.callee k, scroll_Pen_Put_v1.callee k])], loopTab [], natsTab [], natTab []⟩
theorem fE (k : Nat) : ∀ f, ∀ c ∈ (E k).fn f, CalleeOK Tryz.prog f c := fnTab_ok ⟨⟨scroll_Pen_Put.ok k, scroll_Pen_Put_v1.ok k, trivial⟩, trivial⟩
theorem run (k : Nat) (d : (Unit × Int × Unit)) (e : (Unit × Unit)) : runFn Tryz.prog (E k) 39 (bodyOf Tryz.f47) Tryz.f47.results.toList cl hn hi (mkL ps d) (mkH hs e) =
    tree (fun b0 => leafFn hs fi e val wr b0) k d.2.1 := by kernel_rfl
theorem run_f (k : Nat) (d : (Unit × Int × Unit)) (e : (Unit × Unit)) : runFn Tryz.prog (E k) 39 (bodyOf Tryz.f47) Tryz.f47.results.toList cl hn hi (mkL ps d) (mkH hs e) = (f k d.2.1).bind (leafFn hs fi e val wr) :=
  (run k d e).trans (tree_nat (leafFn hs fi e val wr) (fun b0 => some b0) k d.2.1).symm
theorem fnIs : FnIs Tryz.prog 47 Tryz.f47 (bodyOf Tryz.f47) 39 := ⟨by kernel_rfl, by kernel_rfl, by kernel_rfl, by kernel_rfl⟩
theorem ok (k : Nat) : CalleeOK Tryz.prog 47 (callee k) :=
  callee_sig (T := (List Int)) fnIs hm (fE k) (loopsOK_of [] (by kernel_rfl) trivial) ps hs cl hn fi (fun (d : (Unit × Int × Unit)) (e : (Unit × Unit)) => f k d.2.1) val wr rfl (fun _ => rfl) (run_f k)
end scroll_Pen_Count_v1
namespace header_Write_v1
def tree {X : Type} (K : (List Int) → Option X) (k : Nat) (a1 : T_3d5633) (m1 : (List Int)) : Option X :=
  (Option.bind (header_Good.f k a1) (fun r1 => (bif (!r1) then (Option.bind (scroll_Pen_Put_v1.f k (4 : Int) ([0] : (List Int)) m1) (fun r2 => (Option.bind (scroll_Pen_Names.f k ([[0, 0, 0, 0, 0, 0, 0, 0, 0, 0, 0, 0, 0, 0, 0, 0, 0, 0, 0, 0, 0, 0, 0, 0, 0, 0, 0, 0, 0, 0, 0, 0], [0, 0, 0, 0, 0, 0, 0, 0, 0, 0, 0, 0, 0, 0, 0, 0, 0, 0, 0, 0, 0, 0, 0, 0, 0, 0, 0, 0, 0, 0, 0, 0]] : (List (List Int))) r2) (fun r3 => (Option.bind (scroll_Pen_Put_v1.f k (4 : Int) ([0, 0, 0] : (List Int)) r3) (fun r4 => (K r4))))))) else (Option.bind (scroll_Pen_Put_v1.f k (4 : Int) ([a1.1] : (List Int)) m1) (fun r5 => (Option.bind (scroll_Pen_Names.f k ([a1.2.1, a1.2.2.1] : (List (List Int))) r5) (fun r6 => (Option.bind (scroll_Pen_Put_v1.f k (4 : Int) ([a1.2.2.2.1, a1.2.2.2.2.1, a1.2.2.2.2.2] : (List Int)) r6) (fun r7 => (K r7))))))))))
def f (k : Nat) (a1 : T_3d5633) (m1 : (List Int)) : Option (List Int) := tree (fun b0 => some b0) k a1 m1
theorem tree_nat {X Y : Type} (h : X → Option Y) (K : (List Int) → Option X) (k : Nat) (a1 : T_3d5633) (m1 : (List Int)) : Option.bind (tree K k a1 m1) h = tree (fun b0 => Option.bind (K b0) h) k a1 m1 := by
  simp only [tree, bif_bind, sel_bind', Option.bind_assoc, Option.bind_none, Option.bind_some]
abbrev ps : List Sh := [.ptr 0, .data (.pair (.int .i64) (.pair (.arr .u8 32) (.pair (.arr .u8 32) (.pair (.int .i64) (.pair (.int .i64) (.int .i64))))))]
abbrev hs : List (Nat × ESh) := [(0, .cell (.one (.vec 1))), (1, .rows 2 5 (.int .u8))]
abbrev hi : List Nat := hs.map (·.1)
abbrev fi : List Nat := [0, 1, 900002]
abbrev cl : List (Place × Nat × Hint) := []
abbrev hn : List Hint := []
def val (t : (List Int)) : AV := .tnil
def wr (t : (List Int)) : Heap := [(0, ESh.mk (.cell (.one (.vec 900002))) ()), (1, ESh.mk (.dead) ()), (900002, ESh.mk (.rows 2 5 (.int .u8)) t)]
def callee (k : Nat) : Callee := sigCallee ps hs (fun (d : (Unit × T_3d5633 × Unit)) (e : (Unit × (List Int) × Unit)) => f k d.2.1 e.2.1) val wr
def E (k : Nat) : Env := ⟨fnTab [(23, [header_Good.callee k]), (42, [scroll_Pen_Put_v1.callee k]), (48, [scroll_Pen_Names.callee k])], loopTab [], natsTab [], natTab []⟩
theorem fE (k : Nat) : ∀ f, ∀ c ∈ (E k).fn f, CalleeOK Tryz.prog f c := fnTab_ok ⟨⟨header_Good.ok k, trivial⟩, ⟨scroll_Pen_Put_v1.ok k, trivial⟩, ⟨scroll_Pen_Names.ok k, trivial⟩, trivial⟩
theorem run (k : Nat) (d : (Unit × T_3d5633 × Unit)) (e : (Unit × (List Int) × Unit)) : runFn Tryz.prog (E k) 29 (bodyOf Tryz.f49) Tryz.f49.results.toList cl hn hi (mkL ps d) (mkH hs e) =
    tree (fun b0 => leafFn hs fi e val wr b0) k d.2.1 e.2.1 := by kernel_rfl
theorem run_f (k : Nat) (d : (Unit × T_3d5633 × Unit)) (e : (Unit × (List Int) × Unit)) : runFn Tryz.prog (E k) 29 (bodyOf Tryz.f49) Tryz.f49.results.toList cl hn hi (mkL ps d) (mkH hs e) = (f k d.2.1 e.2.1).bind (leafFn hs fi e val wr) :=
  (run k d e).trans (tree_nat (leafFn hs fi e val wr) (fun b0 => some b0) k d.2.1 e.2.1).symm
theorem fnIs : FnIs Tryz.prog 49 Tryz.f49 (bodyOf Tryz.f49) 29 := ⟨by kernel_rfl, by kernel_rfl, by kernel_rfl, by kernel_rfl⟩
theorem ok (k : Nat) : CalleeOK Tryz.prog 49 (callee k) :=
  callee_sig (T := (List Int)) fnIs hm (fE k) (loopsOK_of [] (by kernel_rfl) trivial) ps hs cl hn fi (fun (d : (Unit × T_3d5633 × Unit)) (e : (Unit × (List Int) × Unit)) => f k d.2.1 e.2.1) val wr rfl (fun _ => rfl) (run_f k)
end header_Write_v1
namespace scroll_Pen_Text_v1
def tree {X : Type} (K : (List Int) → Option X) (k : Nat) : Option X :=
  (K (toStr ([] : (List Int))))
def f (k : Nat) : Option (List Int) := tree (fun b0 => some b0) k
theorem tree_nat {X Y : Type} (h : X → Option Y) (K : (List Int) → Option X) (k : Nat) : Option.bind (tree K k) h = tree (fun b0 => Option.bind (K b0) h) k := by
  simp only [tree, bif_bind, sel_bind', Option.bind_assoc, Option.bind_none, Option.bind_some]
abbrev ps : List Sh := [.ptr 0]
abbrev hs : List (Nat × ESh) := [(0, .cell (.one .nils))]
abbrev hi : List Nat := hs.map (·.1)
abbrev fi : List Nat := [0]
abbrev cl : List (Place × Nat × Hint) := []
abbrev hn : List Hint := [.any]
def val (t : (List Int)) : AV := Sh.mk (.data .str) t
def wr (t : (List Int)) : Heap := []
def callee (k : Nat) : Callee := sigCallee ps hs (fun (d : (Unit × Unit)) (e : (Unit × Unit)) => f k) val wr
def E (k : Nat) : Env := ⟨fnTab [], loopTab [], natsTab [], natTab []⟩
theorem fE (k : Nat) : ∀ f, ∀ c ∈ (E k).fn f, CalleeOK Tryz.prog f c := fnTab_ok trivial
theorem run (k : Nat) (d : (Unit × Unit)) (e : (Unit × Unit)) : runFn Tryz.prog (E k) 8 (bodyOf Tryz.f46) Tryz.f46.results.toList cl hn hi (mkL ps d) (mkH hs e) =
    tree (fun b0 => leafFn hs fi e val wr b0) k := by kernel_rfl
theorem run_f (k : Nat) (d : (Unit × Unit)) (e : (Unit × Unit)) : runFn Tryz.prog (E k) 8 (bodyOf Tryz.f46) Tryz.f46.results.toList cl hn hi (mkL ps d) (mkH hs e) = (f k).bind (leafFn hs fi e val wr) :=
  (run k d e).trans (tree_nat (leafFn hs fi e val wr) (fun b0 => some b0) k).symm
theorem fnIs : FnIs Tryz.prog 46 Tryz.f46 (bodyOf Tryz.f46) 8 := ⟨by kernel_rfl, by kernel_rfl, by kernel_rfl, by kernel_rfl⟩
theorem ok (k : Nat) : CalleeOK Tryz.prog 46 (callee k) :=
  callee_sig (T := (List Int)) fnIs hm (fE k) (loopsOK_of [] (by kernel_rfl) trivial) ps hs cl hn fi (fun (d : (Unit × Unit)) (e : (Unit × Unit)) => f k) val wr rfl (fun _ => rfl) (run_f k)
end scroll_Pen_Text_v1
namespace speech_payload
namespace l1
def step {X : Type} (K : Int → (List Int) → Option X) (G : Int → (List Int) → Option X) (k : Nat) (x58 : Int) (y800001 : (List T_3d5633)) (x59 : Int) (y800002 : (List Int)) : Option X :=
  (bif (decide (x59 < x58)) then (bif (decide (0 ≤ x59)) then (bif (decide (x59 < ((List.length y800001) : Int))) then (bif (decide ((Int.toNat x59) < (List.length y800001))) then (Option.bind (header_Write_v1.f k ((((List.getD y800001 (Int.toNat x59) dfl_31f8ee)).1, ((((List.getD y800001 (Int.toNat x59) dfl_31f8ee)).2).1, (((((List.getD y800001 (Int.toNat x59) dfl_31f8ee)).2).2).1, ((((((List.getD y800001 (Int.toNat x59) dfl_31f8ee)).2).2).2).1, ((((((List.getD y800001 (Int.toNat x59) dfl_31f8ee)).2).2).2).2))))) : T_3d5633) y800002) (fun r10 => (Option.bind (scroll_Pen_Count.f k (0 : Int) r10) (fun r11 => (G (addI .i64 x59 1) r11))))) else none) else none) else none) else (K x59 y800002))
def go {X : Type} (K : Int → (List Int) → Option X) (k : Nat) (x58 : Int) (y800001 : (List T_3d5633)) : Nat → Int → (List Int) → Option X
  | 0, _, _ => none
  | n + 1, x59, y800002 => step K (go K k x58 y800001 n) k x58 y800001 x59 y800002
def f (k : Nat) (x58 : Int) (y800001 : (List T_3d5633)) (n : Nat) (x59 : Int) (y800002 : (List Int)) : Option (Int × (List Int)) := go (fun x59 y800002 => some (x59, y800002)) k x58 y800001 n x59 y800002
theorem step_nat {X Y : Type} (h : X → Option Y) (K : Int → (List Int) → Option X) (G : Int → (List Int) → Option X) (k : Nat) (x58 : Int) (y800001 : (List T_3d5633)) (x59 : Int) (y800002 : (List Int)) : Option.bind (step K G k x58 y800001 x59 y800002) h = step (fun x59 y800002 => Option.bind (K x59 y800002) h) (fun x59 y800002 => Option.bind (G x59 y800002) h) k x58 y800001 x59 y800002 := by
  simp only [step, bif_bind, sel_bind', Option.bind_assoc, Option.bind_none, Option.bind_some]
theorem go_nat {X Y : Type} (h : X → Option Y) (K : Int → (List Int) → Option X) (k : Nat) (x58 : Int) (y800001 : (List T_3d5633)) (n : Nat) : ∀ (x59 : Int) (y800002 : (List Int)), Option.bind (go K k x58 y800001 n x59 y800002) h = go (fun x59 y800002 => Option.bind (K x59 y800002) h) k x58 y800001 n x59 y800002 := by
  induction n with
  | zero => intros; rfl
  | succ n ih => intro x59 y800002; show Option.bind (step K (go K k x58 y800001 n) k x58 y800001 x59 y800002) h = step (fun x59 y800002 => Option.bind (K x59 y800002) h) (go (fun x59 y800002 => Option.bind (K x59 y800002) h) k x58 y800001 n) k x58 y800001 x59 y800002; rw [step_nat h]; simp only [ih]
abbrev S : List (Nat × Sh) := [(3, .ptr 800000), (57, .vec 800001), (58, .data (.int .i64)), (59, .data (.int .i64))]
abbrev H : List (Nat × ESh) := [(800000, .cell (.one (.vec 800002))), (800001, .rows 0 44 (.pair (.int .i64) (.pair (.arr .u8 32) (.pair (.arr .u8 32) (.pair (.int .i64) (.pair (.int .i64) (.int .i64))))))), (800002, .rows 2 5 (.int .u8))]
abbrev cl : List (Place × Nat × Hint) := []
abbrev hn : List (Nat × Hint) := [(3, .any), (57, .any), (58, .any), (59, .any)]
abbrev kp : List Nat := []
abbrev rc : List (Place × Nat × Hint) := []
abbrev rs : List (Nat × Hint) := []
abbrev ri : List Nat := []
def KX (d : (Unit × Unit × Int × Int × Unit)) (e : (Unit × (List T_3d5633) × (List Int) × Unit)) (v : (Int × (List Int))) : St := ⟨mkS S ((), (), d.2.2.1, v.1, ()), mkH H ((), e.2.1, v.2, ())⟩
def sum (k : Nat) : LoopSum := sigLoopX S cl hn kp H 1 (fun (d : (Unit × Unit × Int × Int × Unit)) (e : (Unit × (List T_3d5633) × (List Int) × Unit)) => f k d.2.2.1 e.2.1 k d.2.2.2.1 e.2.2.1) KX
end l1
namespace l3
def step {X : Type} (K : Int → (List Int) → Option X) (G : Int → (List Int) → Option X) (k : Nat) (x78 : Int) (y800001 : (List (List Int))) (x79 : Int) (y800002 : (List Int)) : Option X :=
  (bif (decide (x79 < x78)) then (bif (decide (0 ≤ x79)) then (bif (decide (x79 < ((List.length y800001) : Int))) then (bif (decide ((Int.toNat x79) < (List.length y800001))) then (Option.bind (scroll_Pen_Put_v1.f k (4 : Int) ([2] : (List Int)) y800002) (fun r15 => (Option.bind (scroll_Pen_Names.f k ([(List.getD y800001 (Int.toNat x79) (List.replicate 32 0 : (List Int)))] : (List (List Int))) r15) (fun r16 => (G (addI .i64 x79 1) r16))))) else none) else none) else none) else (K x79 y800002))
def go {X : Type} (K : Int → (List Int) → Option X) (k : Nat) (x78 : Int) (y800001 : (List (List Int))) : Nat → Int → (List Int) → Option X
  | 0, _, _ => none
  | n + 1, x79, y800002 => step K (go K k x78 y800001 n) k x78 y800001 x79 y800002
def f (k : Nat) (x78 : Int) (y800001 : (List (List Int))) (n : Nat) (x79 : Int) (y800002 : (List Int)) : Option (Int × (List Int)) := go (fun x79 y800002 => some (x79, y800002)) k x78 y800001 n x79 y800002
theorem step_nat {X Y : Type} (h : X → Option Y) (K : Int → (List Int) → Option X) (G : Int → (List Int) → Option X) (k : Nat) (x78 : Int) (y800001 : (List (List Int))) (x79 : Int) (y800002 : (List Int)) : Option.bind (step K G k x78 y800001 x79 y800002) h = step (fun x79 y800002 => Option.bind (K x79 y800002) h) (fun x79 y800002 => Option.bind (G x79 y800002) h) k x78 y800001 x79 y800002 := by
  simp only [step, bif_bind, sel_bind', Option.bind_assoc, Option.bind_none, Option.bind_some]
theorem go_nat {X Y : Type} (h : X → Option Y) (K : Int → (List Int) → Option X) (k : Nat) (x78 : Int) (y800001 : (List (List Int))) (n : Nat) : ∀ (x79 : Int) (y800002 : (List Int)), Option.bind (go K k x78 y800001 n x79 y800002) h = go (fun x79 y800002 => Option.bind (K x79 y800002) h) k x78 y800001 n x79 y800002 := by
  induction n with
  | zero => intros; rfl
  | succ n ih => intro x79 y800002; show Option.bind (step K (go K k x78 y800001 n) k x78 y800001 x79 y800002) h = step (fun x79 y800002 => Option.bind (K x79 y800002) h) (go (fun x79 y800002 => Option.bind (K x79 y800002) h) k x78 y800001 n) k x78 y800001 x79 y800002; rw [step_nat h]; simp only [ih]
abbrev S : List (Nat × Sh) := [(3, .ptr 800000), (77, .vec 800001), (78, .data (.int .i64)), (79, .data (.int .i64))]
abbrev H : List (Nat × ESh) := [(800000, .cell (.one (.vec 800002))), (800001, .rows 0 24 (.arr .u8 32)), (800002, .rows 2 5 (.int .u8))]
abbrev cl : List (Place × Nat × Hint) := []
abbrev hn : List (Nat × Hint) := [(3, .any), (77, .any), (78, .any), (79, .any)]
abbrev kp : List Nat := []
abbrev rc : List (Place × Nat × Hint) := []
abbrev rs : List (Nat × Hint) := []
abbrev ri : List Nat := []
def KX (d : (Unit × Unit × Int × Int × Unit)) (e : (Unit × (List (List Int)) × (List Int) × Unit)) (v : (Int × (List Int))) : St := ⟨mkS S ((), (), d.2.2.1, v.1, ()), mkH H ((), e.2.1, v.2, ())⟩
def sum (k : Nat) : LoopSum := sigLoopX S cl hn kp H 3 (fun (d : (Unit × Unit × Int × Int × Unit)) (e : (Unit × (List (List Int)) × (List Int) × Unit)) => f k d.2.2.1 e.2.1 k d.2.2.2.1 e.2.2.1) KX
end l3
def tree {X : Type} (K : (List Int) → Option X) (k : Nat) (a0 : T_85bbee) : Option X :=
  (bif (a0.1 == (1 : Int)) then (Option.bind (scroll_Pen_Put.f k (4 : Int) ([a0.2.1, a0.2.2.2.1] : (List Int))) (fun r1 => (Option.bind (scroll_Pen_Put_v1.f k (7 : Int) ([a0.2.2.1, a0.2.2.2.2.1] : (List Int)) r1) (fun r2 => (Option.bind (scroll_Pen_Text.f k r2) (fun r3 => (K r3))))))) else (bif (a0.1 == (3 : Int)) then (Option.bind (scroll_Pen_Put.f k (4 : Int) ([a0.2.1] : (List Int))) (fun r4 => (Option.bind (scroll_Pen_Count.f k ((List.length a0.2.2.2.2.2.1) : Int) r4) (fun r5 => (Option.bind (scroll_Pen_Names_v1.f k a0.2.2.2.2.2.1 r5) (fun r6 => (Option.bind (scroll_Pen_Names.f k ([a0.2.2.2.2.2.2.1] : (List (List Int))) r6) (fun r7 => (Option.bind (scroll_Pen_Text.f k r7) (fun r8 => (K r8))))))))))) else (bif (a0.1 == (4 : Int)) then (Option.bind (scroll_Pen_Count_v1.f k ((List.length a0.2.2.2.2.2.2.2) : Int)) (fun r9 => (Option.bind (speech_payload.l1.f k ((List.length a0.2.2.2.2.2.2.2) : Int) a0.2.2.2.2.2.2.2 k (0 : Int) r9) (fun r12 => (Option.bind (scroll_Pen_Text.f k r12.2) (fun r13 => (K r13))))))) else (bif (a0.1 == (5 : Int)) then (Option.bind (scroll_Pen_Count_v1.f k ((List.length a0.2.2.2.2.2.1) : Int)) (fun r14 => (Option.bind (speech_payload.l3.f k ((List.length a0.2.2.2.2.2.1) : Int) a0.2.2.2.2.2.1 k (0 : Int) r14) (fun r17 => (Option.bind (scroll_Pen_Text.f k r17.2) (fun r18 => (K r18))))))) else (bif (a0.1 == (6 : Int)) then (bif (a0.1 == (6 : Int)) then (Option.bind (scroll_Pen_Put.f k (7 : Int) ([a0.2.2.2.2.1] : (List Int))) (fun r19 => (Option.bind (scroll_Pen_Text.f k r19) (fun r20 => (K r20))))) else (Option.bind (scroll_Pen_Text_v1.f k) (fun r21 => (K r21)))) else (bif (a0.1 == (7 : Int)) then (Option.bind (scroll_Pen_Put.f k (7 : Int) ([a0.2.2.2.2.1] : (List Int))) (fun r22 => (Option.bind (scroll_Pen_Text.f k r22) (fun r23 => (K r23))))) else (Option.bind (scroll_Pen_Text_v1.f k) (fun r24 => (K r24)))))))))
def f (k : Nat) (a0 : T_85bbee) : Option (List Int) := tree (fun b0 => some b0) k a0
theorem tree_nat {X Y : Type} (h : X → Option Y) (K : (List Int) → Option X) (k : Nat) (a0 : T_85bbee) : Option.bind (tree K k a0) h = tree (fun b0 => Option.bind (K b0) h) k a0 := by
  simp only [tree, bif_bind, sel_bind', Option.bind_assoc, Option.bind_none, Option.bind_some]
abbrev ps : List Sh := [.data (.pair (.int .i64) (.pair (.int .i64) (.pair (.int .i64) (.pair (.int .i64) (.pair (.int .i64) (.pair (.row 24 (.arr .u8 32)) (.pair (.arr .u8 32) (.row 44 (.pair (.int .i64) (.pair (.arr .u8 32) (.pair (.arr .u8 32) (.pair (.int .i64) (.pair (.int .i64) (.int .i64))))))))))))))]
abbrev hs : List (Nat × ESh) := []
abbrev hi : List Nat := hs.map (·.1)
abbrev fi : List Nat := []
abbrev cl : List (Place × Nat × Hint) := []
abbrev hn : List Hint := [.any]
def val (t : (List Int)) : AV := Sh.mk (.data .str) t
def wr (t : (List Int)) : Heap := []
def callee (k : Nat) : Callee := sigCallee ps hs (fun (d : (T_85bbee × Unit)) (e : Unit) => f k d.1) val wr
def E (k : Nat) : Env := ⟨fnTab [(42, [scroll_Pen_Put.callee k, scroll_Pen_Put_v1.callee k]), (46, [scroll_Pen_Text.callee k, scroll_Pen_Text_v1.callee k]), (47, [scroll_Pen_Count.callee k, scroll_Pen_Count_v1.callee k]), (48, [scroll_Pen_Names_v1.callee k, scroll_Pen_Names.callee k]), (49, [header_Write_v1.callee k])], loopTab [(1, l1.sum k), (3, l3.sum k)], natsTab [], natTab []⟩
theorem fE (k : Nat) : ∀ f, ∀ c ∈ (E k).fn f, CalleeOK Tryz.prog f c := fnTab_ok ⟨⟨scroll_Pen_Put.ok k, scroll_Pen_Put_v1.ok k, trivial⟩, ⟨scroll_Pen_Text.ok k, scroll_Pen_Text_v1.ok k, trivial⟩, ⟨scroll_Pen_Count.ok k, scroll_Pen_Count_v1.ok k, trivial⟩, ⟨scroll_Pen_Names_v1.ok k, scroll_Pen_Names.ok k, trivial⟩, ⟨header_Write_v1.ok k, trivial⟩, trivial⟩
namespace l1
theorem round (k : Nat) (d : (Unit × Unit × Int × Int × Unit)) (e : (Unit × (List T_3d5633) × (List Int) × Unit)) (G : St → Option (Ex × St)) : roundK Tryz.prog (E k) 101 1 (subC (bodyOf Tryz.f19) [1, 1, 0, 1, 0, 1, 1, 1, 1, 1, 0, 1, 1, 0, 0]) (recast cl hn kp) (finBy cl hn kp rc rs ri) G ⟨mkS S d, mkH H e⟩ =
    step (fun x59 y800002 => some (.exit 1, KX d e (x59, y800002))) (fun x59 y800002 => G ⟨mkS S ((), (), d.2.2.1, x59, ()), mkH H ((), e.2.1, y800002, ())⟩) k d.2.2.1 e.2.1 d.2.2.2.1 e.2.2.1 := by kernel_rfl
theorem it (k n : Nat) (d : (Unit × Unit × Int × Int × Unit)) (e : (Unit × (List T_3d5633) × (List Int) × Unit)) : loopIt Tryz.prog (E k) 101 1 (subC (bodyOf Tryz.f19) [1, 1, 0, 1, 0, 1, 1, 1, 1, 1, 0, 1, 1, 0, 0]) (recast cl hn kp) (finBy cl hn kp rc rs ri) n ⟨mkS S d, mkH H e⟩ = go (fun x59 y800002 => some (.exit 1, KX d e (x59, y800002))) k d.2.2.1 e.2.1 n d.2.2.2.1 e.2.2.1 :=
  loopIt_eq (D := (Unit × Unit × Int × Int × Unit) × (Unit × (List T_3d5633) × (List Int) × Unit)) (fun p => ⟨mkS S p.1, mkH H p.2⟩) (fun F p => step (fun x59 y800002 => some (.exit 1, KX p.1 p.2 (x59, y800002))) (fun x59 y800002 => F (((), (), p.1.2.2.1, x59, ()), ((), p.2.2.1, y800002, ()))) k p.1.2.2.1 p.2.2.1 p.1.2.2.2.1 p.2.2.2.1) (fun n p => go (fun x59 y800002 => some (.exit 1, KX p.1 p.2 (x59, y800002))) k p.1.2.2.1 p.2.2.1 n p.1.2.2.2.1 p.2.2.2.1) (fun _ => rfl) (fun _ _ => rfl) (fun G p => round k p.1 p.2 G) n (d, e)
theorem ok (k : Nat) : LoopOK Tryz.prog 101 (subC (bodyOf Tryz.f19) [1, 1, 0, 1, 0, 1, 1, 1, 1, 1, 0, 1, 1, 0, 0]) (sum k) :=
  loop_sigX hm (fE k) (loopsOK_of [] (by kernel_rfl) trivial) S cl hn kp H 1 (fun (d : (Unit × Unit × Int × Int × Unit)) (e : (Unit × (List T_3d5633) × (List Int) × Unit)) => f k d.2.2.1 e.2.1 k d.2.2.2.1 e.2.2.1) KX cl hn kp rc rs ri k
    (fun d e => (it k k d e).trans (go_nat (fun v => some (Ex.exit 1, KX d e v)) (fun x59 y800002 => some (x59, y800002)) k d.2.2.1 e.2.1 k d.2.2.2.1 e.2.2.1).symm)
end l1
namespace l3
theorem round (k : Nat) (d : (Unit × Unit × Int × Int × Unit)) (e : (Unit × (List (List Int)) × (List Int) × Unit)) (G : St → Option (Ex × St)) : roundK Tryz.prog (E k) 101 3 (subC (bodyOf Tryz.f19) [1, 1, 0, 1, 0, 1, 1, 1, 1, 1, 1, 1, 0, 1, 1, 0, 0]) (recast cl hn kp) (finBy cl hn kp rc rs ri) G ⟨mkS S d, mkH H e⟩ =
    step (fun x79 y800002 => some (.exit 3, KX d e (x79, y800002))) (fun x79 y800002 => G ⟨mkS S ((), (), d.2.2.1, x79, ()), mkH H ((), e.2.1, y800002, ())⟩) k d.2.2.1 e.2.1 d.2.2.2.1 e.2.2.1 := by kernel_rfl
theorem it (k n : Nat) (d : (Unit × Unit × Int × Int × Unit)) (e : (Unit × (List (List Int)) × (List Int) × Unit)) : loopIt Tryz.prog (E k) 101 3 (subC (bodyOf Tryz.f19) [1, 1, 0, 1, 0, 1, 1, 1, 1, 1, 1, 1, 0, 1, 1, 0, 0]) (recast cl hn kp) (finBy cl hn kp rc rs ri) n ⟨mkS S d, mkH H e⟩ = go (fun x79 y800002 => some (.exit 3, KX d e (x79, y800002))) k d.2.2.1 e.2.1 n d.2.2.2.1 e.2.2.1 :=
  loopIt_eq (D := (Unit × Unit × Int × Int × Unit) × (Unit × (List (List Int)) × (List Int) × Unit)) (fun p => ⟨mkS S p.1, mkH H p.2⟩) (fun F p => step (fun x79 y800002 => some (.exit 3, KX p.1 p.2 (x79, y800002))) (fun x79 y800002 => F (((), (), p.1.2.2.1, x79, ()), ((), p.2.2.1, y800002, ()))) k p.1.2.2.1 p.2.2.1 p.1.2.2.2.1 p.2.2.2.1) (fun n p => go (fun x79 y800002 => some (.exit 3, KX p.1 p.2 (x79, y800002))) k p.1.2.2.1 p.2.2.1 n p.1.2.2.2.1 p.2.2.2.1) (fun _ => rfl) (fun _ _ => rfl) (fun G p => round k p.1 p.2 G) n (d, e)
theorem ok (k : Nat) : LoopOK Tryz.prog 101 (subC (bodyOf Tryz.f19) [1, 1, 0, 1, 0, 1, 1, 1, 1, 1, 1, 1, 0, 1, 1, 0, 0]) (sum k) :=
  loop_sigX hm (fE k) (loopsOK_of [] (by kernel_rfl) trivial) S cl hn kp H 3 (fun (d : (Unit × Unit × Int × Int × Unit)) (e : (Unit × (List (List Int)) × (List Int) × Unit)) => f k d.2.2.1 e.2.1 k d.2.2.2.1 e.2.2.1) KX cl hn kp rc rs ri k
    (fun d e => (it k k d e).trans (go_nat (fun v => some (Ex.exit 3, KX d e v)) (fun x79 y800002 => some (x79, y800002)) k d.2.2.1 e.2.1 k d.2.2.2.1 e.2.2.1).symm)
end l3
theorem run (k : Nat) (d : (T_85bbee × Unit)) (e : Unit) : runFn Tryz.prog (E k) 101 (bodyOf Tryz.f19) Tryz.f19.results.toList cl hn hi (mkL ps d) (mkH hs e) =
    tree (fun b0 => leafFn hs fi e val wr b0) k d.1 := by kernel_rfl
theorem run_f (k : Nat) (d : (T_85bbee × Unit)) (e : Unit) : runFn Tryz.prog (E k) 101 (bodyOf Tryz.f19) Tryz.f19.results.toList cl hn hi (mkL ps d) (mkH hs e) = (f k d.1).bind (leafFn hs fi e val wr) :=
  (run k d e).trans (tree_nat (leafFn hs fi e val wr) (fun b0 => some b0) k d.1).symm
theorem fnIs : FnIs Tryz.prog 19 Tryz.f19 (bodyOf Tryz.f19) 101 := ⟨by kernel_rfl, by kernel_rfl, by kernel_rfl, by kernel_rfl⟩
theorem ok (k : Nat) : CalleeOK Tryz.prog 19 (callee k) :=
  callee_sig (T := (List Int)) fnIs hm (fE k) (loopsOK_of [(1, subC (bodyOf Tryz.f19) [1, 1, 0, 1, 0, 1, 1, 1, 1, 1, 0, 1, 1, 0, 0]), (3, subC (bodyOf Tryz.f19) [1, 1, 0, 1, 0, 1, 1, 1, 1, 1, 1, 1, 0, 1, 1, 0, 0])] (by kernel_rfl) ⟨of_loop (l1.sum k) rfl (l1.ok k), ⟨of_loop (l3.sum k) rfl (l3.ok k), trivial⟩⟩) ps hs cl hn fi (fun (d : (T_85bbee × Unit)) (e : Unit) => f k d.1) val wr rfl (fun _ => rfl) (run_f k)
end speech_payload
namespace envelope_word
def tree {X : Type} (K : Bool → Option X) (k : Nat) (a0 : (List Int)) : Option X :=
  (bif (!(decide (a0 = ([] : (List Int))))) then (bif (decide (((List.length a0) : Int) ≤ (12 : Int))) then (Option.bind (strings_Trim.f k a0 ([97, 98, 99, 100, 101, 102, 103, 104, 105, 106, 107, 108, 109, 110, 111, 112, 113, 114, 115, 116, 117, 118, 119, 120, 121, 122, 48, 49, 50, 51, 52, 53, 54, 55, 56, 57] : (List Int))) (fun r1 => (K (decide (r1 = ([] : (List Int))))))) else (K false)) else (K false))
def f (k : Nat) (a0 : (List Int)) : Option Bool := tree (fun b0 => some b0) k a0
theorem tree_nat {X Y : Type} (h : X → Option Y) (K : Bool → Option X) (k : Nat) (a0 : (List Int)) : Option.bind (tree K k a0) h = tree (fun b0 => Option.bind (K b0) h) k a0 := by
  simp only [tree, bif_bind, sel_bind', Option.bind_assoc, Option.bind_none, Option.bind_some]
abbrev ps : List Sh := [.data .str]
abbrev hs : List (Nat × ESh) := []
abbrev hi : List Nat := hs.map (·.1)
abbrev fi : List Nat := []
abbrev cl : List (Place × Nat × Hint) := []
abbrev hn : List Hint := [.any]
def val (t : Bool) : AV := Sh.mk (.data .bool) t
def wr (t : Bool) : Heap := []
def callee (k : Nat) : Callee := sigCallee ps hs (fun (d : ((List Int) × Unit)) (e : Unit) => f k d.1) val wr
def E (k : Nat) : Env := ⟨fnTab [(70, [strings_Trim.callee k])], loopTab [], natsTab [], natTab []⟩
theorem fE (k : Nat) : ∀ f, ∀ c ∈ (E k).fn f, CalleeOK Tryz.prog f c := fnTab_ok ⟨⟨strings_Trim.ok k, trivial⟩, trivial⟩
theorem run (k : Nat) (d : ((List Int) × Unit)) (e : Unit) : runFn Tryz.prog (E k) 15 (bodyOf Tryz.f58) Tryz.f58.results.toList cl hn hi (mkL ps d) (mkH hs e) =
    tree (fun b0 => leafFn hs fi e val wr b0) k d.1 := by kernel_rfl
theorem run_f (k : Nat) (d : ((List Int) × Unit)) (e : Unit) : runFn Tryz.prog (E k) 15 (bodyOf Tryz.f58) Tryz.f58.results.toList cl hn hi (mkL ps d) (mkH hs e) = (f k d.1).bind (leafFn hs fi e val wr) :=
  (run k d e).trans (tree_nat (leafFn hs fi e val wr) (fun b0 => some b0) k d.1).symm
theorem fnIs : FnIs Tryz.prog 58 Tryz.f58 (bodyOf Tryz.f58) 15 := ⟨by kernel_rfl, by kernel_rfl, by kernel_rfl, by kernel_rfl⟩
theorem ok (k : Nat) : CalleeOK Tryz.prog 58 (callee k) :=
  callee_sig (T := Bool) fnIs hm (fE k) (loopsOK_of [] (by kernel_rfl) trivial) ps hs cl hn fi (fun (d : ((List Int) × Unit)) (e : Unit) => f k d.1) val wr rfl (fun _ => rfl) (run_f k)
end envelope_word
namespace envelope_Good
def tree {X : Type} (K : Bool → Option X) (k : Nat) (a0 : ((List Int) × (List Int))) : Option X :=
  (Option.bind (envelope_word.f k a0.1) (fun r1 => (bif r1 then (K (decide (((List.length a0.2) : Int) ≤ (16384 : Int)))) else (K false))))
def f (k : Nat) (a0 : ((List Int) × (List Int))) : Option Bool := tree (fun b0 => some b0) k a0
theorem tree_nat {X Y : Type} (h : X → Option Y) (K : Bool → Option X) (k : Nat) (a0 : ((List Int) × (List Int))) : Option.bind (tree K k a0) h = tree (fun b0 => Option.bind (K b0) h) k a0 := by
  simp only [tree, bif_bind, sel_bind', Option.bind_assoc, Option.bind_none, Option.bind_some]
abbrev ps : List Sh := [.data (.pair .str .str)]
abbrev hs : List (Nat × ESh) := []
abbrev hi : List Nat := hs.map (·.1)
abbrev fi : List Nat := []
abbrev cl : List (Place × Nat × Hint) := []
abbrev hn : List Hint := [.any]
def val (t : Bool) : AV := Sh.mk (.data .bool) t
def wr (t : Bool) : Heap := []
def callee (k : Nat) : Callee := sigCallee ps hs (fun (d : (((List Int) × (List Int)) × Unit)) (e : Unit) => f k d.1) val wr
def E (k : Nat) : Env := ⟨fnTab [(58, [envelope_word.callee k])], loopTab [], natsTab [], natTab []⟩
theorem fE (k : Nat) : ∀ f, ∀ c ∈ (E k).fn f, CalleeOK Tryz.prog f c := fnTab_ok ⟨⟨envelope_word.ok k, trivial⟩, trivial⟩
theorem run (k : Nat) (d : (((List Int) × (List Int)) × Unit)) (e : Unit) : runFn Tryz.prog (E k) 12 (bodyOf Tryz.f41) Tryz.f41.results.toList cl hn hi (mkL ps d) (mkH hs e) =
    tree (fun b0 => leafFn hs fi e val wr b0) k d.1 := by kernel_rfl
theorem run_f (k : Nat) (d : (((List Int) × (List Int)) × Unit)) (e : Unit) : runFn Tryz.prog (E k) 12 (bodyOf Tryz.f41) Tryz.f41.results.toList cl hn hi (mkL ps d) (mkH hs e) = (f k d.1).bind (leafFn hs fi e val wr) :=
  (run k d e).trans (tree_nat (leafFn hs fi e val wr) (fun b0 => some b0) k d.1).symm
theorem fnIs : FnIs Tryz.prog 41 Tryz.f41 (bodyOf Tryz.f41) 12 := ⟨by kernel_rfl, by kernel_rfl, by kernel_rfl, by kernel_rfl⟩
theorem ok (k : Nat) : CalleeOK Tryz.prog 41 (callee k) :=
  callee_sig (T := Bool) fnIs hm (fE k) (loopsOK_of [] (by kernel_rfl) trivial) ps hs cl hn fi (fun (d : (((List Int) × (List Int)) × Unit)) (e : Unit) => f k d.1) val wr rfl (fun _ => rfl) (run_f k)
end envelope_Good
namespace scroll_Pen_Raw
def tree {X : Type} (K : (List Int) → Option X) (k : Nat) (a1 : (List Int)) (m1 : (List Int)) : Option X :=
  (bif (fits (((List.length m1) + (List.length a1)) * 1)) then (K (m1 ++ a1)) else none)
def f (k : Nat) (a1 : (List Int)) (m1 : (List Int)) : Option (List Int) := tree (fun b0 => some b0) k a1 m1
theorem tree_nat {X Y : Type} (h : X → Option Y) (K : (List Int) → Option X) (k : Nat) (a1 : (List Int)) (m1 : (List Int)) : Option.bind (tree K k a1 m1) h = tree (fun b0 => Option.bind (K b0) h) k a1 m1 := by
  simp only [tree, bif_bind, sel_bind', Option.bind_assoc, Option.bind_none, Option.bind_some]
abbrev ps : List Sh := [.ptr 0, .data .str]
abbrev hs : List (Nat × ESh) := [(0, .cell (.one (.vec 1))), (1, .rows 2 5 (.int .u8))]
abbrev hi : List Nat := hs.map (·.1)
abbrev fi : List Nat := [0, 1, 900002]
abbrev cl : List (Place × Nat × Hint) := []
abbrev hn : List Hint := []
def val (t : (List Int)) : AV := .tnil
def wr (t : (List Int)) : Heap := [(0, ESh.mk (.cell (.one (.vec 900002))) ()), (1, ESh.mk (.dead) ()), (900002, ESh.mk (.rows 2 5 (.int .u8)) t)]
def callee (k : Nat) : Callee := sigCallee ps hs (fun (d : (Unit × (List Int) × Unit)) (e : (Unit × (List Int) × Unit)) => f k d.2.1 e.2.1) val wr
def E (k : Nat) : Env := ⟨fnTab [], loopTab [], natsTab [], natTab []⟩
theorem fE (k : Nat) : ∀ f, ∀ c ∈ (E k).fn f, CalleeOK Tryz.prog f c := fnTab_ok trivial
theorem run (k : Nat) (d : (Unit × (List Int) × Unit)) (e : (Unit × (List Int) × Unit)) : runFn Tryz.prog (E k) 13 (bodyOf Tryz.f43) Tryz.f43.results.toList cl hn hi (mkL ps d) (mkH hs e) =
    tree (fun b0 => leafFn hs fi e val wr b0) k d.2.1 e.2.1 := by kernel_rfl
theorem run_f (k : Nat) (d : (Unit × (List Int) × Unit)) (e : (Unit × (List Int) × Unit)) : runFn Tryz.prog (E k) 13 (bodyOf Tryz.f43) Tryz.f43.results.toList cl hn hi (mkL ps d) (mkH hs e) = (f k d.2.1 e.2.1).bind (leafFn hs fi e val wr) :=
  (run k d e).trans (tree_nat (leafFn hs fi e val wr) (fun b0 => some b0) k d.2.1 e.2.1).symm
theorem fnIs : FnIs Tryz.prog 43 Tryz.f43 (bodyOf Tryz.f43) 13 := ⟨by kernel_rfl, by kernel_rfl, by kernel_rfl, by kernel_rfl⟩
theorem ok (k : Nat) : CalleeOK Tryz.prog 43 (callee k) :=
  callee_sig (T := (List Int)) fnIs hm (fE k) (loopsOK_of [] (by kernel_rfl) trivial) ps hs cl hn fi (fun (d : (Unit × (List Int) × Unit)) (e : (Unit × (List Int) × Unit)) => f k d.2.1 e.2.1) val wr rfl (fun _ => rfl) (run_f k)
end scroll_Pen_Raw
namespace digest_New
def tree {X : Type} (K : (List Int) → Int → Option X) (k : Nat) (m0 : (List Int)) : Option X :=
  (K m0 (0 : Int))
def f (k : Nat) (m0 : (List Int)) : Option ((List Int) × Int) := tree (fun b0 b1 => some (b0, b1)) k m0
theorem tree_nat {X Y : Type} (h : X → Option Y) (K : (List Int) → Int → Option X) (k : Nat) (m0 : (List Int)) : Option.bind (tree K k m0) h = tree (fun b0 b1 => Option.bind (K b0 b1) h) k m0 := by
  simp only [tree, bif_bind, sel_bind', Option.bind_assoc, Option.bind_none, Option.bind_some]
abbrev ps : List Sh := []
abbrev hs : List (Nat × ESh) := [(0, .glob 2 (.arr .u32 8))]
abbrev hi : List Nat := hs.map (·.1)
abbrev fi : List Nat := [0, 900001]
abbrev cl : List (Place × Nat × Hint) := []
abbrev hn : List Hint := [.any]
def val (t : ((List Int) × Int)) : AV := Sh.mk (.ptr 900001) ()
def wr (t : ((List Int) × Int)) : Heap := [(900001, ESh.mk (.cell (.pair (.data (.arr .u32 8)) (.pair .nils (.data (.int .u64))))) (t.1, ((), t.2)))]
def callee (k : Nat) : Callee := sigCallee ps hs (fun (d : Unit) (e : ((List Int) × Unit)) => f k e.1) val wr
def E (k : Nat) : Env := ⟨fnTab [], loopTab [], natsTab [], natTab [(2, 0)]⟩
theorem fE (k : Nat) : ∀ f, ∀ c ∈ (E k).fn f, CalleeOK Tryz.prog f c := fnTab_ok trivial
theorem run (k : Nat) (d : Unit) (e : ((List Int) × Unit)) : runFn Tryz.prog (E k) 4 (bodyOf Tryz.f86) Tryz.f86.results.toList cl hn hi (mkL ps d) (mkH hs e) =
    tree (fun b0 b1 => leafFn hs fi e val wr (b0, b1)) k e.1 := by kernel_rfl
theorem run_f (k : Nat) (d : Unit) (e : ((List Int) × Unit)) : runFn Tryz.prog (E k) 4 (bodyOf Tryz.f86) Tryz.f86.results.toList cl hn hi (mkL ps d) (mkH hs e) = (f k e.1).bind (leafFn hs fi e val wr) :=
  (run k d e).trans (tree_nat (leafFn hs fi e val wr) (fun b0 b1 => some (b0, b1)) k e.1).symm
theorem fnIs : FnIs Tryz.prog 86 Tryz.f86 (bodyOf Tryz.f86) 4 := ⟨by kernel_rfl, by kernel_rfl, by kernel_rfl, by kernel_rfl⟩
theorem ok (k : Nat) : CalleeOK Tryz.prog 86 (callee k) :=
  callee_sig (T := ((List Int) × Int)) fnIs hm (fE k) (loopsOK_of [] (by kernel_rfl) trivial) ps hs cl hn fi (fun (d : Unit) (e : ((List Int) × Unit)) => f k e.1) val wr rfl (fun _ => rfl) (run_f k)
end digest_New
namespace math_bits_RotateLeft32
def tree {X : Type} (K : Int → Option X) (k : Nat) (a0 : Int) (a1 : Int) : Option X :=
  (bif (decide ((andI .u64 (IntKind.wrap .u64 a1) 31) < 0)) then none else (bif (decide ((subI .u64 32 (andI .u64 (IntKind.wrap .u64 a1) 31)) < 0)) then none else (K (orI .u32 (shlI .u32 a0 (andI .u64 (IntKind.wrap .u64 a1) 31)) (shrI .u32 a0 (subI .u64 32 (andI .u64 (IntKind.wrap .u64 a1) 31)))))))
def f (k : Nat) (a0 : Int) (a1 : Int) : Option Int := tree (fun b0 => some b0) k a0 a1
theorem tree_nat {X Y : Type} (h : X → Option Y) (K : Int → Option X) (k : Nat) (a0 : Int) (a1 : Int) : Option.bind (tree K k a0 a1) h = tree (fun b0 => Option.bind (K b0) h) k a0 a1 := by
  simp only [tree, bif_bind, sel_bind', Option.bind_assoc, Option.bind_none, Option.bind_some]
abbrev ps : List Sh := [.data (.int .u32), .data (.int .i64)]
abbrev hs : List (Nat × ESh) := []
abbrev hi : List Nat := hs.map (·.1)
abbrev fi : List Nat := []
abbrev cl : List (Place × Nat × Hint) := []
abbrev hn : List Hint := [.any]
def val (t : Int) : AV := Sh.mk (.data (.int .u32)) t
def wr (t : Int) : Heap := []
def callee (k : Nat) : Callee := sigCallee ps hs (fun (d : (Int × Int × Unit)) (e : Unit) => f k d.1 d.2.1) val wr
def E (k : Nat) : Env := ⟨fnTab [], loopTab [], natsTab [], natTab []⟩
theorem fE (k : Nat) : ∀ f, ∀ c ∈ (E k).fn f, CalleeOK Tryz.prog f c := fnTab_ok trivial
theorem run (k : Nat) (d : (Int × Int × Unit)) (e : Unit) : runFn Tryz.prog (E k) 17 (bodyOf Tryz.f102) Tryz.f102.results.toList cl hn hi (mkL ps d) (mkH hs e) =
    tree (fun b0 => leafFn hs fi e val wr b0) k d.1 d.2.1 := by kernel_rfl
theorem run_f (k : Nat) (d : (Int × Int × Unit)) (e : Unit) : runFn Tryz.prog (E k) 17 (bodyOf Tryz.f102) Tryz.f102.results.toList cl hn hi (mkL ps d) (mkH hs e) = (f k d.1 d.2.1).bind (leafFn hs fi e val wr) :=
  (run k d e).trans (tree_nat (leafFn hs fi e val wr) (fun b0 => some b0) k d.1 d.2.1).symm
theorem fnIs : FnIs Tryz.prog 102 Tryz.f102 (bodyOf Tryz.f102) 17 := ⟨by kernel_rfl, by kernel_rfl, by kernel_rfl, by kernel_rfl⟩
theorem ok (k : Nat) : CalleeOK Tryz.prog 102 (callee k) :=
  callee_sig (T := Int) fnIs hm (fE k) (loopsOK_of [] (by kernel_rfl) trivial) ps hs cl hn fi (fun (d : (Int × Int × Unit)) (e : Unit) => f k d.1 d.2.1) val wr rfl (fun _ => rfl) (run_f k)
end math_bits_RotateLeft32
namespace digest_turn
namespace l0
def step {X : Type} (K : Int → Int → Option X) (G : Int → Int → Option X) (k : Nat) (x0 : Int) (x9 : Int) (y0 : (List Int)) (x5 : Int) (x10 : Int) : Option X :=
  (bif (decide (x10 < x9)) then (bif (decide (0 ≤ x10)) then (bif (decide (x10 < ((List.length y0) : Int))) then (bif (decide ((Int.toNat x10) < (List.length y0))) then (Option.bind (math_bits_RotateLeft32.f k x0 (subI .i64 0 (List.getD y0 (Int.toNat x10) (0 : Int)))) (fun r1 => (G (xorI .u32 x5 r1) (addI .i64 x10 1)))) else none) else none) else none) else (K x5 x10))
def go {X : Type} (K : Int → Int → Option X) (k : Nat) (x0 : Int) (x9 : Int) (y0 : (List Int)) : Nat → Int → Int → Option X
  | 0, _, _ => none
  | n + 1, x5, x10 => step K (go K k x0 x9 y0 n) k x0 x9 y0 x5 x10
def f (k : Nat) (x0 : Int) (x9 : Int) (y0 : (List Int)) (n : Nat) (x5 : Int) (x10 : Int) : Option (Int × Int) := go (fun x5 x10 => some (x5, x10)) k x0 x9 y0 n x5 x10
theorem step_nat {X Y : Type} (h : X → Option Y) (K : Int → Int → Option X) (G : Int → Int → Option X) (k : Nat) (x0 : Int) (x9 : Int) (y0 : (List Int)) (x5 : Int) (x10 : Int) : Option.bind (step K G k x0 x9 y0 x5 x10) h = step (fun x5 x10 => Option.bind (K x5 x10) h) (fun x5 x10 => Option.bind (G x5 x10) h) k x0 x9 y0 x5 x10 := by
  simp only [step, bif_bind, sel_bind', Option.bind_assoc, Option.bind_none, Option.bind_some]
theorem go_nat {X Y : Type} (h : X → Option Y) (K : Int → Int → Option X) (k : Nat) (x0 : Int) (x9 : Int) (y0 : (List Int)) (n : Nat) : ∀ (x5 : Int) (x10 : Int), Option.bind (go K k x0 x9 y0 n x5 x10) h = go (fun x5 x10 => Option.bind (K x5 x10) h) k x0 x9 y0 n x5 x10 := by
  induction n with
  | zero => intros; rfl
  | succ n ih => intro x5 x10; show Option.bind (step K (go K k x0 x9 y0 n) k x0 x9 y0 x5 x10) h = step (fun x5 x10 => Option.bind (K x5 x10) h) (go (fun x5 x10 => Option.bind (K x5 x10) h) k x0 x9 y0 n) k x0 x9 y0 x5 x10; rw [step_nat h]; simp only [ih]
abbrev S : List (Nat × Sh) := [(0, .data (.int .u32)), (5, .data (.int .u32)), (8, .vec 0), (9, .data (.int .i64)), (10, .data (.int .i64))]
abbrev H : List (Nat × ESh) := [(0, .rows 2 3 (.int .i64))]
abbrev cl : List (Place × Nat × Hint) := []
abbrev hn : List (Nat × Hint) := [(0, .any), (5, .any), (8, .any), (9, .any), (10, .any)]
abbrev kp : List Nat := [0]
abbrev rc : List (Place × Nat × Hint) := []
abbrev rs : List (Nat × Hint) := []
abbrev ri : List Nat := [0]
def KX (d : (Int × Int × Unit × Int × Int × Unit)) (e : ((List Int) × Unit)) (v : (Int × Int)) : St := ⟨mkS S (d.1, v.1, (), d.2.2.2.1, v.2, ()), mkH H (e.1, ())⟩
def sum (k : Nat) : LoopSum := sigLoopX S cl hn kp H 0 (fun (d : (Int × Int × Unit × Int × Int × Unit)) (e : ((List Int) × Unit)) => f k d.1 d.2.2.2.1 e.1 k d.2.1 d.2.2.2.2.1) KX
end l0
def tree {X : Type} (K : Int → Option X) (k : Nat) (a0 : Int) (m0 : (List Int)) : Option X :=
  (Option.bind (digest_turn.l0.f k a0 ((List.length m0) : Int) m0 k (0 : Int) (0 : Int)) (fun r2 => (K r2.1)))
def f (k : Nat) (a0 : Int) (m0 : (List Int)) : Option Int := tree (fun b0 => some b0) k a0 m0
theorem tree_nat {X Y : Type} (h : X → Option Y) (K : Int → Option X) (k : Nat) (a0 : Int) (m0 : (List Int)) : Option.bind (tree K k a0 m0) h = tree (fun b0 => Option.bind (K b0) h) k a0 m0 := by
  simp only [tree, bif_bind, sel_bind', Option.bind_assoc, Option.bind_none, Option.bind_some]
abbrev ps : List Sh := [.data (.int .u32), .vec 0]
abbrev hs : List (Nat × ESh) := [(0, .rows 2 3 (.int .i64))]
abbrev hi : List Nat := hs.map (·.1)
abbrev fi : List Nat := [0]
abbrev cl : List (Place × Nat × Hint) := []
abbrev hn : List Hint := [.any]
def val (t : Int) : AV := Sh.mk (.data (.int .u32)) t
def wr (t : Int) : Heap := []
def callee (k : Nat) : Callee := sigCallee ps hs (fun (d : (Int × Unit × Unit)) (e : ((List Int) × Unit)) => f k d.1 e.1) val wr
def E (k : Nat) : Env := ⟨fnTab [(102, [math_bits_RotateLeft32.callee k])], loopTab [(0, l0.sum k)], natsTab [], natTab []⟩
theorem fE (k : Nat) : ∀ f, ∀ c ∈ (E k).fn f, CalleeOK Tryz.prog f c := fnTab_ok ⟨⟨math_bits_RotateLeft32.ok k, trivial⟩, trivial⟩
namespace l0
theorem round (k : Nat) (d : (Int × Int × Unit × Int × Int × Unit)) (e : ((List Int) × Unit)) (G : St → Option (Ex × St)) : roundK Tryz.prog (E k) 22 0 (subC (bodyOf Tryz.f97) [1, 1, 0, 1, 0, 0]) (recast cl hn kp) (finBy cl hn kp rc rs ri) G ⟨mkS S d, mkH H e⟩ =
    step (fun x5 x10 => some (.exit 0, KX d e (x5, x10))) (fun x5 x10 => G ⟨mkS S (d.1, x5, (), d.2.2.2.1, x10, ()), mkH H (e.1, ())⟩) k d.1 d.2.2.2.1 e.1 d.2.1 d.2.2.2.2.1 := by kernel_rfl
theorem it (k n : Nat) (d : (Int × Int × Unit × Int × Int × Unit)) (e : ((List Int) × Unit)) : loopIt Tryz.prog (E k) 22 0 (subC (bodyOf Tryz.f97) [1, 1, 0, 1, 0, 0]) (recast cl hn kp) (finBy cl hn kp rc rs ri) n ⟨mkS S d, mkH H e⟩ = go (fun x5 x10 => some (.exit 0, KX d e (x5, x10))) k d.1 d.2.2.2.1 e.1 n d.2.1 d.2.2.2.2.1 :=
  loopIt_eq (D := (Int × Int × Unit × Int × Int × Unit) × ((List Int) × Unit)) (fun p => ⟨mkS S p.1, mkH H p.2⟩) (fun F p => step (fun x5 x10 => some (.exit 0, KX p.1 p.2 (x5, x10))) (fun x5 x10 => F ((p.1.1, x5, (), p.1.2.2.2.1, x10, ()), (p.2.1, ()))) k p.1.1 p.1.2.2.2.1 p.2.1 p.1.2.1 p.1.2.2.2.2.1) (fun n p => go (fun x5 x10 => some (.exit 0, KX p.1 p.2 (x5, x10))) k p.1.1 p.1.2.2.2.1 p.2.1 n p.1.2.1 p.1.2.2.2.2.1) (fun _ => rfl) (fun _ _ => rfl) (fun G p => round k p.1 p.2 G) n (d, e)
theorem ok (k : Nat) : LoopOK Tryz.prog 22 (subC (bodyOf Tryz.f97) [1, 1, 0, 1, 0, 0]) (sum k) :=
  loop_sigX hm (fE k) (loopsOK_of [] (by kernel_rfl) trivial) S cl hn kp H 0 (fun (d : (Int × Int × Unit × Int × Int × Unit)) (e : ((List Int) × Unit)) => f k d.1 d.2.2.2.1 e.1 k d.2.1 d.2.2.2.2.1) KX cl hn kp rc rs ri k
    (fun d e => (it k k d e).trans (go_nat (fun v => some (Ex.exit 0, KX d e v)) (fun x5 x10 => some (x5, x10)) k d.1 d.2.2.2.1 e.1 k d.2.1 d.2.2.2.2.1).symm)
end l0
theorem run (k : Nat) (d : (Int × Unit × Unit)) (e : ((List Int) × Unit)) : runFn Tryz.prog (E k) 22 (bodyOf Tryz.f97) Tryz.f97.results.toList cl hn hi (mkL ps d) (mkH hs e) =
    tree (fun b0 => leafFn hs fi e val wr b0) k d.1 e.1 := by kernel_rfl
theorem run_f (k : Nat) (d : (Int × Unit × Unit)) (e : ((List Int) × Unit)) : runFn Tryz.prog (E k) 22 (bodyOf Tryz.f97) Tryz.f97.results.toList cl hn hi (mkL ps d) (mkH hs e) = (f k d.1 e.1).bind (leafFn hs fi e val wr) :=
  (run k d e).trans (tree_nat (leafFn hs fi e val wr) (fun b0 => some b0) k d.1 e.1).symm
theorem fnIs : FnIs Tryz.prog 97 Tryz.f97 (bodyOf Tryz.f97) 22 := ⟨by kernel_rfl, by kernel_rfl, by kernel_rfl, by kernel_rfl⟩
theorem ok (k : Nat) : CalleeOK Tryz.prog 97 (callee k) :=
  callee_sig (T := Int) fnIs hm (fE k) (loopsOK_of [(0, subC (bodyOf Tryz.f97) [1, 1, 0, 1, 0, 0])] (by kernel_rfl) ⟨of_loop (l0.sum k) rfl (l0.ok k), trivial⟩) ps hs cl hn fi (fun (d : (Int × Unit × Unit)) (e : ((List Int) × Unit)) => f k d.1 e.1) val wr rfl (fun _ => rfl) (run_f k)
end digest_turn
namespace digest_Hasher_take
namespace l0
def step {X : Type} (K : Int → (List Int) → Option X) (G : Int → (List Int) → Option X) (k : Nat) (y0_0 : (List Int)) (y0_1 : Int) (y1 : (List Int)) (y2 : (List Int)) (y3 : (List Int)) (x16 : Int) (y800004 : (List Int)) : Option X :=
  (bif (decide (x16 < (16 : Int))) then (bif (decide (0 ≤ (mulI .i64 4 x16))) then (bif (decide ((mulI .i64 4 x16) < ((List.length y1) : Int))) then (bif (decide ((Int.toNat (mulI .i64 4 x16)) < (List.length y1))) then (bif (decide (0 ≤ (addI .i64 (mulI .i64 4 x16) 1))) then (bif (decide ((addI .i64 (mulI .i64 4 x16) 1) < ((List.length y1) : Int))) then (bif (decide ((Int.toNat (addI .i64 (mulI .i64 4 x16) 1)) < (List.length y1))) then (bif (decide (0 ≤ (addI .i64 (mulI .i64 4 x16) 2))) then (bif (decide ((addI .i64 (mulI .i64 4 x16) 2) < ((List.length y1) : Int))) then (bif (decide ((Int.toNat (addI .i64 (mulI .i64 4 x16) 2)) < (List.length y1))) then (bif (decide (0 ≤ (addI .i64 (mulI .i64 4 x16) 3))) then (bif (decide ((addI .i64 (mulI .i64 4 x16) 3) < ((List.length y1) : Int))) then (bif (decide ((Int.toNat (addI .i64 (mulI .i64 4 x16) 3)) < (List.length y1))) then (bif (decide (0 ≤ x16)) then (bif (decide (x16 < 64)) then (bif (decide ((Int.toNat x16) < 64)) then (G (addI .i64 x16 1) (List.set y800004 (Int.toNat x16) (orI .u32 (orI .u32 (orI .u32 (shlI .u32 (IntKind.wrap .u32 (List.getD y1 (Int.toNat (mulI .i64 4 x16)) (0 : Int))) 24) (shlI .u32 (IntKind.wrap .u32 (List.getD y1 (Int.toNat (addI .i64 (mulI .i64 4 x16) 1)) (0 : Int))) 16)) (shlI .u32 (IntKind.wrap .u32 (List.getD y1 (Int.toNat (addI .i64 (mulI .i64 4 x16) 2)) (0 : Int))) 8)) (IntKind.wrap .u32 (List.getD y1 (Int.toNat (addI .i64 (mulI .i64 4 x16) 3)) (0 : Int)))))) else none) else none) else none) else none) else none) else none) else none) else none) else none) else none) else none) else none) else none) else none) else none) else (K x16 y800004))
def go {X : Type} (K : Int → (List Int) → Option X) (k : Nat) (y0_0 : (List Int)) (y0_1 : Int) (y1 : (List Int)) (y2 : (List Int)) (y3 : (List Int)) : Nat → Int → (List Int) → Option X
  | 0, _, _ => none
  | n + 1, x16, y800004 => step K (go K k y0_0 y0_1 y1 y2 y3 n) k y0_0 y0_1 y1 y2 y3 x16 y800004
def f (k : Nat) (y0_0 : (List Int)) (y0_1 : Int) (y1 : (List Int)) (y2 : (List Int)) (y3 : (List Int)) (n : Nat) (x16 : Int) (y800004 : (List Int)) : Option (Int × (List Int)) := go (fun x16 y800004 => some (x16, y800004)) k y0_0 y0_1 y1 y2 y3 n x16 y800004
theorem step_nat {X Y : Type} (h : X → Option Y) (K : Int → (List Int) → Option X) (G : Int → (List Int) → Option X) (k : Nat) (y0_0 : (List Int)) (y0_1 : Int) (y1 : (List Int)) (y2 : (List Int)) (y3 : (List Int)) (x16 : Int) (y800004 : (List Int)) : Option.bind (step K G k y0_0 y0_1 y1 y2 y3 x16 y800004) h = step (fun x16 y800004 => Option.bind (K x16 y800004) h) (fun x16 y800004 => Option.bind (G x16 y800004) h) k y0_0 y0_1 y1 y2 y3 x16 y800004 := by
  simp only [step, bif_bind, sel_bind', Option.bind_assoc, Option.bind_none, Option.bind_some]
theorem go_nat {X Y : Type} (h : X → Option Y) (K : Int → (List Int) → Option X) (k : Nat) (y0_0 : (List Int)) (y0_1 : Int) (y1 : (List Int)) (y2 : (List Int)) (y3 : (List Int)) (n : Nat) : ∀ (x16 : Int) (y800004 : (List Int)), Option.bind (go K k y0_0 y0_1 y1 y2 y3 n x16 y800004) h = go (fun x16 y800004 => Option.bind (K x16 y800004) h) k y0_0 y0_1 y1 y2 y3 n x16 y800004 := by
  induction n with
  | zero => intros; rfl
  | succ n ih => intro x16 y800004; show Option.bind (step K (go K k y0_0 y0_1 y1 y2 y3 n) k y0_0 y0_1 y1 y2 y3 x16 y800004) h = step (fun x16 y800004 => Option.bind (K x16 y800004) h) (go (fun x16 y800004 => Option.bind (K x16 y800004) h) k y0_0 y0_1 y1 y2 y3 n) k y0_0 y0_1 y1 y2 y3 x16 y800004; rw [step_nat h]; simp only [ih]
abbrev S : List (Nat × Sh) := [(0, .ptr 0), (1, .vec 1), (4, .ptr 800004), (16, .data (.int .i64))]
abbrev H : List (Nat × ESh) := [(0, .cell (.pair (.data (.arr .u32 8)) (.pair (.vec 3) (.data (.int .u64))))), (1, .rows 0 5 (.int .u8)), (2, .glob 3 (.arr .u32 64)), (3, .rows 1 5 (.int .u8)), (800004, .cell (.data (.arr .u32 64)))]
abbrev cl : List (Place × Nat × Hint) := []
abbrev hn : List (Nat × Hint) := [(0, .any), (1, .any), (4, .any), (16, .any)]
abbrev kp : List Nat := [0, 1, 2, 3]
abbrev rc : List (Place × Nat × Hint) := []
abbrev rs : List (Nat × Hint) := []
abbrev ri : List Nat := [0, 1, 2, 3]
def KX (d : (Unit × Unit × Unit × Int × Unit)) (e : (((List Int) × (Unit × Int)) × (List Int) × (List Int) × (List Int) × (List Int) × Unit)) (v : (Int × (List Int))) : St := ⟨mkS S ((), (), (), v.1, ()), mkH H ((e.1.1, ((), e.1.2.2)), e.2.1, e.2.2.1, e.2.2.2.1, v.2, ())⟩
def sum (k : Nat) : LoopSum := sigLoopX S cl hn kp H 0 (fun (d : (Unit × Unit × Unit × Int × Unit)) (e : (((List Int) × (Unit × Int)) × (List Int) × (List Int) × (List Int) × (List Int) × Unit)) => f k e.1.1 e.1.2.2 e.2.1 e.2.2.1 e.2.2.2.1 k d.2.2.2.1 e.2.2.2.2.1) KX
end l0
namespace l2
def step {X : Type} (K : Int → (List Int) → Option X) (G : Int → (List Int) → Option X) (k : Nat) (y0_0 : (List Int)) (y0_1 : Int) (y1 : (List Int)) (y2 : (List Int)) (y3 : (List Int)) (x6 : Int) (y800004 : (List Int)) : Option X :=
  (bif (decide (x6 < (64 : Int))) then (bif (decide (0 ≤ (subI .i64 x6 15))) then (bif (decide ((subI .i64 x6 15) < 64)) then (bif (decide ((Int.toNat (subI .i64 x6 15)) < 64)) then (bif (decide (0 ≤ (subI .i64 x6 2))) then (bif (decide ((subI .i64 x6 2) < 64)) then (bif (decide ((Int.toNat (subI .i64 x6 2)) < 64)) then (bif (decide (0 ≤ (subI .i64 x6 16))) then (bif (decide ((subI .i64 x6 16) < 64)) then (bif (decide ((Int.toNat (subI .i64 x6 16)) < 64)) then (Option.bind (digest_turn.f k (List.getD y800004 (Int.toNat (subI .i64 x6 15)) 0) ([7, 18] : (List Int))) (fun r2 => (bif (decide (0 ≤ (subI .i64 x6 7))) then (bif (decide ((subI .i64 x6 7) < 64)) then (bif (decide ((Int.toNat (subI .i64 x6 7)) < 64)) then (Option.bind (digest_turn.f k (List.getD y800004 (Int.toNat (subI .i64 x6 2)) 0) ([17, 19] : (List Int))) (fun r3 => (bif (decide (0 ≤ x6)) then (bif (decide (x6 < 64)) then (bif (decide ((Int.toNat x6) < 64)) then (G (addI .i64 x6 1) (List.set y800004 (Int.toNat x6) (addI .u32 (addI .u32 (addI .u32 (List.getD y800004 (Int.toNat (subI .i64 x6 16)) 0) (xorI .u32 r2 (shrI .u32 (List.getD y800004 (Int.toNat (subI .i64 x6 15)) 0) 3))) (List.getD y800004 (Int.toNat (subI .i64 x6 7)) 0)) (xorI .u32 r3 (shrI .u32 (List.getD y800004 (Int.toNat (subI .i64 x6 2)) 0) 10))))) else none) else none) else none))) else none) else none) else none))) else none) else none) else none) else none) else none) else none) else none) else none) else none) else (K x6 y800004))
def go {X : Type} (K : Int → (List Int) → Option X) (k : Nat) (y0_0 : (List Int)) (y0_1 : Int) (y1 : (List Int)) (y2 : (List Int)) (y3 : (List Int)) : Nat → Int → (List Int) → Option X
  | 0, _, _ => none
  | n + 1, x6, y800004 => step K (go K k y0_0 y0_1 y1 y2 y3 n) k y0_0 y0_1 y1 y2 y3 x6 y800004
def f (k : Nat) (y0_0 : (List Int)) (y0_1 : Int) (y1 : (List Int)) (y2 : (List Int)) (y3 : (List Int)) (n : Nat) (x6 : Int) (y800004 : (List Int)) : Option (Int × (List Int)) := go (fun x6 y800004 => some (x6, y800004)) k y0_0 y0_1 y1 y2 y3 n x6 y800004
theorem step_nat {X Y : Type} (h : X → Option Y) (K : Int → (List Int) → Option X) (G : Int → (List Int) → Option X) (k : Nat) (y0_0 : (List Int)) (y0_1 : Int) (y1 : (List Int)) (y2 : (List Int)) (y3 : (List Int)) (x6 : Int) (y800004 : (List Int)) : Option.bind (step K G k y0_0 y0_1 y1 y2 y3 x6 y800004) h = step (fun x6 y800004 => Option.bind (K x6 y800004) h) (fun x6 y800004 => Option.bind (G x6 y800004) h) k y0_0 y0_1 y1 y2 y3 x6 y800004 := by
  simp only [step, bif_bind, sel_bind', Option.bind_assoc, Option.bind_none, Option.bind_some]
theorem go_nat {X Y : Type} (h : X → Option Y) (K : Int → (List Int) → Option X) (k : Nat) (y0_0 : (List Int)) (y0_1 : Int) (y1 : (List Int)) (y2 : (List Int)) (y3 : (List Int)) (n : Nat) : ∀ (x6 : Int) (y800004 : (List Int)), Option.bind (go K k y0_0 y0_1 y1 y2 y3 n x6 y800004) h = go (fun x6 y800004 => Option.bind (K x6 y800004) h) k y0_0 y0_1 y1 y2 y3 n x6 y800004 := by
  induction n with
  | zero => intros; rfl
  | succ n ih => intro x6 y800004; show Option.bind (step K (go K k y0_0 y0_1 y1 y2 y3 n) k y0_0 y0_1 y1 y2 y3 x6 y800004) h = step (fun x6 y800004 => Option.bind (K x6 y800004) h) (go (fun x6 y800004 => Option.bind (K x6 y800004) h) k y0_0 y0_1 y1 y2 y3 n) k y0_0 y0_1 y1 y2 y3 x6 y800004; rw [step_nat h]; simp only [ih]
abbrev S : List (Nat × Sh) := [(0, .ptr 0), (4, .ptr 800004), (6, .data (.int .i64))]
abbrev H : List (Nat × ESh) := [(0, .cell (.pair (.data (.arr .u32 8)) (.pair (.vec 3) (.data (.int .u64))))), (1, .rows 0 5 (.int .u8)), (2, .glob 3 (.arr .u32 64)), (3, .rows 1 5 (.int .u8)), (800004, .cell (.data (.arr .u32 64)))]
abbrev cl : List (Place × Nat × Hint) := []
abbrev hn : List (Nat × Hint) := [(0, .any), (4, .any), (6, .any)]
abbrev kp : List Nat := [0, 1, 2, 3]
abbrev rc : List (Place × Nat × Hint) := []
abbrev rs : List (Nat × Hint) := []
abbrev ri : List Nat := [0, 1, 2, 3]
def KX (d : (Unit × Unit × Int × Unit)) (e : (((List Int) × (Unit × Int)) × (List Int) × (List Int) × (List Int) × (List Int) × Unit)) (v : (Int × (List Int))) : St := ⟨mkS S ((), (), v.1, ()), mkH H ((e.1.1, ((), e.1.2.2)), e.2.1, e.2.2.1, e.2.2.2.1, v.2, ())⟩
def sum (k : Nat) : LoopSum := sigLoopX S cl hn kp H 2 (fun (d : (Unit × Unit × Int × Unit)) (e : (((List Int) × (Unit × Int)) × (List Int) × (List Int) × (List Int) × (List Int) × Unit)) => f k e.1.1 e.1.2.2 e.2.1 e.2.2.1 e.2.2.2.1 k d.2.2.1 e.2.2.2.2.1) KX
end l2
namespace l4
def step {X : Type} (K : Int → (List Int) → Option X) (G : Int → (List Int) → Option X) (k : Nat) (y0_0 : (List Int)) (y0_1 : Int) (y1 : (List Int)) (y2 : (List Int)) (y3 : (List Int)) (y800004 : (List Int)) (x96 : Int) (y800005 : (List Int)) : Option X :=
  (bif (decide (x96 < (64 : Int))) then (Option.bind (digest_turn.f k (List.getD y800005 4 0) ([6, 11, 25] : (List Int))) (fun r5 => (bif (decide (0 ≤ x96)) then (bif (decide (x96 < 64)) then (bif (decide ((Int.toNat x96) < 64)) then (bif (decide (0 ≤ x96)) then (bif (decide (x96 < 64)) then (bif (decide ((Int.toNat x96) < 64)) then (Option.bind (digest_turn.f k (List.getD y800005 0 0) ([2, 13, 22] : (List Int))) (fun r6 => (G (addI .i64 x96 1) ([(addI .u32 (addI .u32 (addI .u32 (addI .u32 (addI .u32 (List.getD y800005 7 0) r5) (xorI .u32 (andI .u32 (List.getD y800005 4 0) (List.getD y800005 5 0)) (andI .u32 (notI .u32 (List.getD y800005 4 0)) (List.getD y800005 6 0)))) (List.getD y2 (Int.toNat x96) 0)) (List.getD y800004 (Int.toNat x96) 0)) (addI .u32 r6 (xorI .u32 (xorI .u32 (andI .u32 (List.getD y800005 0 0) (List.getD y800005 1 0)) (andI .u32 (List.getD y800005 0 0) (List.getD y800005 2 0))) (andI .u32 (List.getD y800005 1 0) (List.getD y800005 2 0))))), (List.getD y800005 0 0), (List.getD y800005 1 0), (List.getD y800005 2 0), (addI .u32 (List.getD y800005 3 0) (addI .u32 (addI .u32 (addI .u32 (addI .u32 (List.getD y800005 7 0) r5) (xorI .u32 (andI .u32 (List.getD y800005 4 0) (List.getD y800005 5 0)) (andI .u32 (notI .u32 (List.getD y800005 4 0)) (List.getD y800005 6 0)))) (List.getD y2 (Int.toNat x96) 0)) (List.getD y800004 (Int.toNat x96) 0))), (List.getD y800005 4 0), (List.getD y800005 5 0), (List.getD y800005 6 0)] : (List Int))))) else none) else none) else none) else none) else none) else none))) else (K x96 y800005))
def go {X : Type} (K : Int → (List Int) → Option X) (k : Nat) (y0_0 : (List Int)) (y0_1 : Int) (y1 : (List Int)) (y2 : (List Int)) (y3 : (List Int)) (y800004 : (List Int)) : Nat → Int → (List Int) → Option X
  | 0, _, _ => none
  | n + 1, x96, y800005 => step K (go K k y0_0 y0_1 y1 y2 y3 y800004 n) k y0_0 y0_1 y1 y2 y3 y800004 x96 y800005
def f (k : Nat) (y0_0 : (List Int)) (y0_1 : Int) (y1 : (List Int)) (y2 : (List Int)) (y3 : (List Int)) (y800004 : (List Int)) (n : Nat) (x96 : Int) (y800005 : (List Int)) : Option (Int × (List Int)) := go (fun x96 y800005 => some (x96, y800005)) k y0_0 y0_1 y1 y2 y3 y800004 n x96 y800005
theorem step_nat {X Y : Type} (h : X → Option Y) (K : Int → (List Int) → Option X) (G : Int → (List Int) → Option X) (k : Nat) (y0_0 : (List Int)) (y0_1 : Int) (y1 : (List Int)) (y2 : (List Int)) (y3 : (List Int)) (y800004 : (List Int)) (x96 : Int) (y800005 : (List Int)) : Option.bind (step K G k y0_0 y0_1 y1 y2 y3 y800004 x96 y800005) h = step (fun x96 y800005 => Option.bind (K x96 y800005) h) (fun x96 y800005 => Option.bind (G x96 y800005) h) k y0_0 y0_1 y1 y2 y3 y800004 x96 y800005 := by
  simp only [step, bif_bind, sel_bind', Option.bind_assoc, Option.bind_none, Option.bind_some]
theorem go_nat {X Y : Type} (h : X → Option Y) (K : Int → (List Int) → Option X) (k : Nat) (y0_0 : (List Int)) (y0_1 : Int) (y1 : (List Int)) (y2 : (List Int)) (y3 : (List Int)) (y800004 : (List Int)) (n : Nat) : ∀ (x96 : Int) (y800005 : (List Int)), Option.bind (go K k y0_0 y0_1 y1 y2 y3 y800004 n x96 y800005) h = go (fun x96 y800005 => Option.bind (K x96 y800005) h) k y0_0 y0_1 y1 y2 y3 y800004 n x96 y800005 := by
  induction n with
  | zero => intros; rfl
  | succ n ih => intro x96 y800005; show Option.bind (step K (go K k y0_0 y0_1 y1 y2 y3 y800004 n) k y0_0 y0_1 y1 y2 y3 y800004 x96 y800005) h = step (fun x96 y800005 => Option.bind (K x96 y800005) h) (go (fun x96 y800005 => Option.bind (K x96 y800005) h) k y0_0 y0_1 y1 y2 y3 y800004 n) k y0_0 y0_1 y1 y2 y3 y800004 x96 y800005; rw [step_nat h]; simp only [ih]
abbrev S : List (Nat × Sh) := [(0, .ptr 0), (4, .ptr 800004), (9, .ptr 800005), (96, .data (.int .i64))]
abbrev H : List (Nat × ESh) := [(0, .cell (.pair (.data (.arr .u32 8)) (.pair (.vec 3) (.data (.int .u64))))), (1, .rows 0 5 (.int .u8)), (2, .glob 3 (.arr .u32 64)), (3, .rows 1 5 (.int .u8)), (800004, .cell (.data (.arr .u32 64))), (800005, .cell (.data (.arr .u32 8)))]
abbrev cl : List (Place × Nat × Hint) := []
abbrev hn : List (Nat × Hint) := [(0, .any), (4, .any), (9, .any), (96, .any)]
abbrev kp : List Nat := [0, 1, 2, 3]
abbrev rc : List (Place × Nat × Hint) := []
abbrev rs : List (Nat × Hint) := []
abbrev ri : List Nat := [0, 1, 2, 3]
def KX (d : (Unit × Unit × Unit × Int × Unit)) (e : (((List Int) × (Unit × Int)) × (List Int) × (List Int) × (List Int) × (List Int) × (List Int) × Unit)) (v : (Int × (List Int))) : St := ⟨mkS S ((), (), (), v.1, ()), mkH H ((e.1.1, ((), e.1.2.2)), e.2.1, e.2.2.1, e.2.2.2.1, e.2.2.2.2.1, v.2, ())⟩
def sum (k : Nat) : LoopSum := sigLoopX S cl hn kp H 4 (fun (d : (Unit × Unit × Unit × Int × Unit)) (e : (((List Int) × (Unit × Int)) × (List Int) × (List Int) × (List Int) × (List Int) × (List Int) × Unit)) => f k e.1.1 e.1.2.2 e.2.1 e.2.2.1 e.2.2.2.1 e.2.2.2.2.1 k d.2.2.2.1 e.2.2.2.2.2.1) KX
end l4
namespace l6
def step {X : Type} (K : Int → (List Int) → Option X) (G : Int → (List Int) → Option X) (k : Nat) (y0_1 : Int) (y1 : (List Int)) (y2 : (List Int)) (y3 : (List Int)) (y800004 : (List Int)) (x172 : Int) (y0_0 : (List Int)) : Option X :=
  (bif (decide (x172 < (8 : Int))) then (bif (decide (0 ≤ x172)) then (bif (decide (x172 < 8)) then (bif (decide ((Int.toNat x172) < 8)) then (bif (decide (0 ≤ x172)) then (bif (decide (x172 < 8)) then (bif (decide ((Int.toNat x172) < 8)) then (bif (decide (0 ≤ x172)) then (bif (decide (x172 < 8)) then (bif (decide ((Int.toNat x172) < 8)) then (G (addI .i64 x172 1) (List.set y0_0 (Int.toNat x172) (addI .u32 (List.getD y0_0 (Int.toNat x172) 0) (List.getD y800004 (Int.toNat x172) 0)))) else none) else none) else none) else none) else none) else none) else none) else none) else none) else (K x172 y0_0))
def go {X : Type} (K : Int → (List Int) → Option X) (k : Nat) (y0_1 : Int) (y1 : (List Int)) (y2 : (List Int)) (y3 : (List Int)) (y800004 : (List Int)) : Nat → Int → (List Int) → Option X
  | 0, _, _ => none
  | n + 1, x172, y0_0 => step K (go K k y0_1 y1 y2 y3 y800004 n) k y0_1 y1 y2 y3 y800004 x172 y0_0
def f (k : Nat) (y0_1 : Int) (y1 : (List Int)) (y2 : (List Int)) (y3 : (List Int)) (y800004 : (List Int)) (n : Nat) (x172 : Int) (y0_0 : (List Int)) : Option (Int × (List Int)) := go (fun x172 y0_0 => some (x172, y0_0)) k y0_1 y1 y2 y3 y800004 n x172 y0_0
theorem step_nat {X Y : Type} (h : X → Option Y) (K : Int → (List Int) → Option X) (G : Int → (List Int) → Option X) (k : Nat) (y0_1 : Int) (y1 : (List Int)) (y2 : (List Int)) (y3 : (List Int)) (y800004 : (List Int)) (x172 : Int) (y0_0 : (List Int)) : Option.bind (step K G k y0_1 y1 y2 y3 y800004 x172 y0_0) h = step (fun x172 y0_0 => Option.bind (K x172 y0_0) h) (fun x172 y0_0 => Option.bind (G x172 y0_0) h) k y0_1 y1 y2 y3 y800004 x172 y0_0 := by
  simp only [step, bif_bind, sel_bind', Option.bind_assoc, Option.bind_none, Option.bind_some]
theorem go_nat {X Y : Type} (h : X → Option Y) (K : Int → (List Int) → Option X) (k : Nat) (y0_1 : Int) (y1 : (List Int)) (y2 : (List Int)) (y3 : (List Int)) (y800004 : (List Int)) (n : Nat) : ∀ (x172 : Int) (y0_0 : (List Int)), Option.bind (go K k y0_1 y1 y2 y3 y800004 n x172 y0_0) h = go (fun x172 y0_0 => Option.bind (K x172 y0_0) h) k y0_1 y1 y2 y3 y800004 n x172 y0_0 := by
  induction n with
  | zero => intros; rfl
  | succ n ih => intro x172 y0_0; show Option.bind (step K (go K k y0_1 y1 y2 y3 y800004 n) k y0_1 y1 y2 y3 y800004 x172 y0_0) h = step (fun x172 y0_0 => Option.bind (K x172 y0_0) h) (go (fun x172 y0_0 => Option.bind (K x172 y0_0) h) k y0_1 y1 y2 y3 y800004 n) k y0_1 y1 y2 y3 y800004 x172 y0_0; rw [step_nat h]; simp only [ih]
abbrev S : List (Nat × Sh) := [(0, .ptr 0), (9, .ptr 800004), (172, .data (.int .i64))]
abbrev H : List (Nat × ESh) := [(0, .cell (.pair (.data (.arr .u32 8)) (.pair (.vec 3) (.data (.int .u64))))), (1, .rows 0 5 (.int .u8)), (2, .glob 3 (.arr .u32 64)), (3, .rows 1 5 (.int .u8)), (800004, .cell (.data (.arr .u32 8)))]
abbrev cl : List (Place × Nat × Hint) := []
abbrev hn : List (Nat × Hint) := [(0, .any), (9, .any), (172, .any)]
abbrev kp : List Nat := [0, 1, 2, 3]
abbrev rc : List (Place × Nat × Hint) := []
abbrev rs : List (Nat × Hint) := []
abbrev ri : List Nat := [0, 1, 2, 3]
def KX (d : (Unit × Unit × Int × Unit)) (e : (((List Int) × (Unit × Int)) × (List Int) × (List Int) × (List Int) × (List Int) × Unit)) (v : (Int × (List Int))) : St := ⟨mkS S ((), (), v.1, ()), mkH H ((v.2, ((), e.1.2.2)), e.2.1, e.2.2.1, e.2.2.2.1, e.2.2.2.2.1, ())⟩
def sum (k : Nat) : LoopSum := sigLoopX S cl hn kp H 6 (fun (d : (Unit × Unit × Int × Unit)) (e : (((List Int) × (Unit × Int)) × (List Int) × (List Int) × (List Int) × (List Int) × Unit)) => f k e.1.2.2 e.2.1 e.2.2.1 e.2.2.2.1 e.2.2.2.2.1 k d.2.2.1 e.1.1) KX
end l6
def tree {X : Type} (K : (List Int) → Int → Option X) (k : Nat) (m0_0 : (List Int)) (m0_1 : Int) (m1 : (List Int)) (m2 : (List Int)) (m3 : (List Int)) : Option X :=
  (Option.bind (digest_Hasher_take.l0.f k m0_0 m0_1 m1 m2 m3 k (0 : Int) ([0, 0, 0, 0, 0, 0, 0, 0, 0, 0, 0, 0, 0, 0, 0, 0, 0, 0, 0, 0, 0, 0, 0, 0, 0, 0, 0, 0, 0, 0, 0, 0, 0, 0, 0, 0, 0, 0, 0, 0, 0, 0, 0, 0, 0, 0, 0, 0, 0, 0, 0, 0, 0, 0, 0, 0, 0, 0, 0, 0, 0, 0, 0, 0] : (List Int))) (fun r1 => (Option.bind (digest_Hasher_take.l2.f k m0_0 m0_1 m1 m2 m3 k (16 : Int) r1.2) (fun r4 => (Option.bind (digest_Hasher_take.l4.f k m0_0 m0_1 m1 m2 m3 r4.2 k (0 : Int) m0_0) (fun r7 => (Option.bind (digest_Hasher_take.l6.f k m0_1 m1 m2 m3 r7.2 k (0 : Int) m0_0) (fun r8 => (K r8.2 m0_1)))))))))
def f (k : Nat) (m0_0 : (List Int)) (m0_1 : Int) (m1 : (List Int)) (m2 : (List Int)) (m3 : (List Int)) : Option ((List Int) × Int) := tree (fun b0 b1 => some (b0, b1)) k m0_0 m0_1 m1 m2 m3
theorem tree_nat {X Y : Type} (h : X → Option Y) (K : (List Int) → Int → Option X) (k : Nat) (m0_0 : (List Int)) (m0_1 : Int) (m1 : (List Int)) (m2 : (List Int)) (m3 : (List Int)) : Option.bind (tree K k m0_0 m0_1 m1 m2 m3) h = tree (fun b0 b1 => Option.bind (K b0 b1) h) k m0_0 m0_1 m1 m2 m3 := by
  simp only [tree, bif_bind, sel_bind', Option.bind_assoc, Option.bind_none, Option.bind_some]
abbrev ps : List Sh := [.ptr 0, .vec 1]
abbrev hs : List (Nat × ESh) := [(0, .cell (.pair (.data (.arr .u32 8)) (.pair (.vec 3) (.data (.int .u64))))), (1, .rows 0 5 (.int .u8)), (2, .glob 3 (.arr .u32 64)), (3, .rows 1 5 (.int .u8))]
abbrev hi : List Nat := hs.map (·.1)
abbrev fi : List Nat := [0, 1, 2, 3]
abbrev cl : List (Place × Nat × Hint) := []
abbrev hn : List Hint := []
def val (t : ((List Int) × Int)) : AV := .tnil
def wr (t : ((List Int) × Int)) : Heap := [(0, ESh.mk (.cell (.pair (.data (.arr .u32 8)) (.pair (.vec 3) (.data (.int .u64))))) (t.1, ((), t.2)))]
def callee (k : Nat) : Callee := sigCallee ps hs (fun (d : (Unit × Unit × Unit)) (e : (((List Int) × (Unit × Int)) × (List Int) × (List Int) × (List Int) × Unit)) => f k e.1.1 e.1.2.2 e.2.1 e.2.2.1 e.2.2.2.1) val wr
def E (k : Nat) : Env := ⟨fnTab [(97, [digest_turn.callee k])], loopTab [(0, l0.sum k), (2, l2.sum k), (4, l4.sum k), (6, l6.sum k)], natsTab [], natTab [(3, 2)]⟩
theorem fE (k : Nat) : ∀ f, ∀ c ∈ (E k).fn f, CalleeOK Tryz.prog f c := fnTab_ok ⟨⟨digest_turn.ok k, trivial⟩, trivial⟩
namespace l0
theorem round (k : Nat) (d : (Unit × Unit × Unit × Int × Unit)) (e : (((List Int) × (Unit × Int)) × (List Int) × (List Int) × (List Int) × (List Int) × Unit)) (G : St → Option (Ex × St)) : roundK Tryz.prog (E k) 189 0 (subC (bodyOf Tryz.f93) [1, 0, 1, 0, 0]) (recast cl hn kp) (finBy cl hn kp rc rs ri) G ⟨mkS S d, mkH H e⟩ =
    step (fun x16 y800004 => some (.exit 0, KX d e (x16, y800004))) (fun x16 y800004 => G ⟨mkS S ((), (), (), x16, ()), mkH H ((e.1.1, ((), e.1.2.2)), e.2.1, e.2.2.1, e.2.2.2.1, y800004, ())⟩) k e.1.1 e.1.2.2 e.2.1 e.2.2.1 e.2.2.2.1 d.2.2.2.1 e.2.2.2.2.1 := by kernel_rfl
theorem it (k n : Nat) (d : (Unit × Unit × Unit × Int × Unit)) (e : (((List Int) × (Unit × Int)) × (List Int) × (List Int) × (List Int) × (List Int) × Unit)) : loopIt Tryz.prog (E k) 189 0 (subC (bodyOf Tryz.f93) [1, 0, 1, 0, 0]) (recast cl hn kp) (finBy cl hn kp rc rs ri) n ⟨mkS S d, mkH H e⟩ = go (fun x16 y800004 => some (.exit 0, KX d e (x16, y800004))) k e.1.1 e.1.2.2 e.2.1 e.2.2.1 e.2.2.2.1 n d.2.2.2.1 e.2.2.2.2.1 :=
  loopIt_eq (D := (Unit × Unit × Unit × Int × Unit) × (((List Int) × (Unit × Int)) × (List Int) × (List Int) × (List Int) × (List Int) × Unit)) (fun p => ⟨mkS S p.1, mkH H p.2⟩) (fun F p => step (fun x16 y800004 => some (.exit 0, KX p.1 p.2 (x16, y800004))) (fun x16 y800004 => F (((), (), (), x16, ()), ((p.2.1.1, ((), p.2.1.2.2)), p.2.2.1, p.2.2.2.1, p.2.2.2.2.1, y800004, ()))) k p.2.1.1 p.2.1.2.2 p.2.2.1 p.2.2.2.1 p.2.2.2.2.1 p.1.2.2.2.1 p.2.2.2.2.2.1) (fun n p => go (fun x16 y800004 => some (.exit 0, KX p.1 p.2 (x16, y800004))) k p.2.1.1 p.2.1.2.2 p.2.2.1 p.2.2.2.1 p.2.2.2.2.1 n p.1.2.2.2.1 p.2.2.2.2.2.1) (fun _ => rfl) (fun _ _ => rfl) (fun G p => round k p.1 p.2 G) n (d, e)
theorem ok (k : Nat) : LoopOK Tryz.prog 189 (subC (bodyOf Tryz.f93) [1, 0, 1, 0, 0]) (sum k) :=
  loop_sigX hm (fE k) (loopsOK_of [] (by kernel_rfl) trivial) S cl hn kp H 0 (fun (d : (Unit × Unit × Unit × Int × Unit)) (e : (((List Int) × (Unit × Int)) × (List Int) × (List Int) × (List Int) × (List Int) × Unit)) => f k e.1.1 e.1.2.2 e.2.1 e.2.2.1 e.2.2.2.1 k d.2.2.2.1 e.2.2.2.2.1) KX cl hn kp rc rs ri k
    (fun d e => (it k k d e).trans (go_nat (fun v => some (Ex.exit 0, KX d e v)) (fun x16 y800004 => some (x16, y800004)) k e.1.1 e.1.2.2 e.2.1 e.2.2.1 e.2.2.2.1 k d.2.2.2.1 e.2.2.2.2.1).symm)
end l0
namespace l2
theorem round (k : Nat) (d : (Unit × Unit × Int × Unit)) (e : (((List Int) × (Unit × Int)) × (List Int) × (List Int) × (List Int) × (List Int) × Unit)) (G : St → Option (Ex × St)) : roundK Tryz.prog (E k) 189 2 (subC (bodyOf Tryz.f93) [1, 1, 0, 1, 0, 0]) (recast cl hn kp) (finBy cl hn kp rc rs ri) G ⟨mkS S d, mkH H e⟩ =
    step (fun x6 y800004 => some (.exit 2, KX d e (x6, y800004))) (fun x6 y800004 => G ⟨mkS S ((), (), x6, ()), mkH H ((e.1.1, ((), e.1.2.2)), e.2.1, e.2.2.1, e.2.2.2.1, y800004, ())⟩) k e.1.1 e.1.2.2 e.2.1 e.2.2.1 e.2.2.2.1 d.2.2.1 e.2.2.2.2.1 := by kernel_rfl
theorem it (k n : Nat) (d : (Unit × Unit × Int × Unit)) (e : (((List Int) × (Unit × Int)) × (List Int) × (List Int) × (List Int) × (List Int) × Unit)) : loopIt Tryz.prog (E k) 189 2 (subC (bodyOf Tryz.f93) [1, 1, 0, 1, 0, 0]) (recast cl hn kp) (finBy cl hn kp rc rs ri) n ⟨mkS S d, mkH H e⟩ = go (fun x6 y800004 => some (.exit 2, KX d e (x6, y800004))) k e.1.1 e.1.2.2 e.2.1 e.2.2.1 e.2.2.2.1 n d.2.2.1 e.2.2.2.2.1 :=
  loopIt_eq (D := (Unit × Unit × Int × Unit) × (((List Int) × (Unit × Int)) × (List Int) × (List Int) × (List Int) × (List Int) × Unit)) (fun p => ⟨mkS S p.1, mkH H p.2⟩) (fun F p => step (fun x6 y800004 => some (.exit 2, KX p.1 p.2 (x6, y800004))) (fun x6 y800004 => F (((), (), x6, ()), ((p.2.1.1, ((), p.2.1.2.2)), p.2.2.1, p.2.2.2.1, p.2.2.2.2.1, y800004, ()))) k p.2.1.1 p.2.1.2.2 p.2.2.1 p.2.2.2.1 p.2.2.2.2.1 p.1.2.2.1 p.2.2.2.2.2.1) (fun n p => go (fun x6 y800004 => some (.exit 2, KX p.1 p.2 (x6, y800004))) k p.2.1.1 p.2.1.2.2 p.2.2.1 p.2.2.2.1 p.2.2.2.2.1 n p.1.2.2.1 p.2.2.2.2.2.1) (fun _ => rfl) (fun _ _ => rfl) (fun G p => round k p.1 p.2 G) n (d, e)
theorem ok (k : Nat) : LoopOK Tryz.prog 189 (subC (bodyOf Tryz.f93) [1, 1, 0, 1, 0, 0]) (sum k) :=
  loop_sigX hm (fE k) (loopsOK_of [] (by kernel_rfl) trivial) S cl hn kp H 2 (fun (d : (Unit × Unit × Int × Unit)) (e : (((List Int) × (Unit × Int)) × (List Int) × (List Int) × (List Int) × (List Int) × Unit)) => f k e.1.1 e.1.2.2 e.2.1 e.2.2.1 e.2.2.2.1 k d.2.2.1 e.2.2.2.2.1) KX cl hn kp rc rs ri k
    (fun d e => (it k k d e).trans (go_nat (fun v => some (Ex.exit 2, KX d e v)) (fun x6 y800004 => some (x6, y800004)) k e.1.1 e.1.2.2 e.2.1 e.2.2.1 e.2.2.2.1 k d.2.2.1 e.2.2.2.2.1).symm)
end l2
namespace l4
theorem round (k : Nat) (d : (Unit × Unit × Unit × Int × Unit)) (e : (((List Int) × (Unit × Int)) × (List Int) × (List Int) × (List Int) × (List Int) × (List Int) × Unit)) (G : St → Option (Ex × St)) : roundK Tryz.prog (E k) 189 4 (subC (bodyOf Tryz.f93) [1, 1, 1, 1, 0, 1, 0, 0]) (recast cl hn kp) (finBy cl hn kp rc rs ri) G ⟨mkS S d, mkH H e⟩ =
    step (fun x96 y800005 => some (.exit 4, KX d e (x96, y800005))) (fun x96 y800005 => G ⟨mkS S ((), (), (), x96, ()), mkH H ((e.1.1, ((), e.1.2.2)), e.2.1, e.2.2.1, e.2.2.2.1, e.2.2.2.2.1, y800005, ())⟩) k e.1.1 e.1.2.2 e.2.1 e.2.2.1 e.2.2.2.1 e.2.2.2.2.1 d.2.2.2.1 e.2.2.2.2.2.1 := by kernel_rfl
theorem it (k n : Nat) (d : (Unit × Unit × Unit × Int × Unit)) (e : (((List Int) × (Unit × Int)) × (List Int) × (List Int) × (List Int) × (List Int) × (List Int) × Unit)) : loopIt Tryz.prog (E k) 189 4 (subC (bodyOf Tryz.f93) [1, 1, 1, 1, 0, 1, 0, 0]) (recast cl hn kp) (finBy cl hn kp rc rs ri) n ⟨mkS S d, mkH H e⟩ = go (fun x96 y800005 => some (.exit 4, KX d e (x96, y800005))) k e.1.1 e.1.2.2 e.2.1 e.2.2.1 e.2.2.2.1 e.2.2.2.2.1 n d.2.2.2.1 e.2.2.2.2.2.1 :=
  loopIt_eq (D := (Unit × Unit × Unit × Int × Unit) × (((List Int) × (Unit × Int)) × (List Int) × (List Int) × (List Int) × (List Int) × (List Int) × Unit)) (fun p => ⟨mkS S p.1, mkH H p.2⟩) (fun F p => step (fun x96 y800005 => some (.exit 4, KX p.1 p.2 (x96, y800005))) (fun x96 y800005 => F (((), (), (), x96, ()), ((p.2.1.1, ((), p.2.1.2.2)), p.2.2.1, p.2.2.2.1, p.2.2.2.2.1, p.2.2.2.2.2.1, y800005, ()))) k p.2.1.1 p.2.1.2.2 p.2.2.1 p.2.2.2.1 p.2.2.2.2.1 p.2.2.2.2.2.1 p.1.2.2.2.1 p.2.2.2.2.2.2.1) (fun n p => go (fun x96 y800005 => some (.exit 4, KX p.1 p.2 (x96, y800005))) k p.2.1.1 p.2.1.2.2 p.2.2.1 p.2.2.2.1 p.2.2.2.2.1 p.2.2.2.2.2.1 n p.1.2.2.2.1 p.2.2.2.2.2.2.1) (fun _ => rfl) (fun _ _ => rfl) (fun G p => round k p.1 p.2 G) n (d, e)
theorem ok (k : Nat) : LoopOK Tryz.prog 189 (subC (bodyOf Tryz.f93) [1, 1, 1, 1, 0, 1, 0, 0]) (sum k) :=
  loop_sigX hm (fE k) (loopsOK_of [] (by kernel_rfl) trivial) S cl hn kp H 4 (fun (d : (Unit × Unit × Unit × Int × Unit)) (e : (((List Int) × (Unit × Int)) × (List Int) × (List Int) × (List Int) × (List Int) × (List Int) × Unit)) => f k e.1.1 e.1.2.2 e.2.1 e.2.2.1 e.2.2.2.1 e.2.2.2.2.1 k d.2.2.2.1 e.2.2.2.2.2.1) KX cl hn kp rc rs ri k
    (fun d e => (it k k d e).trans (go_nat (fun v => some (Ex.exit 4, KX d e v)) (fun x96 y800005 => some (x96, y800005)) k e.1.1 e.1.2.2 e.2.1 e.2.2.1 e.2.2.2.1 e.2.2.2.2.1 k d.2.2.2.1 e.2.2.2.2.2.1).symm)
end l4
namespace l6
theorem round (k : Nat) (d : (Unit × Unit × Int × Unit)) (e : (((List Int) × (Unit × Int)) × (List Int) × (List Int) × (List Int) × (List Int) × Unit)) (G : St → Option (Ex × St)) : roundK Tryz.prog (E k) 189 6 (subC (bodyOf Tryz.f93) [1, 1, 1, 1, 1, 1, 0, 0]) (recast cl hn kp) (finBy cl hn kp rc rs ri) G ⟨mkS S d, mkH H e⟩ =
    step (fun x172 y0_0 => some (.exit 6, KX d e (x172, y0_0))) (fun x172 y0_0 => G ⟨mkS S ((), (), x172, ()), mkH H ((y0_0, ((), e.1.2.2)), e.2.1, e.2.2.1, e.2.2.2.1, e.2.2.2.2.1, ())⟩) k e.1.2.2 e.2.1 e.2.2.1 e.2.2.2.1 e.2.2.2.2.1 d.2.2.1 e.1.1 := by kernel_rfl
theorem it (k n : Nat) (d : (Unit × Unit × Int × Unit)) (e : (((List Int) × (Unit × Int)) × (List Int) × (List Int) × (List Int) × (List Int) × Unit)) : loopIt Tryz.prog (E k) 189 6 (subC (bodyOf Tryz.f93) [1, 1, 1, 1, 1, 1, 0, 0]) (recast cl hn kp) (finBy cl hn kp rc rs ri) n ⟨mkS S d, mkH H e⟩ = go (fun x172 y0_0 => some (.exit 6, KX d e (x172, y0_0))) k e.1.2.2 e.2.1 e.2.2.1 e.2.2.2.1 e.2.2.2.2.1 n d.2.2.1 e.1.1 :=
  loopIt_eq (D := (Unit × Unit × Int × Unit) × (((List Int) × (Unit × Int)) × (List Int) × (List Int) × (List Int) × (List Int) × Unit)) (fun p => ⟨mkS S p.1, mkH H p.2⟩) (fun F p => step (fun x172 y0_0 => some (.exit 6, KX p.1 p.2 (x172, y0_0))) (fun x172 y0_0 => F (((), (), x172, ()), ((y0_0, ((), p.2.1.2.2)), p.2.2.1, p.2.2.2.1, p.2.2.2.2.1, p.2.2.2.2.2.1, ()))) k p.2.1.2.2 p.2.2.1 p.2.2.2.1 p.2.2.2.2.1 p.2.2.2.2.2.1 p.1.2.2.1 p.2.1.1) (fun n p => go (fun x172 y0_0 => some (.exit 6, KX p.1 p.2 (x172, y0_0))) k p.2.1.2.2 p.2.2.1 p.2.2.2.1 p.2.2.2.2.1 p.2.2.2.2.2.1 n p.1.2.2.1 p.2.1.1) (fun _ => rfl) (fun _ _ => rfl) (fun G p => round k p.1 p.2 G) n (d, e)
theorem ok (k : Nat) : LoopOK Tryz.prog 189 (subC (bodyOf Tryz.f93) [1, 1, 1, 1, 1, 1, 0, 0]) (sum k) :=
  loop_sigX hm (fE k) (loopsOK_of [] (by kernel_rfl) trivial) S cl hn kp H 6 (fun (d : (Unit × Unit × Int × Unit)) (e : (((List Int) × (Unit × Int)) × (List Int) × (List Int) × (List Int) × (List Int) × Unit)) => f k e.1.2.2 e.2.1 e.2.2.1 e.2.2.2.1 e.2.2.2.2.1 k d.2.2.1 e.1.1) KX cl hn kp rc rs ri k
    (fun d e => (it k k d e).trans (go_nat (fun v => some (Ex.exit 6, KX d e v)) (fun x172 y0_0 => some (x172, y0_0)) k e.1.2.2 e.2.1 e.2.2.1 e.2.2.2.1 e.2.2.2.2.1 k d.2.2.1 e.1.1).symm)
end l6
theorem run (k : Nat) (d : (Unit × Unit × Unit)) (e : (((List Int) × (Unit × Int)) × (List Int) × (List Int) × (List Int) × Unit)) : runFn Tryz.prog (E k) 189 (bodyOf Tryz.f93) Tryz.f93.results.toList cl hn hi (mkL ps d) (mkH hs e) =
    tree (fun b0 b1 => leafFn hs fi e val wr (b0, b1)) k e.1.1 e.1.2.2 e.2.1 e.2.2.1 e.2.2.2.1 := by kernel_rfl
theorem run_f (k : Nat) (d : (Unit × Unit × Unit)) (e : (((List Int) × (Unit × Int)) × (List Int) × (List Int) × (List Int) × Unit)) : runFn Tryz.prog (E k) 189 (bodyOf Tryz.f93) Tryz.f93.results.toList cl hn hi (mkL ps d) (mkH hs e) = (f k e.1.1 e.1.2.2 e.2.1 e.2.2.1 e.2.2.2.1).bind (leafFn hs fi e val wr) :=
  (run k d e).trans (tree_nat (leafFn hs fi e val wr) (fun b0 b1 => some (b0, b1)) k e.1.1 e.1.2.2 e.2.1 e.2.2.1 e.2.2.2.1).symm
theorem fnIs : FnIs Tryz.prog 93 Tryz.f93 (bodyOf Tryz.f93) 189 := ⟨by kernel_rfl, by kernel_rfl, by kernel_rfl, by kernel_rfl⟩
theorem ok (k : Nat) : CalleeOK Tryz.prog 93 (callee k) :=
  callee_sig (T := ((List Int) × Int)) fnIs hm (fE k) (loopsOK_of [(0, subC (bodyOf Tryz.f93) [1, 0, 1, 0, 0]), (2, subC (bodyOf Tryz.f93) [1, 1, 0, 1, 0, 0]), (4, subC (bodyOf Tryz.f93) [1, 1, 1, 1, 0, 1, 0, 0]), (6, subC (bodyOf Tryz.f93) [1, 1, 1, 1, 1, 1, 0, 0])] (by kernel_rfl) ⟨of_loop (l0.sum k) rfl (l0.ok k), ⟨of_loop (l2.sum k) rfl (l2.ok k), ⟨of_loop (l4.sum k) rfl (l4.ok k), ⟨of_loop (l6.sum k) rfl (l6.ok k), trivial⟩⟩⟩⟩) ps hs cl hn fi (fun (d : (Unit × Unit × Unit)) (e : (((List Int) × (Unit × Int)) × (List Int) × (List Int) × (List Int) × Unit)) => f k e.1.1 e.1.2.2 e.2.1 e.2.2.1 e.2.2.2.1) val wr rfl (fun _ => rfl) (run_f k)
end digest_Hasher_take
namespace digest_Hasher_Write
namespace l2
def step {X : Type} (K : (List Int) → Int → (List Int) → Option X) (G : (List Int) → Int → (List Int) → Option X) (k : Nat) (x9 : Int) (x10 : Int) (y1 : (List (List Int))) (y2 : (List Int)) (y0_0 : (List Int)) (y0_1 : Int) (y800003 : (List Int)) : Option X :=
  (bif (decide (((List.length y800003) : Int) ≥ (64 : Int))) then (bif (decide (64 ≤ ((List.length y800003) : Int))) then (Option.bind (digest_Hasher_take.f k y0_0 y0_1 (List.take 64 y800003) y2 y800003) (fun r1 => (bif (decide (64 ≤ ((List.length y800003) : Int))) then (G r1.1 r1.2 (List.drop 64 y800003)) else none))) else none) else (K y0_0 y0_1 y800003))
def go {X : Type} (K : (List Int) → Int → (List Int) → Option X) (k : Nat) (x9 : Int) (x10 : Int) (y1 : (List (List Int))) (y2 : (List Int)) : Nat → (List Int) → Int → (List Int) → Option X
  | 0, _, _, _ => none
  | n + 1, y0_0, y0_1, y800003 => step K (go K k x9 x10 y1 y2 n) k x9 x10 y1 y2 y0_0 y0_1 y800003
def f (k : Nat) (x9 : Int) (x10 : Int) (y1 : (List (List Int))) (y2 : (List Int)) (n : Nat) (y0_0 : (List Int)) (y0_1 : Int) (y800003 : (List Int)) : Option ((List Int) × (Int × (List Int))) := go (fun y0_0 y0_1 y800003 => some (y0_0, y0_1, y800003)) k x9 x10 y1 y2 n y0_0 y0_1 y800003
theorem step_nat {X Y : Type} (h : X → Option Y) (K : (List Int) → Int → (List Int) → Option X) (G : (List Int) → Int → (List Int) → Option X) (k : Nat) (x9 : Int) (x10 : Int) (y1 : (List (List Int))) (y2 : (List Int)) (y0_0 : (List Int)) (y0_1 : Int) (y800003 : (List Int)) : Option.bind (step K G k x9 x10 y1 y2 y0_0 y0_1 y800003) h = step (fun y0_0 y0_1 y800003 => Option.bind (K y0_0 y0_1 y800003) h) (fun y0_0 y0_1 y800003 => Option.bind (G y0_0 y0_1 y800003) h) k x9 x10 y1 y2 y0_0 y0_1 y800003 := by
  simp only [step, bif_bind, sel_bind', Option.bind_assoc, Option.bind_none, Option.bind_some]
theorem go_nat {X Y : Type} (h : X → Option Y) (K : (List Int) → Int → (List Int) → Option X) (k : Nat) (x9 : Int) (x10 : Int) (y1 : (List (List Int))) (y2 : (List Int)) (n : Nat) : ∀ (y0_0 : (List Int)) (y0_1 : Int) (y800003 : (List Int)), Option.bind (go K k x9 x10 y1 y2 n y0_0 y0_1 y800003) h = go (fun y0_0 y0_1 y800003 => Option.bind (K y0_0 y0_1 y800003) h) k x9 x10 y1 y2 n y0_0 y0_1 y800003 := by
  induction n with
  | zero => intros; rfl
  | succ n ih => intro y0_0 y0_1 y800003; show Option.bind (step K (go K k x9 x10 y1 y2 n) k x9 x10 y1 y2 y0_0 y0_1 y800003) h = step (fun y0_0 y0_1 y800003 => Option.bind (K y0_0 y0_1 y800003) h) (go (fun y0_0 y0_1 y800003 => Option.bind (K y0_0 y0_1 y800003) h) k x9 x10 y1 y2 n) k x9 x10 y1 y2 y0_0 y0_1 y800003; rw [step_nat h]; simp only [ih]
abbrev S : List (Nat × Sh) := [(0, .ptr 0), (8, .vec 1), (9, .data (.int .i64)), (10, .data (.int .i64))]
abbrev H : List (Nat × ESh) := [(0, .cell (.pair (.data (.arr .u32 8)) (.pair (.vec 800003) (.data (.int .u64))))), (1, .rows 2 9 .str), (2, .glob 3 (.arr .u32 64)), (800003, .rows 1 5 (.int .u8))]
abbrev cl : List (Place × Nat × Hint) := [(.id 0, 8, (.row 1 5 (.int .u8)))]
abbrev hn : List (Nat × Hint) := [(0, .any), (8, .any), (9, .any), (10, .any)]
abbrev kp : List Nat := [0, 1, 2]
abbrev rc : List (Place × Nat × Hint) := []
abbrev rs : List (Nat × Hint) := []
abbrev ri : List Nat := [0, 1, 2]
def KX (d : (Unit × Unit × Int × Int × Unit)) (e : (((List Int) × (Unit × Int)) × (List (List Int)) × (List Int) × (List Int) × Unit)) (v : ((List Int) × (Int × (List Int)))) : St := ⟨mkS S ((), (), d.2.2.1, d.2.2.2.1, ()), mkH H ((v.1, ((), v.2.1)), e.2.1, e.2.2.1, v.2.2, ())⟩
def sum (k : Nat) : LoopSum := sigLoopX S cl hn kp H 2 (fun (d : (Unit × Unit × Int × Int × Unit)) (e : (((List Int) × (Unit × Int)) × (List (List Int)) × (List Int) × (List Int) × Unit)) => f k d.2.2.1 d.2.2.2.1 e.2.1 e.2.2.1 k e.1.1 e.1.2.2 e.2.2.2.1) KX
end l2
namespace l0
def step {X : Type} (K : Int → (List Int) → Int → (List Int) → Option X) (G : Int → (List Int) → Int → (List Int) → Option X) (k : Nat) (x9 : Int) (y1 : (List (List Int))) (y2 : (List Int)) (x10 : Int) (y0_0 : (List Int)) (y0_1 : Int) (y800003 : (List Int)) : Option X :=
  (bif (decide (x10 < x9)) then (bif (decide (0 ≤ x10)) then (bif (decide (x10 < ((List.length y1) : Int))) then (bif (decide ((Int.toNat x10) < (List.length y1))) then (bif (fits (((List.length y800003) + (List.length (List.getD y1 (Int.toNat x10) ([] : (List Int))))) * 1)) then (Option.bind (digest_Hasher_Write.l2.f k x9 x10 y1 y2 k y0_0 (addI .u64 y0_1 (IntKind.wrap .u64 ((List.length (List.getD y1 (Int.toNat x10) ([] : (List Int)))) : Int))) (y800003 ++ (List.getD y1 (Int.toNat x10) ([] : (List Int))))) (fun r2 => (G (addI .i64 x10 1) r2.1 r2.2.1 r2.2.2))) else none) else none) else none) else none) else (K x10 y0_0 y0_1 y800003))
def go {X : Type} (K : Int → (List Int) → Int → (List Int) → Option X) (k : Nat) (x9 : Int) (y1 : (List (List Int))) (y2 : (List Int)) : Nat → Int → (List Int) → Int → (List Int) → Option X
  | 0, _, _, _, _ => none
  | n + 1, x10, y0_0, y0_1, y800003 => step K (go K k x9 y1 y2 n) k x9 y1 y2 x10 y0_0 y0_1 y800003
def f (k : Nat) (x9 : Int) (y1 : (List (List Int))) (y2 : (List Int)) (n : Nat) (x10 : Int) (y0_0 : (List Int)) (y0_1 : Int) (y800003 : (List Int)) : Option (Int × ((List Int) × (Int × (List Int)))) := go (fun x10 y0_0 y0_1 y800003 => some (x10, y0_0, y0_1, y800003)) k x9 y1 y2 n x10 y0_0 y0_1 y800003
theorem step_nat {X Y : Type} (h : X → Option Y) (K : Int → (List Int) → Int → (List Int) → Option X) (G : Int → (List Int) → Int → (List Int) → Option X) (k : Nat) (x9 : Int) (y1 : (List (List Int))) (y2 : (List Int)) (x10 : Int) (y0_0 : (List Int)) (y0_1 : Int) (y800003 : (List Int)) : Option.bind (step K G k x9 y1 y2 x10 y0_0 y0_1 y800003) h = step (fun x10 y0_0 y0_1 y800003 => Option.bind (K x10 y0_0 y0_1 y800003) h) (fun x10 y0_0 y0_1 y800003 => Option.bind (G x10 y0_0 y0_1 y800003) h) k x9 y1 y2 x10 y0_0 y0_1 y800003 := by
  simp only [step, bif_bind, sel_bind', Option.bind_assoc, Option.bind_none, Option.bind_some]
theorem go_nat {X Y : Type} (h : X → Option Y) (K : Int → (List Int) → Int → (List Int) → Option X) (k : Nat) (x9 : Int) (y1 : (List (List Int))) (y2 : (List Int)) (n : Nat) : ∀ (x10 : Int) (y0_0 : (List Int)) (y0_1 : Int) (y800003 : (List Int)), Option.bind (go K k x9 y1 y2 n x10 y0_0 y0_1 y800003) h = go (fun x10 y0_0 y0_1 y800003 => Option.bind (K x10 y0_0 y0_1 y800003) h) k x9 y1 y2 n x10 y0_0 y0_1 y800003 := by
  induction n with
  | zero => intros; rfl
  | succ n ih => intro x10 y0_0 y0_1 y800003; show Option.bind (step K (go K k x9 y1 y2 n) k x9 y1 y2 x10 y0_0 y0_1 y800003) h = step (fun x10 y0_0 y0_1 y800003 => Option.bind (K x10 y0_0 y0_1 y800003) h) (go (fun x10 y0_0 y0_1 y800003 => Option.bind (K x10 y0_0 y0_1 y800003) h) k x9 y1 y2 n) k x9 y1 y2 x10 y0_0 y0_1 y800003; rw [step_nat h]; simp only [ih]
abbrev S : List (Nat × Sh) := [(0, .ptr 0), (8, .vec 1), (9, .data (.int .i64)), (10, .data (.int .i64))]
abbrev H : List (Nat × ESh) := [(0, .cell (.pair (.data (.arr .u32 8)) (.pair (.vec 800003) (.data (.int .u64))))), (1, .rows 2 9 .str), (2, .glob 3 (.arr .u32 64)), (800003, .rows 1 5 (.int .u8))]
abbrev cl : List (Place × Nat × Hint) := [(.id 0, 8, (.row 1 5 (.int .u8)))]
abbrev hn : List (Nat × Hint) := [(0, .any), (8, .any), (9, .any), (10, .any)]
abbrev kp : List Nat := [0, 1, 2]
abbrev rc : List (Place × Nat × Hint) := []
abbrev rs : List (Nat × Hint) := []
abbrev ri : List Nat := [0, 1, 2]
def KX (d : (Unit × Unit × Int × Int × Unit)) (e : (((List Int) × (Unit × Int)) × (List (List Int)) × (List Int) × (List Int) × Unit)) (v : (Int × ((List Int) × (Int × (List Int))))) : St := ⟨mkS S ((), (), d.2.2.1, v.1, ()), mkH H ((v.2.1, ((), v.2.2.1)), e.2.1, e.2.2.1, v.2.2.2, ())⟩
def sum (k : Nat) : LoopSum := sigLoopX S cl hn kp H 0 (fun (d : (Unit × Unit × Int × Int × Unit)) (e : (((List Int) × (Unit × Int)) × (List (List Int)) × (List Int) × (List Int) × Unit)) => f k d.2.2.1 e.2.1 e.2.2.1 k d.2.2.2.1 e.1.1 e.1.2.2 e.2.2.2.1) KX
end l0
def tree {X : Type} (K : (List Int) → Int → (List Int) → Option X) (k : Nat) (m0_0 : (List Int)) (m0_1 : Int) (m1 : (List (List Int))) (m2 : (List Int)) : Option X :=
  (Option.bind (digest_Hasher_Write.l0.f k ((List.length m1) : Int) m1 m2 k (0 : Int) m0_0 m0_1 ([] : (List Int))) (fun r3 => (K r3.2.1 r3.2.2.1 r3.2.2.2)))
def f (k : Nat) (m0_0 : (List Int)) (m0_1 : Int) (m1 : (List (List Int))) (m2 : (List Int)) : Option ((List Int) × (Int × (List Int))) := tree (fun b0 b1 b2 => some (b0, b1, b2)) k m0_0 m0_1 m1 m2
theorem tree_nat {X Y : Type} (h : X → Option Y) (K : (List Int) → Int → (List Int) → Option X) (k : Nat) (m0_0 : (List Int)) (m0_1 : Int) (m1 : (List (List Int))) (m2 : (List Int)) : Option.bind (tree K k m0_0 m0_1 m1 m2) h = tree (fun b0 b1 b2 => Option.bind (K b0 b1 b2) h) k m0_0 m0_1 m1 m2 := by
  simp only [tree, bif_bind, sel_bind', Option.bind_assoc, Option.bind_none, Option.bind_some]
abbrev ps : List Sh := [.ptr 0, .vec 1]
abbrev hs : List (Nat × ESh) := [(0, .cell (.pair (.data (.arr .u32 8)) (.pair .nils (.data (.int .u64))))), (1, .rows 2 9 .str), (2, .glob 3 (.arr .u32 64))]
abbrev hi : List Nat := hs.map (·.1)
abbrev fi : List Nat := [0, 1, 2, 900003]
abbrev cl : List (Place × Nat × Hint) := []
abbrev hn : List Hint := []
def val (t : ((List Int) × (Int × (List Int)))) : AV := .tnil
def wr (t : ((List Int) × (Int × (List Int)))) : Heap := [(0, ESh.mk (.cell (.pair (.data (.arr .u32 8)) (.pair (.vec 900003) (.data (.int .u64))))) (t.1, ((), t.2.1))), (900003, ESh.mk (.rows 1 5 (.int .u8)) t.2.2)]
def callee (k : Nat) : Callee := sigCallee ps hs (fun (d : (Unit × Unit × Unit)) (e : (((List Int) × (Unit × Int)) × (List (List Int)) × (List Int) × Unit)) => f k e.1.1 e.1.2.2 e.2.1 e.2.2.1) val wr
def E (k : Nat) : Env := ⟨fnTab [(93, [digest_Hasher_take.callee k])], loopTab [(2, l2.sum k), (0, l0.sum k)], natsTab [(93, [2])], natTab [(3, 2)]⟩
theorem fE (k : Nat) : ∀ f, ∀ c ∈ (E k).fn f, CalleeOK Tryz.prog f c := fnTab_ok ⟨⟨digest_Hasher_take.ok k, trivial⟩, trivial⟩
namespace l2
theorem round (k : Nat) (d : (Unit × Unit × Int × Int × Unit)) (e : (((List Int) × (Unit × Int)) × (List (List Int)) × (List Int) × (List Int) × Unit)) (G : St → Option (Ex × St)) : roundK Tryz.prog (E k) 55 2 (subC (bodyOf Tryz.f87) [1, 1, 0, 0, 1, 1, 0, 0, 1, 1, 1, 0, 0]) (recast cl hn kp) (finBy cl hn kp rc rs ri) G ⟨mkS S d, mkH H e⟩ =
    step (fun y0_0 y0_1 y800003 => some (.exit 2, KX d e (y0_0, y0_1, y800003))) (fun y0_0 y0_1 y800003 => G ⟨mkS S ((), (), d.2.2.1, d.2.2.2.1, ()), mkH H ((y0_0, ((), y0_1)), e.2.1, e.2.2.1, y800003, ())⟩) k d.2.2.1 d.2.2.2.1 e.2.1 e.2.2.1 e.1.1 e.1.2.2 e.2.2.2.1 := by kernel_rfl
theorem it (k n : Nat) (d : (Unit × Unit × Int × Int × Unit)) (e : (((List Int) × (Unit × Int)) × (List (List Int)) × (List Int) × (List Int) × Unit)) : loopIt Tryz.prog (E k) 55 2 (subC (bodyOf Tryz.f87) [1, 1, 0, 0, 1, 1, 0, 0, 1, 1, 1, 0, 0]) (recast cl hn kp) (finBy cl hn kp rc rs ri) n ⟨mkS S d, mkH H e⟩ = go (fun y0_0 y0_1 y800003 => some (.exit 2, KX d e (y0_0, y0_1, y800003))) k d.2.2.1 d.2.2.2.1 e.2.1 e.2.2.1 n e.1.1 e.1.2.2 e.2.2.2.1 :=
  loopIt_eq (D := (Unit × Unit × Int × Int × Unit) × (((List Int) × (Unit × Int)) × (List (List Int)) × (List Int) × (List Int) × Unit)) (fun p => ⟨mkS S p.1, mkH H p.2⟩) (fun F p => step (fun y0_0 y0_1 y800003 => some (.exit 2, KX p.1 p.2 (y0_0, y0_1, y800003))) (fun y0_0 y0_1 y800003 => F (((), (), p.1.2.2.1, p.1.2.2.2.1, ()), ((y0_0, ((), y0_1)), p.2.2.1, p.2.2.2.1, y800003, ()))) k p.1.2.2.1 p.1.2.2.2.1 p.2.2.1 p.2.2.2.1 p.2.1.1 p.2.1.2.2 p.2.2.2.2.1) (fun n p => go (fun y0_0 y0_1 y800003 => some (.exit 2, KX p.1 p.2 (y0_0, y0_1, y800003))) k p.1.2.2.1 p.1.2.2.2.1 p.2.2.1 p.2.2.2.1 n p.2.1.1 p.2.1.2.2 p.2.2.2.2.1) (fun _ => rfl) (fun _ _ => rfl) (fun G p => round k p.1 p.2 G) n (d, e)
theorem ok (k : Nat) : LoopOK Tryz.prog 55 (subC (bodyOf Tryz.f87) [1, 1, 0, 0, 1, 1, 0, 0, 1, 1, 1, 0, 0]) (sum k) :=
  loop_sigX hm (fE k) (loopsOK_of [] (by kernel_rfl) trivial) S cl hn kp H 2 (fun (d : (Unit × Unit × Int × Int × Unit)) (e : (((List Int) × (Unit × Int)) × (List (List Int)) × (List Int) × (List Int) × Unit)) => f k d.2.2.1 d.2.2.2.1 e.2.1 e.2.2.1 k e.1.1 e.1.2.2 e.2.2.2.1) KX cl hn kp rc rs ri k
    (fun d e => (it k k d e).trans (go_nat (fun v => some (Ex.exit 2, KX d e v)) (fun y0_0 y0_1 y800003 => some (y0_0, y0_1, y800003)) k d.2.2.1 d.2.2.2.1 e.2.1 e.2.2.1 k e.1.1 e.1.2.2 e.2.2.2.1).symm)
end l2
namespace l0
theorem round (k : Nat) (d : (Unit × Unit × Int × Int × Unit)) (e : (((List Int) × (Unit × Int)) × (List (List Int)) × (List Int) × (List Int) × Unit)) (G : St → Option (Ex × St)) : roundK Tryz.prog (E k) 55 0 (subC (bodyOf Tryz.f87) [1, 1, 0, 0]) (recast cl hn kp) (finBy cl hn kp rc rs ri) G ⟨mkS S d, mkH H e⟩ =
    step (fun x10 y0_0 y0_1 y800003 => some (.exit 0, KX d e (x10, y0_0, y0_1, y800003))) (fun x10 y0_0 y0_1 y800003 => G ⟨mkS S ((), (), d.2.2.1, x10, ()), mkH H ((y0_0, ((), y0_1)), e.2.1, e.2.2.1, y800003, ())⟩) k d.2.2.1 e.2.1 e.2.2.1 d.2.2.2.1 e.1.1 e.1.2.2 e.2.2.2.1 := by kernel_rfl
theorem it (k n : Nat) (d : (Unit × Unit × Int × Int × Unit)) (e : (((List Int) × (Unit × Int)) × (List (List Int)) × (List Int) × (List Int) × Unit)) : loopIt Tryz.prog (E k) 55 0 (subC (bodyOf Tryz.f87) [1, 1, 0, 0]) (recast cl hn kp) (finBy cl hn kp rc rs ri) n ⟨mkS S d, mkH H e⟩ = go (fun x10 y0_0 y0_1 y800003 => some (.exit 0, KX d e (x10, y0_0, y0_1, y800003))) k d.2.2.1 e.2.1 e.2.2.1 n d.2.2.2.1 e.1.1 e.1.2.2 e.2.2.2.1 :=
  loopIt_eq (D := (Unit × Unit × Int × Int × Unit) × (((List Int) × (Unit × Int)) × (List (List Int)) × (List Int) × (List Int) × Unit)) (fun p => ⟨mkS S p.1, mkH H p.2⟩) (fun F p => step (fun x10 y0_0 y0_1 y800003 => some (.exit 0, KX p.1 p.2 (x10, y0_0, y0_1, y800003))) (fun x10 y0_0 y0_1 y800003 => F (((), (), p.1.2.2.1, x10, ()), ((y0_0, ((), y0_1)), p.2.2.1, p.2.2.2.1, y800003, ()))) k p.1.2.2.1 p.2.2.1 p.2.2.2.1 p.1.2.2.2.1 p.2.1.1 p.2.1.2.2 p.2.2.2.2.1) (fun n p => go (fun x10 y0_0 y0_1 y800003 => some (.exit 0, KX p.1 p.2 (x10, y0_0, y0_1, y800003))) k p.1.2.2.1 p.2.2.1 p.2.2.2.1 n p.1.2.2.2.1 p.2.1.1 p.2.1.2.2 p.2.2.2.2.1) (fun _ => rfl) (fun _ _ => rfl) (fun G p => round k p.1 p.2 G) n (d, e)
theorem ok (k : Nat) : LoopOK Tryz.prog 55 (subC (bodyOf Tryz.f87) [1, 1, 0, 0]) (sum k) :=
  loop_sigX hm (fE k) (loopsOK_of [(2, subC (bodyOf Tryz.f87) [1, 1, 0, 0, 1, 1, 0, 0, 1, 1, 1, 0, 0])] (by kernel_rfl) ⟨of_loop (l2.sum k) rfl (l2.ok k), trivial⟩) S cl hn kp H 0 (fun (d : (Unit × Unit × Int × Int × Unit)) (e : (((List Int) × (Unit × Int)) × (List (List Int)) × (List Int) × (List Int) × Unit)) => f k d.2.2.1 e.2.1 e.2.2.1 k d.2.2.2.1 e.1.1 e.1.2.2 e.2.2.2.1) KX cl hn kp rc rs ri k
    (fun d e => (it k k d e).trans (go_nat (fun v => some (Ex.exit 0, KX d e v)) (fun x10 y0_0 y0_1 y800003 => some (x10, y0_0, y0_1, y800003)) k d.2.2.1 e.2.1 e.2.2.1 k d.2.2.2.1 e.1.1 e.1.2.2 e.2.2.2.1).symm)
end l0
theorem run (k : Nat) (d : (Unit × Unit × Unit)) (e : (((List Int) × (Unit × Int)) × (List (List Int)) × (List Int) × Unit)) : runFn Tryz.prog (E k) 55 (bodyOf Tryz.f87) Tryz.f87.results.toList cl hn hi (mkL ps d) (mkH hs e) =
    tree (fun b0 b1 b2 => leafFn hs fi e val wr (b0, b1, b2)) k e.1.1 e.1.2.2 e.2.1 e.2.2.1 := by kernel_rfl
theorem run_f (k : Nat) (d : (Unit × Unit × Unit)) (e : (((List Int) × (Unit × Int)) × (List (List Int)) × (List Int) × Unit)) : runFn Tryz.prog (E k) 55 (bodyOf Tryz.f87) Tryz.f87.results.toList cl hn hi (mkL ps d) (mkH hs e) = (f k e.1.1 e.1.2.2 e.2.1 e.2.2.1).bind (leafFn hs fi e val wr) :=
  (run k d e).trans (tree_nat (leafFn hs fi e val wr) (fun b0 b1 b2 => some (b0, b1, b2)) k e.1.1 e.1.2.2 e.2.1 e.2.2.1).symm
theorem fnIs : FnIs Tryz.prog 87 Tryz.f87 (bodyOf Tryz.f87) 55 := ⟨by kernel_rfl, by kernel_rfl, by kernel_rfl, by kernel_rfl⟩
theorem ok (k : Nat) : CalleeOK Tryz.prog 87 (callee k) :=
  callee_sig (T := ((List Int) × (Int × (List Int)))) fnIs hm (fE k) (loopsOK_of [(0, subC (bodyOf Tryz.f87) [1, 1, 0, 0])] (by kernel_rfl) ⟨of_loop (l0.sum k) rfl (l0.ok k), trivial⟩) ps hs cl hn fi (fun (d : (Unit × Unit × Unit)) (e : (((List Int) × (Unit × Int)) × (List (List Int)) × (List Int) × Unit)) => f k e.1.1 e.1.2.2 e.2.1 e.2.2.1) val wr rfl (fun _ => rfl) (run_f k)
end digest_Hasher_Write
namespace digest_Hasher_take_v1
namespace l0
def step {X : Type} (K : Int → (List Int) → Option X) (G : Int → (List Int) → Option X) (k : Nat) (y0_0 : (List Int)) (y0_1 : Int) (y1 : (List Int)) (y2 : (List Int)) (x16 : Int) (y800003 : (List Int)) : Option X :=
  (bif (decide (x16 < (16 : Int))) then (bif (decide (0 ≤ (mulI .i64 4 x16))) then (bif (decide ((mulI .i64 4 x16) < ((List.length y1) : Int))) then (bif (decide ((Int.toNat (mulI .i64 4 x16)) < (List.length y1))) then (bif (decide (0 ≤ (addI .i64 (mulI .i64 4 x16) 1))) then (bif (decide ((addI .i64 (mulI .i64 4 x16) 1) < ((List.length y1) : Int))) then (bif (decide ((Int.toNat (addI .i64 (mulI .i64 4 x16) 1)) < (List.length y1))) then (bif (decide (0 ≤ (addI .i64 (mulI .i64 4 x16) 2))) then (bif (decide ((addI .i64 (mulI .i64 4 x16) 2) < ((List.length y1) : Int))) then (bif (decide ((Int.toNat (addI .i64 (mulI .i64 4 x16) 2)) < (List.length y1))) then (bif (decide (0 ≤ (addI .i64 (mulI .i64 4 x16) 3))) then (bif (decide ((addI .i64 (mulI .i64 4 x16) 3) < ((List.length y1) : Int))) then (bif (decide ((Int.toNat (addI .i64 (mulI .i64 4 x16) 3)) < (List.length y1))) then (bif (decide (0 ≤ x16)) then (bif (decide (x16 < 64)) then (bif (decide ((Int.toNat x16) < 64)) then (G (addI .i64 x16 1) (List.set y800003 (Int.toNat x16) (orI .u32 (orI .u32 (orI .u32 (shlI .u32 (IntKind.wrap .u32 (List.getD y1 (Int.toNat (mulI .i64 4 x16)) (0 : Int))) 24) (shlI .u32 (IntKind.wrap .u32 (List.getD y1 (Int.toNat (addI .i64 (mulI .i64 4 x16) 1)) (0 : Int))) 16)) (shlI .u32 (IntKind.wrap .u32 (List.getD y1 (Int.toNat (addI .i64 (mulI .i64 4 x16) 2)) (0 : Int))) 8)) (IntKind.wrap .u32 (List.getD y1 (Int.toNat (addI .i64 (mulI .i64 4 x16) 3)) (0 : Int)))))) else none) else none) else none) else none) else none) else none) else none) else none) else none) else none) else none) else none) else none) else none) else none) else (K x16 y800003))
def go {X : Type} (K : Int → (List Int) → Option X) (k : Nat) (y0_0 : (List Int)) (y0_1 : Int) (y1 : (List Int)) (y2 : (List Int)) : Nat → Int → (List Int) → Option X
  | 0, _, _ => none
  | n + 1, x16, y800003 => step K (go K k y0_0 y0_1 y1 y2 n) k y0_0 y0_1 y1 y2 x16 y800003
def f (k : Nat) (y0_0 : (List Int)) (y0_1 : Int) (y1 : (List Int)) (y2 : (List Int)) (n : Nat) (x16 : Int) (y800003 : (List Int)) : Option (Int × (List Int)) := go (fun x16 y800003 => some (x16, y800003)) k y0_0 y0_1 y1 y2 n x16 y800003
theorem step_nat {X Y : Type} (h : X → Option Y) (K : Int → (List Int) → Option X) (G : Int → (List Int) → Option X) (k : Nat) (y0_0 : (List Int)) (y0_1 : Int) (y1 : (List Int)) (y2 : (List Int)) (x16 : Int) (y800003 : (List Int)) : Option.bind (step K G k y0_0 y0_1 y1 y2 x16 y800003) h = step (fun x16 y800003 => Option.bind (K x16 y800003) h) (fun x16 y800003 => Option.bind (G x16 y800003) h) k y0_0 y0_1 y1 y2 x16 y800003 := by
  simp only [step, bif_bind, sel_bind', Option.bind_assoc, Option.bind_none, Option.bind_some]
theorem go_nat {X Y : Type} (h : X → Option Y) (K : Int → (List Int) → Option X) (k : Nat) (y0_0 : (List Int)) (y0_1 : Int) (y1 : (List Int)) (y2 : (List Int)) (n : Nat) : ∀ (x16 : Int) (y800003 : (List Int)), Option.bind (go K k y0_0 y0_1 y1 y2 n x16 y800003) h = go (fun x16 y800003 => Option.bind (K x16 y800003) h) k y0_0 y0_1 y1 y2 n x16 y800003 := by
  induction n with
  | zero => intros; rfl
  | succ n ih => intro x16 y800003; show Option.bind (step K (go K k y0_0 y0_1 y1 y2 n) k y0_0 y0_1 y1 y2 x16 y800003) h = step (fun x16 y800003 => Option.bind (K x16 y800003) h) (go (fun x16 y800003 => Option.bind (K x16 y800003) h) k y0_0 y0_1 y1 y2 n) k y0_0 y0_1 y1 y2 x16 y800003; rw [step_nat h]; simp only [ih]
abbrev S : List (Nat × Sh) := [(0, .ptr 0), (1, .vec 1), (4, .ptr 800003), (16, .data (.int .i64))]
abbrev H : List (Nat × ESh) := [(0, .cell (.pair (.data (.arr .u32 8)) (.pair .nils (.data (.int .u64))))), (1, .rows 0 5 (.int .u8)), (2, .glob 3 (.arr .u32 64)), (800003, .cell (.data (.arr .u32 64)))]
abbrev cl : List (Place × Nat × Hint) := []
abbrev hn : List (Nat × Hint) := [(0, .any), (1, .any), (4, .any), (16, .any)]
abbrev kp : List Nat := [0, 1, 2]
abbrev rc : List (Place × Nat × Hint) := []
abbrev rs : List (Nat × Hint) := []
abbrev ri : List Nat := [0, 1, 2]
def KX (d : (Unit × Unit × Unit × Int × Unit)) (e : (((List Int) × (Unit × Int)) × (List Int) × (List Int) × (List Int) × Unit)) (v : (Int × (List Int))) : St := ⟨mkS S ((), (), (), v.1, ()), mkH H ((e.1.1, ((), e.1.2.2)), e.2.1, e.2.2.1, v.2, ())⟩
def sum (k : Nat) : LoopSum := sigLoopX S cl hn kp H 0 (fun (d : (Unit × Unit × Unit × Int × Unit)) (e : (((List Int) × (Unit × Int)) × (List Int) × (List Int) × (List Int) × Unit)) => f k e.1.1 e.1.2.2 e.2.1 e.2.2.1 k d.2.2.2.1 e.2.2.2.1) KX
end l0
namespace l2
def step {X : Type} (K : Int → (List Int) → Option X) (G : Int → (List Int) → Option X) (k : Nat) (y0_0 : (List Int)) (y0_1 : Int) (y1 : (List Int)) (y2 : (List Int)) (x6 : Int) (y800003 : (List Int)) : Option X :=
  (bif (decide (x6 < (64 : Int))) then (bif (decide (0 ≤ (subI .i64 x6 15))) then (bif (decide ((subI .i64 x6 15) < 64)) then (bif (decide ((Int.toNat (subI .i64 x6 15)) < 64)) then (bif (decide (0 ≤ (subI .i64 x6 2))) then (bif (decide ((subI .i64 x6 2) < 64)) then (bif (decide ((Int.toNat (subI .i64 x6 2)) < 64)) then (bif (decide (0 ≤ (subI .i64 x6 16))) then (bif (decide ((subI .i64 x6 16) < 64)) then (bif (decide ((Int.toNat (subI .i64 x6 16)) < 64)) then (Option.bind (digest_turn.f k (List.getD y800003 (Int.toNat (subI .i64 x6 15)) 0) ([7, 18] : (List Int))) (fun r2 => (bif (decide (0 ≤ (subI .i64 x6 7))) then (bif (decide ((subI .i64 x6 7) < 64)) then (bif (decide ((Int.toNat (subI .i64 x6 7)) < 64)) then (Option.bind (digest_turn.f k (List.getD y800003 (Int.toNat (subI .i64 x6 2)) 0) ([17, 19] : (List Int))) (fun r3 => (bif (decide (0 ≤ x6)) then (bif (decide (x6 < 64)) then (bif (decide ((Int.toNat x6) < 64)) then (G (addI .i64 x6 1) (List.set y800003 (Int.toNat x6) (addI .u32 (addI .u32 (addI .u32 (List.getD y800003 (Int.toNat (subI .i64 x6 16)) 0) (xorI .u32 r2 (shrI .u32 (List.getD y800003 (Int.toNat (subI .i64 x6 15)) 0) 3))) (List.getD y800003 (Int.toNat (subI .i64 x6 7)) 0)) (xorI .u32 r3 (shrI .u32 (List.getD y800003 (Int.toNat (subI .i64 x6 2)) 0) 10))))) else none) else none) else none))) else none) else none) else none))) else none) else none) else none) else none) else none) else none) else none) else none) else none) else (K x6 y800003))
def go {X : Type} (K : Int → (List Int) → Option X) (k : Nat) (y0_0 : (List Int)) (y0_1 : Int) (y1 : (List Int)) (y2 : (List Int)) : Nat → Int → (List Int) → Option X
  | 0, _, _ => none
  | n + 1, x6, y800003 => step K (go K k y0_0 y0_1 y1 y2 n) k y0_0 y0_1 y1 y2 x6 y800003
def f (k : Nat) (y0_0 : (List Int)) (y0_1 : Int) (y1 : (List Int)) (y2 : (List Int)) (n : Nat) (x6 : Int) (y800003 : (List Int)) : Option (Int × (List Int)) := go (fun x6 y800003 => some (x6, y800003)) k y0_0 y0_1 y1 y2 n x6 y800003
theorem step_nat {X Y : Type} (h : X → Option Y) (K : Int → (List Int) → Option X) (G : Int → (List Int) → Option X) (k : Nat) (y0_0 : (List Int)) (y0_1 : Int) (y1 : (List Int)) (y2 : (List Int)) (x6 : Int) (y800003 : (List Int)) : Option.bind (step K G k y0_0 y0_1 y1 y2 x6 y800003) h = step (fun x6 y800003 => Option.bind (K x6 y800003) h) (fun x6 y800003 => Option.bind (G x6 y800003) h) k y0_0 y0_1 y1 y2 x6 y800003 := by
  simp only [step, bif_bind, sel_bind', Option.bind_assoc, Option.bind_none, Option.bind_some]
theorem go_nat {X Y : Type} (h : X → Option Y) (K : Int → (List Int) → Option X) (k : Nat) (y0_0 : (List Int)) (y0_1 : Int) (y1 : (List Int)) (y2 : (List Int)) (n : Nat) : ∀ (x6 : Int) (y800003 : (List Int)), Option.bind (go K k y0_0 y0_1 y1 y2 n x6 y800003) h = go (fun x6 y800003 => Option.bind (K x6 y800003) h) k y0_0 y0_1 y1 y2 n x6 y800003 := by
  induction n with
  | zero => intros; rfl
  | succ n ih => intro x6 y800003; show Option.bind (step K (go K k y0_0 y0_1 y1 y2 n) k y0_0 y0_1 y1 y2 x6 y800003) h = step (fun x6 y800003 => Option.bind (K x6 y800003) h) (go (fun x6 y800003 => Option.bind (K x6 y800003) h) k y0_0 y0_1 y1 y2 n) k y0_0 y0_1 y1 y2 x6 y800003; rw [step_nat h]; simp only [ih]
abbrev S : List (Nat × Sh) := [(0, .ptr 0), (4, .ptr 800003), (6, .data (.int .i64))]
abbrev H : List (Nat × ESh) := [(0, .cell (.pair (.data (.arr .u32 8)) (.pair .nils (.data (.int .u64))))), (1, .rows 0 5 (.int .u8)), (2, .glob 3 (.arr .u32 64)), (800003, .cell (.data (.arr .u32 64)))]
abbrev cl : List (Place × Nat × Hint) := []
abbrev hn : List (Nat × Hint) := [(0, .any), (4, .any), (6, .any)]
abbrev kp : List Nat := [0, 1, 2]
abbrev rc : List (Place × Nat × Hint) := []
abbrev rs : List (Nat × Hint) := []
abbrev ri : List Nat := [0, 1, 2]
def KX (d : (Unit × Unit × Int × Unit)) (e : (((List Int) × (Unit × Int)) × (List Int) × (List Int) × (List Int) × Unit)) (v : (Int × (List Int))) : St := ⟨mkS S ((), (), v.1, ()), mkH H ((e.1.1, ((), e.1.2.2)), e.2.1, e.2.2.1, v.2, ())⟩
def sum (k : Nat) : LoopSum := sigLoopX S cl hn kp H 2 (fun (d : (Unit × Unit × Int × Unit)) (e : (((List Int) × (Unit × Int)) × (List Int) × (List Int) × (List Int) × Unit)) => f k e.1.1 e.1.2.2 e.2.1 e.2.2.1 k d.2.2.1 e.2.2.2.1) KX
end l2
namespace l4
def step {X : Type} (K : Int → (List Int) → Option X) (G : Int → (List Int) → Option X) (k : Nat) (y0_0 : (List Int)) (y0_1 : Int) (y1 : (List Int)) (y2 : (List Int)) (y800003 : (List Int)) (x96 : Int) (y800004 : (List Int)) : Option X :=
  (bif (decide (x96 < (64 : Int))) then (Option.bind (digest_turn.f k (List.getD y800004 4 0) ([6, 11, 25] : (List Int))) (fun r5 => (bif (decide (0 ≤ x96)) then (bif (decide (x96 < 64)) then (bif (decide ((Int.toNat x96) < 64)) then (bif (decide (0 ≤ x96)) then (bif (decide (x96 < 64)) then (bif (decide ((Int.toNat x96) < 64)) then (Option.bind (digest_turn.f k (List.getD y800004 0 0) ([2, 13, 22] : (List Int))) (fun r6 => (G (addI .i64 x96 1) ([(addI .u32 (addI .u32 (addI .u32 (addI .u32 (addI .u32 (List.getD y800004 7 0) r5) (xorI .u32 (andI .u32 (List.getD y800004 4 0) (List.getD y800004 5 0)) (andI .u32 (notI .u32 (List.getD y800004 4 0)) (List.getD y800004 6 0)))) (List.getD y2 (Int.toNat x96) 0)) (List.getD y800003 (Int.toNat x96) 0)) (addI .u32 r6 (xorI .u32 (xorI .u32 (andI .u32 (List.getD y800004 0 0) (List.getD y800004 1 0)) (andI .u32 (List.getD y800004 0 0) (List.getD y800004 2 0))) (andI .u32 (List.getD y800004 1 0) (List.getD y800004 2 0))))), (List.getD y800004 0 0), (List.getD y800004 1 0), (List.getD y800004 2 0), (addI .u32 (List.getD y800004 3 0) (addI .u32 (addI .u32 (addI .u32 (addI .u32 (List.getD y800004 7 0) r5) (xorI .u32 (andI .u32 (List.getD y800004 4 0) (List.getD y800004 5 0)) (andI .u32 (notI .u32 (List.getD y800004 4 0)) (List.getD y800004 6 0)))) (List.getD y2 (Int.toNat x96) 0)) (List.getD y800003 (Int.toNat x96) 0))), (List.getD y800004 4 0), (List.getD y800004 5 0), (List.getD y800004 6 0)] : (List Int))))) else none) else none) else none) else none) else none) else none))) else (K x96 y800004))
def go {X : Type} (K : Int → (List Int) → Option X) (k : Nat) (y0_0 : (List Int)) (y0_1 : Int) (y1 : (List Int)) (y2 : (List Int)) (y800003 : (List Int)) : Nat → Int → (List Int) → Option X
  | 0, _, _ => none
  | n + 1, x96, y800004 => step K (go K k y0_0 y0_1 y1 y2 y800003 n) k y0_0 y0_1 y1 y2 y800003 x96 y800004
def f (k : Nat) (y0_0 : (List Int)) (y0_1 : Int) (y1 : (List Int)) (y2 : (List Int)) (y800003 : (List Int)) (n : Nat) (x96 : Int) (y800004 : (List Int)) : Option (Int × (List Int)) := go (fun x96 y800004 => some (x96, y800004)) k y0_0 y0_1 y1 y2 y800003 n x96 y800004
theorem step_nat {X Y : Type} (h : X → Option Y) (K : Int → (List Int) → Option X) (G : Int → (List Int) → Option X) (k : Nat) (y0_0 : (List Int)) (y0_1 : Int) (y1 : (List Int)) (y2 : (List Int)) (y800003 : (List Int)) (x96 : Int) (y800004 : (List Int)) : Option.bind (step K G k y0_0 y0_1 y1 y2 y800003 x96 y800004) h = step (fun x96 y800004 => Option.bind (K x96 y800004) h) (fun x96 y800004 => Option.bind (G x96 y800004) h) k y0_0 y0_1 y1 y2 y800003 x96 y800004 := by
  simp only [step, bif_bind, sel_bind', Option.bind_assoc, Option.bind_none, Option.bind_some]
theorem go_nat {X Y : Type} (h : X → Option Y) (K : Int → (List Int) → Option X) (k : Nat) (y0_0 : (List Int)) (y0_1 : Int) (y1 : (List Int)) (y2 : (List Int)) (y800003 : (List Int)) (n : Nat) : ∀ (x96 : Int) (y800004 : (List Int)), Option.bind (go K k y0_0 y0_1 y1 y2 y800003 n x96 y800004) h = go (fun x96 y800004 => Option.bind (K x96 y800004) h) k y0_0 y0_1 y1 y2 y800003 n x96 y800004 := by
  induction n with
  | zero => intros; rfl
  | succ n ih => intro x96 y800004; show Option.bind (step K (go K k y0_0 y0_1 y1 y2 y800003 n) k y0_0 y0_1 y1 y2 y800003 x96 y800004) h = step (fun x96 y800004 => Option.bind (K x96 y800004) h) (go (fun x96 y800004 => Option.bind (K x96 y800004) h) k y0_0 y0_1 y1 y2 y800003 n) k y0_0 y0_1 y1 y2 y800003 x96 y800004; rw [step_nat h]; simp only [ih]
abbrev S : List (Nat × Sh) := [(0, .ptr 0), (4, .ptr 800003), (9, .ptr 800004), (96, .data (.int .i64))]
abbrev H : List (Nat × ESh) := [(0, .cell (.pair (.data (.arr .u32 8)) (.pair .nils (.data (.int .u64))))), (1, .rows 0 5 (.int .u8)), (2, .glob 3 (.arr .u32 64)), (800003, .cell (.data (.arr .u32 64))), (800004, .cell (.data (.arr .u32 8)))]
abbrev cl : List (Place × Nat × Hint) := []
abbrev hn : List (Nat × Hint) := [(0, .any), (4, .any), (9, .any), (96, .any)]
abbrev kp : List Nat := [0, 1, 2]
abbrev rc : List (Place × Nat × Hint) := []
abbrev rs : List (Nat × Hint) := []
abbrev ri : List Nat := [0, 1, 2]
def KX (d : (Unit × Unit × Unit × Int × Unit)) (e : (((List Int) × (Unit × Int)) × (List Int) × (List Int) × (List Int) × (List Int) × Unit)) (v : (Int × (List Int))) : St := ⟨mkS S ((), (), (), v.1, ()), mkH H ((e.1.1, ((), e.1.2.2)), e.2.1, e.2.2.1, e.2.2.2.1, v.2, ())⟩
def sum (k : Nat) : LoopSum := sigLoopX S cl hn kp H 4 (fun (d : (Unit × Unit × Unit × Int × Unit)) (e : (((List Int) × (Unit × Int)) × (List Int) × (List Int) × (List Int) × (List Int) × Unit)) => f k e.1.1 e.1.2.2 e.2.1 e.2.2.1 e.2.2.2.1 k d.2.2.2.1 e.2.2.2.2.1) KX
end l4
namespace l6
def step {X : Type} (K : Int → (List Int) → Option X) (G : Int → (List Int) → Option X) (k : Nat) (y0_1 : Int) (y1 : (List Int)) (y2 : (List Int)) (y800003 : (List Int)) (x172 : Int) (y0_0 : (List Int)) : Option X :=
  (bif (decide (x172 < (8 : Int))) then (bif (decide (0 ≤ x172)) then (bif (decide (x172 < 8)) then (bif (decide ((Int.toNat x172) < 8)) then (bif (decide (0 ≤ x172)) then (bif (decide (x172 < 8)) then (bif (decide ((Int.toNat x172) < 8)) then (bif (decide (0 ≤ x172)) then (bif (decide (x172 < 8)) then (bif (decide ((Int.toNat x172) < 8)) then (G (addI .i64 x172 1) (List.set y0_0 (Int.toNat x172) (addI .u32 (List.getD y0_0 (Int.toNat x172) 0) (List.getD y800003 (Int.toNat x172) 0)))) else none) else none) else none) else none) else none) else none) else none) else none) else none) else (K x172 y0_0))
def go {X : Type} (K : Int → (List Int) → Option X) (k : Nat) (y0_1 : Int) (y1 : (List Int)) (y2 : (List Int)) (y800003 : (List Int)) : Nat → Int → (List Int) → Option X
  | 0, _, _ => none
  | n + 1, x172, y0_0 => step K (go K k y0_1 y1 y2 y800003 n) k y0_1 y1 y2 y800003 x172 y0_0
def f (k : Nat) (y0_1 : Int) (y1 : (List Int)) (y2 : (List Int)) (y800003 : (List Int)) (n : Nat) (x172 : Int) (y0_0 : (List Int)) : Option (Int × (List Int)) := go (fun x172 y0_0 => some (x172, y0_0)) k y0_1 y1 y2 y800003 n x172 y0_0
theorem step_nat {X Y : Type} (h : X → Option Y) (K : Int → (List Int) → Option X) (G : Int → (List Int) → Option X) (k : Nat) (y0_1 : Int) (y1 : (List Int)) (y2 : (List Int)) (y800003 : (List Int)) (x172 : Int) (y0_0 : (List Int)) : Option.bind (step K G k y0_1 y1 y2 y800003 x172 y0_0) h = step (fun x172 y0_0 => Option.bind (K x172 y0_0) h) (fun x172 y0_0 => Option.bind (G x172 y0_0) h) k y0_1 y1 y2 y800003 x172 y0_0 := by
  simp only [step, bif_bind, sel_bind', Option.bind_assoc, Option.bind_none, Option.bind_some]
theorem go_nat {X Y : Type} (h : X → Option Y) (K : Int → (List Int) → Option X) (k : Nat) (y0_1 : Int) (y1 : (List Int)) (y2 : (List Int)) (y800003 : (List Int)) (n : Nat) : ∀ (x172 : Int) (y0_0 : (List Int)), Option.bind (go K k y0_1 y1 y2 y800003 n x172 y0_0) h = go (fun x172 y0_0 => Option.bind (K x172 y0_0) h) k y0_1 y1 y2 y800003 n x172 y0_0 := by
  induction n with
  | zero => intros; rfl
  | succ n ih => intro x172 y0_0; show Option.bind (step K (go K k y0_1 y1 y2 y800003 n) k y0_1 y1 y2 y800003 x172 y0_0) h = step (fun x172 y0_0 => Option.bind (K x172 y0_0) h) (go (fun x172 y0_0 => Option.bind (K x172 y0_0) h) k y0_1 y1 y2 y800003 n) k y0_1 y1 y2 y800003 x172 y0_0; rw [step_nat h]; simp only [ih]
abbrev S : List (Nat × Sh) := [(0, .ptr 0), (9, .ptr 800003), (172, .data (.int .i64))]
abbrev H : List (Nat × ESh) := [(0, .cell (.pair (.data (.arr .u32 8)) (.pair .nils (.data (.int .u64))))), (1, .rows 0 5 (.int .u8)), (2, .glob 3 (.arr .u32 64)), (800003, .cell (.data (.arr .u32 8)))]
abbrev cl : List (Place × Nat × Hint) := []
abbrev hn : List (Nat × Hint) := [(0, .any), (9, .any), (172, .any)]
abbrev kp : List Nat := [0, 1, 2]
abbrev rc : List (Place × Nat × Hint) := []
abbrev rs : List (Nat × Hint) := []
abbrev ri : List Nat := [0, 1, 2]
def KX (d : (Unit × Unit × Int × Unit)) (e : (((List Int) × (Unit × Int)) × (List Int) × (List Int) × (List Int) × Unit)) (v : (Int × (List Int))) : St := ⟨mkS S ((), (), v.1, ()), mkH H ((v.2, ((), e.1.2.2)), e.2.1, e.2.2.1, e.2.2.2.1, ())⟩
def sum (k : Nat) : LoopSum := sigLoopX S cl hn kp H 6 (fun (d : (Unit × Unit × Int × Unit)) (e : (((List Int) × (Unit × Int)) × (List Int) × (List Int) × (List Int) × Unit)) => f k e.1.2.2 e.2.1 e.2.2.1 e.2.2.2.1 k d.2.2.1 e.1.1) KX
end l6
def tree {X : Type} (K : (List Int) → Int → Option X) (k : Nat) (m0_0 : (List Int)) (m0_1 : Int) (m1 : (List Int)) (m2 : (List Int)) : Option X :=
  (Option.bind (digest_Hasher_take_v1.l0.f k m0_0 m0_1 m1 m2 k (0 : Int) ([0, 0, 0, 0, 0, 0, 0, 0, 0, 0, 0, 0, 0, 0, 0, 0, 0, 0, 0, 0, 0, 0, 0, 0, 0, 0, 0, 0, 0, 0, 0, 0, 0, 0, 0, 0, 0, 0, 0, 0, 0, 0, 0, 0, 0, 0, 0, 0, 0, 0, 0, 0, 0, 0, 0, 0, 0, 0, 0, 0, 0, 0, 0, 0] : (List Int))) (fun r1 => (Option.bind (digest_Hasher_take_v1.l2.f k m0_0 m0_1 m1 m2 k (16 : Int) r1.2) (fun r4 => (Option.bind (digest_Hasher_take_v1.l4.f k m0_0 m0_1 m1 m2 r4.2 k (0 : Int) m0_0) (fun r7 => (Option.bind (digest_Hasher_take_v1.l6.f k m0_1 m1 m2 r7.2 k (0 : Int) m0_0) (fun r8 => (K r8.2 m0_1)))))))))
def f (k : Nat) (m0_0 : (List Int)) (m0_1 : Int) (m1 : (List Int)) (m2 : (List Int)) : Option ((List Int) × Int) := tree (fun b0 b1 => some (b0, b1)) k m0_0 m0_1 m1 m2
theorem tree_nat {X Y : Type} (h : X → Option Y) (K : (List Int) → Int → Option X) (k : Nat) (m0_0 : (List Int)) (m0_1 : Int) (m1 : (List Int)) (m2 : (List Int)) : Option.bind (tree K k m0_0 m0_1 m1 m2) h = tree (fun b0 b1 => Option.bind (K b0 b1) h) k m0_0 m0_1 m1 m2 := by
  simp only [tree, bif_bind, sel_bind', Option.bind_assoc, Option.bind_none, Option.bind_some]
abbrev ps : List Sh := [.ptr 0, .vec 1]
abbrev hs : List (Nat × ESh) := [(0, .cell (.pair (.data (.arr .u32 8)) (.pair .nils (.data (.int .u64))))), (1, .rows 0 5 (.int .u8)), (2, .glob 3 (.arr .u32 64))]
abbrev hi : List Nat := hs.map (·.1)
abbrev fi : List Nat := [0, 1, 2]
abbrev cl : List (Place × Nat × Hint) := []
abbrev hn : List Hint := []
def val (t : ((List Int) × Int)) : AV := .tnil
def wr (t : ((List Int) × Int)) : Heap := [(0, ESh.mk (.cell (.pair (.data (.arr .u32 8)) (.pair .nils (.data (.int .u64))))) (t.1, ((), t.2)))]
def callee (k : Nat) : Callee := sigCallee ps hs (fun (d : (Unit × Unit × Unit)) (e : (((List Int) × (Unit × Int)) × (List Int) × (List Int) × Unit)) => f k e.1.1 e.1.2.2 e.2.1 e.2.2.1) val wr
def E (k : Nat) : Env := ⟨fnTab [(97, [digest_turn.callee k])], loopTab [(0, l0.sum k), (2, l2.sum k), (4, l4.sum k), (6, l6.sum k)], natsTab [], natTab [(3, 2)]⟩
theorem fE (k : Nat) : ∀ f, ∀ c ∈ (E k).fn f, CalleeOK Tryz.prog f c := fnTab_ok ⟨⟨digest_turn.ok k, trivial⟩, trivial⟩
namespace l0
theorem round (k : Nat) (d : (Unit × Unit × Unit × Int × Unit)) (e : (((List Int) × (Unit × Int)) × (List Int) × (List Int) × (List Int) × Unit)) (G : St → Option (Ex × St)) : roundK Tryz.prog (E k) 189 0 (subC (bodyOf Tryz.f93) [1, 0, 1, 0, 0]) (recast cl hn kp) (finBy cl hn kp rc rs ri) G ⟨mkS S d, mkH H e⟩ =
    step (fun x16 y800003 => some (.exit 0, KX d e (x16, y800003))) (fun x16 y800003 => G ⟨mkS S ((), (), (), x16, ()), mkH H ((e.1.1, ((), e.1.2.2)), e.2.1, e.2.2.1, y800003, ())⟩) k e.1.1 e.1.2.2 e.2.1 e.2.2.1 d.2.2.2.1 e.2.2.2.1 := by kernel_rfl
theorem it (k n : Nat) (d : (Unit × Unit × Unit × Int × Unit)) (e : (((List Int) × (Unit × Int)) × (List Int) × (List Int) × (List Int) × Unit)) : loopIt Tryz.prog (E k) 189 0 (subC (bodyOf Tryz.f93) [1, 0, 1, 0, 0]) (recast cl hn kp) (finBy cl hn kp rc rs ri) n ⟨mkS S d, mkH H e⟩ = go (fun x16 y800003 => some (.exit 0, KX d e (x16, y800003))) k e.1.1 e.1.2.2 e.2.1 e.2.2.1 n d.2.2.2.1 e.2.2.2.1 :=
  loopIt_eq (D := (Unit × Unit × Unit × Int × Unit) × (((List Int) × (Unit × Int)) × (List Int) × (List Int) × (List Int) × Unit)) (fun p => ⟨mkS S p.1, mkH H p.2⟩) (fun F p => step (fun x16 y800003 => some (.exit 0, KX p.1 p.2 (x16, y800003))) (fun x16 y800003 => F (((), (), (), x16, ()), ((p.2.1.1, ((), p.2.1.2.2)), p.2.2.1, p.2.2.2.1, y800003, ()))) k p.2.1.1 p.2.1.2.2 p.2.2.1 p.2.2.2.1 p.1.2.2.2.1 p.2.2.2.2.1) (fun n p => go (fun x16 y800003 => some (.exit 0, KX p.1 p.2 (x16, y800003))) k p.2.1.1 p.2.1.2.2 p.2.2.1 p.2.2.2.1 n p.1.2.2.2.1 p.2.2.2.2.1) (fun _ => rfl) (fun _ _ => rfl) (fun G p => round k p.1 p.2 G) n (d, e)
theorem ok (k : Nat) : LoopOK Tryz.prog 189 (subC (bodyOf Tryz.f93) [1, 0, 1, 0, 0]) (sum k) :=
  loop_sigX hm (fE k) (loopsOK_of [] (by kernel_rfl) trivial) S cl hn kp H 0 (fun (d : (Unit × Unit × Unit × Int × Unit)) (e : (((List Int) × (Unit × Int)) × (List Int) × (List Int) × (List Int) × Unit)) => f k e.1.1 e.1.2.2 e.2.1 e.2.2.1 k d.2.2.2.1 e.2.2.2.1) KX cl hn kp rc rs ri k
    (fun d e => (it k k d e).trans (go_nat (fun v => some (Ex.exit 0, KX d e v)) (fun x16 y800003 => some (x16, y800003)) k e.1.1 e.1.2.2 e.2.1 e.2.2.1 k d.2.2.2.1 e.2.2.2.1).symm)
end l0
namespace l2
theorem round (k : Nat) (d : (Unit × Unit × Int × Unit)) (e : (((List Int) × (Unit × Int)) × (List Int) × (List Int) × (List Int) × Unit)) (G : St → Option (Ex × St)) : roundK Tryz.prog (E k) 189 2 (subC (bodyOf Tryz.f93) [1, 1, 0, 1, 0, 0]) (recast cl hn kp) (finBy cl hn kp rc rs ri) G ⟨mkS S d, mkH H e⟩ =
    step (fun x6 y800003 => some (.exit 2, KX d e (x6, y800003))) (fun x6 y800003 => G ⟨mkS S ((), (), x6, ()), mkH H ((e.1.1, ((), e.1.2.2)), e.2.1, e.2.2.1, y800003, ())⟩) k e.1.1 e.1.2.2 e.2.1 e.2.2.1 d.2.2.1 e.2.2.2.1 := by kernel_rfl
theorem it (k n : Nat) (d : (Unit × Unit × Int × Unit)) (e : (((List Int) × (Unit × Int)) × (List Int) × (List Int) × (List Int) × Unit)) : loopIt Tryz.prog (E k) 189 2 (subC (bodyOf Tryz.f93) [1, 1, 0, 1, 0, 0]) (recast cl hn kp) (finBy cl hn kp rc rs ri) n ⟨mkS S d, mkH H e⟩ = go (fun x6 y800003 => some (.exit 2, KX d e (x6, y800003))) k e.1.1 e.1.2.2 e.2.1 e.2.2.1 n d.2.2.1 e.2.2.2.1 :=
  loopIt_eq (D := (Unit × Unit × Int × Unit) × (((List Int) × (Unit × Int)) × (List Int) × (List Int) × (List Int) × Unit)) (fun p => ⟨mkS S p.1, mkH H p.2⟩) (fun F p => step (fun x6 y800003 => some (.exit 2, KX p.1 p.2 (x6, y800003))) (fun x6 y800003 => F (((), (), x6, ()), ((p.2.1.1, ((), p.2.1.2.2)), p.2.2.1, p.2.2.2.1, y800003, ()))) k p.2.1.1 p.2.1.2.2 p.2.2.1 p.2.2.2.1 p.1.2.2.1 p.2.2.2.2.1) (fun n p => go (fun x6 y800003 => some (.exit 2, KX p.1 p.2 (x6, y800003))) k p.2.1.1 p.2.1.2.2 p.2.2.1 p.2.2.2.1 n p.1.2.2.1 p.2.2.2.2.1) (fun _ => rfl) (fun _ _ => rfl) (fun G p => round k p.1 p.2 G) n (d, e)
theorem ok (k : Nat) : LoopOK Tryz.prog 189 (subC (bodyOf Tryz.f93) [1, 1, 0, 1, 0, 0]) (sum k) :=
  loop_sigX hm (fE k) (loopsOK_of [] (by kernel_rfl) trivial) S cl hn kp H 2 (fun (d : (Unit × Unit × Int × Unit)) (e : (((List Int) × (Unit × Int)) × (List Int) × (List Int) × (List Int) × Unit)) => f k e.1.1 e.1.2.2 e.2.1 e.2.2.1 k d.2.2.1 e.2.2.2.1) KX cl hn kp rc rs ri k
    (fun d e => (it k k d e).trans (go_nat (fun v => some (Ex.exit 2, KX d e v)) (fun x6 y800003 => some (x6, y800003)) k e.1.1 e.1.2.2 e.2.1 e.2.2.1 k d.2.2.1 e.2.2.2.1).symm)
end l2
namespace l4
theorem round (k : Nat) (d : (Unit × Unit × Unit × Int × Unit)) (e : (((List Int) × (Unit × Int)) × (List Int) × (List Int) × (List Int) × (List Int) × Unit)) (G : St → Option (Ex × St)) : roundK Tryz.prog (E k) 189 4 (subC (bodyOf Tryz.f93) [1, 1, 1, 1, 0, 1, 0, 0]) (recast cl hn kp) (finBy cl hn kp rc rs ri) G ⟨mkS S d, mkH H e⟩ =
    step (fun x96 y800004 => some (.exit 4, KX d e (x96, y800004))) (fun x96 y800004 => G ⟨mkS S ((), (), (), x96, ()), mkH H ((e.1.1, ((), e.1.2.2)), e.2.1, e.2.2.1, e.2.2.2.1, y800004, ())⟩) k e.1.1 e.1.2.2 e.2.1 e.2.2.1 e.2.2.2.1 d.2.2.2.1 e.2.2.2.2.1 := by kernel_rfl
theorem it (k n : Nat) (d : (Unit × Unit × Unit × Int × Unit)) (e : (((List Int) × (Unit × Int)) × (List Int) × (List Int) × (List Int) × (List Int) × Unit)) : loopIt Tryz.prog (E k) 189 4 (subC (bodyOf Tryz.f93) [1, 1, 1, 1, 0, 1, 0, 0]) (recast cl hn kp) (finBy cl hn kp rc rs ri) n ⟨mkS S d, mkH H e⟩ = go (fun x96 y800004 => some (.exit 4, KX d e (x96, y800004))) k e.1.1 e.1.2.2 e.2.1 e.2.2.1 e.2.2.2.1 n d.2.2.2.1 e.2.2.2.2.1 :=
  loopIt_eq (D := (Unit × Unit × Unit × Int × Unit) × (((List Int) × (Unit × Int)) × (List Int) × (List Int) × (List Int) × (List Int) × Unit)) (fun p => ⟨mkS S p.1, mkH H p.2⟩) (fun F p => step (fun x96 y800004 => some (.exit 4, KX p.1 p.2 (x96, y800004))) (fun x96 y800004 => F (((), (), (), x96, ()), ((p.2.1.1, ((), p.2.1.2.2)), p.2.2.1, p.2.2.2.1, p.2.2.2.2.1, y800004, ()))) k p.2.1.1 p.2.1.2.2 p.2.2.1 p.2.2.2.1 p.2.2.2.2.1 p.1.2.2.2.1 p.2.2.2.2.2.1) (fun n p => go (fun x96 y800004 => some (.exit 4, KX p.1 p.2 (x96, y800004))) k p.2.1.1 p.2.1.2.2 p.2.2.1 p.2.2.2.1 p.2.2.2.2.1 n p.1.2.2.2.1 p.2.2.2.2.2.1) (fun _ => rfl) (fun _ _ => rfl) (fun G p => round k p.1 p.2 G) n (d, e)
theorem ok (k : Nat) : LoopOK Tryz.prog 189 (subC (bodyOf Tryz.f93) [1, 1, 1, 1, 0, 1, 0, 0]) (sum k) :=
  loop_sigX hm (fE k) (loopsOK_of [] (by kernel_rfl) trivial) S cl hn kp H 4 (fun (d : (Unit × Unit × Unit × Int × Unit)) (e : (((List Int) × (Unit × Int)) × (List Int) × (List Int) × (List Int) × (List Int) × Unit)) => f k e.1.1 e.1.2.2 e.2.1 e.2.2.1 e.2.2.2.1 k d.2.2.2.1 e.2.2.2.2.1) KX cl hn kp rc rs ri k
    (fun d e => (it k k d e).trans (go_nat (fun v => some (Ex.exit 4, KX d e v)) (fun x96 y800004 => some (x96, y800004)) k e.1.1 e.1.2.2 e.2.1 e.2.2.1 e.2.2.2.1 k d.2.2.2.1 e.2.2.2.2.1).symm)
end l4
namespace l6
theorem round (k : Nat) (d : (Unit × Unit × Int × Unit)) (e : (((List Int) × (Unit × Int)) × (List Int) × (List Int) × (List Int) × Unit)) (G : St → Option (Ex × St)) : roundK Tryz.prog (E k) 189 6 (subC (bodyOf Tryz.f93) [1, 1, 1, 1, 1, 1, 0, 0]) (recast cl hn kp) (finBy cl hn kp rc rs ri) G ⟨mkS S d, mkH H e⟩ =
    step (fun x172 y0_0 => some (.exit 6, KX d e (x172, y0_0))) (fun x172 y0_0 => G ⟨mkS S ((), (), x172, ()), mkH H ((y0_0, ((), e.1.2.2)), e.2.1, e.2.2.1, e.2.2.2.1, ())⟩) k e.1.2.2 e.2.1 e.2.2.1 e.2.2.2.1 d.2.2.1 e.1.1 := by kernel_rfl
theorem it (k n : Nat) (d : (Unit × Unit × Int × Unit)) (e : (((List Int) × (Unit × Int)) × (List Int) × (List Int) × (List Int) × Unit)) : loopIt Tryz.prog (E k) 189 6 (subC (bodyOf Tryz.f93) [1, 1, 1, 1, 1, 1, 0, 0]) (recast cl hn kp) (finBy cl hn kp rc rs ri) n ⟨mkS S d, mkH H e⟩ = go (fun x172 y0_0 => some (.exit 6, KX d e (x172, y0_0))) k e.1.2.2 e.2.1 e.2.2.1 e.2.2.2.1 n d.2.2.1 e.1.1 :=
  loopIt_eq (D := (Unit × Unit × Int × Unit) × (((List Int) × (Unit × Int)) × (List Int) × (List Int) × (List Int) × Unit)) (fun p => ⟨mkS S p.1, mkH H p.2⟩) (fun F p => step (fun x172 y0_0 => some (.exit 6, KX p.1 p.2 (x172, y0_0))) (fun x172 y0_0 => F (((), (), x172, ()), ((y0_0, ((), p.2.1.2.2)), p.2.2.1, p.2.2.2.1, p.2.2.2.2.1, ()))) k p.2.1.2.2 p.2.2.1 p.2.2.2.1 p.2.2.2.2.1 p.1.2.2.1 p.2.1.1) (fun n p => go (fun x172 y0_0 => some (.exit 6, KX p.1 p.2 (x172, y0_0))) k p.2.1.2.2 p.2.2.1 p.2.2.2.1 p.2.2.2.2.1 n p.1.2.2.1 p.2.1.1) (fun _ => rfl) (fun _ _ => rfl) (fun G p => round k p.1 p.2 G) n (d, e)
theorem ok (k : Nat) : LoopOK Tryz.prog 189 (subC (bodyOf Tryz.f93) [1, 1, 1, 1, 1, 1, 0, 0]) (sum k) :=
  loop_sigX hm (fE k) (loopsOK_of [] (by kernel_rfl) trivial) S cl hn kp H 6 (fun (d : (Unit × Unit × Int × Unit)) (e : (((List Int) × (Unit × Int)) × (List Int) × (List Int) × (List Int) × Unit)) => f k e.1.2.2 e.2.1 e.2.2.1 e.2.2.2.1 k d.2.2.1 e.1.1) KX cl hn kp rc rs ri k
    (fun d e => (it k k d e).trans (go_nat (fun v => some (Ex.exit 6, KX d e v)) (fun x172 y0_0 => some (x172, y0_0)) k e.1.2.2 e.2.1 e.2.2.1 e.2.2.2.1 k d.2.2.1 e.1.1).symm)
end l6
theorem run (k : Nat) (d : (Unit × Unit × Unit)) (e : (((List Int) × (Unit × Int)) × (List Int) × (List Int) × Unit)) : runFn Tryz.prog (E k) 189 (bodyOf Tryz.f93) Tryz.f93.results.toList cl hn hi (mkL ps d) (mkH hs e) =
    tree (fun b0 b1 => leafFn hs fi e val wr (b0, b1)) k e.1.1 e.1.2.2 e.2.1 e.2.2.1 := by kernel_rfl
theorem run_f (k : Nat) (d : (Unit × Unit × Unit)) (e : (((List Int) × (Unit × Int)) × (List Int) × (List Int) × Unit)) : runFn Tryz.prog (E k) 189 (bodyOf Tryz.f93) Tryz.f93.results.toList cl hn hi (mkL ps d) (mkH hs e) = (f k e.1.1 e.1.2.2 e.2.1 e.2.2.1).bind (leafFn hs fi e val wr) :=
  (run k d e).trans (tree_nat (leafFn hs fi e val wr) (fun b0 b1 => some (b0, b1)) k e.1.1 e.1.2.2 e.2.1 e.2.2.1).symm
theorem fnIs : FnIs Tryz.prog 93 Tryz.f93 (bodyOf Tryz.f93) 189 := ⟨by kernel_rfl, by kernel_rfl, by kernel_rfl, by kernel_rfl⟩
theorem ok (k : Nat) : CalleeOK Tryz.prog 93 (callee k) :=
  callee_sig (T := ((List Int) × Int)) fnIs hm (fE k) (loopsOK_of [(0, subC (bodyOf Tryz.f93) [1, 0, 1, 0, 0]), (2, subC (bodyOf Tryz.f93) [1, 1, 0, 1, 0, 0]), (4, subC (bodyOf Tryz.f93) [1, 1, 1, 1, 0, 1, 0, 0]), (6, subC (bodyOf Tryz.f93) [1, 1, 1, 1, 1, 1, 0, 0])] (by kernel_rfl) ⟨of_loop (l0.sum k) rfl (l0.ok k), ⟨of_loop (l2.sum k) rfl (l2.ok k), ⟨of_loop (l4.sum k) rfl (l4.ok k), ⟨of_loop (l6.sum k) rfl (l6.ok k), trivial⟩⟩⟩⟩) ps hs cl hn fi (fun (d : (Unit × Unit × Unit)) (e : (((List Int) × (Unit × Int)) × (List Int) × (List Int) × Unit)) => f k e.1.1 e.1.2.2 e.2.1 e.2.2.1) val wr rfl (fun _ => rfl) (run_f k)
end digest_Hasher_take_v1
end Go.Proofs.YtkgpjplncfginaaGreatDoor.Sy
