/- What the Go functions come to, on data: printed by sypr.py. -/
import Derived.Test.YtnaenbijnpbhaaaDoorSy18
import Derived.Test.YtnaenbijnpbhaaaDoorProg
namespace Go.Proofs.YtnaenbijnpbhaaaDoor.Sy
open Go Go.Proofs
set_option maxRecDepth 100000
set_option linter.unusedVariables false
set_option linter.unusedSimpArgs false

theorem hm : Tryd.prog.follows .mixedOrders = true := by kernel_rfl
abbrev dfl_6a0b32 : (Int × (Int × (List (List Int)))) := ((0 : Int), (((0 : Int), ([] : (List (List Int)))) : (Int × (List (List Int)))))
namespace pledge_Good
def tree {X : Type} (K : Bool → Option X) (k : Nat) (a0 : (Int × (Int × Int))) : Option X :=
  (bif (decide (a0.2.1 ≥ (1 : Int))) then (bif (decide (a0.2.1 ≤ (64 : Int))) then (bif (decide (a0.2.2 ≥ (0 : Int))) then (K (decide (a0.2.2 < a0.2.1))) else (K false)) else (K false)) else (K false))
def f (k : Nat) (a0 : (Int × (Int × Int))) : Option Bool := tree (fun b0 => some b0) k a0
theorem tree_nat {X Y : Type} (h : X → Option Y) (K : Bool → Option X) (k : Nat) (a0 : (Int × (Int × Int))) : Option.bind (tree K k a0) h = tree (fun b0 => Option.bind (K b0) h) k a0 := by
  simp only [tree, bif_bind, sel_bind', Option.bind_assoc, Option.bind_none, Option.bind_some]
abbrev ps : List Sh := [.data (.pair (.int .i64) (.pair (.int .i64) (.int .i64)))]
abbrev hs : List (Nat × ESh) := []
abbrev hi : List Nat := hs.map (·.1)
abbrev fi : List Nat := []
abbrev cl : List (Place × Nat × Hint) := []
abbrev hn : List Hint := [.any]
def val (t : Bool) : AV := Sh.mk (.data .bool) t
def wr (t : Bool) : Heap := []
def callee (k : Nat) : Callee := sigCallee ps hs (fun (d : ((Int × (Int × Int)) × Unit)) (e : Unit) => f k d.1) val wr
def E (k : Nat) : Env := ⟨fnTab [], loopTab [], natsTab [], natTab []⟩
theorem fE (k : Nat) : ∀ f, ∀ c ∈ (E k).fn f, CalleeOK Tryd.prog f c := fnTab_ok trivial
theorem run (k : Nat) (d : ((Int × (Int × Int)) × Unit)) (e : Unit) : runFn Tryd.prog (E k) 23 (bodyOf Tryd.f13) Tryd.f13.results.toList cl hn hi (mkL ps d) (mkH hs e) =
    tree (fun b0 => leafFn hs fi e val wr b0) k d.1 := by kernel_rfl
theorem run_f (k : Nat) (d : ((Int × (Int × Int)) × Unit)) (e : Unit) : runFn Tryd.prog (E k) 23 (bodyOf Tryd.f13) Tryd.f13.results.toList cl hn hi (mkL ps d) (mkH hs e) = (f k d.1).bind (leafFn hs fi e val wr) :=
  (run k d e).trans (tree_nat (leafFn hs fi e val wr) (fun b0 => some b0) k d.1).symm
theorem fnIs : FnIs Tryd.prog 13 Tryd.f13 (bodyOf Tryd.f13) 23 := ⟨by kernel_rfl, by kernel_rfl, by kernel_rfl, by kernel_rfl⟩
theorem ok (k : Nat) : CalleeOK Tryd.prog 13 (callee k) :=
  callee_sig (T := Bool) fnIs hm (fE k) (loopsOK_of [] (by kernel_rfl) trivial) ps hs cl hn fi (fun (d : ((Int × (Int × Int)) × Unit)) (e : Unit) => f k d.1) val wr rfl (fun _ => rfl) (run_f k)
end pledge_Good
namespace pledge_New
def tree {X : Type} (K1 : Option X) (K2 : (Int × (Int × Int)) → (Int × Int) → Option X) (k : Nat) (a0 : (Int × (Int × Int))) : Option X :=
  (Option.bind (pledge_Good.f k a0) (fun r1 => (bif (!r1) then (K1) else (K2 a0 ((0, 0) : (Int × Int))))))
def f (k : Nat) (a0 : (Int × (Int × Int))) : Option (Unit ⊕ ((Int × (Int × Int)) × (Int × Int))) := tree (some (.inl ())) (fun b0 b1 => some (.inr (b0, b1))) k a0
theorem tree_nat {X Y : Type} (h : X → Option Y) (K1 : Option X) (K2 : (Int × (Int × Int)) → (Int × Int) → Option X) (k : Nat) (a0 : (Int × (Int × Int))) : Option.bind (tree K1 K2 k a0) h = tree (Option.bind (K1) h) (fun b0 b1 => Option.bind (K2 b0 b1) h) k a0 := by
  simp only [tree, bif_bind, sel_bind', Option.bind_assoc, Option.bind_none, Option.bind_some]
abbrev ps : List Sh := [.data (.pair (.int .i64) (.pair (.int .i64) (.int .i64)))]
abbrev hs : List (Nat × ESh) := []
abbrev hi : List Nat := hs.map (·.1)
abbrev fi1 : List Nat := []
abbrev fi2 : List Nat := [900000]
abbrev cl : List (Place × Nat × Hint) := []
abbrev hn : List Hint := [.any, .any]
def val1 (t : Unit) : AV := .tcons (Sh.mk .nilp ()) (.tcons (Sh.mk (.data (.int .i64)) (1 : Int)) .tnil)
def wr1 (t : Unit) : Heap := []
def val2 (t : ((Int × (Int × Int)) × (Int × Int))) : AV := .tcons (Sh.mk (.ptr 900000) ()) (.tcons (Sh.mk (.data (.int .i64)) (0 : Int)) .tnil)
def wr2 (t : ((Int × (Int × Int)) × (Int × Int))) : Heap := [(900000, ESh.mk (.cell (.pair (.data (.pair (.int .i64) (.pair (.int .i64) (.int .i64)))) (.pair .nils (.data (.pair (.int .i64) (.int .i64)))))) (t.1, ((), t.2)))]
def callee (k : Nat) : Callee := sigAlt ps hs (fun (d : ((Int × (Int × Int)) × Unit)) (e : Unit) => f k d.1) val1 wr1 val2 wr2
def E (k : Nat) : Env := ⟨fnTab [(13, [pledge_Good.callee k])], loopTab [], natsTab [], natTab []⟩
theorem fE (k : Nat) : ∀ f, ∀ c ∈ (E k).fn f, CalleeOK Tryd.prog f c := fnTab_ok ⟨⟨pledge_Good.ok k, trivial⟩, trivial⟩
theorem run (k : Nat) (d : ((Int × (Int × Int)) × Unit)) (e : Unit) : runFn Tryd.prog (E k) 10 (bodyOf Tryd.f5) Tryd.f5.results.toList cl hn hi (mkL ps d) (mkH hs e) =
    tree (leafFn hs fi1 e val1 wr1 ()) (fun b0 b1 => leafFn hs fi2 e val2 wr2 (b0, b1)) k d.1 := by kernel_rfl
theorem run_f (k : Nat) (d : ((Int × (Int × Int)) × Unit)) (e : Unit) : runFn Tryd.prog (E k) 10 (bodyOf Tryd.f5) Tryd.f5.results.toList cl hn hi (mkL ps d) (mkH hs e) = (f k d.1).bind (fun s => sel s (leafFn hs fi1 e val1 wr1) (leafFn hs fi2 e val2 wr2)) :=
  (run k d e).trans (tree_nat (fun s => sel s (leafFn hs fi1 e val1 wr1) (leafFn hs fi2 e val2 wr2)) (some (.inl ())) (fun b0 b1 => some (.inr (b0, b1))) k d.1).symm
theorem fnIs : FnIs Tryd.prog 5 Tryd.f5 (bodyOf Tryd.f5) 10 := ⟨by kernel_rfl, by kernel_rfl, by kernel_rfl, by kernel_rfl⟩
theorem ok (k : Nat) : CalleeOK Tryd.prog 5 (callee k) :=
  callee_alt (T := Unit) (U := ((Int × (Int × Int)) × (Int × Int))) fnIs hm (fE k) (loopsOK_of [] (by kernel_rfl) trivial) ps hs cl hn fi1 fi2 (fun (d : ((Int × (Int × Int)) × Unit)) (e : Unit) => f k d.1) val1 wr1 val2 wr2 rfl (fun _ => rfl) (fun _ => rfl) (run_f k)
end pledge_New
namespace pledge_Plan_Due
def tree {X : Type} (K : Bool → Option X) (k : Nat) (a0 : (Int × (Int × Int))) (a1 : Int) : Option X :=
  (Option.bind (pledge_Good.f k a0) (fun r1 => (bif r1 then (bif (decide (a1 ≥ (0 : Int))) then (bif (decide (a0.2.1 = 0)) then none else (K ((remI a1 a0.2.1) == a0.2.2))) else (K false)) else (K false))))
def f (k : Nat) (a0 : (Int × (Int × Int))) (a1 : Int) : Option Bool := tree (fun b0 => some b0) k a0 a1
theorem tree_nat {X Y : Type} (h : X → Option Y) (K : Bool → Option X) (k : Nat) (a0 : (Int × (Int × Int))) (a1 : Int) : Option.bind (tree K k a0 a1) h = tree (fun b0 => Option.bind (K b0) h) k a0 a1 := by
  simp only [tree, bif_bind, sel_bind', Option.bind_assoc, Option.bind_none, Option.bind_some]
abbrev ps : List Sh := [.data (.pair (.int .i64) (.pair (.int .i64) (.int .i64))), .data (.int .i64)]
abbrev hs : List (Nat × ESh) := []
abbrev hi : List Nat := hs.map (·.1)
abbrev fi : List Nat := []
abbrev cl : List (Place × Nat × Hint) := []
abbrev hn : List Hint := [.any]
def val (t : Bool) : AV := Sh.mk (.data .bool) t
def wr (t : Bool) : Heap := []
def callee (k : Nat) : Callee := sigCallee ps hs (fun (d : ((Int × (Int × Int)) × Int × Unit)) (e : Unit) => f k d.1 d.2.1) val wr
def E (k : Nat) : Env := ⟨fnTab [(13, [pledge_Good.callee k])], loopTab [], natsTab [], natTab []⟩
theorem fE (k : Nat) : ∀ f, ∀ c ∈ (E k).fn f, CalleeOK Tryd.prog f c := fnTab_ok ⟨⟨pledge_Good.ok k, trivial⟩, trivial⟩
theorem run (k : Nat) (d : ((Int × (Int × Int)) × Int × Unit)) (e : Unit) : runFn Tryd.prog (E k) 20 (bodyOf Tryd.f17) Tryd.f17.results.toList cl hn hi (mkL ps d) (mkH hs e) =
    tree (fun b0 => leafFn hs fi e val wr b0) k d.1 d.2.1 := by kernel_rfl
theorem run_f (k : Nat) (d : ((Int × (Int × Int)) × Int × Unit)) (e : Unit) : runFn Tryd.prog (E k) 20 (bodyOf Tryd.f17) Tryd.f17.results.toList cl hn hi (mkL ps d) (mkH hs e) = (f k d.1 d.2.1).bind (leafFn hs fi e val wr) :=
  (run k d e).trans (tree_nat (leafFn hs fi e val wr) (fun b0 => some b0) k d.1 d.2.1).symm
theorem fnIs : FnIs Tryd.prog 17 Tryd.f17 (bodyOf Tryd.f17) 20 := ⟨by kernel_rfl, by kernel_rfl, by kernel_rfl, by kernel_rfl⟩
theorem ok (k : Nat) : CalleeOK Tryd.prog 17 (callee k) :=
  callee_sig (T := Bool) fnIs hm (fE k) (loopsOK_of [] (by kernel_rfl) trivial) ps hs cl hn fi (fun (d : ((Int × (Int × Int)) × Int × Unit)) (e : Unit) => f k d.1 d.2.1) val wr rfl (fun _ => rfl) (run_f k)
end pledge_Plan_Due
namespace scroll_Pen_Put
namespace l2
def step {X : Type} (K : Int → (List Int) → Option X) (G : Int → (List Int) → Option X) (k : Nat) (x1 : Int) (x7 : Int) (x10 : Int) (x11 : Int) (x17 : Int) (y1 : (List Int)) (x18 : Int) (y800002 : (List Int)) : Option X :=
  (bif (decide (x18 < x17)) then (bif (decide ((mulI .i64 8 x18) < 0)) then none else (bif (fits (((List.length y800002) + 1) * 1)) then (G (addI .i64 x18 1) (y800002 ++ ([(IntKind.wrap .u8 (shrI .i64 x7 (mulI .i64 8 x18)))] : (List Int)))) else none)) else (K x18 y800002))
def go {X : Type} (K : Int → (List Int) → Option X) (k : Nat) (x1 : Int) (x7 : Int) (x10 : Int) (x11 : Int) (x17 : Int) (y1 : (List Int)) : Nat → Int → (List Int) → Option X
  | 0, _, _ => none
  | n + 1, x18, y800002 => step K (go K k x1 x7 x10 x11 x17 y1 n) k x1 x7 x10 x11 x17 y1 x18 y800002
def f (k : Nat) (x1 : Int) (x7 : Int) (x10 : Int) (x11 : Int) (x17 : Int) (y1 : (List Int)) (n : Nat) (x18 : Int) (y800002 : (List Int)) : Option (Int × (List Int)) := go (fun x18 y800002 => some (x18, y800002)) k x1 x7 x10 x11 x17 y1 n x18 y800002
theorem step_nat {X Y : Type} (h : X → Option Y) (K : Int → (List Int) → Option X) (G : Int → (List Int) → Option X) (k : Nat) (x1 : Int) (x7 : Int) (x10 : Int) (x11 : Int) (x17 : Int) (y1 : (List Int)) (x18 : Int) (y800002 : (List Int)) : Option.bind (step K G k x1 x7 x10 x11 x17 y1 x18 y800002) h = step (fun x18 y800002 => Option.bind (K x18 y800002) h) (fun x18 y800002 => Option.bind (G x18 y800002) h) k x1 x7 x10 x11 x17 y1 x18 y800002 := by
  simp only [step, bif_bind, sel_bind', Option.bind_assoc, Option.bind_none, Option.bind_some]
theorem go_nat {X Y : Type} (h : X → Option Y) (K : Int → (List Int) → Option X) (k : Nat) (x1 : Int) (x7 : Int) (x10 : Int) (x11 : Int) (x17 : Int) (y1 : (List Int)) (n : Nat) : ∀ (x18 : Int) (y800002 : (List Int)), Option.bind (go K k x1 x7 x10 x11 x17 y1 n x18 y800002) h = go (fun x18 y800002 => Option.bind (K x18 y800002) h) k x1 x7 x10 x11 x17 y1 n x18 y800002 := by
  induction n with
  | zero => intros; rfl
  | succ n ih => intro x18 y800002; show Option.bind (step K (go K k x1 x7 x10 x11 x17 y1 n) k x1 x7 x10 x11 x17 y1 x18 y800002) h = step (fun x18 y800002 => Option.bind (K x18 y800002) h) (go (fun x18 y800002 => Option.bind (K x18 y800002) h) k x1 x7 x10 x11 x17 y1 n) k x1 x7 x10 x11 x17 y1 x18 y800002; rw [step_nat h]; simp only [ih]
abbrev S : List (Nat × Sh) := [(0, .ptr 0), (1, .data (.int .i64)), (7, .data (.int .i64)), (9, .vec 1), (10, .data (.int .i64)), (11, .data (.int .i64)), (17, .data (.int .i64)), (18, .data (.int .i64))]
abbrev H : List (Nat × ESh) := [(0, .cell (.one (.vec 800002))), (1, .rows 2 3 (.int .i64)), (800002, .rows 2 5 (.int .u8))]
abbrev cl : List (Place × Nat × Hint) := [(.id 0, 0, (.row 2 5 (.int .u8)))]
abbrev hn : List (Nat × Hint) := [(0, .any), (1, .any), (7, .any), (9, .any), (10, .any), (11, .any), (17, .any), (18, .any)]
abbrev kp : List Nat := [0, 1]
abbrev rc : List (Place × Nat × Hint) := []
abbrev rs : List (Nat × Hint) := []
abbrev ri : List Nat := [0, 1]
def KX (d : (Unit × Int × Int × Unit × Int × Int × Int × Int × Unit)) (e : (Unit × (List Int) × (List Int) × Unit)) (v : (Int × (List Int))) : St := ⟨mkS S ((), d.2.1, d.2.2.1, (), d.2.2.2.2.1, d.2.2.2.2.2.1, d.2.2.2.2.2.2.1, v.1, ()), mkH H ((), e.2.1, v.2, ())⟩
def sum (k : Nat) : LoopSum := sigLoopX S cl hn kp H 2 (fun (d : (Unit × Int × Int × Unit × Int × Int × Int × Int × Unit)) (e : (Unit × (List Int) × (List Int) × Unit)) => f k d.2.1 d.2.2.1 d.2.2.2.2.1 d.2.2.2.2.2.1 d.2.2.2.2.2.2.1 e.2.1 k d.2.2.2.2.2.2.2.1 e.2.2.1) KX
end l2
namespace l0
def step {X : Type} (K : Int → (List Int) → Option X) (G : Int → (List Int) → Option X) (k : Nat) (x1 : Int) (x10 : Int) (y1 : (List Int)) (x11 : Int) (y800002 : (List Int)) : Option X :=
  (bif (decide (x11 < x10)) then (bif (decide (0 ≤ x11)) then (bif (decide (x11 < ((List.length y1) : Int))) then (bif (decide ((Int.toNat x11) < (List.length y1))) then (Option.bind (scroll_Pen_Put.l2.f k x1 (List.getD y1 (Int.toNat x11) (0 : Int)) x10 x11 (mnI (mxI x1 1) 8) y1 k (0 : Int) y800002) (fun r1 => (G (addI .i64 x11 1) r1.2))) else none) else none) else none) else (K x11 y800002))
def go {X : Type} (K : Int → (List Int) → Option X) (k : Nat) (x1 : Int) (x10 : Int) (y1 : (List Int)) : Nat → Int → (List Int) → Option X
  | 0, _, _ => none
  | n + 1, x11, y800002 => step K (go K k x1 x10 y1 n) k x1 x10 y1 x11 y800002
def f (k : Nat) (x1 : Int) (x10 : Int) (y1 : (List Int)) (n : Nat) (x11 : Int) (y800002 : (List Int)) : Option (Int × (List Int)) := go (fun x11 y800002 => some (x11, y800002)) k x1 x10 y1 n x11 y800002
theorem step_nat {X Y : Type} (h : X → Option Y) (K : Int → (List Int) → Option X) (G : Int → (List Int) → Option X) (k : Nat) (x1 : Int) (x10 : Int) (y1 : (List Int)) (x11 : Int) (y800002 : (List Int)) : Option.bind (step K G k x1 x10 y1 x11 y800002) h = step (fun x11 y800002 => Option.bind (K x11 y800002) h) (fun x11 y800002 => Option.bind (G x11 y800002) h) k x1 x10 y1 x11 y800002 := by
  simp only [step, bif_bind, sel_bind', Option.bind_assoc, Option.bind_none, Option.bind_some]
theorem go_nat {X Y : Type} (h : X → Option Y) (K : Int → (List Int) → Option X) (k : Nat) (x1 : Int) (x10 : Int) (y1 : (List Int)) (n : Nat) : ∀ (x11 : Int) (y800002 : (List Int)), Option.bind (go K k x1 x10 y1 n x11 y800002) h = go (fun x11 y800002 => Option.bind (K x11 y800002) h) k x1 x10 y1 n x11 y800002 := by
  induction n with
  | zero => intros; rfl
  | succ n ih => intro x11 y800002; show Option.bind (step K (go K k x1 x10 y1 n) k x1 x10 y1 x11 y800002) h = step (fun x11 y800002 => Option.bind (K x11 y800002) h) (go (fun x11 y800002 => Option.bind (K x11 y800002) h) k x1 x10 y1 n) k x1 x10 y1 x11 y800002; rw [step_nat h]; simp only [ih]
abbrev S : List (Nat × Sh) := [(0, .ptr 0), (1, .data (.int .i64)), (9, .vec 1), (10, .data (.int .i64)), (11, .data (.int .i64))]
abbrev H : List (Nat × ESh) := [(0, .cell (.one (.vec 800002))), (1, .rows 2 3 (.int .i64)), (800002, .rows 2 5 (.int .u8))]
abbrev cl : List (Place × Nat × Hint) := [(.id 0, 0, (.row 2 5 (.int .u8)))]
abbrev hn : List (Nat × Hint) := [(0, .any), (1, .any), (9, .any), (10, .any), (11, .any)]
abbrev kp : List Nat := [0, 1]
abbrev rc : List (Place × Nat × Hint) := []
abbrev rs : List (Nat × Hint) := []
abbrev ri : List Nat := [0, 1]
def KX (d : (Unit × Int × Unit × Int × Int × Unit)) (e : (Unit × (List Int) × (List Int) × Unit)) (v : (Int × (List Int))) : St := ⟨mkS S ((), d.2.1, (), d.2.2.2.1, v.1, ()), mkH H ((), e.2.1, v.2, ())⟩
def sum (k : Nat) : LoopSum := sigLoopX S cl hn kp H 0 (fun (d : (Unit × Int × Unit × Int × Int × Unit)) (e : (Unit × (List Int) × (List Int) × Unit)) => f k d.2.1 d.2.2.2.1 e.2.1 k d.2.2.2.2.1 e.2.2.1) KX
end l0
def tree {X : Type} (K : (List Int) → Option X) (k : Nat) (a1 : Int) (m1 : (List Int)) : Option X :=
  (Option.bind (scroll_Pen_Put.l0.f k a1 ((List.length m1) : Int) m1 k (0 : Int) ([] : (List Int))) (fun r2 => (K r2.2)))
def f (k : Nat) (a1 : Int) (m1 : (List Int)) : Option (List Int) := tree (fun b0 => some b0) k a1 m1
theorem tree_nat {X Y : Type} (h : X → Option Y) (K : (List Int) → Option X) (k : Nat) (a1 : Int) (m1 : (List Int)) : Option.bind (tree K k a1 m1) h = tree (fun b0 => Option.bind (K b0) h) k a1 m1 := by
  simp only [tree, bif_bind, sel_bind', Option.bind_assoc, Option.bind_none, Option.bind_some]
abbrev ps : List Sh := [.ptr 0, .data (.int .i64), .vec 1]
abbrev hs : List (Nat × ESh) := [(0, .cell (.one .nils)), (1, .rows 2 3 (.int .i64))]
abbrev hi : List Nat := hs.map (·.1)
abbrev fi : List Nat := [0, 1, 900002]
abbrev cl : List (Place × Nat × Hint) := []
abbrev hn : List Hint := []
def val (t : (List Int)) : AV := .tnil
def wr (t : (List Int)) : Heap := [(0, ESh.mk (.cell (.one (.vec 900002))) ()), (900002, ESh.mk (.rows 2 5 (.int .u8)) t)]
def callee (k : Nat) : Callee := sigCallee ps hs (fun (d : (Unit × Int × Unit × Unit)) (e : (Unit × (List Int) × Unit)) => f k d.2.1 e.2.1) val wr
def E (k : Nat) : Env := ⟨fnTab [], loopTab [(2, l2.sum k), (0, l0.sum k)], natsTab [], natTab []⟩
theorem fE (k : Nat) : ∀ f, ∀ c ∈ (E k).fn f, CalleeOK Tryd.prog f c := fnTab_ok trivial
namespace l2
theorem round (k : Nat) (d : (Unit × Int × Int × Unit × Int × Int × Int × Int × Unit)) (e : (Unit × (List Int) × (List Int) × Unit)) (G : St → Option (Ex × St)) : roundK Tryd.prog (E k) 37 2 (subC (bodyOf Tryd.f21) [1, 0, 0, 1, 1, 0, 0, 1, 1, 0, 0]) (recast cl hn kp) (finBy cl hn kp rc rs ri) G ⟨mkS S d, mkH H e⟩ =
    step (fun x18 y800002 => some (.exit 2, KX d e (x18, y800002))) (fun x18 y800002 => G ⟨mkS S ((), d.2.1, d.2.2.1, (), d.2.2.2.2.1, d.2.2.2.2.2.1, d.2.2.2.2.2.2.1, x18, ()), mkH H ((), e.2.1, y800002, ())⟩) k d.2.1 d.2.2.1 d.2.2.2.2.1 d.2.2.2.2.2.1 d.2.2.2.2.2.2.1 e.2.1 d.2.2.2.2.2.2.2.1 e.2.2.1 := by kernel_rfl
theorem it (k n : Nat) (d : (Unit × Int × Int × Unit × Int × Int × Int × Int × Unit)) (e : (Unit × (List Int) × (List Int) × Unit)) : loopIt Tryd.prog (E k) 37 2 (subC (bodyOf Tryd.f21) [1, 0, 0, 1, 1, 0, 0, 1, 1, 0, 0]) (recast cl hn kp) (finBy cl hn kp rc rs ri) n ⟨mkS S d, mkH H e⟩ = go (fun x18 y800002 => some (.exit 2, KX d e (x18, y800002))) k d.2.1 d.2.2.1 d.2.2.2.2.1 d.2.2.2.2.2.1 d.2.2.2.2.2.2.1 e.2.1 n d.2.2.2.2.2.2.2.1 e.2.2.1 :=
  loopIt_eq (D := (Unit × Int × Int × Unit × Int × Int × Int × Int × Unit) × (Unit × (List Int) × (List Int) × Unit)) (fun p => ⟨mkS S p.1, mkH H p.2⟩) (fun F p => step (fun x18 y800002 => some (.exit 2, KX p.1 p.2 (x18, y800002))) (fun x18 y800002 => F (((), p.1.2.1, p.1.2.2.1, (), p.1.2.2.2.2.1, p.1.2.2.2.2.2.1, p.1.2.2.2.2.2.2.1, x18, ()), ((), p.2.2.1, y800002, ()))) k p.1.2.1 p.1.2.2.1 p.1.2.2.2.2.1 p.1.2.2.2.2.2.1 p.1.2.2.2.2.2.2.1 p.2.2.1 p.1.2.2.2.2.2.2.2.1 p.2.2.2.1) (fun n p => go (fun x18 y800002 => some (.exit 2, KX p.1 p.2 (x18, y800002))) k p.1.2.1 p.1.2.2.1 p.1.2.2.2.2.1 p.1.2.2.2.2.2.1 p.1.2.2.2.2.2.2.1 p.2.2.1 n p.1.2.2.2.2.2.2.2.1 p.2.2.2.1) (fun _ => rfl) (fun _ _ => rfl) (fun G p => round k p.1 p.2 G) n (d, e)
theorem ok (k : Nat) : LoopOK Tryd.prog 37 (subC (bodyOf Tryd.f21) [1, 0, 0, 1, 1, 0, 0, 1, 1, 0, 0]) (sum k) :=
  loop_sigX hm (fE k) (loopsOK_of [] (by kernel_rfl) trivial) S cl hn kp H 2 (fun (d : (Unit × Int × Int × Unit × Int × Int × Int × Int × Unit)) (e : (Unit × (List Int) × (List Int) × Unit)) => f k d.2.1 d.2.2.1 d.2.2.2.2.1 d.2.2.2.2.2.1 d.2.2.2.2.2.2.1 e.2.1 k d.2.2.2.2.2.2.2.1 e.2.2.1) KX cl hn kp rc rs ri k
    (fun d e => (it k k d e).trans (go_nat (fun v => some (Ex.exit 2, KX d e v)) (fun x18 y800002 => some (x18, y800002)) k d.2.1 d.2.2.1 d.2.2.2.2.1 d.2.2.2.2.2.1 d.2.2.2.2.2.2.1 e.2.1 k d.2.2.2.2.2.2.2.1 e.2.2.1).symm)
end l2
namespace l0
theorem round (k : Nat) (d : (Unit × Int × Unit × Int × Int × Unit)) (e : (Unit × (List Int) × (List Int) × Unit)) (G : St → Option (Ex × St)) : roundK Tryd.prog (E k) 37 0 (subC (bodyOf Tryd.f21) [1, 0, 0]) (recast cl hn kp) (finBy cl hn kp rc rs ri) G ⟨mkS S d, mkH H e⟩ =
    step (fun x11 y800002 => some (.exit 0, KX d e (x11, y800002))) (fun x11 y800002 => G ⟨mkS S ((), d.2.1, (), d.2.2.2.1, x11, ()), mkH H ((), e.2.1, y800002, ())⟩) k d.2.1 d.2.2.2.1 e.2.1 d.2.2.2.2.1 e.2.2.1 := by kernel_rfl
theorem it (k n : Nat) (d : (Unit × Int × Unit × Int × Int × Unit)) (e : (Unit × (List Int) × (List Int) × Unit)) : loopIt Tryd.prog (E k) 37 0 (subC (bodyOf Tryd.f21) [1, 0, 0]) (recast cl hn kp) (finBy cl hn kp rc rs ri) n ⟨mkS S d, mkH H e⟩ = go (fun x11 y800002 => some (.exit 0, KX d e (x11, y800002))) k d.2.1 d.2.2.2.1 e.2.1 n d.2.2.2.2.1 e.2.2.1 :=
  loopIt_eq (D := (Unit × Int × Unit × Int × Int × Unit) × (Unit × (List Int) × (List Int) × Unit)) (fun p => ⟨mkS S p.1, mkH H p.2⟩) (fun F p => step (fun x11 y800002 => some (.exit 0, KX p.1 p.2 (x11, y800002))) (fun x11 y800002 => F (((), p.1.2.1, (), p.1.2.2.2.1, x11, ()), ((), p.2.2.1, y800002, ()))) k p.1.2.1 p.1.2.2.2.1 p.2.2.1 p.1.2.2.2.2.1 p.2.2.2.1) (fun n p => go (fun x11 y800002 => some (.exit 0, KX p.1 p.2 (x11, y800002))) k p.1.2.1 p.1.2.2.2.1 p.2.2.1 n p.1.2.2.2.2.1 p.2.2.2.1) (fun _ => rfl) (fun _ _ => rfl) (fun G p => round k p.1 p.2 G) n (d, e)
theorem ok (k : Nat) : LoopOK Tryd.prog 37 (subC (bodyOf Tryd.f21) [1, 0, 0]) (sum k) :=
  loop_sigX hm (fE k) (loopsOK_of [(2, subC (bodyOf Tryd.f21) [1, 0, 0, 1, 1, 0, 0, 1, 1, 0, 0])] (by kernel_rfl) ⟨of_loop (l2.sum k) rfl (l2.ok k), trivial⟩) S cl hn kp H 0 (fun (d : (Unit × Int × Unit × Int × Int × Unit)) (e : (Unit × (List Int) × (List Int) × Unit)) => f k d.2.1 d.2.2.2.1 e.2.1 k d.2.2.2.2.1 e.2.2.1) KX cl hn kp rc rs ri k
    (fun d e => (it k k d e).trans (go_nat (fun v => some (Ex.exit 0, KX d e v)) (fun x11 y800002 => some (x11, y800002)) k d.2.1 d.2.2.2.1 e.2.1 k d.2.2.2.2.1 e.2.2.1).symm)
end l0
theorem run (k : Nat) (d : (Unit × Int × Unit × Unit)) (e : (Unit × (List Int) × Unit)) : runFn Tryd.prog (E k) 37 (bodyOf Tryd.f21) Tryd.f21.results.toList cl hn hi (mkL ps d) (mkH hs e) =
    tree (fun b0 => leafFn hs fi e val wr b0) k d.2.1 e.2.1 := by kernel_rfl
theorem run_f (k : Nat) (d : (Unit × Int × Unit × Unit)) (e : (Unit × (List Int) × Unit)) : runFn Tryd.prog (E k) 37 (bodyOf Tryd.f21) Tryd.f21.results.toList cl hn hi (mkL ps d) (mkH hs e) = (f k d.2.1 e.2.1).bind (leafFn hs fi e val wr) :=
  (run k d e).trans (tree_nat (leafFn hs fi e val wr) (fun b0 => some b0) k d.2.1 e.2.1).symm
theorem fnIs : FnIs Tryd.prog 21 Tryd.f21 (bodyOf Tryd.f21) 37 := ⟨by kernel_rfl, by kernel_rfl, by kernel_rfl, by kernel_rfl⟩
theorem ok (k : Nat) : CalleeOK Tryd.prog 21 (callee k) :=
  callee_sig (T := (List Int)) fnIs hm (fE k) (loopsOK_of [(0, subC (bodyOf Tryd.f21) [1, 0, 0])] (by kernel_rfl) ⟨of_loop (l0.sum k) rfl (l0.ok k), trivial⟩) ps hs cl hn fi (fun (d : (Unit × Int × Unit × Unit)) (e : (Unit × (List Int) × Unit)) => f k d.2.1 e.2.1) val wr rfl (fun _ => rfl) (run_f k)
end scroll_Pen_Put
namespace scroll_Pen_Names
namespace l0
def step {X : Type} (K : Int → (List Int) → Option X) (G : Int → (List Int) → Option X) (k : Nat) (x7 : Int) (y1 : (List (List Int))) (x8 : Int) (y800003 : (List Int)) : Option X :=
  (bif (decide (x8 < x7)) then (bif (decide (0 ≤ x8)) then (bif (decide (x8 < ((List.length y1) : Int))) then (bif (decide ((Int.toNat x8) < (List.length y1))) then (bif (fits (((List.length y800003) + (List.length (List.take 32 (List.getD y1 (Int.toNat x8) (List.replicate 32 0 : (List Int)))))) * 1)) then (G (addI .i64 x8 1) (y800003 ++ (List.take 32 (List.getD y1 (Int.toNat x8) (List.replicate 32 0 : (List Int)))))) else none) else none) else none) else none) else (K x8 y800003))
def go {X : Type} (K : Int → (List Int) → Option X) (k : Nat) (x7 : Int) (y1 : (List (List Int))) : Nat → Int → (List Int) → Option X
  | 0, _, _ => none
  | n + 1, x8, y800003 => step K (go K k x7 y1 n) k x7 y1 x8 y800003
def f (k : Nat) (x7 : Int) (y1 : (List (List Int))) (n : Nat) (x8 : Int) (y800003 : (List Int)) : Option (Int × (List Int)) := go (fun x8 y800003 => some (x8, y800003)) k x7 y1 n x8 y800003
theorem step_nat {X Y : Type} (h : X → Option Y) (K : Int → (List Int) → Option X) (G : Int → (List Int) → Option X) (k : Nat) (x7 : Int) (y1 : (List (List Int))) (x8 : Int) (y800003 : (List Int)) : Option.bind (step K G k x7 y1 x8 y800003) h = step (fun x8 y800003 => Option.bind (K x8 y800003) h) (fun x8 y800003 => Option.bind (G x8 y800003) h) k x7 y1 x8 y800003 := by
  simp only [step, bif_bind, sel_bind', Option.bind_assoc, Option.bind_none, Option.bind_some]
theorem go_nat {X Y : Type} (h : X → Option Y) (K : Int → (List Int) → Option X) (k : Nat) (x7 : Int) (y1 : (List (List Int))) (n : Nat) : ∀ (x8 : Int) (y800003 : (List Int)), Option.bind (go K k x7 y1 n x8 y800003) h = go (fun x8 y800003 => Option.bind (K x8 y800003) h) k x7 y1 n x8 y800003 := by
  induction n with
  | zero => intros; rfl
  | succ n ih => intro x8 y800003; show Option.bind (step K (go K k x7 y1 n) k x7 y1 x8 y800003) h = step (fun x8 y800003 => Option.bind (K x8 y800003) h) (go (fun x8 y800003 => Option.bind (K x8 y800003) h) k x7 y1 n) k x7 y1 x8 y800003; rw [step_nat h]; simp only [ih]
abbrev S : List (Nat × Sh) := [(0, .ptr 0), (6, .vec 1), (7, .data (.int .i64)), (8, .data (.int .i64))]
abbrev H : List (Nat × ESh) := [(0, .cell (.one (.vec 800003))), (1, .rows 2 35 (.arr .u8 32)), (2, .dead), (800003, .rows 2 5 (.int .u8))]
abbrev cl : List (Place × Nat × Hint) := [(.id 0, 0, .move)]
abbrev hn : List (Nat × Hint) := [(0, .any), (6, .any), (7, .any), (8, .any)]
abbrev kp : List Nat := [0, 1, 2]
abbrev rc : List (Place × Nat × Hint) := []
abbrev rs : List (Nat × Hint) := []
abbrev ri : List Nat := [0, 1, 2]
def KX (d : (Unit × Unit × Int × Int × Unit)) (e : (Unit × (List (List Int)) × Unit × (List Int) × Unit)) (v : (Int × (List Int))) : St := ⟨mkS S ((), (), d.2.2.1, v.1, ()), mkH H ((), e.2.1, (), v.2, ())⟩
def sum (k : Nat) : LoopSum := sigLoopX S cl hn kp H 0 (fun (d : (Unit × Unit × Int × Int × Unit)) (e : (Unit × (List (List Int)) × Unit × (List Int) × Unit)) => f k d.2.2.1 e.2.1 k d.2.2.2.1 e.2.2.2.1) KX
end l0
def tree {X : Type} (K : (List Int) → Option X) (k : Nat) (m1 : (List (List Int))) (m2 : (List Int)) : Option X :=
  (Option.bind (scroll_Pen_Names.l0.f k ((List.length m1) : Int) m1 k (0 : Int) m2) (fun r1 => (K r1.2)))
def f (k : Nat) (m1 : (List (List Int))) (m2 : (List Int)) : Option (List Int) := tree (fun b0 => some b0) k m1 m2
theorem tree_nat {X Y : Type} (h : X → Option Y) (K : (List Int) → Option X) (k : Nat) (m1 : (List (List Int))) (m2 : (List Int)) : Option.bind (tree K k m1 m2) h = tree (fun b0 => Option.bind (K b0) h) k m1 m2 := by
  simp only [tree, bif_bind, sel_bind', Option.bind_assoc, Option.bind_none, Option.bind_some]
abbrev ps : List Sh := [.ptr 0, .vec 1]
abbrev hs : List (Nat × ESh) := [(0, .cell (.one (.vec 2))), (1, .rows 2 35 (.arr .u8 32)), (2, .rows 2 5 (.int .u8))]
abbrev hi : List Nat := hs.map (·.1)
abbrev fi : List Nat := [0, 1, 2, 900003]
abbrev cl : List (Place × Nat × Hint) := []
abbrev hn : List Hint := []
def val (t : (List Int)) : AV := .tnil
def wr (t : (List Int)) : Heap := [(0, ESh.mk (.cell (.one (.vec 900003))) ()), (2, ESh.mk (.dead) ()), (900003, ESh.mk (.rows 2 5 (.int .u8)) t)]
def callee (k : Nat) : Callee := sigCallee ps hs (fun (d : (Unit × Unit × Unit)) (e : (Unit × (List (List Int)) × (List Int) × Unit)) => f k e.2.1 e.2.2.1) val wr
def E (k : Nat) : Env := ⟨fnTab [], loopTab [(0, l0.sum k)], natsTab [], natTab []⟩
theorem fE (k : Nat) : ∀ f, ∀ c ∈ (E k).fn f, CalleeOK Tryd.prog f c := fnTab_ok trivial
namespace l0
theorem round (k : Nat) (d : (Unit × Unit × Int × Int × Unit)) (e : (Unit × (List (List Int)) × Unit × (List Int) × Unit)) (G : St → Option (Ex × St)) : roundK Tryd.prog (E k) 22 0 (subC (bodyOf Tryd.f22) [1, 0, 0]) (recast cl hn kp) (finBy cl hn kp rc rs ri) G ⟨mkS S d, mkH H e⟩ =
    step (fun x8 y800003 => some (.exit 0, KX d e (x8, y800003))) (fun x8 y800003 => G ⟨mkS S ((), (), d.2.2.1, x8, ()), mkH H ((), e.2.1, (), y800003, ())⟩) k d.2.2.1 e.2.1 d.2.2.2.1 e.2.2.2.1 := by kernel_rfl
theorem it (k n : Nat) (d : (Unit × Unit × Int × Int × Unit)) (e : (Unit × (List (List Int)) × Unit × (List Int) × Unit)) : loopIt Tryd.prog (E k) 22 0 (subC (bodyOf Tryd.f22) [1, 0, 0]) (recast cl hn kp) (finBy cl hn kp rc rs ri) n ⟨mkS S d, mkH H e⟩ = go (fun x8 y800003 => some (.exit 0, KX d e (x8, y800003))) k d.2.2.1 e.2.1 n d.2.2.2.1 e.2.2.2.1 :=
  loopIt_eq (D := (Unit × Unit × Int × Int × Unit) × (Unit × (List (List Int)) × Unit × (List Int) × Unit)) (fun p => ⟨mkS S p.1, mkH H p.2⟩) (fun F p => step (fun x8 y800003 => some (.exit 0, KX p.1 p.2 (x8, y800003))) (fun x8 y800003 => F (((), (), p.1.2.2.1, x8, ()), ((), p.2.2.1, (), y800003, ()))) k p.1.2.2.1 p.2.2.1 p.1.2.2.2.1 p.2.2.2.2.1) (fun n p => go (fun x8 y800003 => some (.exit 0, KX p.1 p.2 (x8, y800003))) k p.1.2.2.1 p.2.2.1 n p.1.2.2.2.1 p.2.2.2.2.1) (fun _ => rfl) (fun _ _ => rfl) (fun G p => round k p.1 p.2 G) n (d, e)
theorem ok (k : Nat) : LoopOK Tryd.prog 22 (subC (bodyOf Tryd.f22) [1, 0, 0]) (sum k) :=
  loop_sigX hm (fE k) (loopsOK_of [] (by kernel_rfl) trivial) S cl hn kp H 0 (fun (d : (Unit × Unit × Int × Int × Unit)) (e : (Unit × (List (List Int)) × Unit × (List Int) × Unit)) => f k d.2.2.1 e.2.1 k d.2.2.2.1 e.2.2.2.1) KX cl hn kp rc rs ri k
    (fun d e => (it k k d e).trans (go_nat (fun v => some (Ex.exit 0, KX d e v)) (fun x8 y800003 => some (x8, y800003)) k d.2.2.1 e.2.1 k d.2.2.2.1 e.2.2.2.1).symm)
end l0
theorem run (k : Nat) (d : (Unit × Unit × Unit)) (e : (Unit × (List (List Int)) × (List Int) × Unit)) : runFn Tryd.prog (E k) 22 (bodyOf Tryd.f22) Tryd.f22.results.toList cl hn hi (mkL ps d) (mkH hs e) =
    tree (fun b0 => leafFn hs fi e val wr b0) k e.2.1 e.2.2.1 := by kernel_rfl
theorem run_f (k : Nat) (d : (Unit × Unit × Unit)) (e : (Unit × (List (List Int)) × (List Int) × Unit)) : runFn Tryd.prog (E k) 22 (bodyOf Tryd.f22) Tryd.f22.results.toList cl hn hi (mkL ps d) (mkH hs e) = (f k e.2.1 e.2.2.1).bind (leafFn hs fi e val wr) :=
  (run k d e).trans (tree_nat (leafFn hs fi e val wr) (fun b0 => some b0) k e.2.1 e.2.2.1).symm
theorem fnIs : FnIs Tryd.prog 22 Tryd.f22 (bodyOf Tryd.f22) 22 := ⟨by kernel_rfl, by kernel_rfl, by kernel_rfl, by kernel_rfl⟩
theorem ok (k : Nat) : CalleeOK Tryd.prog 22 (callee k) :=
  callee_sig (T := (List Int)) fnIs hm (fE k) (loopsOK_of [(0, subC (bodyOf Tryd.f22) [1, 0, 0])] (by kernel_rfl) ⟨of_loop (l0.sum k) rfl (l0.ok k), trivial⟩) ps hs cl hn fi (fun (d : (Unit × Unit × Unit)) (e : (Unit × (List (List Int)) × (List Int) × Unit)) => f k e.2.1 e.2.2.1) val wr rfl (fun _ => rfl) (run_f k)
end scroll_Pen_Names
namespace scroll_Pen_Text
def tree {X : Type} (K : (List Int) → Option X) (k : Nat) (m1 : (List Int)) : Option X :=
  (K (toStr m1))
def f (k : Nat) (m1 : (List Int)) : Option (List Int) := tree (fun b0 => some b0) k m1
theorem tree_nat {X Y : Type} (h : X → Option Y) (K : (List Int) → Option X) (k : Nat) (m1 : (List Int)) : Option.bind (tree K k m1) h = tree (fun b0 => Option.bind (K b0) h) k m1 := by
  simp only [tree, bif_bind, sel_bind', Option.bind_assoc, Option.bind_none, Option.bind_some]
abbrev ps : List Sh := [.ptr 0]
abbrev hs : List (Nat × ESh) := [(0, .cell (.one (.vec 1))), (1, .rows 2 5 (.int .u8))]
abbrev hi : List Nat := hs.map (·.1)
abbrev fi : List Nat := [0, 1]
abbrev cl : List (Place × Nat × Hint) := []
abbrev hn : List Hint := [.any]
def val (t : (List Int)) : AV := Sh.mk (.data .str) t
def wr (t : (List Int)) : Heap := []
def callee (k : Nat) : Callee := sigCallee ps hs (fun (d : (Unit × Unit)) (e : (Unit × (List Int) × Unit)) => f k e.2.1) val wr
def E (k : Nat) : Env := ⟨fnTab [], loopTab [], natsTab [], natTab []⟩
theorem fE (k : Nat) : ∀ f, ∀ c ∈ (E k).fn f, CalleeOK Tryd.prog f c := fnTab_ok trivial
theorem run (k : Nat) (d : (Unit × Unit)) (e : (Unit × (List Int) × Unit)) : runFn Tryd.prog (E k) 8 (bodyOf Tryd.f24) Tryd.f24.results.toList cl hn hi (mkL ps d) (mkH hs e) =
    tree (fun b0 => leafFn hs fi e val wr b0) k e.2.1 := by kernel_rfl
theorem run_f (k : Nat) (d : (Unit × Unit)) (e : (Unit × (List Int) × Unit)) : runFn Tryd.prog (E k) 8 (bodyOf Tryd.f24) Tryd.f24.results.toList cl hn hi (mkL ps d) (mkH hs e) = (f k e.2.1).bind (leafFn hs fi e val wr) :=
  (run k d e).trans (tree_nat (leafFn hs fi e val wr) (fun b0 => some b0) k e.2.1).symm
theorem fnIs : FnIs Tryd.prog 24 Tryd.f24 (bodyOf Tryd.f24) 8 := ⟨by kernel_rfl, by kernel_rfl, by kernel_rfl, by kernel_rfl⟩
theorem ok (k : Nat) : CalleeOK Tryd.prog 24 (callee k) :=
  callee_sig (T := (List Int)) fnIs hm (fE k) (loopsOK_of [] (by kernel_rfl) trivial) ps hs cl hn fi (fun (d : (Unit × Unit)) (e : (Unit × (List Int) × Unit)) => f k e.2.1) val wr rfl (fun _ => rfl) (run_f k)
end scroll_Pen_Text
namespace digest_New
def tree {X : Type} (K : (List Int) → Int → Option X) (k : Nat) (m0 : (List Int)) : Option X :=
  (K m0 (0 : Int))
def f (k : Nat) (m0 : (List Int)) : Option ((List Int) × Int) := tree (fun b0 b1 => some (b0, b1)) k m0
theorem tree_nat {X Y : Type} (h : X → Option Y) (K : (List Int) → Int → Option X) (k : Nat) (m0 : (List Int)) : Option.bind (tree K k m0) h = tree (fun b0 b1 => Option.bind (K b0 b1) h) k m0 := by
  simp only [tree, bif_bind, sel_bind', Option.bind_assoc, Option.bind_none, Option.bind_some]
abbrev ps : List Sh := []
abbrev hs : List (Nat × ESh) := [(0, .glob 0 (.arr .u32 8))]
abbrev hi : List Nat := hs.map (·.1)
abbrev fi : List Nat := [0, 900001]
abbrev cl : List (Place × Nat × Hint) := []
abbrev hn : List Hint := [.any]
def val (t : ((List Int) × Int)) : AV := Sh.mk (.ptr 900001) ()
def wr (t : ((List Int) × Int)) : Heap := [(900001, ESh.mk (.cell (.pair (.data (.arr .u32 8)) (.pair .nils (.data (.int .u64))))) (t.1, ((), t.2)))]
def callee (k : Nat) : Callee := sigCallee ps hs (fun (d : Unit) (e : ((List Int) × Unit)) => f k e.1) val wr
def E (k : Nat) : Env := ⟨fnTab [], loopTab [], natsTab [], natTab [(0, 0)]⟩
theorem fE (k : Nat) : ∀ f, ∀ c ∈ (E k).fn f, CalleeOK Tryd.prog f c := fnTab_ok trivial
theorem run (k : Nat) (d : Unit) (e : ((List Int) × Unit)) : runFn Tryd.prog (E k) 4 (bodyOf Tryd.f29) Tryd.f29.results.toList cl hn hi (mkL ps d) (mkH hs e) =
    tree (fun b0 b1 => leafFn hs fi e val wr (b0, b1)) k e.1 := by kernel_rfl
theorem run_f (k : Nat) (d : Unit) (e : ((List Int) × Unit)) : runFn Tryd.prog (E k) 4 (bodyOf Tryd.f29) Tryd.f29.results.toList cl hn hi (mkL ps d) (mkH hs e) = (f k e.1).bind (leafFn hs fi e val wr) :=
  (run k d e).trans (tree_nat (leafFn hs fi e val wr) (fun b0 b1 => some (b0, b1)) k e.1).symm
theorem fnIs : FnIs Tryd.prog 29 Tryd.f29 (bodyOf Tryd.f29) 4 := ⟨by kernel_rfl, by kernel_rfl, by kernel_rfl, by kernel_rfl⟩
theorem ok (k : Nat) : CalleeOK Tryd.prog 29 (callee k) :=
  callee_sig (T := ((List Int) × Int)) fnIs hm (fE k) (loopsOK_of [] (by kernel_rfl) trivial) ps hs cl hn fi (fun (d : Unit) (e : ((List Int) × Unit)) => f k e.1) val wr rfl (fun _ => rfl) (run_f k)
end digest_New
namespace math_bits_RotateLeft32
def tree {X : Type} (K : Int → Option X) (k : Nat) (a0 : Int) (a1 : Int) : Option X :=
  (bif (decide ((andI .u64 (IntKind.wrap .u64 a1) 31) < 0)) then none else (bif (decide ((subI .u64 32 (andI .u64 (IntKind.wrap .u64 a1) 31)) < 0)) then none else (K (orI .u32 (shlI .u32 a0 (andI .u64 (IntKind.wrap .u64 a1) 31)) (shrI .u32 a0 (subI .u64 32 (andI .u64 (IntKind.wrap .u64 a1) 31)))))))
def f (k : Nat) (a0 : Int) (a1 : Int) : Option Int := tree (fun b0 => some b0) k a0 a1
theorem tree_nat {X Y : Type} (h : X → Option Y) (K : Int → Option X) (k : Nat) (a0 : Int) (a1 : Int) : Option.bind (tree K k a0 a1) h = tree (fun b0 => Option.bind (K b0) h) k a0 a1 := by
  simp only [tree, bif_bind, sel_bind', Option.bind_assoc, Option.bind_none, Option.bind_some]
abbrev ps : List Sh := [.data (.int .u32), .data (.int .i64)]
abbrev hs : List (Nat × ESh) := []
abbrev hi : List Nat := hs.map (·.1)
abbrev fi : List Nat := []
abbrev cl : List (Place × Nat × Hint) := []
abbrev hn : List Hint := [.any]
def val (t : Int) : AV := Sh.mk (.data (.int .u32)) t
def wr (t : Int) : Heap := []
def callee (k : Nat) : Callee := sigCallee ps hs (fun (d : (Int × Int × Unit)) (e : Unit) => f k d.1 d.2.1) val wr
def E (k : Nat) : Env := ⟨fnTab [], loopTab [], natsTab [], natTab []⟩
theorem fE (k : Nat) : ∀ f, ∀ c ∈ (E k).fn f, CalleeOK Tryd.prog f c := fnTab_ok trivial
theorem run (k : Nat) (d : (Int × Int × Unit)) (e : Unit) : runFn Tryd.prog (E k) 17 (bodyOf Tryd.f34) Tryd.f34.results.toList cl hn hi (mkL ps d) (mkH hs e) =
    tree (fun b0 => leafFn hs fi e val wr b0) k d.1 d.2.1 := by kernel_rfl
theorem run_f (k : Nat) (d : (Int × Int × Unit)) (e : Unit) : runFn Tryd.prog (E k) 17 (bodyOf Tryd.f34) Tryd.f34.results.toList cl hn hi (mkL ps d) (mkH hs e) = (f k d.1 d.2.1).bind (leafFn hs fi e val wr) :=
  (run k d e).trans (tree_nat (leafFn hs fi e val wr) (fun b0 => some b0) k d.1 d.2.1).symm
theorem fnIs : FnIs Tryd.prog 34 Tryd.f34 (bodyOf Tryd.f34) 17 := ⟨by kernel_rfl, by kernel_rfl, by kernel_rfl, by kernel_rfl⟩
theorem ok (k : Nat) : CalleeOK Tryd.prog 34 (callee k) :=
  callee_sig (T := Int) fnIs hm (fE k) (loopsOK_of [] (by kernel_rfl) trivial) ps hs cl hn fi (fun (d : (Int × Int × Unit)) (e : Unit) => f k d.1 d.2.1) val wr rfl (fun _ => rfl) (run_f k)
end math_bits_RotateLeft32
namespace digest_turn
namespace l0
def step {X : Type} (K : Int → Int → Option X) (G : Int → Int → Option X) (k : Nat) (x0 : Int) (x9 : Int) (y0 : (List Int)) (x5 : Int) (x10 : Int) : Option X :=
  (bif (decide (x10 < x9)) then (bif (decide (0 ≤ x10)) then (bif (decide (x10 < ((List.length y0) : Int))) then (bif (decide ((Int.toNat x10) < (List.length y0))) then (Option.bind (math_bits_RotateLeft32.f k x0 (subI .i64 0 (List.getD y0 (Int.toNat x10) (0 : Int)))) (fun r1 => (G (xorI .u32 x5 r1) (addI .i64 x10 1)))) else none) else none) else none) else (K x5 x10))
def go {X : Type} (K : Int → Int → Option X) (k : Nat) (x0 : Int) (x9 : Int) (y0 : (List Int)) : Nat → Int → Int → Option X
  | 0, _, _ => none
  | n + 1, x5, x10 => step K (go K k x0 x9 y0 n) k x0 x9 y0 x5 x10
def f (k : Nat) (x0 : Int) (x9 : Int) (y0 : (List Int)) (n : Nat) (x5 : Int) (x10 : Int) : Option (Int × Int) := go (fun x5 x10 => some (x5, x10)) k x0 x9 y0 n x5 x10
theorem step_nat {X Y : Type} (h : X → Option Y) (K : Int → Int → Option X) (G : Int → Int → Option X) (k : Nat) (x0 : Int) (x9 : Int) (y0 : (List Int)) (x5 : Int) (x10 : Int) : Option.bind (step K G k x0 x9 y0 x5 x10) h = step (fun x5 x10 => Option.bind (K x5 x10) h) (fun x5 x10 => Option.bind (G x5 x10) h) k x0 x9 y0 x5 x10 := by
  simp only [step, bif_bind, sel_bind', Option.bind_assoc, Option.bind_none, Option.bind_some]
theorem go_nat {X Y : Type} (h : X → Option Y) (K : Int → Int → Option X) (k : Nat) (x0 : Int) (x9 : Int) (y0 : (List Int)) (n : Nat) : ∀ (x5 : Int) (x10 : Int), Option.bind (go K k x0 x9 y0 n x5 x10) h = go (fun x5 x10 => Option.bind (K x5 x10) h) k x0 x9 y0 n x5 x10 := by
  induction n with
  | zero => intros; rfl
  | succ n ih => intro x5 x10; show Option.bind (step K (go K k x0 x9 y0 n) k x0 x9 y0 x5 x10) h = step (fun x5 x10 => Option.bind (K x5 x10) h) (go (fun x5 x10 => Option.bind (K x5 x10) h) k x0 x9 y0 n) k x0 x9 y0 x5 x10; rw [step_nat h]; simp only [ih]
abbrev S : List (Nat × Sh) := [(0, .data (.int .u32)), (5, .data (.int .u32)), (8, .vec 0), (9, .data (.int .i64)), (10, .data (.int .i64))]
abbrev H : List (Nat × ESh) := [(0, .rows 2 3 (.int .i64))]
abbrev cl : List (Place × Nat × Hint) := []
abbrev hn : List (Nat × Hint) := [(0, .any), (5, .any), (8, .any), (9, .any), (10, .any)]
abbrev kp : List Nat := [0]
abbrev rc : List (Place × Nat × Hint) := []
abbrev rs : List (Nat × Hint) := []
abbrev ri : List Nat := [0]
def KX (d : (Int × Int × Unit × Int × Int × Unit)) (e : ((List Int) × Unit)) (v : (Int × Int)) : St := ⟨mkS S (d.1, v.1, (), d.2.2.2.1, v.2, ()), mkH H (e.1, ())⟩
def sum (k : Nat) : LoopSum := sigLoopX S cl hn kp H 0 (fun (d : (Int × Int × Unit × Int × Int × Unit)) (e : ((List Int) × Unit)) => f k d.1 d.2.2.2.1 e.1 k d.2.1 d.2.2.2.2.1) KX
end l0
def tree {X : Type} (K : Int → Option X) (k : Nat) (a0 : Int) (m0 : (List Int)) : Option X :=
  (Option.bind (digest_turn.l0.f k a0 ((List.length m0) : Int) m0 k (0 : Int) (0 : Int)) (fun r2 => (K r2.1)))
def f (k : Nat) (a0 : Int) (m0 : (List Int)) : Option Int := tree (fun b0 => some b0) k a0 m0
theorem tree_nat {X Y : Type} (h : X → Option Y) (K : Int → Option X) (k : Nat) (a0 : Int) (m0 : (List Int)) : Option.bind (tree K k a0 m0) h = tree (fun b0 => Option.bind (K b0) h) k a0 m0 := by
  simp only [tree, bif_bind, sel_bind', Option.bind_assoc, Option.bind_none, Option.bind_some]
abbrev ps : List Sh := [.data (.int .u32), .vec 0]
abbrev hs : List (Nat × ESh) := [(0, .rows 2 3 (.int .i64))]
abbrev hi : List Nat := hs.map (·.1)
abbrev fi : List Nat := [0]
abbrev cl : List (Place × Nat × Hint) := []
abbrev hn : List Hint := [.any]
def val (t : Int) : AV := Sh.mk (.data (.int .u32)) t
def wr (t : Int) : Heap := []
def callee (k : Nat) : Callee := sigCallee ps hs (fun (d : (Int × Unit × Unit)) (e : ((List Int) × Unit)) => f k d.1 e.1) val wr
def E (k : Nat) : Env := ⟨fnTab [(34, [math_bits_RotateLeft32.callee k])], loopTab [(0, l0.sum k)], natsTab [], natTab []⟩
theorem fE (k : Nat) : ∀ f, ∀ c ∈ (E k).fn f, CalleeOK Tryd.prog f c := fnTab_ok ⟨⟨math_bits_RotateLeft32.ok k, trivial⟩, trivial⟩
namespace l0
theorem round (k : Nat) (d : (Int × Int × Unit × Int × Int × Unit)) (e : ((List Int) × Unit)) (G : St → Option (Ex × St)) : roundK Tryd.prog (E k) 22 0 (subC (bodyOf Tryd.f33) [1, 1, 0, 1, 0, 0]) (recast cl hn kp) (finBy cl hn kp rc rs ri) G ⟨mkS S d, mkH H e⟩ =
    step (fun x5 x10 => some (.exit 0, KX d e (x5, x10))) (fun x5 x10 => G ⟨mkS S (d.1, x5, (), d.2.2.2.1, x10, ()), mkH H (e.1, ())⟩) k d.1 d.2.2.2.1 e.1 d.2.1 d.2.2.2.2.1 := by kernel_rfl
theorem it (k n : Nat) (d : (Int × Int × Unit × Int × Int × Unit)) (e : ((List Int) × Unit)) : loopIt Tryd.prog (E k) 22 0 (subC (bodyOf Tryd.f33) [1, 1, 0, 1, 0, 0]) (recast cl hn kp) (finBy cl hn kp rc rs ri) n ⟨mkS S d, mkH H e⟩ = go (fun x5 x10 => some (.exit 0, KX d e (x5, x10))) k d.1 d.2.2.2.1 e.1 n d.2.1 d.2.2.2.2.1 :=
  loopIt_eq (D := (Int × Int × Unit × Int × Int × Unit) × ((List Int) × Unit)) (fun p => ⟨mkS S p.1, mkH H p.2⟩) (fun F p => step (fun x5 x10 => some (.exit 0, KX p.1 p.2 (x5, x10))) (fun x5 x10 => F ((p.1.1, x5, (), p.1.2.2.2.1, x10, ()), (p.2.1, ()))) k p.1.1 p.1.2.2.2.1 p.2.1 p.1.2.1 p.1.2.2.2.2.1) (fun n p => go (fun x5 x10 => some (.exit 0, KX p.1 p.2 (x5, x10))) k p.1.1 p.1.2.2.2.1 p.2.1 n p.1.2.1 p.1.2.2.2.2.1) (fun _ => rfl) (fun _ _ => rfl) (fun G p => round k p.1 p.2 G) n (d, e)
theorem ok (k : Nat) : LoopOK Tryd.prog 22 (subC (bodyOf Tryd.f33) [1, 1, 0, 1, 0, 0]) (sum k) :=
  loop_sigX hm (fE k) (loopsOK_of [] (by kernel_rfl) trivial) S cl hn kp H 0 (fun (d : (Int × Int × Unit × Int × Int × Unit)) (e : ((List Int) × Unit)) => f k d.1 d.2.2.2.1 e.1 k d.2.1 d.2.2.2.2.1) KX cl hn kp rc rs ri k
    (fun d e => (it k k d e).trans (go_nat (fun v => some (Ex.exit 0, KX d e v)) (fun x5 x10 => some (x5, x10)) k d.1 d.2.2.2.1 e.1 k d.2.1 d.2.2.2.2.1).symm)
end l0
theorem run (k : Nat) (d : (Int × Unit × Unit)) (e : ((List Int) × Unit)) : runFn Tryd.prog (E k) 22 (bodyOf Tryd.f33) Tryd.f33.results.toList cl hn hi (mkL ps d) (mkH hs e) =
    tree (fun b0 => leafFn hs fi e val wr b0) k d.1 e.1 := by kernel_rfl
theorem run_f (k : Nat) (d : (Int × Unit × Unit)) (e : ((List Int) × Unit)) : runFn Tryd.prog (E k) 22 (bodyOf Tryd.f33) Tryd.f33.results.toList cl hn hi (mkL ps d) (mkH hs e) = (f k d.1 e.1).bind (leafFn hs fi e val wr) :=
  (run k d e).trans (tree_nat (leafFn hs fi e val wr) (fun b0 => some b0) k d.1 e.1).symm
theorem fnIs : FnIs Tryd.prog 33 Tryd.f33 (bodyOf Tryd.f33) 22 := ⟨by kernel_rfl, by kernel_rfl, by kernel_rfl, by kernel_rfl⟩
theorem ok (k : Nat) : CalleeOK Tryd.prog 33 (callee k) :=
  callee_sig (T := Int) fnIs hm (fE k) (loopsOK_of [(0, subC (bodyOf Tryd.f33) [1, 1, 0, 1, 0, 0])] (by kernel_rfl) ⟨of_loop (l0.sum k) rfl (l0.ok k), trivial⟩) ps hs cl hn fi (fun (d : (Int × Unit × Unit)) (e : ((List Int) × Unit)) => f k d.1 e.1) val wr rfl (fun _ => rfl) (run_f k)
end digest_turn
namespace digest_Hasher_take
namespace l0
def step {X : Type} (K : Int → (List Int) → Option X) (G : Int → (List Int) → Option X) (k : Nat) (y0_0 : (List Int)) (y0_1 : Int) (y1 : (List Int)) (y2 : (List Int)) (y3 : (List Int)) (x16 : Int) (y800004 : (List Int)) : Option X :=
  (bif (decide (x16 < (16 : Int))) then (bif (decide (0 ≤ (mulI .i64 4 x16))) then (bif (decide ((mulI .i64 4 x16) < ((List.length y1) : Int))) then (bif (decide ((Int.toNat (mulI .i64 4 x16)) < (List.length y1))) then (bif (decide (0 ≤ (addI .i64 (mulI .i64 4 x16) 1))) then (bif (decide ((addI .i64 (mulI .i64 4 x16) 1) < ((List.length y1) : Int))) then (bif (decide ((Int.toNat (addI .i64 (mulI .i64 4 x16) 1)) < (List.length y1))) then (bif (decide (0 ≤ (addI .i64 (mulI .i64 4 x16) 2))) then (bif (decide ((addI .i64 (mulI .i64 4 x16) 2) < ((List.length y1) : Int))) then (bif (decide ((Int.toNat (addI .i64 (mulI .i64 4 x16) 2)) < (List.length y1))) then (bif (decide (0 ≤ (addI .i64 (mulI .i64 4 x16) 3))) then (bif (decide ((addI .i64 (mulI .i64 4 x16) 3) < ((List.length y1) : Int))) then (bif (decide ((Int.toNat (addI .i64 (mulI .i64 4 x16) 3)) < (List.length y1))) then (bif (decide (0 ≤ x16)) then (bif (decide (x16 < 64)) then (bif (decide ((Int.toNat x16) < 64)) then (G (addI .i64 x16 1) (List.set y800004 (Int.toNat x16) (orI .u32 (orI .u32 (orI .u32 (shlI .u32 (IntKind.wrap .u32 (List.getD y1 (Int.toNat (mulI .i64 4 x16)) (0 : Int))) 24) (shlI .u32 (IntKind.wrap .u32 (List.getD y1 (Int.toNat (addI .i64 (mulI .i64 4 x16) 1)) (0 : Int))) 16)) (shlI .u32 (IntKind.wrap .u32 (List.getD y1 (Int.toNat (addI .i64 (mulI .i64 4 x16) 2)) (0 : Int))) 8)) (IntKind.wrap .u32 (List.getD y1 (Int.toNat (addI .i64 (mulI .i64 4 x16) 3)) (0 : Int)))))) else none) else none) else none) else none) else none) else none) else none) else none) else none) else none) else none) else none) else none) else none) else none) else (K x16 y800004))
def go {X : Type} (K : Int → (List Int) → Option X) (k : Nat) (y0_0 : (List Int)) (y0_1 : Int) (y1 : (List Int)) (y2 : (List Int)) (y3 : (List Int)) : Nat → Int → (List Int) → Option X
  | 0, _, _ => none
  | n + 1, x16, y800004 => step K (go K k y0_0 y0_1 y1 y2 y3 n) k y0_0 y0_1 y1 y2 y3 x16 y800004
def f (k : Nat) (y0_0 : (List Int)) (y0_1 : Int) (y1 : (List Int)) (y2 : (List Int)) (y3 : (List Int)) (n : Nat) (x16 : Int) (y800004 : (List Int)) : Option (Int × (List Int)) := go (fun x16 y800004 => some (x16, y800004)) k y0_0 y0_1 y1 y2 y3 n x16 y800004
theorem step_nat {X Y : Type} (h : X → Option Y) (K : Int → (List Int) → Option X) (G : Int → (List Int) → Option X) (k : Nat) (y0_0 : (List Int)) (y0_1 : Int) (y1 : (List Int)) (y2 : (List Int)) (y3 : (List Int)) (x16 : Int) (y800004 : (List Int)) : Option.bind (step K G k y0_0 y0_1 y1 y2 y3 x16 y800004) h = step (fun x16 y800004 => Option.bind (K x16 y800004) h) (fun x16 y800004 => Option.bind (G x16 y800004) h) k y0_0 y0_1 y1 y2 y3 x16 y800004 := by
  simp only [step, bif_bind, sel_bind', Option.bind_assoc, Option.bind_none, Option.bind_some]
theorem go_nat {X Y : Type} (h : X → Option Y) (K : Int → (List Int) → Option X) (k : Nat) (y0_0 : (List Int)) (y0_1 : Int) (y1 : (List Int)) (y2 : (List Int)) (y3 : (List Int)) (n : Nat) : ∀ (x16 : Int) (y800004 : (List Int)), Option.bind (go K k y0_0 y0_1 y1 y2 y3 n x16 y800004) h = go (fun x16 y800004 => Option.bind (K x16 y800004) h) k y0_0 y0_1 y1 y2 y3 n x16 y800004 := by
  induction n with
  | zero => intros; rfl
  | succ n ih => intro x16 y800004; show Option.bind (step K (go K k y0_0 y0_1 y1 y2 y3 n) k y0_0 y0_1 y1 y2 y3 x16 y800004) h = step (fun x16 y800004 => Option.bind (K x16 y800004) h) (go (fun x16 y800004 => Option.bind (K x16 y800004) h) k y0_0 y0_1 y1 y2 y3 n) k y0_0 y0_1 y1 y2 y3 x16 y800004; rw [step_nat h]; simp only [ih]
abbrev S : List (Nat × Sh) := [(0, .ptr 0), (1, .vec 1), (4, .ptr 800004), (16, .data (.int .i64))]
abbrev H : List (Nat × ESh) := [(0, .cell (.pair (.data (.arr .u32 8)) (.pair (.vec 3) (.data (.int .u64))))), (1, .rows 0 5 (.int .u8)), (2, .glob 1 (.arr .u32 64)), (3, .rows 1 5 (.int .u8)), (800004, .cell (.data (.arr .u32 64)))]
abbrev cl : List (Place × Nat × Hint) := []
abbrev hn : List (Nat × Hint) := [(0, .any), (1, .any), (4, .any), (16, .any)]
abbrev kp : List Nat := [0, 1, 2, 3]
abbrev rc : List (Place × Nat × Hint) := []
abbrev rs : List (Nat × Hint) := []
abbrev ri : List Nat := [0, 1, 2, 3]
def KX (d : (Unit × Unit × Unit × Int × Unit)) (e : (((List Int) × (Unit × Int)) × (List Int) × (List Int) × (List Int) × (List Int) × Unit)) (v : (Int × (List Int))) : St := ⟨mkS S ((), (), (), v.1, ()), mkH H ((e.1.1, ((), e.1.2.2)), e.2.1, e.2.2.1, e.2.2.2.1, v.2, ())⟩
def sum (k : Nat) : LoopSum := sigLoopX S cl hn kp H 0 (fun (d : (Unit × Unit × Unit × Int × Unit)) (e : (((List Int) × (Unit × Int)) × (List Int) × (List Int) × (List Int) × (List Int) × Unit)) => f k e.1.1 e.1.2.2 e.2.1 e.2.2.1 e.2.2.2.1 k d.2.2.2.1 e.2.2.2.2.1) KX
end l0
namespace l2
def step {X : Type} (K : Int → (List Int) → Option X) (G : Int → (List Int) → Option X) (k : Nat) (y0_0 : (List Int)) (y0_1 : Int) (y1 : (List Int)) (y2 : (List Int)) (y3 : (List Int)) (x6 : Int) (y800004 : (List Int)) : Option X :=
  (bif (decide (x6 < (64 : Int))) then (bif (decide (0 ≤ (subI .i64 x6 15))) then (bif (decide ((subI .i64 x6 15) < 64)) then (bif (decide ((Int.toNat (subI .i64 x6 15)) < 64)) then (bif (decide (0 ≤ (subI .i64 x6 2))) then (bif (decide ((subI .i64 x6 2) < 64)) then (bif (decide ((Int.toNat (subI .i64 x6 2)) < 64)) then (bif (decide (0 ≤ (subI .i64 x6 16))) then (bif (decide ((subI .i64 x6 16) < 64)) then (bif (decide ((Int.toNat (subI .i64 x6 16)) < 64)) then (Option.bind (digest_turn.f k (List.getD y800004 (Int.toNat (subI .i64 x6 15)) 0) ([7, 18] : (List Int))) (fun r2 => (bif (decide (0 ≤ (subI .i64 x6 7))) then (bif (decide ((subI .i64 x6 7) < 64)) then (bif (decide ((Int.toNat (subI .i64 x6 7)) < 64)) then (Option.bind (digest_turn.f k (List.getD y800004 (Int.toNat (subI .i64 x6 2)) 0) ([17, 19] : (List Int))) (fun r3 => (bif (decide (0 ≤ x6)) then (bif (decide (x6 < 64)) then (bif (decide ((Int.toNat x6) < 64)) then (G (addI .i64 x6 1) (List.set y800004 (Int.toNat x6) (addI .u32 (addI .u32 (addI .u32 (List.getD y800004 (Int.toNat (subI .i64 x6 16)) 0) (xorI .u32 r2 (shrI .u32 (List.getD y800004 (Int.toNat (subI .i64 x6 15)) 0) 3))) (List.getD y800004 (Int.toNat (subI .i64 x6 7)) 0)) (xorI .u32 r3 (shrI .u32 (List.getD y800004 (Int.toNat (subI .i64 x6 2)) 0) 10))))) else none) else none) else none))) else none) else none) else none))) else none) else none) else none) else none) else none) else none) else none) else none) else none) else (K x6 y800004))
def go {X : Type} (K : Int → (List Int) → Option X) (k : Nat) (y0_0 : (List Int)) (y0_1 : Int) (y1 : (List Int)) (y2 : (List Int)) (y3 : (List Int)) : Nat → Int → (List Int) → Option X
  | 0, _, _ => none
  | n + 1, x6, y800004 => step K (go K k y0_0 y0_1 y1 y2 y3 n) k y0_0 y0_1 y1 y2 y3 x6 y800004
def f (k : Nat) (y0_0 : (List Int)) (y0_1 : Int) (y1 : (List Int)) (y2 : (List Int)) (y3 : (List Int)) (n : Nat) (x6 : Int) (y800004 : (List Int)) : Option (Int × (List Int)) := go (fun x6 y800004 => some (x6, y800004)) k y0_0 y0_1 y1 y2 y3 n x6 y800004
theorem step_nat {X Y : Type} (h : X → Option Y) (K : Int → (List Int) → Option X) (G : Int → (List Int) → Option X) (k : Nat) (y0_0 : (List Int)) (y0_1 : Int) (y1 : (List Int)) (y2 : (List Int)) (y3 : (List Int)) (x6 : Int) (y800004 : (List Int)) : Option.bind (step K G k y0_0 y0_1 y1 y2 y3 x6 y800004) h = step (fun x6 y800004 => Option.bind (K x6 y800004) h) (fun x6 y800004 => Option.bind (G x6 y800004) h) k y0_0 y0_1 y1 y2 y3 x6 y800004 := by
  simp only [step, bif_bind, sel_bind', Option.bind_assoc, Option.bind_none, Option.bind_some]
theorem go_nat {X Y : Type} (h : X → Option Y) (K : Int → (List Int) → Option X) (k : Nat) (y0_0 : (List Int)) (y0_1 : Int) (y1 : (List Int)) (y2 : (List Int)) (y3 : (List Int)) (n : Nat) : ∀ (x6 : Int) (y800004 : (List Int)), Option.bind (go K k y0_0 y0_1 y1 y2 y3 n x6 y800004) h = go (fun x6 y800004 => Option.bind (K x6 y800004) h) k y0_0 y0_1 y1 y2 y3 n x6 y800004 := by
  induction n with
  | zero => intros; rfl
  | succ n ih => intro x6 y800004; show Option.bind (step K (go K k y0_0 y0_1 y1 y2 y3 n) k y0_0 y0_1 y1 y2 y3 x6 y800004) h = step (fun x6 y800004 => Option.bind (K x6 y800004) h) (go (fun x6 y800004 => Option.bind (K x6 y800004) h) k y0_0 y0_1 y1 y2 y3 n) k y0_0 y0_1 y1 y2 y3 x6 y800004; rw [step_nat h]; simp only [ih]
abbrev S : List (Nat × Sh) := [(0, .ptr 0), (4, .ptr 800004), (6, .data (.int .i64))]
abbrev H : List (Nat × ESh) := [(0, .cell (.pair (.data (.arr .u32 8)) (.pair (.vec 3) (.data (.int .u64))))), (1, .rows 0 5 (.int .u8)), (2, .glob 1 (.arr .u32 64)), (3, .rows 1 5 (.int .u8)), (800004, .cell (.data (.arr .u32 64)))]
abbrev cl : List (Place × Nat × Hint) := []
abbrev hn : List (Nat × Hint) := [(0, .any), (4, .any), (6, .any)]
abbrev kp : List Nat := [0, 1, 2, 3]
abbrev rc : List (Place × Nat × Hint) := []
abbrev rs : List (Nat × Hint) := []
abbrev ri : List Nat := [0, 1, 2, 3]
def KX (d : (Unit × Unit × Int × Unit)) (e : (((List Int) × (Unit × Int)) × (List Int) × (List Int) × (List Int) × (List Int) × Unit)) (v : (Int × (List Int))) : St := ⟨mkS S ((), (), v.1, ()), mkH H ((e.1.1, ((), e.1.2.2)), e.2.1, e.2.2.1, e.2.2.2.1, v.2, ())⟩
def sum (k : Nat) : LoopSum := sigLoopX S cl hn kp H 2 (fun (d : (Unit × Unit × Int × Unit)) (e : (((List Int) × (Unit × Int)) × (List Int) × (List Int) × (List Int) × (List Int) × Unit)) => f k e.1.1 e.1.2.2 e.2.1 e.2.2.1 e.2.2.2.1 k d.2.2.1 e.2.2.2.2.1) KX
end l2
namespace l4
def step {X : Type} (K : Int → (List Int) → Option X) (G : Int → (List Int) → Option X) (k : Nat) (y0_0 : (List Int)) (y0_1 : Int) (y1 : (List Int)) (y2 : (List Int)) (y3 : (List Int)) (y800004 : (List Int)) (x96 : Int) (y800005 : (List Int)) : Option X :=
  (bif (decide (x96 < (64 : Int))) then (Option.bind (digest_turn.f k (List.getD y800005 4 0) ([6, 11, 25] : (List Int))) (fun r5 => (bif (decide (0 ≤ x96)) then (bif (decide (x96 < 64)) then (bif (decide ((Int.toNat x96) < 64)) then (bif (decide (0 ≤ x96)) then (bif (decide (x96 < 64)) then (bif (decide ((Int.toNat x96) < 64)) then (Option.bind (digest_turn.f k (List.getD y800005 0 0) ([2, 13, 22] : (List Int))) (fun r6 => (G (addI .i64 x96 1) ([(addI .u32 (addI .u32 (addI .u32 (addI .u32 (addI .u32 (List.getD y800005 7 0) r5) (xorI .u32 (andI .u32 (List.getD y800005 4 0) (List.getD y800005 5 0)) (andI .u32 (notI .u32 (List.getD y800005 4 0)) (List.getD y800005 6 0)))) (List.getD y2 (Int.toNat x96) 0)) (List.getD y800004 (Int.toNat x96) 0)) (addI .u32 r6 (xorI .u32 (xorI .u32 (andI .u32 (List.getD y800005 0 0) (List.getD y800005 1 0)) (andI .u32 (List.getD y800005 0 0) (List.getD y800005 2 0))) (andI .u32 (List.getD y800005 1 0) (List.getD y800005 2 0))))), (List.getD y800005 0 0), (List.getD y800005 1 0), (List.getD y800005 2 0), (addI .u32 (List.getD y800005 3 0) (addI .u32 (addI .u32 (addI .u32 (addI .u32 (List.getD y800005 7 0) r5) (xorI .u32 (andI .u32 (List.getD y800005 4 0) (List.getD y800005 5 0)) (andI .u32 (notI .u32 (List.getD y800005 4 0)) (List.getD y800005 6 0)))) (List.getD y2 (Int.toNat x96) 0)) (List.getD y800004 (Int.toNat x96) 0))), (List.getD y800005 4 0), (List.getD y800005 5 0), (List.getD y800005 6 0)] : (List Int))))) else none) else none) else none) else none) else none) else none))) else (K x96 y800005))
def go {X : Type} (K : Int → (List Int) → Option X) (k : Nat) (y0_0 : (List Int)) (y0_1 : Int) (y1 : (List Int)) (y2 : (List Int)) (y3 : (List Int)) (y800004 : (List Int)) : Nat → Int → (List Int) → Option X
  | 0, _, _ => none
  | n + 1, x96, y800005 => step K (go K k y0_0 y0_1 y1 y2 y3 y800004 n) k y0_0 y0_1 y1 y2 y3 y800004 x96 y800005
def f (k : Nat) (y0_0 : (List Int)) (y0_1 : Int) (y1 : (List Int)) (y2 : (List Int)) (y3 : (List Int)) (y800004 : (List Int)) (n : Nat) (x96 : Int) (y800005 : (List Int)) : Option (Int × (List Int)) := go (fun x96 y800005 => some (x96, y800005)) k y0_0 y0_1 y1 y2 y3 y800004 n x96 y800005
theorem step_nat {X Y : Type} (h : X → Option Y) (K : Int → (List Int) → Option X) (G : Int → (List Int) → Option X) (k : Nat) (y0_0 : (List Int)) (y0_1 : Int) (y1 : (List Int)) (y2 : (List Int)) (y3 : (List Int)) (y800004 : (List Int)) (x96 : Int) (y800005 : (List Int)) : Option.bind (step K G k y0_0 y0_1 y1 y2 y3 y800004 x96 y800005) h = step (fun x96 y800005 => Option.bind (K x96 y800005) h) (fun x96 y800005 => Option.bind (G x96 y800005) h) k y0_0 y0_1 y1 y2 y3 y800004 x96 y800005 := by
  simp only [step, bif_bind, sel_bind', Option.bind_assoc, Option.bind_none, Option.bind_some]
theorem go_nat {X Y : Type} (h : X → Option Y) (K : Int → (List Int) → Option X) (k : Nat) (y0_0 : (List Int)) (y0_1 : Int) (y1 : (List Int)) (y2 : (List Int)) (y3 : (List Int)) (y800004 : (List Int)) (n : Nat) : ∀ (x96 : Int) (y800005 : (List Int)), Option.bind (go K k y0_0 y0_1 y1 y2 y3 y800004 n x96 y800005) h = go (fun x96 y800005 => Option.bind (K x96 y800005) h) k y0_0 y0_1 y1 y2 y3 y800004 n x96 y800005 := by
  induction n with
  | zero => intros; rfl
  | succ n ih => intro x96 y800005; show Option.bind (step K (go K k y0_0 y0_1 y1 y2 y3 y800004 n) k y0_0 y0_1 y1 y2 y3 y800004 x96 y800005) h = step (fun x96 y800005 => Option.bind (K x96 y800005) h) (go (fun x96 y800005 => Option.bind (K x96 y800005) h) k y0_0 y0_1 y1 y2 y3 y800004 n) k y0_0 y0_1 y1 y2 y3 y800004 x96 y800005; rw [step_nat h]; simp only [ih]
abbrev S : List (Nat × Sh) := [(0, .ptr 0), (4, .ptr 800004), (9, .ptr 800005), (96, .data (.int .i64))]
abbrev H : List (Nat × ESh) := [(0, .cell (.pair (.data (.arr .u32 8)) (.pair (.vec 3) (.data (.int .u64))))), (1, .rows 0 5 (.int .u8)), (2, .glob 1 (.arr .u32 64)), (3, .rows 1 5 (.int .u8)), (800004, .cell (.data (.arr .u32 64))), (800005, .cell (.data (.arr .u32 8)))]
abbrev cl : List (Place × Nat × Hint) := []
abbrev hn : List (Nat × Hint) := [(0, .any), (4, .any), (9, .any), (96, .any)]
abbrev kp : List Nat := [0, 1, 2, 3]
abbrev rc : List (Place × Nat × Hint) := []
abbrev rs : List (Nat × Hint) := []
abbrev ri : List Nat := [0, 1, 2, 3]
def KX (d : (Unit × Unit × Unit × Int × Unit)) (e : (((List Int) × (Unit × Int)) × (List Int) × (List Int) × (List Int) × (List Int) × (List Int) × Unit)) (v : (Int × (List Int))) : St := ⟨mkS S ((), (), (), v.1, ()), mkH H ((e.1.1, ((), e.1.2.2)), e.2.1, e.2.2.1, e.2.2.2.1, e.2.2.2.2.1, v.2, ())⟩
def sum (k : Nat) : LoopSum := sigLoopX S cl hn kp H 4 (fun (d : (Unit × Unit × Unit × Int × Unit)) (e : (((List Int) × (Unit × Int)) × (List Int) × (List Int) × (List Int) × (List Int) × (List Int) × Unit)) => f k e.1.1 e.1.2.2 e.2.1 e.2.2.1 e.2.2.2.1 e.2.2.2.2.1 k d.2.2.2.1 e.2.2.2.2.2.1) KX
end l4
namespace l6
def step {X : Type} (K : Int → (List Int) → Option X) (G : Int → (List Int) → Option X) (k : Nat) (y0_1 : Int) (y1 : (List Int)) (y2 : (List Int)) (y3 : (List Int)) (y800004 : (List Int)) (x172 : Int) (y0_0 : (List Int)) : Option X :=
  (bif (decide (x172 < (8 : Int))) then (bif (decide (0 ≤ x172)) then (bif (decide (x172 < 8)) then (bif (decide ((Int.toNat x172) < 8)) then (bif (decide (0 ≤ x172)) then (bif (decide (x172 < 8)) then (bif (decide ((Int.toNat x172) < 8)) then (bif (decide (0 ≤ x172)) then (bif (decide (x172 < 8)) then (bif (decide ((Int.toNat x172) < 8)) then (G (addI .i64 x172 1) (List.set y0_0 (Int.toNat x172) (addI .u32 (List.getD y0_0 (Int.toNat x172) 0) (List.getD y800004 (Int.toNat x172) 0)))) else none) else none) else none) else none) else none) else none) else none) else none) else none) else (K x172 y0_0))
def go {X : Type} (K : Int → (List Int) → Option X) (k : Nat) (y0_1 : Int) (y1 : (List Int)) (y2 : (List Int)) (y3 : (List Int)) (y800004 : (List Int)) : Nat → Int → (List Int) → Option X
  | 0, _, _ => none
  | n + 1, x172, y0_0 => step K (go K k y0_1 y1 y2 y3 y800004 n) k y0_1 y1 y2 y3 y800004 x172 y0_0
def f (k : Nat) (y0_1 : Int) (y1 : (List Int)) (y2 : (List Int)) (y3 : (List Int)) (y800004 : (List Int)) (n : Nat) (x172 : Int) (y0_0 : (List Int)) : Option (Int × (List Int)) := go (fun x172 y0_0 => some (x172, y0_0)) k y0_1 y1 y2 y3 y800004 n x172 y0_0
theorem step_nat {X Y : Type} (h : X → Option Y) (K : Int → (List Int) → Option X) (G : Int → (List Int) → Option X) (k : Nat) (y0_1 : Int) (y1 : (List Int)) (y2 : (List Int)) (y3 : (List Int)) (y800004 : (List Int)) (x172 : Int) (y0_0 : (List Int)) : Option.bind (step K G k y0_1 y1 y2 y3 y800004 x172 y0_0) h = step (fun x172 y0_0 => Option.bind (K x172 y0_0) h) (fun x172 y0_0 => Option.bind (G x172 y0_0) h) k y0_1 y1 y2 y3 y800004 x172 y0_0 := by
  simp only [step, bif_bind, sel_bind', Option.bind_assoc, Option.bind_none, Option.bind_some]
theorem go_nat {X Y : Type} (h : X → Option Y) (K : Int → (List Int) → Option X) (k : Nat) (y0_1 : Int) (y1 : (List Int)) (y2 : (List Int)) (y3 : (List Int)) (y800004 : (List Int)) (n : Nat) : ∀ (x172 : Int) (y0_0 : (List Int)), Option.bind (go K k y0_1 y1 y2 y3 y800004 n x172 y0_0) h = go (fun x172 y0_0 => Option.bind (K x172 y0_0) h) k y0_1 y1 y2 y3 y800004 n x172 y0_0 := by
  induction n with
  | zero => intros; rfl
  | succ n ih => intro x172 y0_0; show Option.bind (step K (go K k y0_1 y1 y2 y3 y800004 n) k y0_1 y1 y2 y3 y800004 x172 y0_0) h = step (fun x172 y0_0 => Option.bind (K x172 y0_0) h) (go (fun x172 y0_0 => Option.bind (K x172 y0_0) h) k y0_1 y1 y2 y3 y800004 n) k y0_1 y1 y2 y3 y800004 x172 y0_0; rw [step_nat h]; simp only [ih]
abbrev S : List (Nat × Sh) := [(0, .ptr 0), (9, .ptr 800004), (172, .data (.int .i64))]
abbrev H : List (Nat × ESh) := [(0, .cell (.pair (.data (.arr .u32 8)) (.pair (.vec 3) (.data (.int .u64))))), (1, .rows 0 5 (.int .u8)), (2, .glob 1 (.arr .u32 64)), (3, .rows 1 5 (.int .u8)), (800004, .cell (.data (.arr .u32 8)))]
abbrev cl : List (Place × Nat × Hint) := []
abbrev hn : List (Nat × Hint) := [(0, .any), (9, .any), (172, .any)]
abbrev kp : List Nat := [0, 1, 2, 3]
abbrev rc : List (Place × Nat × Hint) := []
abbrev rs : List (Nat × Hint) := []
abbrev ri : List Nat := [0, 1, 2, 3]
def KX (d : (Unit × Unit × Int × Unit)) (e : (((List Int) × (Unit × Int)) × (List Int) × (List Int) × (List Int) × (List Int) × Unit)) (v : (Int × (List Int))) : St := ⟨mkS S ((), (), v.1, ()), mkH H ((v.2, ((), e.1.2.2)), e.2.1, e.2.2.1, e.2.2.2.1, e.2.2.2.2.1, ())⟩
def sum (k : Nat) : LoopSum := sigLoopX S cl hn kp H 6 (fun (d : (Unit × Unit × Int × Unit)) (e : (((List Int) × (Unit × Int)) × (List Int) × (List Int) × (List Int) × (List Int) × Unit)) => f k e.1.2.2 e.2.1 e.2.2.1 e.2.2.2.1 e.2.2.2.2.1 k d.2.2.1 e.1.1) KX
end l6
def tree {X : Type} (K : (List Int) → Int → Option X) (k : Nat) (m0_0 : (List Int)) (m0_1 : Int) (m1 : (List Int)) (m2 : (List Int)) (m3 : (List Int)) : Option X :=
  (Option.bind (digest_Hasher_take.l0.f k m0_0 m0_1 m1 m2 m3 k (0 : Int) ([0, 0, 0, 0, 0, 0, 0, 0, 0, 0, 0, 0, 0, 0, 0, 0, 0, 0, 0, 0, 0, 0, 0, 0, 0, 0, 0, 0, 0, 0, 0, 0, 0, 0, 0, 0, 0, 0, 0, 0, 0, 0, 0, 0, 0, 0, 0, 0, 0, 0, 0, 0, 0, 0, 0, 0, 0, 0, 0, 0, 0, 0, 0, 0] : (List Int))) (fun r1 => (Option.bind (digest_Hasher_take.l2.f k m0_0 m0_1 m1 m2 m3 k (16 : Int) r1.2) (fun r4 => (Option.bind (digest_Hasher_take.l4.f k m0_0 m0_1 m1 m2 m3 r4.2 k (0 : Int) m0_0) (fun r7 => (Option.bind (digest_Hasher_take.l6.f k m0_1 m1 m2 m3 r7.2 k (0 : Int) m0_0) (fun r8 => (K r8.2 m0_1)))))))))
def f (k : Nat) (m0_0 : (List Int)) (m0_1 : Int) (m1 : (List Int)) (m2 : (List Int)) (m3 : (List Int)) : Option ((List Int) × Int) := tree (fun b0 b1 => some (b0, b1)) k m0_0 m0_1 m1 m2 m3
theorem tree_nat {X Y : Type} (h : X → Option Y) (K : (List Int) → Int → Option X) (k : Nat) (m0_0 : (List Int)) (m0_1 : Int) (m1 : (List Int)) (m2 : (List Int)) (m3 : (List Int)) : Option.bind (tree K k m0_0 m0_1 m1 m2 m3) h = tree (fun b0 b1 => Option.bind (K b0 b1) h) k m0_0 m0_1 m1 m2 m3 := by
  simp only [tree, bif_bind, sel_bind', Option.bind_assoc, Option.bind_none, Option.bind_some]
abbrev ps : List Sh := [.ptr 0, .vec 1]
abbrev hs : List (Nat × ESh) := [(0, .cell (.pair (.data (.arr .u32 8)) (.pair (.vec 3) (.data (.int .u64))))), (1, .rows 0 5 (.int .u8)), (2, .glob 1 (.arr .u32 64)), (3, .rows 1 5 (.int .u8))]
abbrev hi : List Nat := hs.map (·.1)
abbrev fi : List Nat := [0, 1, 2, 3]
abbrev cl : List (Place × Nat × Hint) := []
abbrev hn : List Hint := []
def val (t : ((List Int) × Int)) : AV := .tnil
def wr (t : ((List Int) × Int)) : Heap := [(0, ESh.mk (.cell (.pair (.data (.arr .u32 8)) (.pair (.vec 3) (.data (.int .u64))))) (t.1, ((), t.2)))]
def callee (k : Nat) : Callee := sigCallee ps hs (fun (d : (Unit × Unit × Unit)) (e : (((List Int) × (Unit × Int)) × (List Int) × (List Int) × (List Int) × Unit)) => f k e.1.1 e.1.2.2 e.2.1 e.2.2.1 e.2.2.2.1) val wr
def E (k : Nat) : Env := ⟨fnTab [(33, [digest_turn.callee k])], loopTab [(0, l0.sum k), (2, l2.sum k), (4, l4.sum k), (6, l6.sum k)], natsTab [], natTab [(1, 2)]⟩
theorem fE (k : Nat) : ∀ f, ∀ c ∈ (E k).fn f, CalleeOK Tryd.prog f c := fnTab_ok ⟨⟨digest_turn.ok k, trivial⟩, trivial⟩
namespace l0
theorem round (k : Nat) (d : (Unit × Unit × Unit × Int × Unit)) (e : (((List Int) × (Unit × Int)) × (List Int) × (List Int) × (List Int) × (List Int) × Unit)) (G : St → Option (Ex × St)) : roundK Tryd.prog (E k) 189 0 (subC (bodyOf Tryd.f32) [1, 0, 1, 0, 0]) (recast cl hn kp) (finBy cl hn kp rc rs ri) G ⟨mkS S d, mkH H e⟩ =
    step (fun x16 y800004 => some (.exit 0, KX d e (x16, y800004))) (fun x16 y800004 => G ⟨mkS S ((), (), (), x16, ()), mkH H ((e.1.1, ((), e.1.2.2)), e.2.1, e.2.2.1, e.2.2.2.1, y800004, ())⟩) k e.1.1 e.1.2.2 e.2.1 e.2.2.1 e.2.2.2.1 d.2.2.2.1 e.2.2.2.2.1 := by kernel_rfl
theorem it (k n : Nat) (d : (Unit × Unit × Unit × Int × Unit)) (e : (((List Int) × (Unit × Int)) × (List Int) × (List Int) × (List Int) × (List Int) × Unit)) : loopIt Tryd.prog (E k) 189 0 (subC (bodyOf Tryd.f32) [1, 0, 1, 0, 0]) (recast cl hn kp) (finBy cl hn kp rc rs ri) n ⟨mkS S d, mkH H e⟩ = go (fun x16 y800004 => some (.exit 0, KX d e (x16, y800004))) k e.1.1 e.1.2.2 e.2.1 e.2.2.1 e.2.2.2.1 n d.2.2.2.1 e.2.2.2.2.1 :=
  loopIt_eq (D := (Unit × Unit × Unit × Int × Unit) × (((List Int) × (Unit × Int)) × (List Int) × (List Int) × (List Int) × (List Int) × Unit)) (fun p => ⟨mkS S p.1, mkH H p.2⟩) (fun F p => step (fun x16 y800004 => some (.exit 0, KX p.1 p.2 (x16, y800004))) (fun x16 y800004 => F (((), (), (), x16, ()), ((p.2.1.1, ((), p.2.1.2.2)), p.2.2.1, p.2.2.2.1, p.2.2.2.2.1, y800004, ()))) k p.2.1.1 p.2.1.2.2 p.2.2.1 p.2.2.2.1 p.2.2.2.2.1 p.1.2.2.2.1 p.2.2.2.2.2.1) (fun n p => go (fun x16 y800004 => some (.exit 0, KX p.1 p.2 (x16, y800004))) k p.2.1.1 p.2.1.2.2 p.2.2.1 p.2.2.2.1 p.2.2.2.2.1 n p.1.2.2.2.1 p.2.2.2.2.2.1) (fun _ => rfl) (fun _ _ => rfl) (fun G p => round k p.1 p.2 G) n (d, e)
theorem ok (k : Nat) : LoopOK Tryd.prog 189 (subC (bodyOf Tryd.f32) [1, 0, 1, 0, 0]) (sum k) :=
  loop_sigX hm (fE k) (loopsOK_of [] (by kernel_rfl) trivial) S cl hn kp H 0 (fun (d : (Unit × Unit × Unit × Int × Unit)) (e : (((List Int) × (Unit × Int)) × (List Int) × (List Int) × (List Int) × (List Int) × Unit)) => f k e.1.1 e.1.2.2 e.2.1 e.2.2.1 e.2.2.2.1 k d.2.2.2.1 e.2.2.2.2.1) KX cl hn kp rc rs ri k
    (fun d e => (it k k d e).trans (go_nat (fun v => some (Ex.exit 0, KX d e v)) (fun x16 y800004 => some (x16, y800004)) k e.1.1 e.1.2.2 e.2.1 e.2.2.1 e.2.2.2.1 k d.2.2.2.1 e.2.2.2.2.1).symm)
end l0
namespace l2
theorem round (k : Nat) (d : (Unit × Unit × Int × Unit)) (e : (((List Int) × (Unit × Int)) × (List Int) × (List Int) × (List Int) × (List Int) × Unit)) (G : St → Option (Ex × St)) : roundK Tryd.prog (E k) 189 2 (subC (bodyOf Tryd.f32) [1, 1, 0, 1, 0, 0]) (recast cl hn kp) (finBy cl hn kp rc rs ri) G ⟨mkS S d, mkH H e⟩ =
    step (fun x6 y800004 => some (.exit 2, KX d e (x6, y800004))) (fun x6 y800004 => G ⟨mkS S ((), (), x6, ()), mkH H ((e.1.1, ((), e.1.2.2)), e.2.1, e.2.2.1, e.2.2.2.1, y800004, ())⟩) k e.1.1 e.1.2.2 e.2.1 e.2.2.1 e.2.2.2.1 d.2.2.1 e.2.2.2.2.1 := by kernel_rfl
theorem it (k n : Nat) (d : (Unit × Unit × Int × Unit)) (e : (((List Int) × (Unit × Int)) × (List Int) × (List Int) × (List Int) × (List Int) × Unit)) : loopIt Tryd.prog (E k) 189 2 (subC (bodyOf Tryd.f32) [1, 1, 0, 1, 0, 0]) (recast cl hn kp) (finBy cl hn kp rc rs ri) n ⟨mkS S d, mkH H e⟩ = go (fun x6 y800004 => some (.exit 2, KX d e (x6, y800004))) k e.1.1 e.1.2.2 e.2.1 e.2.2.1 e.2.2.2.1 n d.2.2.1 e.2.2.2.2.1 :=
  loopIt_eq (D := (Unit × Unit × Int × Unit) × (((List Int) × (Unit × Int)) × (List Int) × (List Int) × (List Int) × (List Int) × Unit)) (fun p => ⟨mkS S p.1, mkH H p.2⟩) (fun F p => step (fun x6 y800004 => some (.exit 2, KX p.1 p.2 (x6, y800004))) (fun x6 y800004 => F (((), (), x6, ()), ((p.2.1.1, ((), p.2.1.2.2)), p.2.2.1, p.2.2.2.1, p.2.2.2.2.1, y800004, ()))) k p.2.1.1 p.2.1.2.2 p.2.2.1 p.2.2.2.1 p.2.2.2.2.1 p.1.2.2.1 p.2.2.2.2.2.1) (fun n p => go (fun x6 y800004 => some (.exit 2, KX p.1 p.2 (x6, y800004))) k p.2.1.1 p.2.1.2.2 p.2.2.1 p.2.2.2.1 p.2.2.2.2.1 n p.1.2.2.1 p.2.2.2.2.2.1) (fun _ => rfl) (fun _ _ => rfl) (fun G p => round k p.1 p.2 G) n (d, e)
theorem ok (k : Nat) : LoopOK Tryd.prog 189 (subC (bodyOf Tryd.f32) [1, 1, 0, 1, 0, 0]) (sum k) :=
  loop_sigX hm (fE k) (loopsOK_of [] (by kernel_rfl) trivial) S cl hn kp H 2 (fun (d : (Unit × Unit × Int × Unit)) (e : (((List Int) × (Unit × Int)) × (List Int) × (List Int) × (List Int) × (List Int) × Unit)) => f k e.1.1 e.1.2.2 e.2.1 e.2.2.1 e.2.2.2.1 k d.2.2.1 e.2.2.2.2.1) KX cl hn kp rc rs ri k
    (fun d e => (it k k d e).trans (go_nat (fun v => some (Ex.exit 2, KX d e v)) (fun x6 y800004 => some (x6, y800004)) k e.1.1 e.1.2.2 e.2.1 e.2.2.1 e.2.2.2.1 k d.2.2.1 e.2.2.2.2.1).symm)
end l2
namespace l4
theorem round (k : Nat) (d : (Unit × Unit × Unit × Int × Unit)) (e : (((List Int) × (Unit × Int)) × (List Int) × (List Int) × (List Int) × (List Int) × (List Int) × Unit)) (G : St → Option (Ex × St)) : roundK Tryd.prog (E k) 189 4 (subC (bodyOf Tryd.f32) [1, 1, 1, 1, 0, 1, 0, 0]) (recast cl hn kp) (finBy cl hn kp rc rs ri) G ⟨mkS S d, mkH H e⟩ =
    step (fun x96 y800005 => some (.exit 4, KX d e (x96, y800005))) (fun x96 y800005 => G ⟨mkS S ((), (), (), x96, ()), mkH H ((e.1.1, ((), e.1.2.2)), e.2.1, e.2.2.1, e.2.2.2.1, e.2.2.2.2.1, y800005, ())⟩) k e.1.1 e.1.2.2 e.2.1 e.2.2.1 e.2.2.2.1 e.2.2.2.2.1 d.2.2.2.1 e.2.2.2.2.2.1 := by kernel_rfl
theorem it (k n : Nat) (d : (Unit × Unit × Unit × Int × Unit)) (e : (((List Int) × (Unit × Int)) × (List Int) × (List Int) × (List Int) × (List Int) × (List Int) × Unit)) : loopIt Tryd.prog (E k) 189 4 (subC (bodyOf Tryd.f32) [1, 1, 1, 1, 0, 1, 0, 0]) (recast cl hn kp) (finBy cl hn kp rc rs ri) n ⟨mkS S d, mkH H e⟩ = go (fun x96 y800005 => some (.exit 4, KX d e (x96, y800005))) k e.1.1 e.1.2.2 e.2.1 e.2.2.1 e.2.2.2.1 e.2.2.2.2.1 n d.2.2.2.1 e.2.2.2.2.2.1 :=
  loopIt_eq (D := (Unit × Unit × Unit × Int × Unit) × (((List Int) × (Unit × Int)) × (List Int) × (List Int) × (List Int) × (List Int) × (List Int) × Unit)) (fun p => ⟨mkS S p.1, mkH H p.2⟩) (fun F p => step (fun x96 y800005 => some (.exit 4, KX p.1 p.2 (x96, y800005))) (fun x96 y800005 => F (((), (), (), x96, ()), ((p.2.1.1, ((), p.2.1.2.2)), p.2.2.1, p.2.2.2.1, p.2.2.2.2.1, p.2.2.2.2.2.1, y800005, ()))) k p.2.1.1 p.2.1.2.2 p.2.2.1 p.2.2.2.1 p.2.2.2.2.1 p.2.2.2.2.2.1 p.1.2.2.2.1 p.2.2.2.2.2.2.1) (fun n p => go (fun x96 y800005 => some (.exit 4, KX p.1 p.2 (x96, y800005))) k p.2.1.1 p.2.1.2.2 p.2.2.1 p.2.2.2.1 p.2.2.2.2.1 p.2.2.2.2.2.1 n p.1.2.2.2.1 p.2.2.2.2.2.2.1) (fun _ => rfl) (fun _ _ => rfl) (fun G p => round k p.1 p.2 G) n (d, e)
theorem ok (k : Nat) : LoopOK Tryd.prog 189 (subC (bodyOf Tryd.f32) [1, 1, 1, 1, 0, 1, 0, 0]) (sum k) :=
  loop_sigX hm (fE k) (loopsOK_of [] (by kernel_rfl) trivial) S cl hn kp H 4 (fun (d : (Unit × Unit × Unit × Int × Unit)) (e : (((List Int) × (Unit × Int)) × (List Int) × (List Int) × (List Int) × (List Int) × (List Int) × Unit)) => f k e.1.1 e.1.2.2 e.2.1 e.2.2.1 e.2.2.2.1 e.2.2.2.2.1 k d.2.2.2.1 e.2.2.2.2.2.1) KX cl hn kp rc rs ri k
    (fun d e => (it k k d e).trans (go_nat (fun v => some (Ex.exit 4, KX d e v)) (fun x96 y800005 => some (x96, y800005)) k e.1.1 e.1.2.2 e.2.1 e.2.2.1 e.2.2.2.1 e.2.2.2.2.1 k d.2.2.2.1 e.2.2.2.2.2.1).symm)
end l4
namespace l6
theorem round (k : Nat) (d : (Unit × Unit × Int × Unit)) (e : (((List Int) × (Unit × Int)) × (List Int) × (List Int) × (List Int) × (List Int) × Unit)) (G : St → Option (Ex × St)) : roundK Tryd.prog (E k) 189 6 (subC (bodyOf Tryd.f32) [1, 1, 1, 1, 1, 1, 0, 0]) (recast cl hn kp) (finBy cl hn kp rc rs ri) G ⟨mkS S d, mkH H e⟩ =
    step (fun x172 y0_0 => some (.exit 6, KX d e (x172, y0_0))) (fun x172 y0_0 => G ⟨mkS S ((), (), x172, ()), mkH H ((y0_0, ((), e.1.2.2)), e.2.1, e.2.2.1, e.2.2.2.1, e.2.2.2.2.1, ())⟩) k e.1.2.2 e.2.1 e.2.2.1 e.2.2.2.1 e.2.2.2.2.1 d.2.2.1 e.1.1 := by kernel_rfl
theorem it (k n : Nat) (d : (Unit × Unit × Int × Unit)) (e : (((List Int) × (Unit × Int)) × (List Int) × (List Int) × (List Int) × (List Int) × Unit)) : loopIt Tryd.prog (E k) 189 6 (subC (bodyOf Tryd.f32) [1, 1, 1, 1, 1, 1, 0, 0]) (recast cl hn kp) (finBy cl hn kp rc rs ri) n ⟨mkS S d, mkH H e⟩ = go (fun x172 y0_0 => some (.exit 6, KX d e (x172, y0_0))) k e.1.2.2 e.2.1 e.2.2.1 e.2.2.2.1 e.2.2.2.2.1 n d.2.2.1 e.1.1 :=
  loopIt_eq (D := (Unit × Unit × Int × Unit) × (((List Int) × (Unit × Int)) × (List Int) × (List Int) × (List Int) × (List Int) × Unit)) (fun p => ⟨mkS S p.1, mkH H p.2⟩) (fun F p => step (fun x172 y0_0 => some (.exit 6, KX p.1 p.2 (x172, y0_0))) (fun x172 y0_0 => F (((), (), x172, ()), ((y0_0, ((), p.2.1.2.2)), p.2.2.1, p.2.2.2.1, p.2.2.2.2.1, p.2.2.2.2.2.1, ()))) k p.2.1.2.2 p.2.2.1 p.2.2.2.1 p.2.2.2.2.1 p.2.2.2.2.2.1 p.1.2.2.1 p.2.1.1) (fun n p => go (fun x172 y0_0 => some (.exit 6, KX p.1 p.2 (x172, y0_0))) k p.2.1.2.2 p.2.2.1 p.2.2.2.1 p.2.2.2.2.1 p.2.2.2.2.2.1 n p.1.2.2.1 p.2.1.1) (fun _ => rfl) (fun _ _ => rfl) (fun G p => round k p.1 p.2 G) n (d, e)
theorem ok (k : Nat) : LoopOK Tryd.prog 189 (subC (bodyOf Tryd.f32) [1, 1, 1, 1, 1, 1, 0, 0]) (sum k) :=
  loop_sigX hm (fE k) (loopsOK_of [] (by kernel_rfl) trivial) S cl hn kp H 6 (fun (d : (Unit × Unit × Int × Unit)) (e : (((List Int) × (Unit × Int)) × (List Int) × (List Int) × (List Int) × (List Int) × Unit)) => f k e.1.2.2 e.2.1 e.2.2.1 e.2.2.2.1 e.2.2.2.2.1 k d.2.2.1 e.1.1) KX cl hn kp rc rs ri k
    (fun d e => (it k k d e).trans (go_nat (fun v => some (Ex.exit 6, KX d e v)) (fun x172 y0_0 => some (x172, y0_0)) k e.1.2.2 e.2.1 e.2.2.1 e.2.2.2.1 e.2.2.2.2.1 k d.2.2.1 e.1.1).symm)
end l6
theorem run (k : Nat) (d : (Unit × Unit × Unit)) (e : (((List Int) × (Unit × Int)) × (List Int) × (List Int) × (List Int) × Unit)) : runFn Tryd.prog (E k) 189 (bodyOf Tryd.f32) Tryd.f32.results.toList cl hn hi (mkL ps d) (mkH hs e) =
    tree (fun b0 b1 => leafFn hs fi e val wr (b0, b1)) k e.1.1 e.1.2.2 e.2.1 e.2.2.1 e.2.2.2.1 := by kernel_rfl
theorem run_f (k : Nat) (d : (Unit × Unit × Unit)) (e : (((List Int) × (Unit × Int)) × (List Int) × (List Int) × (List Int) × Unit)) : runFn Tryd.prog (E k) 189 (bodyOf Tryd.f32) Tryd.f32.results.toList cl hn hi (mkL ps d) (mkH hs e) = (f k e.1.1 e.1.2.2 e.2.1 e.2.2.1 e.2.2.2.1).bind (leafFn hs fi e val wr) :=
  (run k d e).trans (tree_nat (leafFn hs fi e val wr) (fun b0 b1 => some (b0, b1)) k e.1.1 e.1.2.2 e.2.1 e.2.2.1 e.2.2.2.1).symm
theorem fnIs : FnIs Tryd.prog 32 Tryd.f32 (bodyOf Tryd.f32) 189 := ⟨by kernel_rfl, by kernel_rfl, by kernel_rfl, by kernel_rfl⟩
theorem ok (k : Nat) : CalleeOK Tryd.prog 32 (callee k) :=
  callee_sig (T := ((List Int) × Int)) fnIs hm (fE k) (loopsOK_of [(0, subC (bodyOf Tryd.f32) [1, 0, 1, 0, 0]), (2, subC (bodyOf Tryd.f32) [1, 1, 0, 1, 0, 0]), (4, subC (bodyOf Tryd.f32) [1, 1, 1, 1, 0, 1, 0, 0]), (6, subC (bodyOf Tryd.f32) [1, 1, 1, 1, 1, 1, 0, 0])] (by kernel_rfl) ⟨of_loop (l0.sum k) rfl (l0.ok k), ⟨of_loop (l2.sum k) rfl (l2.ok k), ⟨of_loop (l4.sum k) rfl (l4.ok k), ⟨of_loop (l6.sum k) rfl (l6.ok k), trivial⟩⟩⟩⟩) ps hs cl hn fi (fun (d : (Unit × Unit × Unit)) (e : (((List Int) × (Unit × Int)) × (List Int) × (List Int) × (List Int) × Unit)) => f k e.1.1 e.1.2.2 e.2.1 e.2.2.1 e.2.2.2.1) val wr rfl (fun _ => rfl) (run_f k)
end digest_Hasher_take
namespace digest_Hasher_Write
namespace l2
def step {X : Type} (K : (List Int) → Int → (List Int) → Option X) (G : (List Int) → Int → (List Int) → Option X) (k : Nat) (x9 : Int) (x10 : Int) (y1 : (List (List Int))) (y2 : (List Int)) (y0_0 : (List Int)) (y0_1 : Int) (y800003 : (List Int)) : Option X :=
  (bif (decide (((List.length y800003) : Int) ≥ (64 : Int))) then (bif (decide (64 ≤ ((List.length y800003) : Int))) then (Option.bind (digest_Hasher_take.f k y0_0 y0_1 (List.take 64 y800003) y2 y800003) (fun r1 => (bif (decide (64 ≤ ((List.length y800003) : Int))) then (G r1.1 r1.2 (List.drop 64 y800003)) else none))) else none) else (K y0_0 y0_1 y800003))
def go {X : Type} (K : (List Int) → Int → (List Int) → Option X) (k : Nat) (x9 : Int) (x10 : Int) (y1 : (List (List Int))) (y2 : (List Int)) : Nat → (List Int) → Int → (List Int) → Option X
  | 0, _, _, _ => none
  | n + 1, y0_0, y0_1, y800003 => step K (go K k x9 x10 y1 y2 n) k x9 x10 y1 y2 y0_0 y0_1 y800003
def f (k : Nat) (x9 : Int) (x10 : Int) (y1 : (List (List Int))) (y2 : (List Int)) (n : Nat) (y0_0 : (List Int)) (y0_1 : Int) (y800003 : (List Int)) : Option ((List Int) × (Int × (List Int))) := go (fun y0_0 y0_1 y800003 => some (y0_0, y0_1, y800003)) k x9 x10 y1 y2 n y0_0 y0_1 y800003
theorem step_nat {X Y : Type} (h : X → Option Y) (K : (List Int) → Int → (List Int) → Option X) (G : (List Int) → Int → (List Int) → Option X) (k : Nat) (x9 : Int) (x10 : Int) (y1 : (List (List Int))) (y2 : (List Int)) (y0_0 : (List Int)) (y0_1 : Int) (y800003 : (List Int)) : Option.bind (step K G k x9 x10 y1 y2 y0_0 y0_1 y800003) h = step (fun y0_0 y0_1 y800003 => Option.bind (K y0_0 y0_1 y800003) h) (fun y0_0 y0_1 y800003 => Option.bind (G y0_0 y0_1 y800003) h) k x9 x10 y1 y2 y0_0 y0_1 y800003 := by
  simp only [step, bif_bind, sel_bind', Option.bind_assoc, Option.bind_none, Option.bind_some]
theorem go_nat {X Y : Type} (h : X → Option Y) (K : (List Int) → Int → (List Int) → Option X) (k : Nat) (x9 : Int) (x10 : Int) (y1 : (List (List Int))) (y2 : (List Int)) (n : Nat) : ∀ (y0_0 : (List Int)) (y0_1 : Int) (y800003 : (List Int)), Option.bind (go K k x9 x10 y1 y2 n y0_0 y0_1 y800003) h = go (fun y0_0 y0_1 y800003 => Option.bind (K y0_0 y0_1 y800003) h) k x9 x10 y1 y2 n y0_0 y0_1 y800003 := by
  induction n with
  | zero => intros; rfl
  | succ n ih => intro y0_0 y0_1 y800003; show Option.bind (step K (go K k x9 x10 y1 y2 n) k x9 x10 y1 y2 y0_0 y0_1 y800003) h = step (fun y0_0 y0_1 y800003 => Option.bind (K y0_0 y0_1 y800003) h) (go (fun y0_0 y0_1 y800003 => Option.bind (K y0_0 y0_1 y800003) h) k x9 x10 y1 y2 n) k x9 x10 y1 y2 y0_0 y0_1 y800003; rw [step_nat h]; simp only [ih]
abbrev S : List (Nat × Sh) := [(0, .ptr 0), (8, .vec 1), (9, .data (.int .i64)), (10, .data (.int .i64))]
abbrev H : List (Nat × ESh) := [(0, .cell (.pair (.data (.arr .u32 8)) (.pair (.vec 800003) (.data (.int .u64))))), (1, .rows 2 9 .str), (2, .glob 1 (.arr .u32 64)), (800003, .rows 1 5 (.int .u8))]
abbrev cl : List (Place × Nat × Hint) := [(.id 0, 8, (.row 1 5 (.int .u8)))]
abbrev hn : List (Nat × Hint) := [(0, .any), (8, .any), (9, .any), (10, .any)]
abbrev kp : List Nat := [0, 1, 2]
abbrev rc : List (Place × Nat × Hint) := []
abbrev rs : List (Nat × Hint) := []
abbrev ri : List Nat := [0, 1, 2]
def KX (d : (Unit × Unit × Int × Int × Unit)) (e : (((List Int) × (Unit × Int)) × (List (List Int)) × (List Int) × (List Int) × Unit)) (v : ((List Int) × (Int × (List Int)))) : St := ⟨mkS S ((), (), d.2.2.1, d.2.2.2.1, ()), mkH H ((v.1, ((), v.2.1)), e.2.1, e.2.2.1, v.2.2, ())⟩
def sum (k : Nat) : LoopSum := sigLoopX S cl hn kp H 2 (fun (d : (Unit × Unit × Int × Int × Unit)) (e : (((List Int) × (Unit × Int)) × (List (List Int)) × (List Int) × (List Int) × Unit)) => f k d.2.2.1 d.2.2.2.1 e.2.1 e.2.2.1 k e.1.1 e.1.2.2 e.2.2.2.1) KX
end l2
namespace l0
def step {X : Type} (K : Int → (List Int) → Int → (List Int) → Option X) (G : Int → (List Int) → Int → (List Int) → Option X) (k : Nat) (x9 : Int) (y1 : (List (List Int))) (y2 : (List Int)) (x10 : Int) (y0_0 : (List Int)) (y0_1 : Int) (y800003 : (List Int)) : Option X :=
  (bif (decide (x10 < x9)) then (bif (decide (0 ≤ x10)) then (bif (decide (x10 < ((List.length y1) : Int))) then (bif (decide ((Int.toNat x10) < (List.length y1))) then (bif (fits (((List.length y800003) + (List.length (List.getD y1 (Int.toNat x10) ([] : (List Int))))) * 1)) then (Option.bind (digest_Hasher_Write.l2.f k x9 x10 y1 y2 k y0_0 (addI .u64 y0_1 (IntKind.wrap .u64 ((List.length (List.getD y1 (Int.toNat x10) ([] : (List Int)))) : Int))) (y800003 ++ (List.getD y1 (Int.toNat x10) ([] : (List Int))))) (fun r2 => (G (addI .i64 x10 1) r2.1 r2.2.1 r2.2.2))) else none) else none) else none) else none) else (K x10 y0_0 y0_1 y800003))
def go {X : Type} (K : Int → (List Int) → Int → (List Int) → Option X) (k : Nat) (x9 : Int) (y1 : (List (List Int))) (y2 : (List Int)) : Nat → Int → (List Int) → Int → (List Int) → Option X
  | 0, _, _, _, _ => none
  | n + 1, x10, y0_0, y0_1, y800003 => step K (go K k x9 y1 y2 n) k x9 y1 y2 x10 y0_0 y0_1 y800003
def f (k : Nat) (x9 : Int) (y1 : (List (List Int))) (y2 : (List Int)) (n : Nat) (x10 : Int) (y0_0 : (List Int)) (y0_1 : Int) (y800003 : (List Int)) : Option (Int × ((List Int) × (Int × (List Int)))) := go (fun x10 y0_0 y0_1 y800003 => some (x10, y0_0, y0_1, y800003)) k x9 y1 y2 n x10 y0_0 y0_1 y800003
theorem step_nat {X Y : Type} (h : X → Option Y) (K : Int → (List Int) → Int → (List Int) → Option X) (G : Int → (List Int) → Int → (List Int) → Option X) (k : Nat) (x9 : Int) (y1 : (List (List Int))) (y2 : (List Int)) (x10 : Int) (y0_0 : (List Int)) (y0_1 : Int) (y800003 : (List Int)) : Option.bind (step K G k x9 y1 y2 x10 y0_0 y0_1 y800003) h = step (fun x10 y0_0 y0_1 y800003 => Option.bind (K x10 y0_0 y0_1 y800003) h) (fun x10 y0_0 y0_1 y800003 => Option.bind (G x10 y0_0 y0_1 y800003) h) k x9 y1 y2 x10 y0_0 y0_1 y800003 := by
  simp only [step, bif_bind, sel_bind', Option.bind_assoc, Option.bind_none, Option.bind_some]
theorem go_nat {X Y : Type} (h : X → Option Y) (K : Int → (List Int) → Int → (List Int) → Option X) (k : Nat) (x9 : Int) (y1 : (List (List Int))) (y2 : (List Int)) (n : Nat) : ∀ (x10 : Int) (y0_0 : (List Int)) (y0_1 : Int) (y800003 : (List Int)), Option.bind (go K k x9 y1 y2 n x10 y0_0 y0_1 y800003) h = go (fun x10 y0_0 y0_1 y800003 => Option.bind (K x10 y0_0 y0_1 y800003) h) k x9 y1 y2 n x10 y0_0 y0_1 y800003 := by
  induction n with
  | zero => intros; rfl
  | succ n ih => intro x10 y0_0 y0_1 y800003; show Option.bind (step K (go K k x9 y1 y2 n) k x9 y1 y2 x10 y0_0 y0_1 y800003) h = step (fun x10 y0_0 y0_1 y800003 => Option.bind (K x10 y0_0 y0_1 y800003) h) (go (fun x10 y0_0 y0_1 y800003 => Option.bind (K x10 y0_0 y0_1 y800003) h) k x9 y1 y2 n) k x9 y1 y2 x10 y0_0 y0_1 y800003; rw [step_nat h]; simp only [ih]
abbrev S : List (Nat × Sh) := [(0, .ptr 0), (8, .vec 1), (9, .data (.int .i64)), (10, .data (.int .i64))]
abbrev H : List (Nat × ESh) := [(0, .cell (.pair (.data (.arr .u32 8)) (.pair (.vec 800003) (.data (.int .u64))))), (1, .rows 2 9 .str), (2, .glob 1 (.arr .u32 64)), (800003, .rows 1 5 (.int .u8))]
abbrev cl : List (Place × Nat × Hint) := [(.id 0, 8, (.row 1 5 (.int .u8)))]
abbrev hn : List (Nat × Hint) := [(0, .any), (8, .any), (9, .any), (10, .any)]
abbrev kp : List Nat := [0, 1, 2]
abbrev rc : List (Place × Nat × Hint) := []
abbrev rs : List (Nat × Hint) := []
abbrev ri : List Nat := [0, 1, 2]
def KX (d : (Unit × Unit × Int × Int × Unit)) (e : (((List Int) × (Unit × Int)) × (List (List Int)) × (List Int) × (List Int) × Unit)) (v : (Int × ((List Int) × (Int × (List Int))))) : St := ⟨mkS S ((), (), d.2.2.1, v.1, ()), mkH H ((v.2.1, ((), v.2.2.1)), e.2.1, e.2.2.1, v.2.2.2, ())⟩
def sum (k : Nat) : LoopSum := sigLoopX S cl hn kp H 0 (fun (d : (Unit × Unit × Int × Int × Unit)) (e : (((List Int) × (Unit × Int)) × (List (List Int)) × (List Int) × (List Int) × Unit)) => f k d.2.2.1 e.2.1 e.2.2.1 k d.2.2.2.1 e.1.1 e.1.2.2 e.2.2.2.1) KX
end l0
def tree {X : Type} (K : (List Int) → Int → (List Int) → Option X) (k : Nat) (m0_0 : (List Int)) (m0_1 : Int) (m1 : (List (List Int))) (m2 : (List Int)) : Option X :=
  (Option.bind (digest_Hasher_Write.l0.f k ((List.length m1) : Int) m1 m2 k (0 : Int) m0_0 m0_1 ([] : (List Int))) (fun r3 => (K r3.2.1 r3.2.2.1 r3.2.2.2)))
def f (k : Nat) (m0_0 : (List Int)) (m0_1 : Int) (m1 : (List (List Int))) (m2 : (List Int)) : Option ((List Int) × (Int × (List Int))) := tree (fun b0 b1 b2 => some (b0, b1, b2)) k m0_0 m0_1 m1 m2
theorem tree_nat {X Y : Type} (h : X → Option Y) (K : (List Int) → Int → (List Int) → Option X) (k : Nat) (m0_0 : (List Int)) (m0_1 : Int) (m1 : (List (List Int))) (m2 : (List Int)) : Option.bind (tree K k m0_0 m0_1 m1 m2) h = tree (fun b0 b1 b2 => Option.bind (K b0 b1 b2) h) k m0_0 m0_1 m1 m2 := by
  simp only [tree, bif_bind, sel_bind', Option.bind_assoc, Option.bind_none, Option.bind_some]
abbrev ps : List Sh := [.ptr 0, .vec 1]
abbrev hs : List (Nat × ESh) := [(0, .cell (.pair (.data (.arr .u32 8)) (.pair .nils (.data (.int .u64))))), (1, .rows 2 9 .str), (2, .glob 1 (.arr .u32 64))]
abbrev hi : List Nat := hs.map (·.1)
abbrev fi : List Nat := [0, 1, 2, 900003]
abbrev cl : List (Place × Nat × Hint) := []
abbrev hn : List Hint := []
def val (t : ((List Int) × (Int × (List Int)))) : AV := .tnil
def wr (t : ((List Int) × (Int × (List Int)))) : Heap := [(0, ESh.mk (.cell (.pair (.data (.arr .u32 8)) (.pair (.vec 900003) (.data (.int .u64))))) (t.1, ((), t.2.1))), (900003, ESh.mk (.rows 1 5 (.int .u8)) t.2.2)]
def callee (k : Nat) : Callee := sigCallee ps hs (fun (d : (Unit × Unit × Unit)) (e : (((List Int) × (Unit × Int)) × (List (List Int)) × (List Int) × Unit)) => f k e.1.1 e.1.2.2 e.2.1 e.2.2.1) val wr
def E (k : Nat) : Env := ⟨fnTab [(32, [digest_Hasher_take.callee k])], loopTab [(2, l2.sum k), (0, l0.sum k)], natsTab [(32, [2])], natTab [(1, 2)]⟩
theorem fE (k : Nat) : ∀ f, ∀ c ∈ (E k).fn f, CalleeOK Tryd.prog f c := fnTab_ok ⟨⟨digest_Hasher_take.ok k, trivial⟩, trivial⟩
namespace l2
theorem round (k : Nat) (d : (Unit × Unit × Int × Int × Unit)) (e : (((List Int) × (Unit × Int)) × (List (List Int)) × (List Int) × (List Int) × Unit)) (G : St → Option (Ex × St)) : roundK Tryd.prog (E k) 55 2 (subC (bodyOf Tryd.f30) [1, 1, 0, 0, 1, 1, 0, 0, 1, 1, 1, 0, 0]) (recast cl hn kp) (finBy cl hn kp rc rs ri) G ⟨mkS S d, mkH H e⟩ =
    step (fun y0_0 y0_1 y800003 => some (.exit 2, KX d e (y0_0, y0_1, y800003))) (fun y0_0 y0_1 y800003 => G ⟨mkS S ((), (), d.2.2.1, d.2.2.2.1, ()), mkH H ((y0_0, ((), y0_1)), e.2.1, e.2.2.1, y800003, ())⟩) k d.2.2.1 d.2.2.2.1 e.2.1 e.2.2.1 e.1.1 e.1.2.2 e.2.2.2.1 := by kernel_rfl
theorem it (k n : Nat) (d : (Unit × Unit × Int × Int × Unit)) (e : (((List Int) × (Unit × Int)) × (List (List Int)) × (List Int) × (List Int) × Unit)) : loopIt Tryd.prog (E k) 55 2 (subC (bodyOf Tryd.f30) [1, 1, 0, 0, 1, 1, 0, 0, 1, 1, 1, 0, 0]) (recast cl hn kp) (finBy cl hn kp rc rs ri) n ⟨mkS S d, mkH H e⟩ = go (fun y0_0 y0_1 y800003 => some (.exit 2, KX d e (y0_0, y0_1, y800003))) k d.2.2.1 d.2.2.2.1 e.2.1 e.2.2.1 n e.1.1 e.1.2.2 e.2.2.2.1 :=
  loopIt_eq (D := (Unit × Unit × Int × Int × Unit) × (((List Int) × (Unit × Int)) × (List (List Int)) × (List Int) × (List Int) × Unit)) (fun p => ⟨mkS S p.1, mkH H p.2⟩) (fun F p => step (fun y0_0 y0_1 y800003 => some (.exit 2, KX p.1 p.2 (y0_0, y0_1, y800003))) (fun y0_0 y0_1 y800003 => F (((), (), p.1.2.2.1, p.1.2.2.2.1, ()), ((y0_0, ((), y0_1)), p.2.2.1, p.2.2.2.1, y800003, ()))) k p.1.2.2.1 p.1.2.2.2.1 p.2.2.1 p.2.2.2.1 p.2.1.1 p.2.1.2.2 p.2.2.2.2.1) (fun n p => go (fun y0_0 y0_1 y800003 => some (.exit 2, KX p.1 p.2 (y0_0, y0_1, y800003))) k p.1.2.2.1 p.1.2.2.2.1 p.2.2.1 p.2.2.2.1 n p.2.1.1 p.2.1.2.2 p.2.2.2.2.1) (fun _ => rfl) (fun _ _ => rfl) (fun G p => round k p.1 p.2 G) n (d, e)
theorem ok (k : Nat) : LoopOK Tryd.prog 55 (subC (bodyOf Tryd.f30) [1, 1, 0, 0, 1, 1, 0, 0, 1, 1, 1, 0, 0]) (sum k) :=
  loop_sigX hm (fE k) (loopsOK_of [] (by kernel_rfl) trivial) S cl hn kp H 2 (fun (d : (Unit × Unit × Int × Int × Unit)) (e : (((List Int) × (Unit × Int)) × (List (List Int)) × (List Int) × (List Int) × Unit)) => f k d.2.2.1 d.2.2.2.1 e.2.1 e.2.2.1 k e.1.1 e.1.2.2 e.2.2.2.1) KX cl hn kp rc rs ri k
    (fun d e => (it k k d e).trans (go_nat (fun v => some (Ex.exit 2, KX d e v)) (fun y0_0 y0_1 y800003 => some (y0_0, y0_1, y800003)) k d.2.2.1 d.2.2.2.1 e.2.1 e.2.2.1 k e.1.1 e.1.2.2 e.2.2.2.1).symm)
end l2
namespace l0
theorem round (k : Nat) (d : (Unit × Unit × Int × Int × Unit)) (e : (((List Int) × (Unit × Int)) × (List (List Int)) × (List Int) × (List Int) × Unit)) (G : St → Option (Ex × St)) : roundK Tryd.prog (E k) 55 0 (subC (bodyOf Tryd.f30) [1, 1, 0, 0]) (recast cl hn kp) (finBy cl hn kp rc rs ri) G ⟨mkS S d, mkH H e⟩ =
    step (fun x10 y0_0 y0_1 y800003 => some (.exit 0, KX d e (x10, y0_0, y0_1, y800003))) (fun x10 y0_0 y0_1 y800003 => G ⟨mkS S ((), (), d.2.2.1, x10, ()), mkH H ((y0_0, ((), y0_1)), e.2.1, e.2.2.1, y800003, ())⟩) k d.2.2.1 e.2.1 e.2.2.1 d.2.2.2.1 e.1.1 e.1.2.2 e.2.2.2.1 := by kernel_rfl
theorem it (k n : Nat) (d : (Unit × Unit × Int × Int × Unit)) (e : (((List Int) × (Unit × Int)) × (List (List Int)) × (List Int) × (List Int) × Unit)) : loopIt Tryd.prog (E k) 55 0 (subC (bodyOf Tryd.f30) [1, 1, 0, 0]) (recast cl hn kp) (finBy cl hn kp rc rs ri) n ⟨mkS S d, mkH H e⟩ = go (fun x10 y0_0 y0_1 y800003 => some (.exit 0, KX d e (x10, y0_0, y0_1, y800003))) k d.2.2.1 e.2.1 e.2.2.1 n d.2.2.2.1 e.1.1 e.1.2.2 e.2.2.2.1 :=
  loopIt_eq (D := (Unit × Unit × Int × Int × Unit) × (((List Int) × (Unit × Int)) × (List (List Int)) × (List Int) × (List Int) × Unit)) (fun p => ⟨mkS S p.1, mkH H p.2⟩) (fun F p => step (fun x10 y0_0 y0_1 y800003 => some (.exit 0, KX p.1 p.2 (x10, y0_0, y0_1, y800003))) (fun x10 y0_0 y0_1 y800003 => F (((), (), p.1.2.2.1, x10, ()), ((y0_0, ((), y0_1)), p.2.2.1, p.2.2.2.1, y800003, ()))) k p.1.2.2.1 p.2.2.1 p.2.2.2.1 p.1.2.2.2.1 p.2.1.1 p.2.1.2.2 p.2.2.2.2.1) (fun n p => go (fun x10 y0_0 y0_1 y800003 => some (.exit 0, KX p.1 p.2 (x10, y0_0, y0_1, y800003))) k p.1.2.2.1 p.2.2.1 p.2.2.2.1 n p.1.2.2.2.1 p.2.1.1 p.2.1.2.2 p.2.2.2.2.1) (fun _ => rfl) (fun _ _ => rfl) (fun G p => round k p.1 p.2 G) n (d, e)
theorem ok (k : Nat) : LoopOK Tryd.prog 55 (subC (bodyOf Tryd.f30) [1, 1, 0, 0]) (sum k) :=
  loop_sigX hm (fE k) (loopsOK_of [(2, subC (bodyOf Tryd.f30) [1, 1, 0, 0, 1, 1, 0, 0, 1, 1, 1, 0, 0])] (by kernel_rfl) ⟨of_loop (l2.sum k) rfl (l2.ok k), trivial⟩) S cl hn kp H 0 (fun (d : (Unit × Unit × Int × Int × Unit)) (e : (((List Int) × (Unit × Int)) × (List (List Int)) × (List Int) × (List Int) × Unit)) => f k d.2.2.1 e.2.1 e.2.2.1 k d.2.2.2.1 e.1.1 e.1.2.2 e.2.2.2.1) KX cl hn kp rc rs ri k
    (fun d e => (it k k d e).trans (go_nat (fun v => some (Ex.exit 0, KX d e v)) (fun x10 y0_0 y0_1 y800003 => some (x10, y0_0, y0_1, y800003)) k d.2.2.1 e.2.1 e.2.2.1 k d.2.2.2.1 e.1.1 e.1.2.2 e.2.2.2.1).symm)
end l0
theorem run (k : Nat) (d : (Unit × Unit × Unit)) (e : (((List Int) × (Unit × Int)) × (List (List Int)) × (List Int) × Unit)) : runFn Tryd.prog (E k) 55 (bodyOf Tryd.f30) Tryd.f30.results.toList cl hn hi (mkL ps d) (mkH hs e) =
    tree (fun b0 b1 b2 => leafFn hs fi e val wr (b0, b1, b2)) k e.1.1 e.1.2.2 e.2.1 e.2.2.1 := by kernel_rfl
theorem run_f (k : Nat) (d : (Unit × Unit × Unit)) (e : (((List Int) × (Unit × Int)) × (List (List Int)) × (List Int) × Unit)) : runFn Tryd.prog (E k) 55 (bodyOf Tryd.f30) Tryd.f30.results.toList cl hn hi (mkL ps d) (mkH hs e) = (f k e.1.1 e.1.2.2 e.2.1 e.2.2.1).bind (leafFn hs fi e val wr) :=
  (run k d e).trans (tree_nat (leafFn hs fi e val wr) (fun b0 b1 b2 => some (b0, b1, b2)) k e.1.1 e.1.2.2 e.2.1 e.2.2.1).symm
theorem fnIs : FnIs Tryd.prog 30 Tryd.f30 (bodyOf Tryd.f30) 55 := ⟨by kernel_rfl, by kernel_rfl, by kernel_rfl, by kernel_rfl⟩
theorem ok (k : Nat) : CalleeOK Tryd.prog 30 (callee k) :=
  callee_sig (T := ((List Int) × (Int × (List Int)))) fnIs hm (fE k) (loopsOK_of [(0, subC (bodyOf Tryd.f30) [1, 1, 0, 0])] (by kernel_rfl) ⟨of_loop (l0.sum k) rfl (l0.ok k), trivial⟩) ps hs cl hn fi (fun (d : (Unit × Unit × Unit)) (e : (((List Int) × (Unit × Int)) × (List (List Int)) × (List Int) × Unit)) => f k e.1.1 e.1.2.2 e.2.1 e.2.2.1) val wr rfl (fun _ => rfl) (run_f k)
end digest_Hasher_Write
namespace digest_Hasher_take_v1
namespace l0
def step {X : Type} (K : Int → (List Int) → Option X) (G : Int → (List Int) → Option X) (k : Nat) (y0_0 : (List Int)) (y0_1 : Int) (y1 : (List Int)) (y2 : (List Int)) (x16 : Int) (y800003 : (List Int)) : Option X :=
  (bif (decide (x16 < (16 : Int))) then (bif (decide (0 ≤ (mulI .i64 4 x16))) then (bif (decide ((mulI .i64 4 x16) < ((List.length y1) : Int))) then (bif (decide ((Int.toNat (mulI .i64 4 x16)) < (List.length y1))) then (bif (decide (0 ≤ (addI .i64 (mulI .i64 4 x16) 1))) then (bif (decide ((addI .i64 (mulI .i64 4 x16) 1) < ((List.length y1) : Int))) then (bif (decide ((Int.toNat (addI .i64 (mulI .i64 4 x16) 1)) < (List.length y1))) then (bif (decide (0 ≤ (addI .i64 (mulI .i64 4 x16) 2))) then (bif (decide ((addI .i64 (mulI .i64 4 x16) 2) < ((List.length y1) : Int))) then (bif (decide ((Int.toNat (addI .i64 (mulI .i64 4 x16) 2)) < (List.length y1))) then (bif (decide (0 ≤ (addI .i64 (mulI .i64 4 x16) 3))) then (bif (decide ((addI .i64 (mulI .i64 4 x16) 3) < ((List.length y1) : Int))) then (bif (decide ((Int.toNat (addI .i64 (mulI .i64 4 x16) 3)) < (List.length y1))) then (bif (decide (0 ≤ x16)) then (bif (decide (x16 < 64)) then (bif (decide ((Int.toNat x16) < 64)) then (G (addI .i64 x16 1) (List.set y800003 (Int.toNat x16) (orI .u32 (orI .u32 (orI .u32 (shlI .u32 (IntKind.wrap .u32 (List.getD y1 (Int.toNat (mulI .i64 4 x16)) (0 : Int))) 24) (shlI .u32 (IntKind.wrap .u32 (List.getD y1 (Int.toNat (addI .i64 (mulI .i64 4 x16) 1)) (0 : Int))) 16)) (shlI .u32 (IntKind.wrap .u32 (List.getD y1 (Int.toNat (addI .i64 (mulI .i64 4 x16) 2)) (0 : Int))) 8)) (IntKind.wrap .u32 (List.getD y1 (Int.toNat (addI .i64 (mulI .i64 4 x16) 3)) (0 : Int)))))) else none) else none) else none) else none) else none) else none) else none) else none) else none) else none) else none) else none) else none) else none) else none) else (K x16 y800003))
def go {X : Type} (K : Int → (List Int) → Option X) (k : Nat) (y0_0 : (List Int)) (y0_1 : Int) (y1 : (List Int)) (y2 : (List Int)) : Nat → Int → (List Int) → Option X
  | 0, _, _ => none
  | n + 1, x16, y800003 => step K (go K k y0_0 y0_1 y1 y2 n) k y0_0 y0_1 y1 y2 x16 y800003
def f (k : Nat) (y0_0 : (List Int)) (y0_1 : Int) (y1 : (List Int)) (y2 : (List Int)) (n : Nat) (x16 : Int) (y800003 : (List Int)) : Option (Int × (List Int)) := go (fun x16 y800003 => some (x16, y800003)) k y0_0 y0_1 y1 y2 n x16 y800003
theorem step_nat {X Y : Type} (h : X → Option Y) (K : Int → (List Int) → Option X) (G : Int → (List Int) → Option X) (k : Nat) (y0_0 : (List Int)) (y0_1 : Int) (y1 : (List Int)) (y2 : (List Int)) (x16 : Int) (y800003 : (List Int)) : Option.bind (step K G k y0_0 y0_1 y1 y2 x16 y800003) h = step (fun x16 y800003 => Option.bind (K x16 y800003) h) (fun x16 y800003 => Option.bind (G x16 y800003) h) k y0_0 y0_1 y1 y2 x16 y800003 := by
  simp only [step, bif_bind, sel_bind', Option.bind_assoc, Option.bind_none, Option.bind_some]
theorem go_nat {X Y : Type} (h : X → Option Y) (K : Int → (List Int) → Option X) (k : Nat) (y0_0 : (List Int)) (y0_1 : Int) (y1 : (List Int)) (y2 : (List Int)) (n : Nat) : ∀ (x16 : Int) (y800003 : (List Int)), Option.bind (go K k y0_0 y0_1 y1 y2 n x16 y800003) h = go (fun x16 y800003 => Option.bind (K x16 y800003) h) k y0_0 y0_1 y1 y2 n x16 y800003 := by
  induction n with
  | zero => intros; rfl
  | succ n ih => intro x16 y800003; show Option.bind (step K (go K k y0_0 y0_1 y1 y2 n) k y0_0 y0_1 y1 y2 x16 y800003) h = step (fun x16 y800003 => Option.bind (K x16 y800003) h) (go (fun x16 y800003 => Option.bind (K x16 y800003) h) k y0_0 y0_1 y1 y2 n) k y0_0 y0_1 y1 y2 x16 y800003; rw [step_nat h]; simp only [ih]
abbrev S : List (Nat × Sh) := [(0, .ptr 0), (1, .vec 1), (4, .ptr 800003), (16, .data (.int .i64))]
abbrev H : List (Nat × ESh) := [(0, .cell (.pair (.data (.arr .u32 8)) (.pair .nils (.data (.int .u64))))), (1, .rows 0 5 (.int .u8)), (2, .glob 1 (.arr .u32 64)), (800003, .cell (.data (.arr .u32 64)))]
abbrev cl : List (Place × Nat × Hint) := []
abbrev hn : List (Nat × Hint) := [(0, .any), (1, .any), (4, .any), (16, .any)]
abbrev kp : List Nat := [0, 1, 2]
abbrev rc : List (Place × Nat × Hint) := []
abbrev rs : List (Nat × Hint) := []
abbrev ri : List Nat := [0, 1, 2]
def KX (d : (Unit × Unit × Unit × Int × Unit)) (e : (((List Int) × (Unit × Int)) × (List Int) × (List Int) × (List Int) × Unit)) (v : (Int × (List Int))) : St := ⟨mkS S ((), (), (), v.1, ()), mkH H ((e.1.1, ((), e.1.2.2)), e.2.1, e.2.2.1, v.2, ())⟩
def sum (k : Nat) : LoopSum := sigLoopX S cl hn kp H 0 (fun (d : (Unit × Unit × Unit × Int × Unit)) (e : (((List Int) × (Unit × Int)) × (List Int) × (List Int) × (List Int) × Unit)) => f k e.1.1 e.1.2.2 e.2.1 e.2.2.1 k d.2.2.2.1 e.2.2.2.1) KX
end l0
namespace l2
def step {X : Type} (K : Int → (List Int) → Option X) (G : Int → (List Int) → Option X) (k : Nat) (y0_0 : (List Int)) (y0_1 : Int) (y1 : (List Int)) (y2 : (List Int)) (x6 : Int) (y800003 : (List Int)) : Option X :=
  (bif (decide (x6 < (64 : Int))) then (bif (decide (0 ≤ (subI .i64 x6 15))) then (bif (decide ((subI .i64 x6 15) < 64)) then (bif (decide ((Int.toNat (subI .i64 x6 15)) < 64)) then (bif (decide (0 ≤ (subI .i64 x6 2))) then (bif (decide ((subI .i64 x6 2) < 64)) then (bif (decide ((Int.toNat (subI .i64 x6 2)) < 64)) then (bif (decide (0 ≤ (subI .i64 x6 16))) then (bif (decide ((subI .i64 x6 16) < 64)) then (bif (decide ((Int.toNat (subI .i64 x6 16)) < 64)) then (Option.bind (digest_turn.f k (List.getD y800003 (Int.toNat (subI .i64 x6 15)) 0) ([7, 18] : (List Int))) (fun r2 => (bif (decide (0 ≤ (subI .i64 x6 7))) then (bif (decide ((subI .i64 x6 7) < 64)) then (bif (decide ((Int.toNat (subI .i64 x6 7)) < 64)) then (Option.bind (digest_turn.f k (List.getD y800003 (Int.toNat (subI .i64 x6 2)) 0) ([17, 19] : (List Int))) (fun r3 => (bif (decide (0 ≤ x6)) then (bif (decide (x6 < 64)) then (bif (decide ((Int.toNat x6) < 64)) then (G (addI .i64 x6 1) (List.set y800003 (Int.toNat x6) (addI .u32 (addI .u32 (addI .u32 (List.getD y800003 (Int.toNat (subI .i64 x6 16)) 0) (xorI .u32 r2 (shrI .u32 (List.getD y800003 (Int.toNat (subI .i64 x6 15)) 0) 3))) (List.getD y800003 (Int.toNat (subI .i64 x6 7)) 0)) (xorI .u32 r3 (shrI .u32 (List.getD y800003 (Int.toNat (subI .i64 x6 2)) 0) 10))))) else none) else none) else none))) else none) else none) else none))) else none) else none) else none) else none) else none) else none) else none) else none) else none) else (K x6 y800003))
def go {X : Type} (K : Int → (List Int) → Option X) (k : Nat) (y0_0 : (List Int)) (y0_1 : Int) (y1 : (List Int)) (y2 : (List Int)) : Nat → Int → (List Int) → Option X
  | 0, _, _ => none
  | n + 1, x6, y800003 => step K (go K k y0_0 y0_1 y1 y2 n) k y0_0 y0_1 y1 y2 x6 y800003
def f (k : Nat) (y0_0 : (List Int)) (y0_1 : Int) (y1 : (List Int)) (y2 : (List Int)) (n : Nat) (x6 : Int) (y800003 : (List Int)) : Option (Int × (List Int)) := go (fun x6 y800003 => some (x6, y800003)) k y0_0 y0_1 y1 y2 n x6 y800003
theorem step_nat {X Y : Type} (h : X → Option Y) (K : Int → (List Int) → Option X) (G : Int → (List Int) → Option X) (k : Nat) (y0_0 : (List Int)) (y0_1 : Int) (y1 : (List Int)) (y2 : (List Int)) (x6 : Int) (y800003 : (List Int)) : Option.bind (step K G k y0_0 y0_1 y1 y2 x6 y800003) h = step (fun x6 y800003 => Option.bind (K x6 y800003) h) (fun x6 y800003 => Option.bind (G x6 y800003) h) k y0_0 y0_1 y1 y2 x6 y800003 := by
  simp only [step, bif_bind, sel_bind', Option.bind_assoc, Option.bind_none, Option.bind_some]
theorem go_nat {X Y : Type} (h : X → Option Y) (K : Int → (List Int) → Option X) (k : Nat) (y0_0 : (List Int)) (y0_1 : Int) (y1 : (List Int)) (y2 : (List Int)) (n : Nat) : ∀ (x6 : Int) (y800003 : (List Int)), Option.bind (go K k y0_0 y0_1 y1 y2 n x6 y800003) h = go (fun x6 y800003 => Option.bind (K x6 y800003) h) k y0_0 y0_1 y1 y2 n x6 y800003 := by
  induction n with
  | zero => intros; rfl
  | succ n ih => intro x6 y800003; show Option.bind (step K (go K k y0_0 y0_1 y1 y2 n) k y0_0 y0_1 y1 y2 x6 y800003) h = step (fun x6 y800003 => Option.bind (K x6 y800003) h) (go (fun x6 y800003 => Option.bind (K x6 y800003) h) k y0_0 y0_1 y1 y2 n) k y0_0 y0_1 y1 y2 x6 y800003; rw [step_nat h]; simp only [ih]
abbrev S : List (Nat × Sh) := [(0, .ptr 0), (4, .ptr 800003), (6, .data (.int .i64))]
abbrev H : List (Nat × ESh) := [(0, .cell (.pair (.data (.arr .u32 8)) (.pair .nils (.data (.int .u64))))), (1, .rows 0 5 (.int .u8)), (2, .glob 1 (.arr .u32 64)), (800003, .cell (.data (.arr .u32 64)))]
abbrev cl : List (Place × Nat × Hint) := []
abbrev hn : List (Nat × Hint) := [(0, .any), (4, .any), (6, .any)]
abbrev kp : List Nat := [0, 1, 2]
abbrev rc : List (Place × Nat × Hint) := []
abbrev rs : List (Nat × Hint) := []
abbrev ri : List Nat := [0, 1, 2]
def KX (d : (Unit × Unit × Int × Unit)) (e : (((List Int) × (Unit × Int)) × (List Int) × (List Int) × (List Int) × Unit)) (v : (Int × (List Int))) : St := ⟨mkS S ((), (), v.1, ()), mkH H ((e.1.1, ((), e.1.2.2)), e.2.1, e.2.2.1, v.2, ())⟩
def sum (k : Nat) : LoopSum := sigLoopX S cl hn kp H 2 (fun (d : (Unit × Unit × Int × Unit)) (e : (((List Int) × (Unit × Int)) × (List Int) × (List Int) × (List Int) × Unit)) => f k e.1.1 e.1.2.2 e.2.1 e.2.2.1 k d.2.2.1 e.2.2.2.1) KX
end l2
namespace l4
def step {X : Type} (K : Int → (List Int) → Option X) (G : Int → (List Int) → Option X) (k : Nat) (y0_0 : (List Int)) (y0_1 : Int) (y1 : (List Int)) (y2 : (List Int)) (y800003 : (List Int)) (x96 : Int) (y800004 : (List Int)) : Option X :=
  (bif (decide (x96 < (64 : Int))) then (Option.bind (digest_turn.f k (List.getD y800004 4 0) ([6, 11, 25] : (List Int))) (fun r5 => (bif (decide (0 ≤ x96)) then (bif (decide (x96 < 64)) then (bif (decide ((Int.toNat x96) < 64)) then (bif (decide (0 ≤ x96)) then (bif (decide (x96 < 64)) then (bif (decide ((Int.toNat x96) < 64)) then (Option.bind (digest_turn.f k (List.getD y800004 0 0) ([2, 13, 22] : (List Int))) (fun r6 => (G (addI .i64 x96 1) ([(addI .u32 (addI .u32 (addI .u32 (addI .u32 (addI .u32 (List.getD y800004 7 0) r5) (xorI .u32 (andI .u32 (List.getD y800004 4 0) (List.getD y800004 5 0)) (andI .u32 (notI .u32 (List.getD y800004 4 0)) (List.getD y800004 6 0)))) (List.getD y2 (Int.toNat x96) 0)) (List.getD y800003 (Int.toNat x96) 0)) (addI .u32 r6 (xorI .u32 (xorI .u32 (andI .u32 (List.getD y800004 0 0) (List.getD y800004 1 0)) (andI .u32 (List.getD y800004 0 0) (List.getD y800004 2 0))) (andI .u32 (List.getD y800004 1 0) (List.getD y800004 2 0))))), (List.getD y800004 0 0), (List.getD y800004 1 0), (List.getD y800004 2 0), (addI .u32 (List.getD y800004 3 0) (addI .u32 (addI .u32 (addI .u32 (addI .u32 (List.getD y800004 7 0) r5) (xorI .u32 (andI .u32 (List.getD y800004 4 0) (List.getD y800004 5 0)) (andI .u32 (notI .u32 (List.getD y800004 4 0)) (List.getD y800004 6 0)))) (List.getD y2 (Int.toNat x96) 0)) (List.getD y800003 (Int.toNat x96) 0))), (List.getD y800004 4 0), (List.getD y800004 5 0), (List.getD y800004 6 0)] : (List Int))))) else none) else none) else none) else none) else none) else none))) else (K x96 y800004))
def go {X : Type} (K : Int → (List Int) → Option X) (k : Nat) (y0_0 : (List Int)) (y0_1 : Int) (y1 : (List Int)) (y2 : (List Int)) (y800003 : (List Int)) : Nat → Int → (List Int) → Option X
  | 0, _, _ => none
  | n + 1, x96, y800004 => step K (go K k y0_0 y0_1 y1 y2 y800003 n) k y0_0 y0_1 y1 y2 y800003 x96 y800004
def f (k : Nat) (y0_0 : (List Int)) (y0_1 : Int) (y1 : (List Int)) (y2 : (List Int)) (y800003 : (List Int)) (n : Nat) (x96 : Int) (y800004 : (List Int)) : Option (Int × (List Int)) := go (fun x96 y800004 => some (x96, y800004)) k y0_0 y0_1 y1 y2 y800003 n x96 y800004
theorem step_nat {X Y : Type} (h : X → Option Y) (K : Int → (List Int) → Option X) (G : Int → (List Int) → Option X) (k : Nat) (y0_0 : (List Int)) (y0_1 : Int) (y1 : (List Int)) (y2 : (List Int)) (y800003 : (List Int)) (x96 : Int) (y800004 : (List Int)) : Option.bind (step K G k y0_0 y0_1 y1 y2 y800003 x96 y800004) h = step (fun x96 y800004 => Option.bind (K x96 y800004) h) (fun x96 y800004 => Option.bind (G x96 y800004) h) k y0_0 y0_1 y1 y2 y800003 x96 y800004 := by
  simp only [step, bif_bind, sel_bind', Option.bind_assoc, Option.bind_none, Option.bind_some]
theorem go_nat {X Y : Type} (h : X → Option Y) (K : Int → (List Int) → Option X) (k : Nat) (y0_0 : (List Int)) (y0_1 : Int) (y1 : (List Int)) (y2 : (List Int)) (y800003 : (List Int)) (n : Nat) : ∀ (x96 : Int) (y800004 : (List Int)), Option.bind (go K k y0_0 y0_1 y1 y2 y800003 n x96 y800004) h = go (fun x96 y800004 => Option.bind (K x96 y800004) h) k y0_0 y0_1 y1 y2 y800003 n x96 y800004 := by
  induction n with
  | zero => intros; rfl
  | succ n ih => intro x96 y800004; show Option.bind (step K (go K k y0_0 y0_1 y1 y2 y800003 n) k y0_0 y0_1 y1 y2 y800003 x96 y800004) h = step (fun x96 y800004 => Option.bind (K x96 y800004) h) (go (fun x96 y800004 => Option.bind (K x96 y800004) h) k y0_0 y0_1 y1 y2 y800003 n) k y0_0 y0_1 y1 y2 y800003 x96 y800004; rw [step_nat h]; simp only [ih]
abbrev S : List (Nat × Sh) := [(0, .ptr 0), (4, .ptr 800003), (9, .ptr 800004), (96, .data (.int .i64))]
abbrev H : List (Nat × ESh) := [(0, .cell (.pair (.data (.arr .u32 8)) (.pair .nils (.data (.int .u64))))), (1, .rows 0 5 (.int .u8)), (2, .glob 1 (.arr .u32 64)), (800003, .cell (.data (.arr .u32 64))), (800004, .cell (.data (.arr .u32 8)))]
abbrev cl : List (Place × Nat × Hint) := []
abbrev hn : List (Nat × Hint) := [(0, .any), (4, .any), (9, .any), (96, .any)]
abbrev kp : List Nat := [0, 1, 2]
abbrev rc : List (Place × Nat × Hint) := []
abbrev rs : List (Nat × Hint) := []
abbrev ri : List Nat := [0, 1, 2]
def KX (d : (Unit × Unit × Unit × Int × Unit)) (e : (((List Int) × (Unit × Int)) × (List Int) × (List Int) × (List Int) × (List Int) × Unit)) (v : (Int × (List Int))) : St := ⟨mkS S ((), (), (), v.1, ()), mkH H ((e.1.1, ((), e.1.2.2)), e.2.1, e.2.2.1, e.2.2.2.1, v.2, ())⟩
def sum (k : Nat) : LoopSum := sigLoopX S cl hn kp H 4 (fun (d : (Unit × Unit × Unit × Int × Unit)) (e : (((List Int) × (Unit × Int)) × (List Int) × (List Int) × (List Int) × (List Int) × Unit)) => f k e.1.1 e.1.2.2 e.2.1 e.2.2.1 e.2.2.2.1 k d.2.2.2.1 e.2.2.2.2.1) KX
end l4
namespace l6
def step {X : Type} (K : Int → (List Int) → Option X) (G : Int → (List Int) → Option X) (k : Nat) (y0_1 : Int) (y1 : (List Int)) (y2 : (List Int)) (y800003 : (List Int)) (x172 : Int) (y0_0 : (List Int)) : Option X :=
  (bif (decide (x172 < (8 : Int))) then (bif (decide (0 ≤ x172)) then (bif (decide (x172 < 8)) then (bif (decide ((Int.toNat x172) < 8)) then (bif (decide (0 ≤ x172)) then (bif (decide (x172 < 8)) then (bif (decide ((Int.toNat x172) < 8)) then (bif (decide (0 ≤ x172)) then (bif (decide (x172 < 8)) then (bif (decide ((Int.toNat x172) < 8)) then (G (addI .i64 x172 1) (List.set y0_0 (Int.toNat x172) (addI .u32 (List.getD y0_0 (Int.toNat x172) 0) (List.getD y800003 (Int.toNat x172) 0)))) else none) else none) else none) else none) else none) else none) else none) else none) else none) else (K x172 y0_0))
def go {X : Type} (K : Int → (List Int) → Option X) (k : Nat) (y0_1 : Int) (y1 : (List Int)) (y2 : (List Int)) (y800003 : (List Int)) : Nat → Int → (List Int) → Option X
  | 0, _, _ => none
  | n + 1, x172, y0_0 => step K (go K k y0_1 y1 y2 y800003 n) k y0_1 y1 y2 y800003 x172 y0_0
def f (k : Nat) (y0_1 : Int) (y1 : (List Int)) (y2 : (List Int)) (y800003 : (List Int)) (n : Nat) (x172 : Int) (y0_0 : (List Int)) : Option (Int × (List Int)) := go (fun x172 y0_0 => some (x172, y0_0)) k y0_1 y1 y2 y800003 n x172 y0_0
theorem step_nat {X Y : Type} (h : X → Option Y) (K : Int → (List Int) → Option X) (G : Int → (List Int) → Option X) (k : Nat) (y0_1 : Int) (y1 : (List Int)) (y2 : (List Int)) (y800003 : (List Int)) (x172 : Int) (y0_0 : (List Int)) : Option.bind (step K G k y0_1 y1 y2 y800003 x172 y0_0) h = step (fun x172 y0_0 => Option.bind (K x172 y0_0) h) (fun x172 y0_0 => Option.bind (G x172 y0_0) h) k y0_1 y1 y2 y800003 x172 y0_0 := by
  simp only [step, bif_bind, sel_bind', Option.bind_assoc, Option.bind_none, Option.bind_some]
theorem go_nat {X Y : Type} (h : X → Option Y) (K : Int → (List Int) → Option X) (k : Nat) (y0_1 : Int) (y1 : (List Int)) (y2 : (List Int)) (y800003 : (List Int)) (n : Nat) : ∀ (x172 : Int) (y0_0 : (List Int)), Option.bind (go K k y0_1 y1 y2 y800003 n x172 y0_0) h = go (fun x172 y0_0 => Option.bind (K x172 y0_0) h) k y0_1 y1 y2 y800003 n x172 y0_0 := by
  induction n with
  | zero => intros; rfl
  | succ n ih => intro x172 y0_0; show Option.bind (step K (go K k y0_1 y1 y2 y800003 n) k y0_1 y1 y2 y800003 x172 y0_0) h = step (fun x172 y0_0 => Option.bind (K x172 y0_0) h) (go (fun x172 y0_0 => Option.bind (K x172 y0_0) h) k y0_1 y1 y2 y800003 n) k y0_1 y1 y2 y800003 x172 y0_0; rw [step_nat h]; simp only [ih]
abbrev S : List (Nat × Sh) := [(0, .ptr 0), (9, .ptr 800003), (172, .data (.int .i64))]
abbrev H : List (Nat × ESh) := [(0, .cell (.pair (.data (.arr .u32 8)) (.pair .nils (.data (.int .u64))))), (1, .rows 0 5 (.int .u8)), (2, .glob 1 (.arr .u32 64)), (800003, .cell (.data (.arr .u32 8)))]
abbrev cl : List (Place × Nat × Hint) := []
abbrev hn : List (Nat × Hint) := [(0, .any), (9, .any), (172, .any)]
abbrev kp : List Nat := [0, 1, 2]
abbrev rc : List (Place × Nat × Hint) := []
abbrev rs : List (Nat × Hint) := []
abbrev ri : List Nat := [0, 1, 2]
def KX (d : (Unit × Unit × Int × Unit)) (e : (((List Int) × (Unit × Int)) × (List Int) × (List Int) × (List Int) × Unit)) (v : (Int × (List Int))) : St := ⟨mkS S ((), (), v.1, ()), mkH H ((v.2, ((), e.1.2.2)), e.2.1, e.2.2.1, e.2.2.2.1, ())⟩
def sum (k : Nat) : LoopSum := sigLoopX S cl hn kp H 6 (fun (d : (Unit × Unit × Int × Unit)) (e : (((List Int) × (Unit × Int)) × (List Int) × (List Int) × (List Int) × Unit)) => f k e.1.2.2 e.2.1 e.2.2.1 e.2.2.2.1 k d.2.2.1 e.1.1) KX
end l6
def tree {X : Type} (K : (List Int) → Int → Option X) (k : Nat) (m0_0 : (List Int)) (m0_1 : Int) (m1 : (List Int)) (m2 : (List Int)) : Option X :=
  (Option.bind (digest_Hasher_take_v1.l0.f k m0_0 m0_1 m1 m2 k (0 : Int) ([0, 0, 0, 0, 0, 0, 0, 0, 0, 0, 0, 0, 0, 0, 0, 0, 0, 0, 0, 0, 0, 0, 0, 0, 0, 0, 0, 0, 0, 0, 0, 0, 0, 0, 0, 0, 0, 0, 0, 0, 0, 0, 0, 0, 0, 0, 0, 0, 0, 0, 0, 0, 0, 0, 0, 0, 0, 0, 0, 0, 0, 0, 0, 0] : (List Int))) (fun r1 => (Option.bind (digest_Hasher_take_v1.l2.f k m0_0 m0_1 m1 m2 k (16 : Int) r1.2) (fun r4 => (Option.bind (digest_Hasher_take_v1.l4.f k m0_0 m0_1 m1 m2 r4.2 k (0 : Int) m0_0) (fun r7 => (Option.bind (digest_Hasher_take_v1.l6.f k m0_1 m1 m2 r7.2 k (0 : Int) m0_0) (fun r8 => (K r8.2 m0_1)))))))))
def f (k : Nat) (m0_0 : (List Int)) (m0_1 : Int) (m1 : (List Int)) (m2 : (List Int)) : Option ((List Int) × Int) := tree (fun b0 b1 => some (b0, b1)) k m0_0 m0_1 m1 m2
theorem tree_nat {X Y : Type} (h : X → Option Y) (K : (List Int) → Int → Option X) (k : Nat) (m0_0 : (List Int)) (m0_1 : Int) (m1 : (List Int)) (m2 : (List Int)) : Option.bind (tree K k m0_0 m0_1 m1 m2) h = tree (fun b0 b1 => Option.bind (K b0 b1) h) k m0_0 m0_1 m1 m2 := by
  simp only [tree, bif_bind, sel_bind', Option.bind_assoc, Option.bind_none, Option.bind_some]
abbrev ps : List Sh := [.ptr 0, .vec 1]
abbrev hs : List (Nat × ESh) := [(0, .cell (.pair (.data (.arr .u32 8)) (.pair .nils (.data (.int .u64))))), (1, .rows 0 5 (.int .u8)), (2, .glob 1 (.arr .u32 64))]
abbrev hi : List Nat := hs.map (·.1)
abbrev fi : List Nat := [0, 1, 2]
abbrev cl : List (Place × Nat × Hint) := []
abbrev hn : List Hint := []
def val (t : ((List Int) × Int)) : AV := .tnil
def wr (t : ((List Int) × Int)) : Heap := [(0, ESh.mk (.cell (.pair (.data (.arr .u32 8)) (.pair .nils (.data (.int .u64))))) (t.1, ((), t.2)))]
def callee (k : Nat) : Callee := sigCallee ps hs (fun (d : (Unit × Unit × Unit)) (e : (((List Int) × (Unit × Int)) × (List Int) × (List Int) × Unit)) => f k e.1.1 e.1.2.2 e.2.1 e.2.2.1) val wr
def E (k : Nat) : Env := ⟨fnTab [(33, [digest_turn.callee k])], loopTab [(0, l0.sum k), (2, l2.sum k), (4, l4.sum k), (6, l6.sum k)], natsTab [], natTab [(1, 2)]⟩
theorem fE (k : Nat) : ∀ f, ∀ c ∈ (E k).fn f, CalleeOK Tryd.prog f c := fnTab_ok ⟨⟨digest_turn.ok k, trivial⟩, trivial⟩
namespace l0
theorem round (k : Nat) (d : (Unit × Unit × Unit × Int × Unit)) (e : (((List Int) × (Unit × Int)) × (List Int) × (List Int) × (List Int) × Unit)) (G : St → Option (Ex × St)) : roundK Tryd.prog (E k) 189 0 (subC (bodyOf Tryd.f32) [1, 0, 1, 0, 0]) (recast cl hn kp) (finBy cl hn kp rc rs ri) G ⟨mkS S d, mkH H e⟩ =
    step (fun x16 y800003 => some (.exit 0, KX d e (x16, y800003))) (fun x16 y800003 => G ⟨mkS S ((), (), (), x16, ()), mkH H ((e.1.1, ((), e.1.2.2)), e.2.1, e.2.2.1, y800003, ())⟩) k e.1.1 e.1.2.2 e.2.1 e.2.2.1 d.2.2.2.1 e.2.2.2.1 := by kernel_rfl
theorem it (k n : Nat) (d : (Unit × Unit × Unit × Int × Unit)) (e : (((List Int) × (Unit × Int)) × (List Int) × (List Int) × (List Int) × Unit)) : loopIt Tryd.prog (E k) 189 0 (subC (bodyOf Tryd.f32) [1, 0, 1, 0, 0]) (recast cl hn kp) (finBy cl hn kp rc rs ri) n ⟨mkS S d, mkH H e⟩ = go (fun x16 y800003 => some (.exit 0, KX d e (x16, y800003))) k e.1.1 e.1.2.2 e.2.1 e.2.2.1 n d.2.2.2.1 e.2.2.2.1 :=
  loopIt_eq (D := (Unit × Unit × Unit × Int × Unit) × (((List Int) × (Unit × Int)) × (List Int) × (List Int) × (List Int) × Unit)) (fun p => ⟨mkS S p.1, mkH H p.2⟩) (fun F p => step (fun x16 y800003 => some (.exit 0, KX p.1 p.2 (x16, y800003))) (fun x16 y800003 => F (((), (), (), x16, ()), ((p.2.1.1, ((), p.2.1.2.2)), p.2.2.1, p.2.2.2.1, y800003, ()))) k p.2.1.1 p.2.1.2.2 p.2.2.1 p.2.2.2.1 p.1.2.2.2.1 p.2.2.2.2.1) (fun n p => go (fun x16 y800003 => some (.exit 0, KX p.1 p.2 (x16, y800003))) k p.2.1.1 p.2.1.2.2 p.2.2.1 p.2.2.2.1 n p.1.2.2.2.1 p.2.2.2.2.1) (fun _ => rfl) (fun _ _ => rfl) (fun G p => round k p.1 p.2 G) n (d, e)
theorem ok (k : Nat) : LoopOK Tryd.prog 189 (subC (bodyOf Tryd.f32) [1, 0, 1, 0, 0]) (sum k) :=
  loop_sigX hm (fE k) (loopsOK_of [] (by kernel_rfl) trivial) S cl hn kp H 0 (fun (d : (Unit × Unit × Unit × Int × Unit)) (e : (((List Int) × (Unit × Int)) × (List Int) × (List Int) × (List Int) × Unit)) => f k e.1.1 e.1.2.2 e.2.1 e.2.2.1 k d.2.2.2.1 e.2.2.2.1) KX cl hn kp rc rs ri k
    (fun d e => (it k k d e).trans (go_nat (fun v => some (Ex.exit 0, KX d e v)) (fun x16 y800003 => some (x16, y800003)) k e.1.1 e.1.2.2 e.2.1 e.2.2.1 k d.2.2.2.1 e.2.2.2.1).symm)
end l0
namespace l2
theorem round (k : Nat) (d : (Unit × Unit × Int × Unit)) (e : (((List Int) × (Unit × Int)) × (List Int) × (List Int) × (List Int) × Unit)) (G : St → Option (Ex × St)) : roundK Tryd.prog (E k) 189 2 (subC (bodyOf Tryd.f32) [1, 1, 0, 1, 0, 0]) (recast cl hn kp) (finBy cl hn kp rc rs ri) G ⟨mkS S d, mkH H e⟩ =
    step (fun x6 y800003 => some (.exit 2, KX d e (x6, y800003))) (fun x6 y800003 => G ⟨mkS S ((), (), x6, ()), mkH H ((e.1.1, ((), e.1.2.2)), e.2.1, e.2.2.1, y800003, ())⟩) k e.1.1 e.1.2.2 e.2.1 e.2.2.1 d.2.2.1 e.2.2.2.1 := by kernel_rfl
theorem it (k n : Nat) (d : (Unit × Unit × Int × Unit)) (e : (((List Int) × (Unit × Int)) × (List Int) × (List Int) × (List Int) × Unit)) : loopIt Tryd.prog (E k) 189 2 (subC (bodyOf Tryd.f32) [1, 1, 0, 1, 0, 0]) (recast cl hn kp) (finBy cl hn kp rc rs ri) n ⟨mkS S d, mkH H e⟩ = go (fun x6 y800003 => some (.exit 2, KX d e (x6, y800003))) k e.1.1 e.1.2.2 e.2.1 e.2.2.1 n d.2.2.1 e.2.2.2.1 :=
  loopIt_eq (D := (Unit × Unit × Int × Unit) × (((List Int) × (Unit × Int)) × (List Int) × (List Int) × (List Int) × Unit)) (fun p => ⟨mkS S p.1, mkH H p.2⟩) (fun F p => step (fun x6 y800003 => some (.exit 2, KX p.1 p.2 (x6, y800003))) (fun x6 y800003 => F (((), (), x6, ()), ((p.2.1.1, ((), p.2.1.2.2)), p.2.2.1, p.2.2.2.1, y800003, ()))) k p.2.1.1 p.2.1.2.2 p.2.2.1 p.2.2.2.1 p.1.2.2.1 p.2.2.2.2.1) (fun n p => go (fun x6 y800003 => some (.exit 2, KX p.1 p.2 (x6, y800003))) k p.2.1.1 p.2.1.2.2 p.2.2.1 p.2.2.2.1 n p.1.2.2.1 p.2.2.2.2.1) (fun _ => rfl) (fun _ _ => rfl) (fun G p => round k p.1 p.2 G) n (d, e)
theorem ok (k : Nat) : LoopOK Tryd.prog 189 (subC (bodyOf Tryd.f32) [1, 1, 0, 1, 0, 0]) (sum k) :=
  loop_sigX hm (fE k) (loopsOK_of [] (by kernel_rfl) trivial) S cl hn kp H 2 (fun (d : (Unit × Unit × Int × Unit)) (e : (((List Int) × (Unit × Int)) × (List Int) × (List Int) × (List Int) × Unit)) => f k e.1.1 e.1.2.2 e.2.1 e.2.2.1 k d.2.2.1 e.2.2.2.1) KX cl hn kp rc rs ri k
    (fun d e => (it k k d e).trans (go_nat (fun v => some (Ex.exit 2, KX d e v)) (fun x6 y800003 => some (x6, y800003)) k e.1.1 e.1.2.2 e.2.1 e.2.2.1 k d.2.2.1 e.2.2.2.1).symm)
end l2
namespace l4
theorem round (k : Nat) (d : (Unit × Unit × Unit × Int × Unit)) (e : (((List Int) × (Unit × Int)) × (List Int) × (List Int) × (List Int) × (List Int) × Unit)) (G : St → Option (Ex × St)) : roundK Tryd.prog (E k) 189 4 (subC (bodyOf Tryd.f32) [1, 1, 1, 1, 0, 1, 0, 0]) (recast cl hn kp) (finBy cl hn kp rc rs ri) G ⟨mkS S d, mkH H e⟩ =
    step (fun x96 y800004 => some (.exit 4, KX d e (x96, y800004))) (fun x96 y800004 => G ⟨mkS S ((), (), (), x96, ()), mkH H ((e.1.1, ((), e.1.2.2)), e.2.1, e.2.2.1, e.2.2.2.1, y800004, ())⟩) k e.1.1 e.1.2.2 e.2.1 e.2.2.1 e.2.2.2.1 d.2.2.2.1 e.2.2.2.2.1 := by kernel_rfl
theorem it (k n : Nat) (d : (Unit × Unit × Unit × Int × Unit)) (e : (((List Int) × (Unit × Int)) × (List Int) × (List Int) × (List Int) × (List Int) × Unit)) : loopIt Tryd.prog (E k) 189 4 (subC (bodyOf Tryd.f32) [1, 1, 1, 1, 0, 1, 0, 0]) (recast cl hn kp) (finBy cl hn kp rc rs ri) n ⟨mkS S d, mkH H e⟩ = go (fun x96 y800004 => some (.exit 4, KX d e (x96, y800004))) k e.1.1 e.1.2.2 e.2.1 e.2.2.1 e.2.2.2.1 n d.2.2.2.1 e.2.2.2.2.1 :=
  loopIt_eq (D := (Unit × Unit × Unit × Int × Unit) × (((List Int) × (Unit × Int)) × (List Int) × (List Int) × (List Int) × (List Int) × Unit)) (fun p => ⟨mkS S p.1, mkH H p.2⟩) (fun F p => step (fun x96 y800004 => some (.exit 4, KX p.1 p.2 (x96, y800004))) (fun x96 y800004 => F (((), (), (), x96, ()), ((p.2.1.1, ((), p.2.1.2.2)), p.2.2.1, p.2.2.2.1, p.2.2.2.2.1, y800004, ()))) k p.2.1.1 p.2.1.2.2 p.2.2.1 p.2.2.2.1 p.2.2.2.2.1 p.1.2.2.2.1 p.2.2.2.2.2.1) (fun n p => go (fun x96 y800004 => some (.exit 4, KX p.1 p.2 (x96, y800004))) k p.2.1.1 p.2.1.2.2 p.2.2.1 p.2.2.2.1 p.2.2.2.2.1 n p.1.2.2.2.1 p.2.2.2.2.2.1) (fun _ => rfl) (fun _ _ => rfl) (fun G p => round k p.1 p.2 G) n (d, e)
theorem ok (k : Nat) : LoopOK Tryd.prog 189 (subC (bodyOf Tryd.f32) [1, 1, 1, 1, 0, 1, 0, 0]) (sum k) :=
  loop_sigX hm (fE k) (loopsOK_of [] (by kernel_rfl) trivial) S cl hn kp H 4 (fun (d : (Unit × Unit × Unit × Int × Unit)) (e : (((List Int) × (Unit × Int)) × (List Int) × (List Int) × (List Int) × (List Int) × Unit)) => f k e.1.1 e.1.2.2 e.2.1 e.2.2.1 e.2.2.2.1 k d.2.2.2.1 e.2.2.2.2.1) KX cl hn kp rc rs ri k
    (fun d e => (it k k d e).trans (go_nat (fun v => some (Ex.exit 4, KX d e v)) (fun x96 y800004 => some (x96, y800004)) k e.1.1 e.1.2.2 e.2.1 e.2.2.1 e.2.2.2.1 k d.2.2.2.1 e.2.2.2.2.1).symm)
end l4
namespace l6
theorem round (k : Nat) (d : (Unit × Unit × Int × Unit)) (e : (((List Int) × (Unit × Int)) × (List Int) × (List Int) × (List Int) × Unit)) (G : St → Option (Ex × St)) : roundK Tryd.prog (E k) 189 6 (subC (bodyOf Tryd.f32) [1, 1, 1, 1, 1, 1, 0, 0]) (recast cl hn kp) (finBy cl hn kp rc rs ri) G ⟨mkS S d, mkH H e⟩ =
    step (fun x172 y0_0 => some (.exit 6, KX d e (x172, y0_0))) (fun x172 y0_0 => G ⟨mkS S ((), (), x172, ()), mkH H ((y0_0, ((), e.1.2.2)), e.2.1, e.2.2.1, e.2.2.2.1, ())⟩) k e.1.2.2 e.2.1 e.2.2.1 e.2.2.2.1 d.2.2.1 e.1.1 := by kernel_rfl
theorem it (k n : Nat) (d : (Unit × Unit × Int × Unit)) (e : (((List Int) × (Unit × Int)) × (List Int) × (List Int) × (List Int) × Unit)) : loopIt Tryd.prog (E k) 189 6 (subC (bodyOf Tryd.f32) [1, 1, 1, 1, 1, 1, 0, 0]) (recast cl hn kp) (finBy cl hn kp rc rs ri) n ⟨mkS S d, mkH H e⟩ = go (fun x172 y0_0 => some (.exit 6, KX d e (x172, y0_0))) k e.1.2.2 e.2.1 e.2.2.1 e.2.2.2.1 n d.2.2.1 e.1.1 :=
  loopIt_eq (D := (Unit × Unit × Int × Unit) × (((List Int) × (Unit × Int)) × (List Int) × (List Int) × (List Int) × Unit)) (fun p => ⟨mkS S p.1, mkH H p.2⟩) (fun F p => step (fun x172 y0_0 => some (.exit 6, KX p.1 p.2 (x172, y0_0))) (fun x172 y0_0 => F (((), (), x172, ()), ((y0_0, ((), p.2.1.2.2)), p.2.2.1, p.2.2.2.1, p.2.2.2.2.1, ()))) k p.2.1.2.2 p.2.2.1 p.2.2.2.1 p.2.2.2.2.1 p.1.2.2.1 p.2.1.1) (fun n p => go (fun x172 y0_0 => some (.exit 6, KX p.1 p.2 (x172, y0_0))) k p.2.1.2.2 p.2.2.1 p.2.2.2.1 p.2.2.2.2.1 n p.1.2.2.1 p.2.1.1) (fun _ => rfl) (fun _ _ => rfl) (fun G p => round k p.1 p.2 G) n (d, e)
theorem ok (k : Nat) : LoopOK Tryd.prog 189 (subC (bodyOf Tryd.f32) [1, 1, 1, 1, 1, 1, 0, 0]) (sum k) :=
  loop_sigX hm (fE k) (loopsOK_of [] (by kernel_rfl) trivial) S cl hn kp H 6 (fun (d : (Unit × Unit × Int × Unit)) (e : (((List Int) × (Unit × Int)) × (List Int) × (List Int) × (List Int) × Unit)) => f k e.1.2.2 e.2.1 e.2.2.1 e.2.2.2.1 k d.2.2.1 e.1.1) KX cl hn kp rc rs ri k
    (fun d e => (it k k d e).trans (go_nat (fun v => some (Ex.exit 6, KX d e v)) (fun x172 y0_0 => some (x172, y0_0)) k e.1.2.2 e.2.1 e.2.2.1 e.2.2.2.1 k d.2.2.1 e.1.1).symm)
end l6
theorem run (k : Nat) (d : (Unit × Unit × Unit)) (e : (((List Int) × (Unit × Int)) × (List Int) × (List Int) × Unit)) : runFn Tryd.prog (E k) 189 (bodyOf Tryd.f32) Tryd.f32.results.toList cl hn hi (mkL ps d) (mkH hs e) =
    tree (fun b0 b1 => leafFn hs fi e val wr (b0, b1)) k e.1.1 e.1.2.2 e.2.1 e.2.2.1 := by kernel_rfl
theorem run_f (k : Nat) (d : (Unit × Unit × Unit)) (e : (((List Int) × (Unit × Int)) × (List Int) × (List Int) × Unit)) : runFn Tryd.prog (E k) 189 (bodyOf Tryd.f32) Tryd.f32.results.toList cl hn hi (mkL ps d) (mkH hs e) = (f k e.1.1 e.1.2.2 e.2.1 e.2.2.1).bind (leafFn hs fi e val wr) :=
  (run k d e).trans (tree_nat (leafFn hs fi e val wr) (fun b0 b1 => some (b0, b1)) k e.1.1 e.1.2.2 e.2.1 e.2.2.1).symm
theorem fnIs : FnIs Tryd.prog 32 Tryd.f32 (bodyOf Tryd.f32) 189 := ⟨by kernel_rfl, by kernel_rfl, by kernel_rfl, by kernel_rfl⟩
theorem ok (k : Nat) : CalleeOK Tryd.prog 32 (callee k) :=
  callee_sig (T := ((List Int) × Int)) fnIs hm (fE k) (loopsOK_of [(0, subC (bodyOf Tryd.f32) [1, 0, 1, 0, 0]), (2, subC (bodyOf Tryd.f32) [1, 1, 0, 1, 0, 0]), (4, subC (bodyOf Tryd.f32) [1, 1, 1, 1, 0, 1, 0, 0]), (6, subC (bodyOf Tryd.f32) [1, 1, 1, 1, 1, 1, 0, 0])] (by kernel_rfl) ⟨of_loop (l0.sum k) rfl (l0.ok k), ⟨of_loop (l2.sum k) rfl (l2.ok k), ⟨of_loop (l4.sum k) rfl (l4.ok k), ⟨of_loop (l6.sum k) rfl (l6.ok k), trivial⟩⟩⟩⟩) ps hs cl hn fi (fun (d : (Unit × Unit × Unit)) (e : (((List Int) × (Unit × Int)) × (List Int) × (List Int) × Unit)) => f k e.1.1 e.1.2.2 e.2.1 e.2.2.1) val wr rfl (fun _ => rfl) (run_f k)
end digest_Hasher_take_v1
namespace digest_Hasher_Sum
namespace l0
def step {X : Type} (K : (List Int) → Option X) (G : (List Int) → Option X) (k : Nat) (y0_0 : (List Int)) (y0_1 : Int) (y1 : (List Int)) (y2 : (List Int)) (y800003 : (List Int)) (y800004_0 : (List Int)) (y800004_1 : Int) (y800005 : (List Int)) : Option X :=
  (bif ((remI ((List.length y800005) : Int) 64) != (56 : Int)) then (bif (fits (((List.length y800005) + 1) * 1)) then (G (y800005 ++ ([0] : (List Int)))) else none) else (K y800005))
def go {X : Type} (K : (List Int) → Option X) (k : Nat) (y0_0 : (List Int)) (y0_1 : Int) (y1 : (List Int)) (y2 : (List Int)) (y800003 : (List Int)) (y800004_0 : (List Int)) (y800004_1 : Int) : Nat → (List Int) → Option X
  | 0, _ => none
  | n + 1, y800005 => step K (go K k y0_0 y0_1 y1 y2 y800003 y800004_0 y800004_1 n) k y0_0 y0_1 y1 y2 y800003 y800004_0 y800004_1 y800005
def f (k : Nat) (y0_0 : (List Int)) (y0_1 : Int) (y1 : (List Int)) (y2 : (List Int)) (y800003 : (List Int)) (y800004_0 : (List Int)) (y800004_1 : Int) (n : Nat) (y800005 : (List Int)) : Option (List Int) := go (fun y800005 => some y800005) k y0_0 y0_1 y1 y2 y800003 y800004_0 y800004_1 n y800005
theorem step_nat {X Y : Type} (h : X → Option Y) (K : (List Int) → Option X) (G : (List Int) → Option X) (k : Nat) (y0_0 : (List Int)) (y0_1 : Int) (y1 : (List Int)) (y2 : (List Int)) (y800003 : (List Int)) (y800004_0 : (List Int)) (y800004_1 : Int) (y800005 : (List Int)) : Option.bind (step K G k y0_0 y0_1 y1 y2 y800003 y800004_0 y800004_1 y800005) h = step (fun y800005 => Option.bind (K y800005) h) (fun y800005 => Option.bind (G y800005) h) k y0_0 y0_1 y1 y2 y800003 y800004_0 y800004_1 y800005 := by
  simp only [step, bif_bind, sel_bind', Option.bind_assoc, Option.bind_none, Option.bind_some]
theorem go_nat {X Y : Type} (h : X → Option Y) (K : (List Int) → Option X) (k : Nat) (y0_0 : (List Int)) (y0_1 : Int) (y1 : (List Int)) (y2 : (List Int)) (y800003 : (List Int)) (y800004_0 : (List Int)) (y800004_1 : Int) (n : Nat) : ∀ (y800005 : (List Int)), Option.bind (go K k y0_0 y0_1 y1 y2 y800003 y800004_0 y800004_1 n y800005) h = go (fun y800005 => Option.bind (K y800005) h) k y0_0 y0_1 y1 y2 y800003 y800004_0 y800004_1 n y800005 := by
  induction n with
  | zero => intros; rfl
  | succ n ih => intro y800005; show Option.bind (step K (go K k y0_0 y0_1 y1 y2 y800003 y800004_0 y800004_1 n) k y0_0 y0_1 y1 y2 y800003 y800004_0 y800004_1 y800005) h = step (fun y800005 => Option.bind (K y800005) h) (go (fun y800005 => Option.bind (K y800005) h) k y0_0 y0_1 y1 y2 y800003 y800004_0 y800004_1 n) k y0_0 y0_1 y1 y2 y800003 y800004_0 y800004_1 y800005; rw [step_nat h]; simp only [ih]
abbrev S : List (Nat × Sh) := [(0, .ptr 0), (2, .ptr 800003), (3, .ptr 800004), (4, .vec 800005)]
abbrev H : List (Nat × ESh) := [(0, .cell (.pair (.data (.arr .u32 8)) (.pair (.vec 2) (.data (.int .u64))))), (1, .glob 1 (.arr .u32 64)), (2, .rows 1 5 (.int .u8)), (800003, .cell (.data (.arr .u8 32))), (800004, .cell (.pair (.data (.arr .u32 8)) (.pair .nils (.data (.int .u64))))), (800005, .rows 2 5 (.int .u8))]
abbrev cl : List (Place × Nat × Hint) := []
abbrev hn : List (Nat × Hint) := [(0, .any), (2, .any), (3, .any), (4, .any)]
abbrev kp : List Nat := [0, 1, 2]
abbrev rc : List (Place × Nat × Hint) := []
abbrev rs : List (Nat × Hint) := []
abbrev ri : List Nat := [0, 1, 2]
def KX (d : (Unit × Unit × Unit × Unit × Unit)) (e : (((List Int) × (Unit × Int)) × (List Int) × (List Int) × (List Int) × ((List Int) × (Unit × Int)) × (List Int) × Unit)) (v : (List Int)) : St := ⟨mkS S ((), (), (), (), ()), mkH H ((e.1.1, ((), e.1.2.2)), e.2.1, e.2.2.1, e.2.2.2.1, (e.2.2.2.2.1.1, ((), e.2.2.2.2.1.2.2)), v, ())⟩
def sum (k : Nat) : LoopSum := sigLoopX S cl hn kp H 0 (fun (d : (Unit × Unit × Unit × Unit × Unit)) (e : (((List Int) × (Unit × Int)) × (List Int) × (List Int) × (List Int) × ((List Int) × (Unit × Int)) × (List Int) × Unit)) => f k e.1.1 e.1.2.2 e.2.1 e.2.2.1 e.2.2.2.1 e.2.2.2.2.1.1 e.2.2.2.2.1.2.2 k e.2.2.2.2.2.1) KX
end l0
namespace l2
def step {X : Type} (K : Int → (List Int) → Option X) (G : Int → (List Int) → Option X) (k : Nat) (y0_0 : (List Int)) (y0_1 : Int) (y1 : (List Int)) (y2 : (List Int)) (y800003 : (List Int)) (y800004_0 : (List Int)) (y800004_1 : Int) (x5 : Int) (y800005 : (List Int)) : Option X :=
  (bif (decide (x5 ≥ (0 : Int))) then (bif (decide ((mulI .i64 8 x5) < 0)) then none else (bif (fits (((List.length y800005) + 1) * 1)) then (G (subI .i64 x5 1) (y800005 ++ ([(IntKind.wrap .u8 (shrI .u64 (mulI .u64 y0_1 8) (mulI .i64 8 x5)))] : (List Int)))) else none)) else (K x5 y800005))
def go {X : Type} (K : Int → (List Int) → Option X) (k : Nat) (y0_0 : (List Int)) (y0_1 : Int) (y1 : (List Int)) (y2 : (List Int)) (y800003 : (List Int)) (y800004_0 : (List Int)) (y800004_1 : Int) : Nat → Int → (List Int) → Option X
  | 0, _, _ => none
  | n + 1, x5, y800005 => step K (go K k y0_0 y0_1 y1 y2 y800003 y800004_0 y800004_1 n) k y0_0 y0_1 y1 y2 y800003 y800004_0 y800004_1 x5 y800005
def f (k : Nat) (y0_0 : (List Int)) (y0_1 : Int) (y1 : (List Int)) (y2 : (List Int)) (y800003 : (List Int)) (y800004_0 : (List Int)) (y800004_1 : Int) (n : Nat) (x5 : Int) (y800005 : (List Int)) : Option (Int × (List Int)) := go (fun x5 y800005 => some (x5, y800005)) k y0_0 y0_1 y1 y2 y800003 y800004_0 y800004_1 n x5 y800005
theorem step_nat {X Y : Type} (h : X → Option Y) (K : Int → (List Int) → Option X) (G : Int → (List Int) → Option X) (k : Nat) (y0_0 : (List Int)) (y0_1 : Int) (y1 : (List Int)) (y2 : (List Int)) (y800003 : (List Int)) (y800004_0 : (List Int)) (y800004_1 : Int) (x5 : Int) (y800005 : (List Int)) : Option.bind (step K G k y0_0 y0_1 y1 y2 y800003 y800004_0 y800004_1 x5 y800005) h = step (fun x5 y800005 => Option.bind (K x5 y800005) h) (fun x5 y800005 => Option.bind (G x5 y800005) h) k y0_0 y0_1 y1 y2 y800003 y800004_0 y800004_1 x5 y800005 := by
  simp only [step, bif_bind, sel_bind', Option.bind_assoc, Option.bind_none, Option.bind_some]
theorem go_nat {X Y : Type} (h : X → Option Y) (K : Int → (List Int) → Option X) (k : Nat) (y0_0 : (List Int)) (y0_1 : Int) (y1 : (List Int)) (y2 : (List Int)) (y800003 : (List Int)) (y800004_0 : (List Int)) (y800004_1 : Int) (n : Nat) : ∀ (x5 : Int) (y800005 : (List Int)), Option.bind (go K k y0_0 y0_1 y1 y2 y800003 y800004_0 y800004_1 n x5 y800005) h = go (fun x5 y800005 => Option.bind (K x5 y800005) h) k y0_0 y0_1 y1 y2 y800003 y800004_0 y800004_1 n x5 y800005 := by
  induction n with
  | zero => intros; rfl
  | succ n ih => intro x5 y800005; show Option.bind (step K (go K k y0_0 y0_1 y1 y2 y800003 y800004_0 y800004_1 n) k y0_0 y0_1 y1 y2 y800003 y800004_0 y800004_1 x5 y800005) h = step (fun x5 y800005 => Option.bind (K x5 y800005) h) (go (fun x5 y800005 => Option.bind (K x5 y800005) h) k y0_0 y0_1 y1 y2 y800003 y800004_0 y800004_1 n) k y0_0 y0_1 y1 y2 y800003 y800004_0 y800004_1 x5 y800005; rw [step_nat h]; simp only [ih]
abbrev S : List (Nat × Sh) := [(0, .ptr 0), (2, .ptr 800003), (3, .ptr 800004), (4, .vec 800005), (5, .data (.int .i64))]
abbrev H : List (Nat × ESh) := [(0, .cell (.pair (.data (.arr .u32 8)) (.pair (.vec 2) (.data (.int .u64))))), (1, .glob 1 (.arr .u32 64)), (2, .rows 1 5 (.int .u8)), (800003, .cell (.data (.arr .u8 32))), (800004, .cell (.pair (.data (.arr .u32 8)) (.pair .nils (.data (.int .u64))))), (800005, .rows 2 5 (.int .u8))]
abbrev cl : List (Place × Nat × Hint) := []
abbrev hn : List (Nat × Hint) := [(0, .any), (2, .any), (3, .any), (4, .any), (5, .any)]
abbrev kp : List Nat := [0, 1, 2]
abbrev rc : List (Place × Nat × Hint) := []
abbrev rs : List (Nat × Hint) := []
abbrev ri : List Nat := [0, 1, 2]
def KX (d : (Unit × Unit × Unit × Unit × Int × Unit)) (e : (((List Int) × (Unit × Int)) × (List Int) × (List Int) × (List Int) × ((List Int) × (Unit × Int)) × (List Int) × Unit)) (v : (Int × (List Int))) : St := ⟨mkS S ((), (), (), (), v.1, ()), mkH H ((e.1.1, ((), e.1.2.2)), e.2.1, e.2.2.1, e.2.2.2.1, (e.2.2.2.2.1.1, ((), e.2.2.2.2.1.2.2)), v.2, ())⟩
def sum (k : Nat) : LoopSum := sigLoopX S cl hn kp H 2 (fun (d : (Unit × Unit × Unit × Unit × Int × Unit)) (e : (((List Int) × (Unit × Int)) × (List Int) × (List Int) × (List Int) × ((List Int) × (Unit × Int)) × (List Int) × Unit)) => f k e.1.1 e.1.2.2 e.2.1 e.2.2.1 e.2.2.2.1 e.2.2.2.2.1.1 e.2.2.2.2.1.2.2 k d.2.2.2.2.1 e.2.2.2.2.2.1) KX
end l2
namespace l4
def step {X : Type} (K : (List Int) → Int → (List Int) → Option X) (G : (List Int) → Int → (List Int) → Option X) (k : Nat) (y0_0 : (List Int)) (y0_1 : Int) (y1 : (List Int)) (y2 : (List Int)) (y800003 : (List Int)) (y800004_0 : (List Int)) (y800004_1 : Int) (y800005 : (List Int)) : Option X :=
  (bif (decide (((List.length y800005) : Int) > (0 : Int))) then (bif (decide (64 ≤ ((List.length y800005) : Int))) then (Option.bind (digest_Hasher_take_v1.f k y800004_0 y800004_1 (List.take 64 y800005) y1) (fun r3 => (bif (decide (64 ≤ ((List.length y800005) : Int))) then (G r3.1 r3.2 (List.drop 64 y800005)) else none))) else none) else (K y800004_0 y800004_1 y800005))
def go {X : Type} (K : (List Int) → Int → (List Int) → Option X) (k : Nat) (y0_0 : (List Int)) (y0_1 : Int) (y1 : (List Int)) (y2 : (List Int)) (y800003 : (List Int)) : Nat → (List Int) → Int → (List Int) → Option X
  | 0, _, _, _ => none
  | n + 1, y800004_0, y800004_1, y800005 => step K (go K k y0_0 y0_1 y1 y2 y800003 n) k y0_0 y0_1 y1 y2 y800003 y800004_0 y800004_1 y800005
def f (k : Nat) (y0_0 : (List Int)) (y0_1 : Int) (y1 : (List Int)) (y2 : (List Int)) (y800003 : (List Int)) (n : Nat) (y800004_0 : (List Int)) (y800004_1 : Int) (y800005 : (List Int)) : Option ((List Int) × (Int × (List Int))) := go (fun y800004_0 y800004_1 y800005 => some (y800004_0, y800004_1, y800005)) k y0_0 y0_1 y1 y2 y800003 n y800004_0 y800004_1 y800005
theorem step_nat {X Y : Type} (h : X → Option Y) (K : (List Int) → Int → (List Int) → Option X) (G : (List Int) → Int → (List Int) → Option X) (k : Nat) (y0_0 : (List Int)) (y0_1 : Int) (y1 : (List Int)) (y2 : (List Int)) (y800003 : (List Int)) (y800004_0 : (List Int)) (y800004_1 : Int) (y800005 : (List Int)) : Option.bind (step K G k y0_0 y0_1 y1 y2 y800003 y800004_0 y800004_1 y800005) h = step (fun y800004_0 y800004_1 y800005 => Option.bind (K y800004_0 y800004_1 y800005) h) (fun y800004_0 y800004_1 y800005 => Option.bind (G y800004_0 y800004_1 y800005) h) k y0_0 y0_1 y1 y2 y800003 y800004_0 y800004_1 y800005 := by
  simp only [step, bif_bind, sel_bind', Option.bind_assoc, Option.bind_none, Option.bind_some]
theorem go_nat {X Y : Type} (h : X → Option Y) (K : (List Int) → Int → (List Int) → Option X) (k : Nat) (y0_0 : (List Int)) (y0_1 : Int) (y1 : (List Int)) (y2 : (List Int)) (y800003 : (List Int)) (n : Nat) : ∀ (y800004_0 : (List Int)) (y800004_1 : Int) (y800005 : (List Int)), Option.bind (go K k y0_0 y0_1 y1 y2 y800003 n y800004_0 y800004_1 y800005) h = go (fun y800004_0 y800004_1 y800005 => Option.bind (K y800004_0 y800004_1 y800005) h) k y0_0 y0_1 y1 y2 y800003 n y800004_0 y800004_1 y800005 := by
  induction n with
  | zero => intros; rfl
  | succ n ih => intro y800004_0 y800004_1 y800005; show Option.bind (step K (go K k y0_0 y0_1 y1 y2 y800003 n) k y0_0 y0_1 y1 y2 y800003 y800004_0 y800004_1 y800005) h = step (fun y800004_0 y800004_1 y800005 => Option.bind (K y800004_0 y800004_1 y800005) h) (go (fun y800004_0 y800004_1 y800005 => Option.bind (K y800004_0 y800004_1 y800005) h) k y0_0 y0_1 y1 y2 y800003 n) k y0_0 y0_1 y1 y2 y800003 y800004_0 y800004_1 y800005; rw [step_nat h]; simp only [ih]
abbrev S : List (Nat × Sh) := [(2, .ptr 800003), (3, .ptr 800004), (4, .vec 800005)]
abbrev H : List (Nat × ESh) := [(0, .cell (.pair (.data (.arr .u32 8)) (.pair (.vec 2) (.data (.int .u64))))), (1, .glob 1 (.arr .u32 64)), (2, .rows 1 5 (.int .u8)), (800003, .cell (.data (.arr .u8 32))), (800004, .cell (.pair (.data (.arr .u32 8)) (.pair .nils (.data (.int .u64))))), (800005, .rows 1 5 (.int .u8))]
abbrev cl : List (Place × Nat × Hint) := []
abbrev hn : List (Nat × Hint) := [(2, .any), (3, .any), (4, (.row 1 5 (.int .u8)))]
abbrev kp : List Nat := [0, 1, 2]
abbrev rc : List (Place × Nat × Hint) := []
abbrev rs : List (Nat × Hint) := []
abbrev ri : List Nat := [0, 1, 2]
def KX (d : (Unit × Unit × Unit × Unit)) (e : (((List Int) × (Unit × Int)) × (List Int) × (List Int) × (List Int) × ((List Int) × (Unit × Int)) × (List Int) × Unit)) (v : ((List Int) × (Int × (List Int)))) : St := ⟨mkS S ((), (), (), ()), mkH H ((e.1.1, ((), e.1.2.2)), e.2.1, e.2.2.1, e.2.2.2.1, (v.1, ((), v.2.1)), v.2.2, ())⟩
def sum (k : Nat) : LoopSum := sigLoopX S cl hn kp H 4 (fun (d : (Unit × Unit × Unit × Unit)) (e : (((List Int) × (Unit × Int)) × (List Int) × (List Int) × (List Int) × ((List Int) × (Unit × Int)) × (List Int) × Unit)) => f k e.1.1 e.1.2.2 e.2.1 e.2.2.1 e.2.2.2.1 k e.2.2.2.2.1.1 e.2.2.2.2.1.2.2 e.2.2.2.2.2.1) KX
end l4
namespace l6
def step {X : Type} (K : Int → (List Int) → Option X) (G : Int → (List Int) → Option X) (k : Nat) (x61 : (List Int)) (y0_0 : (List Int)) (y0_1 : Int) (y1 : (List Int)) (y2 : (List Int)) (y800003 : (List Int)) (x62 : Int) (y800004 : (List Int)) : Option X :=
  (bif (decide (x62 < (8 : Int))) then (bif (decide (0 ≤ x62)) then (bif (decide (x62 < 8)) then (bif (decide (0 ≤ (mulI .i64 4 x62))) then (bif (decide ((mulI .i64 4 x62) < 32)) then (bif (decide ((Int.toNat (mulI .i64 4 x62)) < 32)) then (bif (decide (0 ≤ (addI .i64 (mulI .i64 4 x62) 1))) then (bif (decide ((addI .i64 (mulI .i64 4 x62) 1) < 32)) then (bif (decide ((Int.toNat (addI .i64 (mulI .i64 4 x62) 1)) < 32)) then (bif (decide (0 ≤ (addI .i64 (mulI .i64 4 x62) 2))) then (bif (decide ((addI .i64 (mulI .i64 4 x62) 2) < 32)) then (bif (decide ((Int.toNat (addI .i64 (mulI .i64 4 x62) 2)) < 32)) then (bif (decide (0 ≤ (addI .i64 (mulI .i64 4 x62) 3))) then (bif (decide ((addI .i64 (mulI .i64 4 x62) 3) < 32)) then (bif (decide ((Int.toNat (addI .i64 (mulI .i64 4 x62) 3)) < 32)) then (G (addI .i64 x62 1) (List.set (List.set (List.set (List.set y800004 (Int.toNat (mulI .i64 4 x62)) (IntKind.wrap .u8 (shrI .u32 (List.getD x61 (Int.toNat x62) 0) 24))) (Int.toNat (addI .i64 (mulI .i64 4 x62) 1)) (IntKind.wrap .u8 (shrI .u32 (List.getD x61 (Int.toNat x62) 0) 16))) (Int.toNat (addI .i64 (mulI .i64 4 x62) 2)) (IntKind.wrap .u8 (shrI .u32 (List.getD x61 (Int.toNat x62) 0) 8))) (Int.toNat (addI .i64 (mulI .i64 4 x62) 3)) (IntKind.wrap .u8 (List.getD x61 (Int.toNat x62) 0)))) else none) else none) else none) else none) else none) else none) else none) else none) else none) else none) else none) else none) else none) else none) else (K x62 y800004))
def go {X : Type} (K : Int → (List Int) → Option X) (k : Nat) (x61 : (List Int)) (y0_0 : (List Int)) (y0_1 : Int) (y1 : (List Int)) (y2 : (List Int)) (y800003 : (List Int)) : Nat → Int → (List Int) → Option X
  | 0, _, _ => none
  | n + 1, x62, y800004 => step K (go K k x61 y0_0 y0_1 y1 y2 y800003 n) k x61 y0_0 y0_1 y1 y2 y800003 x62 y800004
def f (k : Nat) (x61 : (List Int)) (y0_0 : (List Int)) (y0_1 : Int) (y1 : (List Int)) (y2 : (List Int)) (y800003 : (List Int)) (n : Nat) (x62 : Int) (y800004 : (List Int)) : Option (Int × (List Int)) := go (fun x62 y800004 => some (x62, y800004)) k x61 y0_0 y0_1 y1 y2 y800003 n x62 y800004
theorem step_nat {X Y : Type} (h : X → Option Y) (K : Int → (List Int) → Option X) (G : Int → (List Int) → Option X) (k : Nat) (x61 : (List Int)) (y0_0 : (List Int)) (y0_1 : Int) (y1 : (List Int)) (y2 : (List Int)) (y800003 : (List Int)) (x62 : Int) (y800004 : (List Int)) : Option.bind (step K G k x61 y0_0 y0_1 y1 y2 y800003 x62 y800004) h = step (fun x62 y800004 => Option.bind (K x62 y800004) h) (fun x62 y800004 => Option.bind (G x62 y800004) h) k x61 y0_0 y0_1 y1 y2 y800003 x62 y800004 := by
  simp only [step, bif_bind, sel_bind', Option.bind_assoc, Option.bind_none, Option.bind_some]
theorem go_nat {X Y : Type} (h : X → Option Y) (K : Int → (List Int) → Option X) (k : Nat) (x61 : (List Int)) (y0_0 : (List Int)) (y0_1 : Int) (y1 : (List Int)) (y2 : (List Int)) (y800003 : (List Int)) (n : Nat) : ∀ (x62 : Int) (y800004 : (List Int)), Option.bind (go K k x61 y0_0 y0_1 y1 y2 y800003 n x62 y800004) h = go (fun x62 y800004 => Option.bind (K x62 y800004) h) k x61 y0_0 y0_1 y1 y2 y800003 n x62 y800004 := by
  induction n with
  | zero => intros; rfl
  | succ n ih => intro x62 y800004; show Option.bind (step K (go K k x61 y0_0 y0_1 y1 y2 y800003 n) k x61 y0_0 y0_1 y1 y2 y800003 x62 y800004) h = step (fun x62 y800004 => Option.bind (K x62 y800004) h) (go (fun x62 y800004 => Option.bind (K x62 y800004) h) k x61 y0_0 y0_1 y1 y2 y800003 n) k x61 y0_0 y0_1 y1 y2 y800003 x62 y800004; rw [step_nat h]; simp only [ih]
abbrev S : List (Nat × Sh) := [(2, .ptr 800003), (6, .ptr 800004), (61, .data (.arr .u32 8)), (62, .data (.int .i64))]
abbrev H : List (Nat × ESh) := [(0, .cell (.pair (.data (.arr .u32 8)) (.pair (.vec 2) (.data (.int .u64))))), (1, .glob 1 (.arr .u32 64)), (2, .rows 1 5 (.int .u8)), (800003, .cell (.data (.arr .u8 32))), (800004, .cell (.data (.arr .u8 32)))]
abbrev cl : List (Place × Nat × Hint) := []
abbrev hn : List (Nat × Hint) := [(2, .any), (6, .any), (61, .any), (62, .any)]
abbrev kp : List Nat := [0, 1, 2]
abbrev rc : List (Place × Nat × Hint) := []
abbrev rs : List (Nat × Hint) := []
abbrev ri : List Nat := [0, 1, 2]
def KX (d : (Unit × Unit × (List Int) × Int × Unit)) (e : (((List Int) × (Unit × Int)) × (List Int) × (List Int) × (List Int) × (List Int) × Unit)) (v : (Int × (List Int))) : St := ⟨mkS S ((), (), d.2.2.1, v.1, ()), mkH H ((e.1.1, ((), e.1.2.2)), e.2.1, e.2.2.1, e.2.2.2.1, v.2, ())⟩
def sum (k : Nat) : LoopSum := sigLoopX S cl hn kp H 6 (fun (d : (Unit × Unit × (List Int) × Int × Unit)) (e : (((List Int) × (Unit × Int)) × (List Int) × (List Int) × (List Int) × (List Int) × Unit)) => f k d.2.2.1 e.1.1 e.1.2.2 e.2.1 e.2.2.1 e.2.2.2.1 k d.2.2.2.1 e.2.2.2.2.1) KX
end l6
def tree {X : Type} (K : (List Int) → Option X) (k : Nat) (m0_0 : (List Int)) (m0_1 : Int) (m1 : (List Int)) (m2 : (List Int)) : Option X :=
  (bif (fits ((List.length m2) * 1)) then (bif (fits (((List.length m2) + 1) * 1)) then (Option.bind (digest_Hasher_Sum.l0.f k m0_0 m0_1 m1 m2 ([0, 0, 0, 0, 0, 0, 0, 0, 0, 0, 0, 0, 0, 0, 0, 0, 0, 0, 0, 0, 0, 0, 0, 0, 0, 0, 0, 0, 0, 0, 0, 0] : (List Int)) m0_0 (0 : Int) k (m2 ++ ([128] : (List Int)))) (fun r1 => (Option.bind (digest_Hasher_Sum.l2.f k m0_0 m0_1 m1 m2 ([0, 0, 0, 0, 0, 0, 0, 0, 0, 0, 0, 0, 0, 0, 0, 0, 0, 0, 0, 0, 0, 0, 0, 0, 0, 0, 0, 0, 0, 0, 0, 0] : (List Int)) m0_0 (0 : Int) k (7 : Int) r1) (fun r2 => (Option.bind (digest_Hasher_Sum.l4.f k m0_0 m0_1 m1 m2 ([0, 0, 0, 0, 0, 0, 0, 0, 0, 0, 0, 0, 0, 0, 0, 0, 0, 0, 0, 0, 0, 0, 0, 0, 0, 0, 0, 0, 0, 0, 0, 0] : (List Int)) k m0_0 (0 : Int) r2.2) (fun r4 => (Option.bind (digest_Hasher_Sum.l6.f k r4.1 m0_0 m0_1 m1 m2 ([0, 0, 0, 0, 0, 0, 0, 0, 0, 0, 0, 0, 0, 0, 0, 0, 0, 0, 0, 0, 0, 0, 0, 0, 0, 0, 0, 0, 0, 0, 0, 0] : (List Int)) k (0 : Int) ([0, 0, 0, 0, 0, 0, 0, 0, 0, 0, 0, 0, 0, 0, 0, 0, 0, 0, 0, 0, 0, 0, 0, 0, 0, 0, 0, 0, 0, 0, 0, 0] : (List Int))) (fun r5 => (K r5.2))))))))) else none) else none)
def f (k : Nat) (m0_0 : (List Int)) (m0_1 : Int) (m1 : (List Int)) (m2 : (List Int)) : Option (List Int) := tree (fun b0 => some b0) k m0_0 m0_1 m1 m2
theorem tree_nat {X Y : Type} (h : X → Option Y) (K : (List Int) → Option X) (k : Nat) (m0_0 : (List Int)) (m0_1 : Int) (m1 : (List Int)) (m2 : (List Int)) : Option.bind (tree K k m0_0 m0_1 m1 m2) h = tree (fun b0 => Option.bind (K b0) h) k m0_0 m0_1 m1 m2 := by
  simp only [tree, bif_bind, sel_bind', Option.bind_assoc, Option.bind_none, Option.bind_some]
abbrev ps : List Sh := [.ptr 0]
abbrev hs : List (Nat × ESh) := [(0, .cell (.pair (.data (.arr .u32 8)) (.pair (.vec 2) (.data (.int .u64))))), (1, .glob 1 (.arr .u32 64)), (2, .rows 1 5 (.int .u8))]
abbrev hi : List Nat := hs.map (·.1)
abbrev fi : List Nat := [0, 1, 2]
abbrev cl : List (Place × Nat × Hint) := []
abbrev hn : List Hint := [.any]
def val (t : (List Int)) : AV := Sh.mk (.data (.arr .u8 32)) t
def wr (t : (List Int)) : Heap := []
def callee (k : Nat) : Callee := sigCallee ps hs (fun (d : (Unit × Unit)) (e : (((List Int) × (Unit × Int)) × (List Int) × (List Int) × Unit)) => f k e.1.1 e.1.2.2 e.2.1 e.2.2.1) val wr
def E (k : Nat) : Env := ⟨fnTab [(32, [digest_Hasher_take_v1.callee k])], loopTab [(0, l0.sum k), (2, l2.sum k), (4, l4.sum k), (6, l6.sum k)], natsTab [(32, [1])], natTab [(1, 1)]⟩
theorem fE (k : Nat) : ∀ f, ∀ c ∈ (E k).fn f, CalleeOK Tryd.prog f c := fnTab_ok ⟨⟨digest_Hasher_take_v1.ok k, trivial⟩, trivial⟩
namespace l0
theorem round (k : Nat) (d : (Unit × Unit × Unit × Unit × Unit)) (e : (((List Int) × (Unit × Int)) × (List Int) × (List Int) × (List Int) × ((List Int) × (Unit × Int)) × (List Int) × Unit)) (G : St → Option (Ex × St)) : roundK Tryd.prog (E k) 94 0 (subC (bodyOf Tryd.f31) [1, 1, 1, 1, 1, 0, 0, 0]) (recast cl hn kp) (finBy cl hn kp rc rs ri) G ⟨mkS S d, mkH H e⟩ =
    step (fun y800005 => some (.exit 0, KX d e y800005)) (fun y800005 => G ⟨mkS S ((), (), (), (), ()), mkH H ((e.1.1, ((), e.1.2.2)), e.2.1, e.2.2.1, e.2.2.2.1, (e.2.2.2.2.1.1, ((), e.2.2.2.2.1.2.2)), y800005, ())⟩) k e.1.1 e.1.2.2 e.2.1 e.2.2.1 e.2.2.2.1 e.2.2.2.2.1.1 e.2.2.2.2.1.2.2 e.2.2.2.2.2.1 := by kernel_rfl
theorem it (k n : Nat) (d : (Unit × Unit × Unit × Unit × Unit)) (e : (((List Int) × (Unit × Int)) × (List Int) × (List Int) × (List Int) × ((List Int) × (Unit × Int)) × (List Int) × Unit)) : loopIt Tryd.prog (E k) 94 0 (subC (bodyOf Tryd.f31) [1, 1, 1, 1, 1, 0, 0, 0]) (recast cl hn kp) (finBy cl hn kp rc rs ri) n ⟨mkS S d, mkH H e⟩ = go (fun y800005 => some (.exit 0, KX d e y800005)) k e.1.1 e.1.2.2 e.2.1 e.2.2.1 e.2.2.2.1 e.2.2.2.2.1.1 e.2.2.2.2.1.2.2 n e.2.2.2.2.2.1 :=
  loopIt_eq (D := (Unit × Unit × Unit × Unit × Unit) × (((List Int) × (Unit × Int)) × (List Int) × (List Int) × (List Int) × ((List Int) × (Unit × Int)) × (List Int) × Unit)) (fun p => ⟨mkS S p.1, mkH H p.2⟩) (fun F p => step (fun y800005 => some (.exit 0, KX p.1 p.2 y800005)) (fun y800005 => F (((), (), (), (), ()), ((p.2.1.1, ((), p.2.1.2.2)), p.2.2.1, p.2.2.2.1, p.2.2.2.2.1, (p.2.2.2.2.2.1.1, ((), p.2.2.2.2.2.1.2.2)), y800005, ()))) k p.2.1.1 p.2.1.2.2 p.2.2.1 p.2.2.2.1 p.2.2.2.2.1 p.2.2.2.2.2.1.1 p.2.2.2.2.2.1.2.2 p.2.2.2.2.2.2.1) (fun n p => go (fun y800005 => some (.exit 0, KX p.1 p.2 y800005)) k p.2.1.1 p.2.1.2.2 p.2.2.1 p.2.2.2.1 p.2.2.2.2.1 p.2.2.2.2.2.1.1 p.2.2.2.2.2.1.2.2 n p.2.2.2.2.2.2.1) (fun _ => rfl) (fun _ _ => rfl) (fun G p => round k p.1 p.2 G) n (d, e)
theorem ok (k : Nat) : LoopOK Tryd.prog 94 (subC (bodyOf Tryd.f31) [1, 1, 1, 1, 1, 0, 0, 0]) (sum k) :=
  loop_sigX hm (fE k) (loopsOK_of [] (by kernel_rfl) trivial) S cl hn kp H 0 (fun (d : (Unit × Unit × Unit × Unit × Unit)) (e : (((List Int) × (Unit × Int)) × (List Int) × (List Int) × (List Int) × ((List Int) × (Unit × Int)) × (List Int) × Unit)) => f k e.1.1 e.1.2.2 e.2.1 e.2.2.1 e.2.2.2.1 e.2.2.2.2.1.1 e.2.2.2.2.1.2.2 k e.2.2.2.2.2.1) KX cl hn kp rc rs ri k
    (fun d e => (it k k d e).trans (go_nat (fun v => some (Ex.exit 0, KX d e v)) (fun y800005 => some y800005) k e.1.1 e.1.2.2 e.2.1 e.2.2.1 e.2.2.2.1 e.2.2.2.2.1.1 e.2.2.2.2.1.2.2 k e.2.2.2.2.2.1).symm)
end l0
namespace l2
theorem round (k : Nat) (d : (Unit × Unit × Unit × Unit × Int × Unit)) (e : (((List Int) × (Unit × Int)) × (List Int) × (List Int) × (List Int) × ((List Int) × (Unit × Int)) × (List Int) × Unit)) (G : St → Option (Ex × St)) : roundK Tryd.prog (E k) 94 2 (subC (bodyOf Tryd.f31) [1, 1, 1, 1, 1, 1, 0, 1, 0, 0]) (recast cl hn kp) (finBy cl hn kp rc rs ri) G ⟨mkS S d, mkH H e⟩ =
    step (fun x5 y800005 => some (.exit 2, KX d e (x5, y800005))) (fun x5 y800005 => G ⟨mkS S ((), (), (), (), x5, ()), mkH H ((e.1.1, ((), e.1.2.2)), e.2.1, e.2.2.1, e.2.2.2.1, (e.2.2.2.2.1.1, ((), e.2.2.2.2.1.2.2)), y800005, ())⟩) k e.1.1 e.1.2.2 e.2.1 e.2.2.1 e.2.2.2.1 e.2.2.2.2.1.1 e.2.2.2.2.1.2.2 d.2.2.2.2.1 e.2.2.2.2.2.1 := by kernel_rfl
theorem it (k n : Nat) (d : (Unit × Unit × Unit × Unit × Int × Unit)) (e : (((List Int) × (Unit × Int)) × (List Int) × (List Int) × (List Int) × ((List Int) × (Unit × Int)) × (List Int) × Unit)) : loopIt Tryd.prog (E k) 94 2 (subC (bodyOf Tryd.f31) [1, 1, 1, 1, 1, 1, 0, 1, 0, 0]) (recast cl hn kp) (finBy cl hn kp rc rs ri) n ⟨mkS S d, mkH H e⟩ = go (fun x5 y800005 => some (.exit 2, KX d e (x5, y800005))) k e.1.1 e.1.2.2 e.2.1 e.2.2.1 e.2.2.2.1 e.2.2.2.2.1.1 e.2.2.2.2.1.2.2 n d.2.2.2.2.1 e.2.2.2.2.2.1 :=
  loopIt_eq (D := (Unit × Unit × Unit × Unit × Int × Unit) × (((List Int) × (Unit × Int)) × (List Int) × (List Int) × (List Int) × ((List Int) × (Unit × Int)) × (List Int) × Unit)) (fun p => ⟨mkS S p.1, mkH H p.2⟩) (fun F p => step (fun x5 y800005 => some (.exit 2, KX p.1 p.2 (x5, y800005))) (fun x5 y800005 => F (((), (), (), (), x5, ()), ((p.2.1.1, ((), p.2.1.2.2)), p.2.2.1, p.2.2.2.1, p.2.2.2.2.1, (p.2.2.2.2.2.1.1, ((), p.2.2.2.2.2.1.2.2)), y800005, ()))) k p.2.1.1 p.2.1.2.2 p.2.2.1 p.2.2.2.1 p.2.2.2.2.1 p.2.2.2.2.2.1.1 p.2.2.2.2.2.1.2.2 p.1.2.2.2.2.1 p.2.2.2.2.2.2.1) (fun n p => go (fun x5 y800005 => some (.exit 2, KX p.1 p.2 (x5, y800005))) k p.2.1.1 p.2.1.2.2 p.2.2.1 p.2.2.2.1 p.2.2.2.2.1 p.2.2.2.2.2.1.1 p.2.2.2.2.2.1.2.2 n p.1.2.2.2.2.1 p.2.2.2.2.2.2.1) (fun _ => rfl) (fun _ _ => rfl) (fun G p => round k p.1 p.2 G) n (d, e)
theorem ok (k : Nat) : LoopOK Tryd.prog 94 (subC (bodyOf Tryd.f31) [1, 1, 1, 1, 1, 1, 0, 1, 0, 0]) (sum k) :=
  loop_sigX hm (fE k) (loopsOK_of [] (by kernel_rfl) trivial) S cl hn kp H 2 (fun (d : (Unit × Unit × Unit × Unit × Int × Unit)) (e : (((List Int) × (Unit × Int)) × (List Int) × (List Int) × (List Int) × ((List Int) × (Unit × Int)) × (List Int) × Unit)) => f k e.1.1 e.1.2.2 e.2.1 e.2.2.1 e.2.2.2.1 e.2.2.2.2.1.1 e.2.2.2.2.1.2.2 k d.2.2.2.2.1 e.2.2.2.2.2.1) KX cl hn kp rc rs ri k
    (fun d e => (it k k d e).trans (go_nat (fun v => some (Ex.exit 2, KX d e v)) (fun x5 y800005 => some (x5, y800005)) k e.1.1 e.1.2.2 e.2.1 e.2.2.1 e.2.2.2.1 e.2.2.2.2.1.1 e.2.2.2.2.1.2.2 k d.2.2.2.2.1 e.2.2.2.2.2.1).symm)
end l2
namespace l4
theorem round (k : Nat) (d : (Unit × Unit × Unit × Unit)) (e : (((List Int) × (Unit × Int)) × (List Int) × (List Int) × (List Int) × ((List Int) × (Unit × Int)) × (List Int) × Unit)) (G : St → Option (Ex × St)) : roundK Tryd.prog (E k) 94 4 (subC (bodyOf Tryd.f31) [1, 1, 1, 1, 1, 1, 1, 0, 0, 0]) (recast cl hn kp) (finBy cl hn kp rc rs ri) G ⟨mkS S d, mkH H e⟩ =
    step (fun y800004_0 y800004_1 y800005 => some (.exit 4, KX d e (y800004_0, y800004_1, y800005))) (fun y800004_0 y800004_1 y800005 => G ⟨mkS S ((), (), (), ()), mkH H ((e.1.1, ((), e.1.2.2)), e.2.1, e.2.2.1, e.2.2.2.1, (y800004_0, ((), y800004_1)), y800005, ())⟩) k e.1.1 e.1.2.2 e.2.1 e.2.2.1 e.2.2.2.1 e.2.2.2.2.1.1 e.2.2.2.2.1.2.2 e.2.2.2.2.2.1 := by kernel_rfl
theorem it (k n : Nat) (d : (Unit × Unit × Unit × Unit)) (e : (((List Int) × (Unit × Int)) × (List Int) × (List Int) × (List Int) × ((List Int) × (Unit × Int)) × (List Int) × Unit)) : loopIt Tryd.prog (E k) 94 4 (subC (bodyOf Tryd.f31) [1, 1, 1, 1, 1, 1, 1, 0, 0, 0]) (recast cl hn kp) (finBy cl hn kp rc rs ri) n ⟨mkS S d, mkH H e⟩ = go (fun y800004_0 y800004_1 y800005 => some (.exit 4, KX d e (y800004_0, y800004_1, y800005))) k e.1.1 e.1.2.2 e.2.1 e.2.2.1 e.2.2.2.1 n e.2.2.2.2.1.1 e.2.2.2.2.1.2.2 e.2.2.2.2.2.1 :=
  loopIt_eq (D := (Unit × Unit × Unit × Unit) × (((List Int) × (Unit × Int)) × (List Int) × (List Int) × (List Int) × ((List Int) × (Unit × Int)) × (List Int) × Unit)) (fun p => ⟨mkS S p.1, mkH H p.2⟩) (fun F p => step (fun y800004_0 y800004_1 y800005 => some (.exit 4, KX p.1 p.2 (y800004_0, y800004_1, y800005))) (fun y800004_0 y800004_1 y800005 => F (((), (), (), ()), ((p.2.1.1, ((), p.2.1.2.2)), p.2.2.1, p.2.2.2.1, p.2.2.2.2.1, (y800004_0, ((), y800004_1)), y800005, ()))) k p.2.1.1 p.2.1.2.2 p.2.2.1 p.2.2.2.1 p.2.2.2.2.1 p.2.2.2.2.2.1.1 p.2.2.2.2.2.1.2.2 p.2.2.2.2.2.2.1) (fun n p => go (fun y800004_0 y800004_1 y800005 => some (.exit 4, KX p.1 p.2 (y800004_0, y800004_1, y800005))) k p.2.1.1 p.2.1.2.2 p.2.2.1 p.2.2.2.1 p.2.2.2.2.1 n p.2.2.2.2.2.1.1 p.2.2.2.2.2.1.2.2 p.2.2.2.2.2.2.1) (fun _ => rfl) (fun _ _ => rfl) (fun G p => round k p.1 p.2 G) n (d, e)
theorem ok (k : Nat) : LoopOK Tryd.prog 94 (subC (bodyOf Tryd.f31) [1, 1, 1, 1, 1, 1, 1, 0, 0, 0]) (sum k) :=
  loop_sigX hm (fE k) (loopsOK_of [] (by kernel_rfl) trivial) S cl hn kp H 4 (fun (d : (Unit × Unit × Unit × Unit)) (e : (((List Int) × (Unit × Int)) × (List Int) × (List Int) × (List Int) × ((List Int) × (Unit × Int)) × (List Int) × Unit)) => f k e.1.1 e.1.2.2 e.2.1 e.2.2.1 e.2.2.2.1 k e.2.2.2.2.1.1 e.2.2.2.2.1.2.2 e.2.2.2.2.2.1) KX cl hn kp rc rs ri k
    (fun d e => (it k k d e).trans (go_nat (fun v => some (Ex.exit 4, KX d e v)) (fun y800004_0 y800004_1 y800005 => some (y800004_0, y800004_1, y800005)) k e.1.1 e.1.2.2 e.2.1 e.2.2.1 e.2.2.2.1 k e.2.2.2.2.1.1 e.2.2.2.2.1.2.2 e.2.2.2.2.2.1).symm)
end l4
namespace l6
theorem round (k : Nat) (d : (Unit × Unit × (List Int) × Int × Unit)) (e : (((List Int) × (Unit × Int)) × (List Int) × (List Int) × (List Int) × (List Int) × Unit)) (G : St → Option (Ex × St)) : roundK Tryd.prog (E k) 94 6 (subC (bodyOf Tryd.f31) [1, 1, 1, 1, 1, 1, 1, 1, 1, 0, 1, 0, 0]) (recast cl hn kp) (finBy cl hn kp rc rs ri) G ⟨mkS S d, mkH H e⟩ =
    step (fun x62 y800004 => some (.exit 6, KX d e (x62, y800004))) (fun x62 y800004 => G ⟨mkS S ((), (), d.2.2.1, x62, ()), mkH H ((e.1.1, ((), e.1.2.2)), e.2.1, e.2.2.1, e.2.2.2.1, y800004, ())⟩) k d.2.2.1 e.1.1 e.1.2.2 e.2.1 e.2.2.1 e.2.2.2.1 d.2.2.2.1 e.2.2.2.2.1 := by kernel_rfl
theorem it (k n : Nat) (d : (Unit × Unit × (List Int) × Int × Unit)) (e : (((List Int) × (Unit × Int)) × (List Int) × (List Int) × (List Int) × (List Int) × Unit)) : loopIt Tryd.prog (E k) 94 6 (subC (bodyOf Tryd.f31) [1, 1, 1, 1, 1, 1, 1, 1, 1, 0, 1, 0, 0]) (recast cl hn kp) (finBy cl hn kp rc rs ri) n ⟨mkS S d, mkH H e⟩ = go (fun x62 y800004 => some (.exit 6, KX d e (x62, y800004))) k d.2.2.1 e.1.1 e.1.2.2 e.2.1 e.2.2.1 e.2.2.2.1 n d.2.2.2.1 e.2.2.2.2.1 :=
  loopIt_eq (D := (Unit × Unit × (List Int) × Int × Unit) × (((List Int) × (Unit × Int)) × (List Int) × (List Int) × (List Int) × (List Int) × Unit)) (fun p => ⟨mkS S p.1, mkH H p.2⟩) (fun F p => step (fun x62 y800004 => some (.exit 6, KX p.1 p.2 (x62, y800004))) (fun x62 y800004 => F (((), (), p.1.2.2.1, x62, ()), ((p.2.1.1, ((), p.2.1.2.2)), p.2.2.1, p.2.2.2.1, p.2.2.2.2.1, y800004, ()))) k p.1.2.2.1 p.2.1.1 p.2.1.2.2 p.2.2.1 p.2.2.2.1 p.2.2.2.2.1 p.1.2.2.2.1 p.2.2.2.2.2.1) (fun n p => go (fun x62 y800004 => some (.exit 6, KX p.1 p.2 (x62, y800004))) k p.1.2.2.1 p.2.1.1 p.2.1.2.2 p.2.2.1 p.2.2.2.1 p.2.2.2.2.1 n p.1.2.2.2.1 p.2.2.2.2.2.1) (fun _ => rfl) (fun _ _ => rfl) (fun G p => round k p.1 p.2 G) n (d, e)
theorem ok (k : Nat) : LoopOK Tryd.prog 94 (subC (bodyOf Tryd.f31) [1, 1, 1, 1, 1, 1, 1, 1, 1, 0, 1, 0, 0]) (sum k) :=
  loop_sigX hm (fE k) (loopsOK_of [] (by kernel_rfl) trivial) S cl hn kp H 6 (fun (d : (Unit × Unit × (List Int) × Int × Unit)) (e : (((List Int) × (Unit × Int)) × (List Int) × (List Int) × (List Int) × (List Int) × Unit)) => f k d.2.2.1 e.1.1 e.1.2.2 e.2.1 e.2.2.1 e.2.2.2.1 k d.2.2.2.1 e.2.2.2.2.1) KX cl hn kp rc rs ri k
    (fun d e => (it k k d e).trans (go_nat (fun v => some (Ex.exit 6, KX d e v)) (fun x62 y800004 => some (x62, y800004)) k d.2.2.1 e.1.1 e.1.2.2 e.2.1 e.2.2.1 e.2.2.2.1 k d.2.2.2.1 e.2.2.2.2.1).symm)
end l6
theorem run (k : Nat) (d : (Unit × Unit)) (e : (((List Int) × (Unit × Int)) × (List Int) × (List Int) × Unit)) : runFn Tryd.prog (E k) 94 (bodyOf Tryd.f31) Tryd.f31.results.toList cl hn hi (mkL ps d) (mkH hs e) =
    tree (fun b0 => leafFn hs fi e val wr b0) k e.1.1 e.1.2.2 e.2.1 e.2.2.1 := by kernel_rfl
theorem run_f (k : Nat) (d : (Unit × Unit)) (e : (((List Int) × (Unit × Int)) × (List Int) × (List Int) × Unit)) : runFn Tryd.prog (E k) 94 (bodyOf Tryd.f31) Tryd.f31.results.toList cl hn hi (mkL ps d) (mkH hs e) = (f k e.1.1 e.1.2.2 e.2.1 e.2.2.1).bind (leafFn hs fi e val wr) :=
  (run k d e).trans (tree_nat (leafFn hs fi e val wr) (fun b0 => some b0) k e.1.1 e.1.2.2 e.2.1 e.2.2.1).symm
theorem fnIs : FnIs Tryd.prog 31 Tryd.f31 (bodyOf Tryd.f31) 94 := ⟨by kernel_rfl, by kernel_rfl, by kernel_rfl, by kernel_rfl⟩
theorem ok (k : Nat) : CalleeOK Tryd.prog 31 (callee k) :=
  callee_sig (T := (List Int)) fnIs hm (fE k) (loopsOK_of [(0, subC (bodyOf Tryd.f31) [1, 1, 1, 1, 1, 0, 0, 0]), (2, subC (bodyOf Tryd.f31) [1, 1, 1, 1, 1, 1, 0, 1, 0, 0]), (4, subC (bodyOf Tryd.f31) [1, 1, 1, 1, 1, 1, 1, 0, 0, 0]), (6, subC (bodyOf Tryd.f31) [1, 1, 1, 1, 1, 1, 1, 1, 1, 0, 1, 0, 0])] (by kernel_rfl) ⟨of_loop (l0.sum k) rfl (l0.ok k), ⟨of_loop (l2.sum k) rfl (l2.ok k), ⟨of_loop (l4.sum k) rfl (l4.ok k), ⟨of_loop (l6.sum k) rfl (l6.ok k), trivial⟩⟩⟩⟩) ps hs cl hn fi (fun (d : (Unit × Unit)) (e : (((List Int) × (Unit × Int)) × (List Int) × (List Int) × Unit)) => f k e.1.1 e.1.2.2 e.2.1 e.2.2.1) val wr rfl (fun _ => rfl) (run_f k)
end digest_Hasher_Sum
namespace digest_Of
def tree {X : Type} (K : (List Int) → Option X) (k : Nat) (m0 : (List (List Int))) (m1 : (List Int)) (m2 : (List Int)) : Option X :=
  (Option.bind (digest_New.f k m1) (fun r1 => (Option.bind (digest_Hasher_Write.f k r1.1 r1.2 m0 m2) (fun r2 => (Option.bind (digest_Hasher_Sum.f k r2.1 r2.2.1 m2 r2.2.2) (fun r3 => (K r3)))))))
def f (k : Nat) (m0 : (List (List Int))) (m1 : (List Int)) (m2 : (List Int)) : Option (List Int) := tree (fun b0 => some b0) k m0 m1 m2
theorem tree_nat {X Y : Type} (h : X → Option Y) (K : (List Int) → Option X) (k : Nat) (m0 : (List (List Int))) (m1 : (List Int)) (m2 : (List Int)) : Option.bind (tree K k m0 m1 m2) h = tree (fun b0 => Option.bind (K b0) h) k m0 m1 m2 := by
  simp only [tree, bif_bind, sel_bind', Option.bind_assoc, Option.bind_none, Option.bind_some]
abbrev ps : List Sh := [.vec 0]
abbrev hs : List (Nat × ESh) := [(0, .rows 2 9 .str), (1, .glob 0 (.arr .u32 8)), (2, .glob 1 (.arr .u32 64))]
abbrev hi : List Nat := hs.map (·.1)
abbrev fi : List Nat := [0, 1, 2]
abbrev cl : List (Place × Nat × Hint) := []
abbrev hn : List Hint := [.any]
def val (t : (List Int)) : AV := Sh.mk (.data (.arr .u8 32)) t
def wr (t : (List Int)) : Heap := []
def callee (k : Nat) : Callee := sigCallee ps hs (fun (d : (Unit × Unit)) (e : ((List (List Int)) × (List Int) × (List Int) × Unit)) => f k e.1 e.2.1 e.2.2.1) val wr
def E (k : Nat) : Env := ⟨fnTab [(29, [digest_New.callee k]), (30, [digest_Hasher_Write.callee k]), (31, [digest_Hasher_Sum.callee k])], loopTab [], natsTab [(29, [1]), (30, [2]), (31, [2])], natTab [(0, 1), (1, 2)]⟩
theorem fE (k : Nat) : ∀ f, ∀ c ∈ (E k).fn f, CalleeOK Tryd.prog f c := fnTab_ok ⟨⟨digest_New.ok k, trivial⟩, ⟨digest_Hasher_Write.ok k, trivial⟩, ⟨digest_Hasher_Sum.ok k, trivial⟩, trivial⟩
theorem run (k : Nat) (d : (Unit × Unit)) (e : ((List (List Int)) × (List Int) × (List Int) × Unit)) : runFn Tryd.prog (E k) 10 (bodyOf Tryd.f28) Tryd.f28.results.toList cl hn hi (mkL ps d) (mkH hs e) =
    tree (fun b0 => leafFn hs fi e val wr b0) k e.1 e.2.1 e.2.2.1 := by kernel_rfl
theorem run_f (k : Nat) (d : (Unit × Unit)) (e : ((List (List Int)) × (List Int) × (List Int) × Unit)) : runFn Tryd.prog (E k) 10 (bodyOf Tryd.f28) Tryd.f28.results.toList cl hn hi (mkL ps d) (mkH hs e) = (f k e.1 e.2.1 e.2.2.1).bind (leafFn hs fi e val wr) :=
  (run k d e).trans (tree_nat (leafFn hs fi e val wr) (fun b0 => some b0) k e.1 e.2.1 e.2.2.1).symm
theorem fnIs : FnIs Tryd.prog 28 Tryd.f28 (bodyOf Tryd.f28) 10 := ⟨by kernel_rfl, by kernel_rfl, by kernel_rfl, by kernel_rfl⟩
theorem ok (k : Nat) : CalleeOK Tryd.prog 28 (callee k) :=
  callee_sig (T := (List Int)) fnIs hm (fE k) (loopsOK_of [] (by kernel_rfl) trivial) ps hs cl hn fi (fun (d : (Unit × Unit)) (e : ((List (List Int)) × (List Int) × (List Int) × Unit)) => f k e.1 e.2.1 e.2.2.1) val wr rfl (fun _ => rfl) (run_f k)
end digest_Of
namespace digest_Double
def tree {X : Type} (K : (List Int) → Option X) (k : Nat) (m0 : (List (List Int))) (m1 : (List Int)) (m2 : (List Int)) : Option X :=
  (Option.bind (digest_Of.f k m0 m1 m2) (fun r1 => (Option.bind (digest_Of.f k ([(toStr (List.take 32 r1))] : (List (List Int))) m1 m2) (fun r2 => (K r2)))))
def f (k : Nat) (m0 : (List (List Int))) (m1 : (List Int)) (m2 : (List Int)) : Option (List Int) := tree (fun b0 => some b0) k m0 m1 m2
theorem tree_nat {X Y : Type} (h : X → Option Y) (K : (List Int) → Option X) (k : Nat) (m0 : (List (List Int))) (m1 : (List Int)) (m2 : (List Int)) : Option.bind (tree K k m0 m1 m2) h = tree (fun b0 => Option.bind (K b0) h) k m0 m1 m2 := by
  simp only [tree, bif_bind, sel_bind', Option.bind_assoc, Option.bind_none, Option.bind_some]
abbrev ps : List Sh := [.vec 0]
abbrev hs : List (Nat × ESh) := [(0, .rows 2 9 .str), (1, .glob 0 (.arr .u32 8)), (2, .glob 1 (.arr .u32 64))]
abbrev hi : List Nat := hs.map (·.1)
abbrev fi : List Nat := [0, 1, 2]
abbrev cl : List (Place × Nat × Hint) := []
abbrev hn : List Hint := [.any]
def val (t : (List Int)) : AV := Sh.mk (.data (.arr .u8 32)) t
def wr (t : (List Int)) : Heap := []
def callee (k : Nat) : Callee := sigCallee ps hs (fun (d : (Unit × Unit)) (e : ((List (List Int)) × (List Int) × (List Int) × Unit)) => f k e.1 e.2.1 e.2.2.1) val wr
def E (k : Nat) : Env := ⟨fnTab [(28, [digest_Of.callee k])], loopTab [], natsTab [(28, [1, 2])], natTab [(0, 1), (1, 2)]⟩
theorem fE (k : Nat) : ∀ f, ∀ c ∈ (E k).fn f, CalleeOK Tryd.prog f c := fnTab_ok ⟨⟨digest_Of.ok k, trivial⟩, trivial⟩
theorem run (k : Nat) (d : (Unit × Unit)) (e : ((List (List Int)) × (List Int) × (List Int) × Unit)) : runFn Tryd.prog (E k) 10 (bodyOf Tryd.f23) Tryd.f23.results.toList cl hn hi (mkL ps d) (mkH hs e) =
    tree (fun b0 => leafFn hs fi e val wr b0) k e.1 e.2.1 e.2.2.1 := by kernel_rfl
theorem run_f (k : Nat) (d : (Unit × Unit)) (e : ((List (List Int)) × (List Int) × (List Int) × Unit)) : runFn Tryd.prog (E k) 10 (bodyOf Tryd.f23) Tryd.f23.results.toList cl hn hi (mkL ps d) (mkH hs e) = (f k e.1 e.2.1 e.2.2.1).bind (leafFn hs fi e val wr) :=
  (run k d e).trans (tree_nat (leafFn hs fi e val wr) (fun b0 => some b0) k e.1 e.2.1 e.2.2.1).symm
theorem fnIs : FnIs Tryd.prog 23 Tryd.f23 (bodyOf Tryd.f23) 10 := ⟨by kernel_rfl, by kernel_rfl, by kernel_rfl, by kernel_rfl⟩
theorem ok (k : Nat) : CalleeOK Tryd.prog 23 (callee k) :=
  callee_sig (T := (List Int)) fnIs hm (fE k) (loopsOK_of [] (by kernel_rfl) trivial) ps hs cl hn fi (fun (d : (Unit × Unit)) (e : ((List (List Int)) × (List Int) × (List Int) × Unit)) => f k e.1 e.2.1 e.2.2.1) val wr rfl (fun _ => rfl) (run_f k)
end digest_Double
namespace pledge_Plan_Bit
def tree {X : Type} (K : Bool → Option X) (k : Nat) (a0 : (Int × (Int × Int))) (a1 : (List Int)) (m0 : (List Int)) (m1 : (List Int)) : Option X :=
  (Option.bind (scroll_Pen_Put.f k (8 : Int) ([a0.1] : (List Int))) (fun r1 => (Option.bind (scroll_Pen_Names.f k ([a1] : (List (List Int))) r1) (fun r2 => (Option.bind (scroll_Pen_Text.f k r2) (fun r3 => (Option.bind (digest_Double.f k ([r3] : (List (List Int))) m0 m1) (fun r4 => (K ((andI .u8 (List.getD r4 0 0) 1) == (1 : Int)))))))))))
def f (k : Nat) (a0 : (Int × (Int × Int))) (a1 : (List Int)) (m0 : (List Int)) (m1 : (List Int)) : Option Bool := tree (fun b0 => some b0) k a0 a1 m0 m1
theorem tree_nat {X Y : Type} (h : X → Option Y) (K : Bool → Option X) (k : Nat) (a0 : (Int × (Int × Int))) (a1 : (List Int)) (m0 : (List Int)) (m1 : (List Int)) : Option.bind (tree K k a0 a1 m0 m1) h = tree (fun b0 => Option.bind (K b0) h) k a0 a1 m0 m1 := by
  simp only [tree, bif_bind, sel_bind', Option.bind_assoc, Option.bind_none, Option.bind_some]
abbrev ps : List Sh := [.data (.pair (.int .i64) (.pair (.int .i64) (.int .i64))), .data (.arr .u8 32)]
abbrev hs : List (Nat × ESh) := [(0, .glob 0 (.arr .u32 8)), (1, .glob 1 (.arr .u32 64))]
abbrev hi : List Nat := hs.map (·.1)
abbrev fi : List Nat := [0, 1]
abbrev cl : List (Place × Nat × Hint) := []
abbrev hn : List Hint := [.any]
def val (t : Bool) : AV := Sh.mk (.data .bool) t
def wr (t : Bool) : Heap := []
def callee (k : Nat) : Callee := sigCallee ps hs (fun (d : ((Int × (Int × Int)) × (List Int) × Unit)) (e : ((List Int) × (List Int) × Unit)) => f k d.1 d.2.1 e.1 e.2.1) val wr
def E (k : Nat) : Env := ⟨fnTab [(21, [scroll_Pen_Put.callee k]), (22, [scroll_Pen_Names.callee k]), (24, [scroll_Pen_Text.callee k]), (23, [digest_Double.callee k])], loopTab [], natsTab [(23, [0, 1])], natTab [(0, 0), (1, 1)]⟩
theorem fE (k : Nat) : ∀ f, ∀ c ∈ (E k).fn f, CalleeOK Tryd.prog f c := fnTab_ok ⟨⟨scroll_Pen_Put.ok k, trivial⟩, ⟨scroll_Pen_Names.ok k, trivial⟩, ⟨scroll_Pen_Text.ok k, trivial⟩, ⟨digest_Double.ok k, trivial⟩, trivial⟩
theorem run (k : Nat) (d : ((Int × (Int × Int)) × (List Int) × Unit)) (e : ((List Int) × (List Int) × Unit)) : runFn Tryd.prog (E k) 26 (bodyOf Tryd.f19) Tryd.f19.results.toList cl hn hi (mkL ps d) (mkH hs e) =
    tree (fun b0 => leafFn hs fi e val wr b0) k d.1 d.2.1 e.1 e.2.1 := by kernel_rfl
theorem run_f (k : Nat) (d : ((Int × (Int × Int)) × (List Int) × Unit)) (e : ((List Int) × (List Int) × Unit)) : runFn Tryd.prog (E k) 26 (bodyOf Tryd.f19) Tryd.f19.results.toList cl hn hi (mkL ps d) (mkH hs e) = (f k d.1 d.2.1 e.1 e.2.1).bind (leafFn hs fi e val wr) :=
  (run k d e).trans (tree_nat (leafFn hs fi e val wr) (fun b0 => some b0) k d.1 d.2.1 e.1 e.2.1).symm
theorem fnIs : FnIs Tryd.prog 19 Tryd.f19 (bodyOf Tryd.f19) 26 := ⟨by kernel_rfl, by kernel_rfl, by kernel_rfl, by kernel_rfl⟩
theorem ok (k : Nat) : CalleeOK Tryd.prog 19 (callee k) :=
  callee_sig (T := Bool) fnIs hm (fE k) (loopsOK_of [] (by kernel_rfl) trivial) ps hs cl hn fi (fun (d : ((Int × (Int × Int)) × (List Int) × Unit)) (e : ((List Int) × (List Int) × Unit)) => f k d.1 d.2.1 e.1 e.2.1) val wr rfl (fun _ => rfl) (run_f k)
end pledge_Plan_Bit
namespace pledge_Book_Give
namespace l0
def step {X : Type} (K : Int → Int → (Int × Int) → (List Int) → Option X) (G : Int → Int → (Int × Int) → (List Int) → Option X) (k : Nat) (x1 : Int) (x13 : Int) (y0_0 : (Int × (Int × Int))) (y1 : (List (List Int))) (y2 : (List Int)) (y3 : (List Int)) (x7 : Int) (x14 : Int) (y0_1 : (Int × Int)) (y800004 : (List Int)) : Option X :=
  (bif (decide (x14 < x13)) then (bif (decide (0 ≤ x14)) then (bif (decide (x14 < ((List.length y1) : Int))) then (bif (decide ((Int.toNat x14) < (List.length y1))) then (Option.bind (pledge_Plan_Due.f k y0_0 (addI .i64 x1 x14)) (fun r1 => (bif (!r1) then (G x7 (addI .i64 x14 1) y0_1 y800004) else (bif ((remI y0_1.1 64) == (0 : Int)) then (bif (fits (((List.length y800004) + 1) * 8)) then (Option.bind (pledge_Plan_Bit.f k y0_0 (List.getD y1 (Int.toNat x14) (List.replicate 32 0 : (List Int))) y2 y3) (fun r2 => (bif r2 then (bif (decide (0 ≤ (quoI .i64 y0_1.1 64))) then (bif (decide ((quoI .i64 y0_1.1 64) < ((List.length (y800004 ++ ([0] : (List Int)))) : Int))) then (bif (decide ((Int.toNat (quoI .i64 y0_1.1 64)) < (List.length (y800004 ++ ([0] : (List Int)))))) then (bif (decide ((remI y0_1.1 64) < 0)) then none else (bif (decide (0 ≤ (quoI .i64 y0_1.1 64))) then (bif (decide ((quoI .i64 y0_1.1 64) < ((List.length (y800004 ++ ([0] : (List Int)))) : Int))) then (bif (decide ((Int.toNat (quoI .i64 y0_1.1 64)) < (List.length (y800004 ++ ([0] : (List Int)))))) then (G (addI .i64 x7 1) (addI .i64 x14 1) (((addI .i64 y0_1.1 1), y0_1.2) : (Int × Int)) (List.set (y800004 ++ ([0] : (List Int))) (Int.toNat (quoI .i64 y0_1.1 64)) (orI .u64 (List.getD (y800004 ++ ([0] : (List Int))) (Int.toNat (quoI .i64 y0_1.1 64)) (0 : Int)) (shlI .u64 1 (remI y0_1.1 64))))) else none) else none) else none)) else none) else none) else none) else (G (addI .i64 x7 1) (addI .i64 x14 1) (((addI .i64 y0_1.1 1), y0_1.2) : (Int × Int)) (y800004 ++ ([0] : (List Int))))))) else none) else (Option.bind (pledge_Plan_Bit.f k y0_0 (List.getD y1 (Int.toNat x14) (List.replicate 32 0 : (List Int))) y2 y3) (fun r3 => (bif r3 then (bif (decide (0 ≤ (quoI .i64 y0_1.1 64))) then (bif (decide ((quoI .i64 y0_1.1 64) < ((List.length y800004) : Int))) then (bif (decide ((Int.toNat (quoI .i64 y0_1.1 64)) < (List.length y800004))) then (bif (decide ((remI y0_1.1 64) < 0)) then none else (bif (decide (0 ≤ (quoI .i64 y0_1.1 64))) then (bif (decide ((quoI .i64 y0_1.1 64) < ((List.length y800004) : Int))) then (bif (decide ((Int.toNat (quoI .i64 y0_1.1 64)) < (List.length y800004))) then (G (addI .i64 x7 1) (addI .i64 x14 1) (((addI .i64 y0_1.1 1), y0_1.2) : (Int × Int)) (List.set y800004 (Int.toNat (quoI .i64 y0_1.1 64)) (orI .u64 (List.getD y800004 (Int.toNat (quoI .i64 y0_1.1 64)) (0 : Int)) (shlI .u64 1 (remI y0_1.1 64))))) else none) else none) else none)) else none) else none) else none) else (G (addI .i64 x7 1) (addI .i64 x14 1) (((addI .i64 y0_1.1 1), y0_1.2) : (Int × Int)) y800004)))))))) else none) else none) else none) else (K x7 x14 y0_1 y800004))
def go {X : Type} (K : Int → Int → (Int × Int) → (List Int) → Option X) (k : Nat) (x1 : Int) (x13 : Int) (y0_0 : (Int × (Int × Int))) (y1 : (List (List Int))) (y2 : (List Int)) (y3 : (List Int)) : Nat → Int → Int → (Int × Int) → (List Int) → Option X
  | 0, _, _, _, _ => none
  | n + 1, x7, x14, y0_1, y800004 => step K (go K k x1 x13 y0_0 y1 y2 y3 n) k x1 x13 y0_0 y1 y2 y3 x7 x14 y0_1 y800004
def f (k : Nat) (x1 : Int) (x13 : Int) (y0_0 : (Int × (Int × Int))) (y1 : (List (List Int))) (y2 : (List Int)) (y3 : (List Int)) (n : Nat) (x7 : Int) (x14 : Int) (y0_1 : (Int × Int)) (y800004 : (List Int)) : Option (Int × (Int × ((Int × Int) × (List Int)))) := go (fun x7 x14 y0_1 y800004 => some (x7, x14, y0_1, y800004)) k x1 x13 y0_0 y1 y2 y3 n x7 x14 y0_1 y800004
theorem step_nat {X Y : Type} (h : X → Option Y) (K : Int → Int → (Int × Int) → (List Int) → Option X) (G : Int → Int → (Int × Int) → (List Int) → Option X) (k : Nat) (x1 : Int) (x13 : Int) (y0_0 : (Int × (Int × Int))) (y1 : (List (List Int))) (y2 : (List Int)) (y3 : (List Int)) (x7 : Int) (x14 : Int) (y0_1 : (Int × Int)) (y800004 : (List Int)) : Option.bind (step K G k x1 x13 y0_0 y1 y2 y3 x7 x14 y0_1 y800004) h = step (fun x7 x14 y0_1 y800004 => Option.bind (K x7 x14 y0_1 y800004) h) (fun x7 x14 y0_1 y800004 => Option.bind (G x7 x14 y0_1 y800004) h) k x1 x13 y0_0 y1 y2 y3 x7 x14 y0_1 y800004 := by
  simp only [step, bif_bind, sel_bind', Option.bind_assoc, Option.bind_none, Option.bind_some]
theorem go_nat {X Y : Type} (h : X → Option Y) (K : Int → Int → (Int × Int) → (List Int) → Option X) (k : Nat) (x1 : Int) (x13 : Int) (y0_0 : (Int × (Int × Int))) (y1 : (List (List Int))) (y2 : (List Int)) (y3 : (List Int)) (n : Nat) : ∀ (x7 : Int) (x14 : Int) (y0_1 : (Int × Int)) (y800004 : (List Int)), Option.bind (go K k x1 x13 y0_0 y1 y2 y3 n x7 x14 y0_1 y800004) h = go (fun x7 x14 y0_1 y800004 => Option.bind (K x7 x14 y0_1 y800004) h) k x1 x13 y0_0 y1 y2 y3 n x7 x14 y0_1 y800004 := by
  induction n with
  | zero => intros; rfl
  | succ n ih => intro x7 x14 y0_1 y800004; show Option.bind (step K (go K k x1 x13 y0_0 y1 y2 y3 n) k x1 x13 y0_0 y1 y2 y3 x7 x14 y0_1 y800004) h = step (fun x7 x14 y0_1 y800004 => Option.bind (K x7 x14 y0_1 y800004) h) (go (fun x7 x14 y0_1 y800004 => Option.bind (K x7 x14 y0_1 y800004) h) k x1 x13 y0_0 y1 y2 y3 n) k x1 x13 y0_0 y1 y2 y3 x7 x14 y0_1 y800004; rw [step_nat h]; simp only [ih]
abbrev S : List (Nat × Sh) := [(0, .ptr 0), (1, .data (.int .i64)), (7, .data (.int .i64)), (12, .vec 1), (13, .data (.int .i64)), (14, .data (.int .i64))]
abbrev H : List (Nat × ESh) := [(0, .cell (.pair (.data (.pair (.int .i64) (.pair (.int .i64) (.int .i64)))) (.pair (.vec 800004) (.data (.pair (.int .i64) (.int .i64)))))), (1, .rows 2 35 (.arr .u8 32)), (2, .glob 0 (.arr .u32 8)), (3, .glob 1 (.arr .u32 64)), (800004, .rows 2 51 (.int .u64))]
abbrev cl : List (Place × Nat × Hint) := [(.id 0, 3, (.row 2 51 (.int .u64)))]
abbrev hn : List (Nat × Hint) := [(0, .any), (1, .any), (7, .any), (12, .any), (13, .any), (14, .any)]
abbrev kp : List Nat := [0, 1, 2, 3]
abbrev rc : List (Place × Nat × Hint) := []
abbrev rs : List (Nat × Hint) := []
abbrev ri : List Nat := [0, 1, 2, 3]
def KX (d : (Unit × Int × Int × Unit × Int × Int × Unit)) (e : (((Int × (Int × Int)) × (Unit × (Int × Int))) × (List (List Int)) × (List Int) × (List Int) × (List Int) × Unit)) (v : (Int × (Int × ((Int × Int) × (List Int))))) : St := ⟨mkS S ((), d.2.1, v.1, (), d.2.2.2.2.1, v.2.1, ()), mkH H ((e.1.1, ((), v.2.2.1)), e.2.1, e.2.2.1, e.2.2.2.1, v.2.2.2, ())⟩
def sum (k : Nat) : LoopSum := sigLoopX S cl hn kp H 0 (fun (d : (Unit × Int × Int × Unit × Int × Int × Unit)) (e : (((Int × (Int × Int)) × (Unit × (Int × Int))) × (List (List Int)) × (List Int) × (List Int) × (List Int) × Unit)) => f k d.2.1 d.2.2.2.2.1 e.1.1 e.2.1 e.2.2.1 e.2.2.2.1 k d.2.2.1 d.2.2.2.2.2.1 e.1.2.2 e.2.2.2.2.1) KX
end l0
def tree {X : Type} (K : Int → (Int × (Int × Int)) → (Int × Int) → (List Int) → Option X) (k : Nat) (a1 : Int) (m0_0 : (Int × (Int × Int))) (m0_1 : (Int × Int)) (m1 : (List (List Int))) (m2 : (List Int)) (m3 : (List Int)) : Option X :=
  (Option.bind (pledge_Book_Give.l0.f k a1 ((List.length m1) : Int) m0_0 m1 m2 m3 k (0 : Int) (0 : Int) m0_1 ([] : (List Int))) (fun r4 => (K r4.1 m0_0 r4.2.2.1 r4.2.2.2)))
def f (k : Nat) (a1 : Int) (m0_0 : (Int × (Int × Int))) (m0_1 : (Int × Int)) (m1 : (List (List Int))) (m2 : (List Int)) (m3 : (List Int)) : Option (Int × ((Int × (Int × Int)) × ((Int × Int) × (List Int)))) := tree (fun b0 b1 b2 b3 => some (b0, b1, b2, b3)) k a1 m0_0 m0_1 m1 m2 m3
theorem tree_nat {X Y : Type} (h : X → Option Y) (K : Int → (Int × (Int × Int)) → (Int × Int) → (List Int) → Option X) (k : Nat) (a1 : Int) (m0_0 : (Int × (Int × Int))) (m0_1 : (Int × Int)) (m1 : (List (List Int))) (m2 : (List Int)) (m3 : (List Int)) : Option.bind (tree K k a1 m0_0 m0_1 m1 m2 m3) h = tree (fun b0 b1 b2 b3 => Option.bind (K b0 b1 b2 b3) h) k a1 m0_0 m0_1 m1 m2 m3 := by
  simp only [tree, bif_bind, sel_bind', Option.bind_assoc, Option.bind_none, Option.bind_some]
abbrev ps : List Sh := [.ptr 0, .data (.int .i64), .vec 1]
abbrev hs : List (Nat × ESh) := [(0, .cell (.pair (.data (.pair (.int .i64) (.pair (.int .i64) (.int .i64)))) (.pair .nils (.data (.pair (.int .i64) (.int .i64)))))), (1, .rows 2 35 (.arr .u8 32)), (2, .glob 0 (.arr .u32 8)), (3, .glob 1 (.arr .u32 64))]
abbrev hi : List Nat := hs.map (·.1)
abbrev fi : List Nat := [0, 1, 2, 3, 900004]
abbrev cl : List (Place × Nat × Hint) := []
abbrev hn : List Hint := [.any]
def val (t : (Int × ((Int × (Int × Int)) × ((Int × Int) × (List Int))))) : AV := Sh.mk (.data (.int .i64)) t.1
def wr (t : (Int × ((Int × (Int × Int)) × ((Int × Int) × (List Int))))) : Heap := [(0, ESh.mk (.cell (.pair (.data (.pair (.int .i64) (.pair (.int .i64) (.int .i64)))) (.pair (.vec 900004) (.data (.pair (.int .i64) (.int .i64)))))) (t.2.1, ((), t.2.2.1))), (900004, ESh.mk (.rows 2 51 (.int .u64)) t.2.2.2)]
def callee (k : Nat) : Callee := sigCallee ps hs (fun (d : (Unit × Int × Unit × Unit)) (e : (((Int × (Int × Int)) × (Unit × (Int × Int))) × (List (List Int)) × (List Int) × (List Int) × Unit)) => f k d.2.1 e.1.1 e.1.2.2 e.2.1 e.2.2.1 e.2.2.2.1) val wr
def E (k : Nat) : Env := ⟨fnTab [(17, [pledge_Plan_Due.callee k]), (19, [pledge_Plan_Bit.callee k])], loopTab [(0, l0.sum k)], natsTab [(19, [2, 3])], natTab [(0, 2), (1, 3)]⟩
theorem fE (k : Nat) : ∀ f, ∀ c ∈ (E k).fn f, CalleeOK Tryd.prog f c := fnTab_ok ⟨⟨pledge_Plan_Due.ok k, trivial⟩, ⟨pledge_Plan_Bit.ok k, trivial⟩, trivial⟩
namespace l0
theorem round (k : Nat) (d : (Unit × Int × Int × Unit × Int × Int × Unit)) (e : (((Int × (Int × Int)) × (Unit × (Int × Int))) × (List (List Int)) × (List Int) × (List Int) × (List Int) × Unit)) (G : St → Option (Ex × St)) : roundK Tryd.prog (E k) 79 0 (subC (bodyOf Tryd.f9) [1, 1, 1, 0, 1, 0, 0]) (recast cl hn kp) (finBy cl hn kp rc rs ri) G ⟨mkS S d, mkH H e⟩ =
    step (fun x7 x14 y0_1 y800004 => some (.exit 0, KX d e (x7, x14, y0_1, y800004))) (fun x7 x14 y0_1 y800004 => G ⟨mkS S ((), d.2.1, x7, (), d.2.2.2.2.1, x14, ()), mkH H ((e.1.1, ((), y0_1)), e.2.1, e.2.2.1, e.2.2.2.1, y800004, ())⟩) k d.2.1 d.2.2.2.2.1 e.1.1 e.2.1 e.2.2.1 e.2.2.2.1 d.2.2.1 d.2.2.2.2.2.1 e.1.2.2 e.2.2.2.2.1 := by kernel_rfl
theorem it (k n : Nat) (d : (Unit × Int × Int × Unit × Int × Int × Unit)) (e : (((Int × (Int × Int)) × (Unit × (Int × Int))) × (List (List Int)) × (List Int) × (List Int) × (List Int) × Unit)) : loopIt Tryd.prog (E k) 79 0 (subC (bodyOf Tryd.f9) [1, 1, 1, 0, 1, 0, 0]) (recast cl hn kp) (finBy cl hn kp rc rs ri) n ⟨mkS S d, mkH H e⟩ = go (fun x7 x14 y0_1 y800004 => some (.exit 0, KX d e (x7, x14, y0_1, y800004))) k d.2.1 d.2.2.2.2.1 e.1.1 e.2.1 e.2.2.1 e.2.2.2.1 n d.2.2.1 d.2.2.2.2.2.1 e.1.2.2 e.2.2.2.2.1 :=
  loopIt_eq (D := (Unit × Int × Int × Unit × Int × Int × Unit) × (((Int × (Int × Int)) × (Unit × (Int × Int))) × (List (List Int)) × (List Int) × (List Int) × (List Int) × Unit)) (fun p => ⟨mkS S p.1, mkH H p.2⟩) (fun F p => step (fun x7 x14 y0_1 y800004 => some (.exit 0, KX p.1 p.2 (x7, x14, y0_1, y800004))) (fun x7 x14 y0_1 y800004 => F (((), p.1.2.1, x7, (), p.1.2.2.2.2.1, x14, ()), ((p.2.1.1, ((), y0_1)), p.2.2.1, p.2.2.2.1, p.2.2.2.2.1, y800004, ()))) k p.1.2.1 p.1.2.2.2.2.1 p.2.1.1 p.2.2.1 p.2.2.2.1 p.2.2.2.2.1 p.1.2.2.1 p.1.2.2.2.2.2.1 p.2.1.2.2 p.2.2.2.2.2.1) (fun n p => go (fun x7 x14 y0_1 y800004 => some (.exit 0, KX p.1 p.2 (x7, x14, y0_1, y800004))) k p.1.2.1 p.1.2.2.2.2.1 p.2.1.1 p.2.2.1 p.2.2.2.1 p.2.2.2.2.1 n p.1.2.2.1 p.1.2.2.2.2.2.1 p.2.1.2.2 p.2.2.2.2.2.1) (fun _ => rfl) (fun _ _ => rfl) (fun G p => round k p.1 p.2 G) n (d, e)
theorem ok (k : Nat) : LoopOK Tryd.prog 79 (subC (bodyOf Tryd.f9) [1, 1, 1, 0, 1, 0, 0]) (sum k) :=
  loop_sigX hm (fE k) (loopsOK_of [] (by kernel_rfl) trivial) S cl hn kp H 0 (fun (d : (Unit × Int × Int × Unit × Int × Int × Unit)) (e : (((Int × (Int × Int)) × (Unit × (Int × Int))) × (List (List Int)) × (List Int) × (List Int) × (List Int) × Unit)) => f k d.2.1 d.2.2.2.2.1 e.1.1 e.2.1 e.2.2.1 e.2.2.2.1 k d.2.2.1 d.2.2.2.2.2.1 e.1.2.2 e.2.2.2.2.1) KX cl hn kp rc rs ri k
    (fun d e => (it k k d e).trans (go_nat (fun v => some (Ex.exit 0, KX d e v)) (fun x7 x14 y0_1 y800004 => some (x7, x14, y0_1, y800004)) k d.2.1 d.2.2.2.2.1 e.1.1 e.2.1 e.2.2.1 e.2.2.2.1 k d.2.2.1 d.2.2.2.2.2.1 e.1.2.2 e.2.2.2.2.1).symm)
end l0
theorem run (k : Nat) (d : (Unit × Int × Unit × Unit)) (e : (((Int × (Int × Int)) × (Unit × (Int × Int))) × (List (List Int)) × (List Int) × (List Int) × Unit)) : runFn Tryd.prog (E k) 79 (bodyOf Tryd.f9) Tryd.f9.results.toList cl hn hi (mkL ps d) (mkH hs e) =
    tree (fun b0 b1 b2 b3 => leafFn hs fi e val wr (b0, b1, b2, b3)) k d.2.1 e.1.1 e.1.2.2 e.2.1 e.2.2.1 e.2.2.2.1 := by kernel_rfl
theorem run_f (k : Nat) (d : (Unit × Int × Unit × Unit)) (e : (((Int × (Int × Int)) × (Unit × (Int × Int))) × (List (List Int)) × (List Int) × (List Int) × Unit)) : runFn Tryd.prog (E k) 79 (bodyOf Tryd.f9) Tryd.f9.results.toList cl hn hi (mkL ps d) (mkH hs e) = (f k d.2.1 e.1.1 e.1.2.2 e.2.1 e.2.2.1 e.2.2.2.1).bind (leafFn hs fi e val wr) :=
  (run k d e).trans (tree_nat (leafFn hs fi e val wr) (fun b0 b1 b2 b3 => some (b0, b1, b2, b3)) k d.2.1 e.1.1 e.1.2.2 e.2.1 e.2.2.1 e.2.2.2.1).symm
theorem fnIs : FnIs Tryd.prog 9 Tryd.f9 (bodyOf Tryd.f9) 79 := ⟨by kernel_rfl, by kernel_rfl, by kernel_rfl, by kernel_rfl⟩
theorem ok (k : Nat) : CalleeOK Tryd.prog 9 (callee k) :=
  callee_sig (T := (Int × ((Int × (Int × Int)) × ((Int × Int) × (List Int))))) fnIs hm (fE k) (loopsOK_of [(0, subC (bodyOf Tryd.f9) [1, 1, 1, 0, 1, 0, 0])] (by kernel_rfl) ⟨of_loop (l0.sum k) rfl (l0.ok k), trivial⟩) ps hs cl hn fi (fun (d : (Unit × Int × Unit × Unit)) (e : (((Int × (Int × Int)) × (Unit × (Int × Int))) × (List (List Int)) × (List Int) × (List Int) × Unit)) => f k d.2.1 e.1.1 e.1.2.2 e.2.1 e.2.2.1 e.2.2.2.1) val wr rfl (fun _ => rfl) (run_f k)
end pledge_Book_Give
namespace pledge_Book_Given
def tree {X : Type} (K : Int → Option X) (k : Nat) (m0_0 : (Int × (Int × Int))) (m0_1 : (Int × Int)) (m1 : (List Int)) : Option X :=
  (K m0_1.1)
def f (k : Nat) (m0_0 : (Int × (Int × Int))) (m0_1 : (Int × Int)) (m1 : (List Int)) : Option Int := tree (fun b0 => some b0) k m0_0 m0_1 m1
theorem tree_nat {X Y : Type} (h : X → Option Y) (K : Int → Option X) (k : Nat) (m0_0 : (Int × (Int × Int))) (m0_1 : (Int × Int)) (m1 : (List Int)) : Option.bind (tree K k m0_0 m0_1 m1) h = tree (fun b0 => Option.bind (K b0) h) k m0_0 m0_1 m1 := by
  simp only [tree, bif_bind, sel_bind', Option.bind_assoc, Option.bind_none, Option.bind_some]
abbrev ps : List Sh := [.ptr 0]
abbrev hs : List (Nat × ESh) := [(0, .cell (.pair (.data (.pair (.int .i64) (.pair (.int .i64) (.int .i64)))) (.pair (.vec 1) (.data (.pair (.int .i64) (.int .i64)))))), (1, .rows 2 51 (.int .u64))]
abbrev hi : List Nat := hs.map (·.1)
abbrev fi : List Nat := [0, 1]
abbrev cl : List (Place × Nat × Hint) := []
abbrev hn : List Hint := [.any]
def val (t : Int) : AV := Sh.mk (.data (.int .i64)) t
def wr (t : Int) : Heap := []
def callee (k : Nat) : Callee := sigCallee ps hs (fun (d : (Unit × Unit)) (e : (((Int × (Int × Int)) × (Unit × (Int × Int))) × (List Int) × Unit)) => f k e.1.1 e.1.2.2 e.2.1) val wr
def E (k : Nat) : Env := ⟨fnTab [], loopTab [], natsTab [], natTab []⟩
theorem fE (k : Nat) : ∀ f, ∀ c ∈ (E k).fn f, CalleeOK Tryd.prog f c := fnTab_ok trivial
theorem run (k : Nat) (d : (Unit × Unit)) (e : (((Int × (Int × Int)) × (Unit × (Int × Int))) × (List Int) × Unit)) : runFn Tryd.prog (E k) 9 (bodyOf Tryd.f10) Tryd.f10.results.toList cl hn hi (mkL ps d) (mkH hs e) =
    tree (fun b0 => leafFn hs fi e val wr b0) k e.1.1 e.1.2.2 e.2.1 := by kernel_rfl
theorem run_f (k : Nat) (d : (Unit × Unit)) (e : (((Int × (Int × Int)) × (Unit × (Int × Int))) × (List Int) × Unit)) : runFn Tryd.prog (E k) 9 (bodyOf Tryd.f10) Tryd.f10.results.toList cl hn hi (mkL ps d) (mkH hs e) = (f k e.1.1 e.1.2.2 e.2.1).bind (leafFn hs fi e val wr) :=
  (run k d e).trans (tree_nat (leafFn hs fi e val wr) (fun b0 => some b0) k e.1.1 e.1.2.2 e.2.1).symm
theorem fnIs : FnIs Tryd.prog 10 Tryd.f10 (bodyOf Tryd.f10) 9 := ⟨by kernel_rfl, by kernel_rfl, by kernel_rfl, by kernel_rfl⟩
theorem ok (k : Nat) : CalleeOK Tryd.prog 10 (callee k) :=
  callee_sig (T := Int) fnIs hm (fE k) (loopsOK_of [] (by kernel_rfl) trivial) ps hs cl hn fi (fun (d : (Unit × Unit)) (e : (((Int × (Int × Int)) × (Unit × (Int × Int))) × (List Int) × Unit)) => f k e.1.1 e.1.2.2 e.2.1) val wr rfl (fun _ => rfl) (run_f k)
end pledge_Book_Given
namespace pledge_Book_Left
def tree {X : Type} (K : Int → Option X) (k : Nat) (m0_0 : (Int × (Int × Int))) (m0_1 : (Int × Int)) (m1 : (List Int)) : Option X :=
  (K (subI .i64 m0_1.1 m0_1.2))
def f (k : Nat) (m0_0 : (Int × (Int × Int))) (m0_1 : (Int × Int)) (m1 : (List Int)) : Option Int := tree (fun b0 => some b0) k m0_0 m0_1 m1
theorem tree_nat {X Y : Type} (h : X → Option Y) (K : Int → Option X) (k : Nat) (m0_0 : (Int × (Int × Int))) (m0_1 : (Int × Int)) (m1 : (List Int)) : Option.bind (tree K k m0_0 m0_1 m1) h = tree (fun b0 => Option.bind (K b0) h) k m0_0 m0_1 m1 := by
  simp only [tree, bif_bind, sel_bind', Option.bind_assoc, Option.bind_none, Option.bind_some]
abbrev ps : List Sh := [.ptr 0]
abbrev hs : List (Nat × ESh) := [(0, .cell (.pair (.data (.pair (.int .i64) (.pair (.int .i64) (.int .i64)))) (.pair (.vec 1) (.data (.pair (.int .i64) (.int .i64)))))), (1, .rows 2 51 (.int .u64))]
abbrev hi : List Nat := hs.map (·.1)
abbrev fi : List Nat := [0, 1]
abbrev cl : List (Place × Nat × Hint) := []
abbrev hn : List Hint := [.any]
def val (t : Int) : AV := Sh.mk (.data (.int .i64)) t
def wr (t : Int) : Heap := []
def callee (k : Nat) : Callee := sigCallee ps hs (fun (d : (Unit × Unit)) (e : (((Int × (Int × Int)) × (Unit × (Int × Int))) × (List Int) × Unit)) => f k e.1.1 e.1.2.2 e.2.1) val wr
def E (k : Nat) : Env := ⟨fnTab [], loopTab [], natsTab [], natTab []⟩
theorem fE (k : Nat) : ∀ f, ∀ c ∈ (E k).fn f, CalleeOK Tryd.prog f c := fnTab_ok trivial
theorem run (k : Nat) (d : (Unit × Unit)) (e : (((Int × (Int × Int)) × (Unit × (Int × Int))) × (List Int) × Unit)) : runFn Tryd.prog (E k) 14 (bodyOf Tryd.f11) Tryd.f11.results.toList cl hn hi (mkL ps d) (mkH hs e) =
    tree (fun b0 => leafFn hs fi e val wr b0) k e.1.1 e.1.2.2 e.2.1 := by kernel_rfl
theorem run_f (k : Nat) (d : (Unit × Unit)) (e : (((Int × (Int × Int)) × (Unit × (Int × Int))) × (List Int) × Unit)) : runFn Tryd.prog (E k) 14 (bodyOf Tryd.f11) Tryd.f11.results.toList cl hn hi (mkL ps d) (mkH hs e) = (f k e.1.1 e.1.2.2 e.2.1).bind (leafFn hs fi e val wr) :=
  (run k d e).trans (tree_nat (leafFn hs fi e val wr) (fun b0 => some b0) k e.1.1 e.1.2.2 e.2.1).symm
theorem fnIs : FnIs Tryd.prog 11 Tryd.f11 (bodyOf Tryd.f11) 14 := ⟨by kernel_rfl, by kernel_rfl, by kernel_rfl, by kernel_rfl⟩
theorem ok (k : Nat) : CalleeOK Tryd.prog 11 (callee k) :=
  callee_sig (T := Int) fnIs hm (fE k) (loopsOK_of [] (by kernel_rfl) trivial) ps hs cl hn fi (fun (d : (Unit × Unit)) (e : (((Int × (Int × Int)) × (Unit × (Int × Int))) × (List Int) × Unit)) => f k e.1.1 e.1.2.2 e.2.1) val wr rfl (fun _ => rfl) (run_f k)
end pledge_Book_Left
namespace trailheadlaw18_alive
def tree {X : Type} (K : Bool → Option X) (k : Nat) (m0 : (List Int)) (m1 : (List Int)) : Option X :=
  (Option.bind (pledge_New.f k ((0, (4, 1)) : (Int × (Int × Int)))) (fun r1 => sel r1 (fun v2 => (K false)) (fun w3 => (Option.bind (pledge_Book_Give.f k (0 : Int) w3.1 w3.2 ([[0, 0, 0, 0, 0, 0, 0, 0, 0, 0, 0, 0, 0, 0, 0, 0, 0, 0, 0, 0, 0, 0, 0, 0, 0, 0, 0, 0, 0, 0, 0, 0], [0, 0, 0, 0, 0, 0, 0, 0, 0, 0, 0, 0, 0, 0, 0, 0, 0, 0, 0, 0, 0, 0, 0, 0, 0, 0, 0, 0, 0, 0, 0, 0]] : (List (List Int))) m0 m1) (fun r4 => (bif (r4.1 == (1 : Int)) then (Option.bind (pledge_Book_Given.f k r4.2.1 r4.2.2.1 r4.2.2.2) (fun r5 => (bif (r5 == (1 : Int)) then (Option.bind (pledge_Book_Left.f k r4.2.1 r4.2.2.1 r4.2.2.2) (fun r6 => (K (r6 == (1 : Int))))) else (K false)))) else (K false)))))))
def f (k : Nat) (m0 : (List Int)) (m1 : (List Int)) : Option Bool := tree (fun b0 => some b0) k m0 m1
theorem tree_nat {X Y : Type} (h : X → Option Y) (K : Bool → Option X) (k : Nat) (m0 : (List Int)) (m1 : (List Int)) : Option.bind (tree K k m0 m1) h = tree (fun b0 => Option.bind (K b0) h) k m0 m1 := by
  simp only [tree, bif_bind, sel_bind', Option.bind_assoc, Option.bind_none, Option.bind_some]
abbrev ps : List Sh := []
abbrev hs : List (Nat × ESh) := [(0, .glob 0 (.arr .u32 8)), (1, .glob 1 (.arr .u32 64))]
abbrev hi : List Nat := hs.map (·.1)
abbrev fi : List Nat := [0, 1]
abbrev cl : List (Place × Nat × Hint) := []
abbrev hn : List Hint := [.any]
def val (t : Bool) : AV := Sh.mk (.data .bool) t
def wr (t : Bool) : Heap := []
def callee (k : Nat) : Callee := sigCallee ps hs (fun (d : Unit) (e : ((List Int) × (List Int) × Unit)) => f k e.1 e.2.1) val wr
def E (k : Nat) : Env := ⟨fnTab [(5, [pledge_New.callee k]), (9, [pledge_Book_Give.callee k]), (10, [pledge_Book_Given.callee k]), (11, [pledge_Book_Left.callee k])], loopTab [], natsTab [(9, [0, 1])], natTab [(0, 0), (1, 1)]⟩
theorem fE (k : Nat) : ∀ f, ∀ c ∈ (E k).fn f, CalleeOK Tryd.prog f c := fnTab_ok ⟨⟨pledge_New.ok k, trivial⟩, ⟨pledge_Book_Give.ok k, trivial⟩, ⟨pledge_Book_Given.ok k, trivial⟩, ⟨pledge_Book_Left.ok k, trivial⟩, trivial⟩
theorem run (k : Nat) (d : Unit) (e : ((List Int) × (List Int) × Unit)) : runFn Tryd.prog (E k) 28 (bodyOf Tryd.f4) Tryd.f4.results.toList cl hn hi (mkL ps d) (mkH hs e) =
    tree (fun b0 => leafFn hs fi e val wr b0) k e.1 e.2.1 := by kernel_rfl
theorem run_f (k : Nat) (d : Unit) (e : ((List Int) × (List Int) × Unit)) : runFn Tryd.prog (E k) 28 (bodyOf Tryd.f4) Tryd.f4.results.toList cl hn hi (mkL ps d) (mkH hs e) = (f k e.1 e.2.1).bind (leafFn hs fi e val wr) :=
  (run k d e).trans (tree_nat (leafFn hs fi e val wr) (fun b0 => some b0) k e.1 e.2.1).symm
theorem fnIs : FnIs Tryd.prog 4 Tryd.f4 (bodyOf Tryd.f4) 28 := ⟨by kernel_rfl, by kernel_rfl, by kernel_rfl, by kernel_rfl⟩
theorem ok (k : Nat) : CalleeOK Tryd.prog 4 (callee k) :=
  callee_sig (T := Bool) fnIs hm (fE k) (loopsOK_of [] (by kernel_rfl) trivial) ps hs cl hn fi (fun (d : Unit) (e : ((List Int) × (List Int) × Unit)) => f k e.1 e.2.1) val wr rfl (fun _ => rfl) (run_f k)
end trailheadlaw18_alive
namespace trailheadref18_Due
def tree {X : Type} (K : Bool → Option X) (k : Nat) (a0 : Int) (a1 : Int) (a2 : Int) : Option X :=
  (bif (decide (a0 ≥ (1 : Int))) then (bif (decide (a0 ≤ (64 : Int))) then (bif (decide (a1 ≥ (0 : Int))) then (bif (decide (a1 < a0)) then (bif (decide (a2 ≥ (0 : Int))) then (bif (decide (a0 = 0)) then none else (K ((remI a2 a0) == a1))) else (K false)) else (K false)) else (K false)) else (K false)) else (K false))
def f (k : Nat) (a0 : Int) (a1 : Int) (a2 : Int) : Option Bool := tree (fun b0 => some b0) k a0 a1 a2
theorem tree_nat {X Y : Type} (h : X → Option Y) (K : Bool → Option X) (k : Nat) (a0 : Int) (a1 : Int) (a2 : Int) : Option.bind (tree K k a0 a1 a2) h = tree (fun b0 => Option.bind (K b0) h) k a0 a1 a2 := by
  simp only [tree, bif_bind, sel_bind', Option.bind_assoc, Option.bind_none, Option.bind_some]
abbrev ps : List Sh := [.data (.int .i64), .data (.int .i64), .data (.int .i64)]
abbrev hs : List (Nat × ESh) := []
abbrev hi : List Nat := hs.map (·.1)
abbrev fi : List Nat := []
abbrev cl : List (Place × Nat × Hint) := []
abbrev hn : List Hint := [.any]
def val (t : Bool) : AV := Sh.mk (.data .bool) t
def wr (t : Bool) : Heap := []
def callee (k : Nat) : Callee := sigCallee ps hs (fun (d : (Int × Int × Int × Unit)) (e : Unit) => f k d.1 d.2.1 d.2.2.1) val wr
def E (k : Nat) : Env := ⟨fnTab [], loopTab [], natsTab [], natTab []⟩
theorem fE (k : Nat) : ∀ f, ∀ c ∈ (E k).fn f, CalleeOK Tryd.prog f c := fnTab_ok trivial
theorem run (k : Nat) (d : (Int × Int × Int × Unit)) (e : Unit) : runFn Tryd.prog (E k) 33 (bodyOf Tryd.f6) Tryd.f6.results.toList cl hn hi (mkL ps d) (mkH hs e) =
    tree (fun b0 => leafFn hs fi e val wr b0) k d.1 d.2.1 d.2.2.1 := by kernel_rfl
theorem run_f (k : Nat) (d : (Int × Int × Int × Unit)) (e : Unit) : runFn Tryd.prog (E k) 33 (bodyOf Tryd.f6) Tryd.f6.results.toList cl hn hi (mkL ps d) (mkH hs e) = (f k d.1 d.2.1 d.2.2.1).bind (leafFn hs fi e val wr) :=
  (run k d e).trans (tree_nat (leafFn hs fi e val wr) (fun b0 => some b0) k d.1 d.2.1 d.2.2.1).symm
theorem fnIs : FnIs Tryd.prog 6 Tryd.f6 (bodyOf Tryd.f6) 33 := ⟨by kernel_rfl, by kernel_rfl, by kernel_rfl, by kernel_rfl⟩
theorem ok (k : Nat) : CalleeOK Tryd.prog 6 (callee k) :=
  callee_sig (T := Bool) fnIs hm (fE k) (loopsOK_of [] (by kernel_rfl) trivial) ps hs cl hn fi (fun (d : (Int × Int × Int × Unit)) (e : Unit) => f k d.1 d.2.1 d.2.2.1) val wr rfl (fun _ => rfl) (run_f k)
end trailheadref18_Due
namespace trailheadref05_Number
namespace l0
def step {X : Type} (K : Int → (List Int) → Int → Option X) (G : Int → (List Int) → Int → Option X) (k : Nat) (x0 : Int) (x5 : Int) (x6 : (List Int)) (x7 : Int) : Option X :=
  (bif (decide (x7 < (mnI (mxI x0 1) 8))) then (bif (fits ((List.length x6) + (List.length (toStr ([(IntKind.wrap .u8 (remI x5 256))] : (List Int)))))) then (G (quoI .u64 x5 256) (x6 ++ (toStr ([(IntKind.wrap .u8 (remI x5 256))] : (List Int)))) (addI .i64 x7 1)) else none) else (K x5 x6 x7))
def go {X : Type} (K : Int → (List Int) → Int → Option X) (k : Nat) (x0 : Int) : Nat → Int → (List Int) → Int → Option X
  | 0, _, _, _ => none
  | n + 1, x5, x6, x7 => step K (go K k x0 n) k x0 x5 x6 x7
def f (k : Nat) (x0 : Int) (n : Nat) (x5 : Int) (x6 : (List Int)) (x7 : Int) : Option (Int × ((List Int) × Int)) := go (fun x5 x6 x7 => some (x5, x6, x7)) k x0 n x5 x6 x7
theorem step_nat {X Y : Type} (h : X → Option Y) (K : Int → (List Int) → Int → Option X) (G : Int → (List Int) → Int → Option X) (k : Nat) (x0 : Int) (x5 : Int) (x6 : (List Int)) (x7 : Int) : Option.bind (step K G k x0 x5 x6 x7) h = step (fun x5 x6 x7 => Option.bind (K x5 x6 x7) h) (fun x5 x6 x7 => Option.bind (G x5 x6 x7) h) k x0 x5 x6 x7 := by
  simp only [step, bif_bind, sel_bind', Option.bind_assoc, Option.bind_none, Option.bind_some]
theorem go_nat {X Y : Type} (h : X → Option Y) (K : Int → (List Int) → Int → Option X) (k : Nat) (x0 : Int) (n : Nat) : ∀ (x5 : Int) (x6 : (List Int)) (x7 : Int), Option.bind (go K k x0 n x5 x6 x7) h = go (fun x5 x6 x7 => Option.bind (K x5 x6 x7) h) k x0 n x5 x6 x7 := by
  induction n with
  | zero => intros; rfl
  | succ n ih => intro x5 x6 x7; show Option.bind (step K (go K k x0 n) k x0 x5 x6 x7) h = step (fun x5 x6 x7 => Option.bind (K x5 x6 x7) h) (go (fun x5 x6 x7 => Option.bind (K x5 x6 x7) h) k x0 n) k x0 x5 x6 x7; rw [step_nat h]; simp only [ih]
abbrev S : List (Nat × Sh) := [(0, .data (.int .i64)), (5, .data (.int .u64)), (6, .data .str), (7, .data (.int .i64))]
abbrev H : List (Nat × ESh) := []
abbrev cl : List (Place × Nat × Hint) := []
abbrev hn : List (Nat × Hint) := [(0, .any), (5, .any), (6, .any), (7, .any)]
abbrev kp : List Nat := []
abbrev rc : List (Place × Nat × Hint) := []
abbrev rs : List (Nat × Hint) := []
abbrev ri : List Nat := []
def KX (d : (Int × Int × (List Int) × Int × Unit)) (e : Unit) (v : (Int × ((List Int) × Int))) : St := ⟨mkS S (d.1, v.1, v.2.1, v.2.2, ()), mkH H (())⟩
def sum (k : Nat) : LoopSum := sigLoopX S cl hn kp H 0 (fun (d : (Int × Int × (List Int) × Int × Unit)) (e : Unit) => f k d.1 k d.2.1 d.2.2.1 d.2.2.2.1) KX
end l0
def tree {X : Type} (K : (List Int) → Option X) (k : Nat) (a0 : Int) (a1 : Int) : Option X :=
  (Option.bind (trailheadref05_Number.l0.f k a0 k (IntKind.wrap .u64 a1) ([] : (List Int)) (0 : Int)) (fun r1 => (K r1.2.1)))
def f (k : Nat) (a0 : Int) (a1 : Int) : Option (List Int) := tree (fun b0 => some b0) k a0 a1
theorem tree_nat {X Y : Type} (h : X → Option Y) (K : (List Int) → Option X) (k : Nat) (a0 : Int) (a1 : Int) : Option.bind (tree K k a0 a1) h = tree (fun b0 => Option.bind (K b0) h) k a0 a1 := by
  simp only [tree, bif_bind, sel_bind', Option.bind_assoc, Option.bind_none, Option.bind_some]
abbrev ps : List Sh := [.data (.int .i64), .data (.int .i64)]
abbrev hs : List (Nat × ESh) := []
abbrev hi : List Nat := hs.map (·.1)
abbrev fi : List Nat := []
abbrev cl : List (Place × Nat × Hint) := []
abbrev hn : List Hint := [.any]
def val (t : (List Int)) : AV := Sh.mk (.data .str) t
def wr (t : (List Int)) : Heap := []
def callee (k : Nat) : Callee := sigCallee ps hs (fun (d : (Int × Int × Unit)) (e : Unit) => f k d.1 d.2.1) val wr
def E (k : Nat) : Env := ⟨fnTab [], loopTab [(0, l0.sum k)], natsTab [], natTab []⟩
theorem fE (k : Nat) : ∀ f, ∀ c ∈ (E k).fn f, CalleeOK Tryd.prog f c := fnTab_ok trivial
namespace l0
theorem round (k : Nat) (d : (Int × Int × (List Int) × Int × Unit)) (e : Unit) (G : St → Option (Ex × St)) : roundK Tryd.prog (E k) 27 0 (subC (bodyOf Tryd.f15) [1, 1, 1, 0, 1, 0, 0]) (recast cl hn kp) (finBy cl hn kp rc rs ri) G ⟨mkS S d, mkH H e⟩ =
    step (fun x5 x6 x7 => some (.exit 0, KX d e (x5, x6, x7))) (fun x5 x6 x7 => G ⟨mkS S (d.1, x5, x6, x7, ()), mkH H (())⟩) k d.1 d.2.1 d.2.2.1 d.2.2.2.1 := by kernel_rfl
theorem it (k n : Nat) (d : (Int × Int × (List Int) × Int × Unit)) (e : Unit) : loopIt Tryd.prog (E k) 27 0 (subC (bodyOf Tryd.f15) [1, 1, 1, 0, 1, 0, 0]) (recast cl hn kp) (finBy cl hn kp rc rs ri) n ⟨mkS S d, mkH H e⟩ = go (fun x5 x6 x7 => some (.exit 0, KX d e (x5, x6, x7))) k d.1 n d.2.1 d.2.2.1 d.2.2.2.1 :=
  loopIt_eq (D := (Int × Int × (List Int) × Int × Unit) × Unit) (fun p => ⟨mkS S p.1, mkH H p.2⟩) (fun F p => step (fun x5 x6 x7 => some (.exit 0, KX p.1 p.2 (x5, x6, x7))) (fun x5 x6 x7 => F ((p.1.1, x5, x6, x7, ()), (()))) k p.1.1 p.1.2.1 p.1.2.2.1 p.1.2.2.2.1) (fun n p => go (fun x5 x6 x7 => some (.exit 0, KX p.1 p.2 (x5, x6, x7))) k p.1.1 n p.1.2.1 p.1.2.2.1 p.1.2.2.2.1) (fun _ => rfl) (fun _ _ => rfl) (fun G p => round k p.1 p.2 G) n (d, e)
theorem ok (k : Nat) : LoopOK Tryd.prog 27 (subC (bodyOf Tryd.f15) [1, 1, 1, 0, 1, 0, 0]) (sum k) :=
  loop_sigX hm (fE k) (loopsOK_of [] (by kernel_rfl) trivial) S cl hn kp H 0 (fun (d : (Int × Int × (List Int) × Int × Unit)) (e : Unit) => f k d.1 k d.2.1 d.2.2.1 d.2.2.2.1) KX cl hn kp rc rs ri k
    (fun d e => (it k k d e).trans (go_nat (fun v => some (Ex.exit 0, KX d e v)) (fun x5 x6 x7 => some (x5, x6, x7)) k d.1 k d.2.1 d.2.2.1 d.2.2.2.1).symm)
end l0
theorem run (k : Nat) (d : (Int × Int × Unit)) (e : Unit) : runFn Tryd.prog (E k) 27 (bodyOf Tryd.f15) Tryd.f15.results.toList cl hn hi (mkL ps d) (mkH hs e) =
    tree (fun b0 => leafFn hs fi e val wr b0) k d.1 d.2.1 := by kernel_rfl
theorem run_f (k : Nat) (d : (Int × Int × Unit)) (e : Unit) : runFn Tryd.prog (E k) 27 (bodyOf Tryd.f15) Tryd.f15.results.toList cl hn hi (mkL ps d) (mkH hs e) = (f k d.1 d.2.1).bind (leafFn hs fi e val wr) :=
  (run k d e).trans (tree_nat (leafFn hs fi e val wr) (fun b0 => some b0) k d.1 d.2.1).symm
theorem fnIs : FnIs Tryd.prog 15 Tryd.f15 (bodyOf Tryd.f15) 27 := ⟨by kernel_rfl, by kernel_rfl, by kernel_rfl, by kernel_rfl⟩
theorem ok (k : Nat) : CalleeOK Tryd.prog 15 (callee k) :=
  callee_sig (T := (List Int)) fnIs hm (fE k) (loopsOK_of [(0, subC (bodyOf Tryd.f15) [1, 1, 1, 0, 1, 0, 0])] (by kernel_rfl) ⟨of_loop (l0.sum k) rfl (l0.ok k), trivial⟩) ps hs cl hn fi (fun (d : (Int × Int × Unit)) (e : Unit) => f k d.1 d.2.1) val wr rfl (fun _ => rfl) (run_f k)
end trailheadref05_Number
namespace trailheadref05_Name
namespace l0
def step {X : Type} (K : (List Int) → Int → Option X) (G : (List Int) → Int → Option X) (k : Nat) (y800000 : (List Int)) (x3 : (List Int)) (x4 : Int) : Option X :=
  (bif (decide (x4 < (32 : Int))) then (bif (decide (0 ≤ x4)) then (bif (decide (x4 < 32)) then (bif (decide ((Int.toNat x4) < 32)) then (bif (fits ((List.length x3) + (List.length (toStr ([(List.getD y800000 (Int.toNat x4) 0)] : (List Int)))))) then (G (x3 ++ (toStr ([(List.getD y800000 (Int.toNat x4) 0)] : (List Int)))) (addI .i64 x4 1)) else none) else none) else none) else none) else (K x3 x4))
def go {X : Type} (K : (List Int) → Int → Option X) (k : Nat) (y800000 : (List Int)) : Nat → (List Int) → Int → Option X
  | 0, _, _ => none
  | n + 1, x3, x4 => step K (go K k y800000 n) k y800000 x3 x4
def f (k : Nat) (y800000 : (List Int)) (n : Nat) (x3 : (List Int)) (x4 : Int) : Option ((List Int) × Int) := go (fun x3 x4 => some (x3, x4)) k y800000 n x3 x4
theorem step_nat {X Y : Type} (h : X → Option Y) (K : (List Int) → Int → Option X) (G : (List Int) → Int → Option X) (k : Nat) (y800000 : (List Int)) (x3 : (List Int)) (x4 : Int) : Option.bind (step K G k y800000 x3 x4) h = step (fun x3 x4 => Option.bind (K x3 x4) h) (fun x3 x4 => Option.bind (G x3 x4) h) k y800000 x3 x4 := by
  simp only [step, bif_bind, sel_bind', Option.bind_assoc, Option.bind_none, Option.bind_some]
theorem go_nat {X Y : Type} (h : X → Option Y) (K : (List Int) → Int → Option X) (k : Nat) (y800000 : (List Int)) (n : Nat) : ∀ (x3 : (List Int)) (x4 : Int), Option.bind (go K k y800000 n x3 x4) h = go (fun x3 x4 => Option.bind (K x3 x4) h) k y800000 n x3 x4 := by
  induction n with
  | zero => intros; rfl
  | succ n ih => intro x3 x4; show Option.bind (step K (go K k y800000 n) k y800000 x3 x4) h = step (fun x3 x4 => Option.bind (K x3 x4) h) (go (fun x3 x4 => Option.bind (K x3 x4) h) k y800000 n) k y800000 x3 x4; rw [step_nat h]; simp only [ih]
abbrev S : List (Nat × Sh) := [(1, .ptr 800000), (3, .data .str), (4, .data (.int .i64))]
abbrev H : List (Nat × ESh) := [(800000, .cell (.data (.arr .u8 32)))]
abbrev cl : List (Place × Nat × Hint) := []
abbrev hn : List (Nat × Hint) := [(1, .any), (3, .any), (4, .any)]
abbrev kp : List Nat := []
abbrev rc : List (Place × Nat × Hint) := []
abbrev rs : List (Nat × Hint) := []
abbrev ri : List Nat := []
def KX (d : (Unit × (List Int) × Int × Unit)) (e : ((List Int) × Unit)) (v : ((List Int) × Int)) : St := ⟨mkS S ((), v.1, v.2, ()), mkH H (e.1, ())⟩
def sum (k : Nat) : LoopSum := sigLoopX S cl hn kp H 0 (fun (d : (Unit × (List Int) × Int × Unit)) (e : ((List Int) × Unit)) => f k e.1 k d.2.1 d.2.2.1) KX
end l0
def tree {X : Type} (K : (List Int) → Option X) (k : Nat) (a0 : (List Int)) : Option X :=
  (Option.bind (trailheadref05_Name.l0.f k a0 k ([] : (List Int)) (0 : Int)) (fun r1 => (K r1.1)))
def f (k : Nat) (a0 : (List Int)) : Option (List Int) := tree (fun b0 => some b0) k a0
theorem tree_nat {X Y : Type} (h : X → Option Y) (K : (List Int) → Option X) (k : Nat) (a0 : (List Int)) : Option.bind (tree K k a0) h = tree (fun b0 => Option.bind (K b0) h) k a0 := by
  simp only [tree, bif_bind, sel_bind', Option.bind_assoc, Option.bind_none, Option.bind_some]
abbrev ps : List Sh := [.data (.arr .u8 32)]
abbrev hs : List (Nat × ESh) := []
abbrev hi : List Nat := hs.map (·.1)
abbrev fi : List Nat := []
abbrev cl : List (Place × Nat × Hint) := []
abbrev hn : List Hint := [.any]
def val (t : (List Int)) : AV := Sh.mk (.data .str) t
def wr (t : (List Int)) : Heap := []
def callee (k : Nat) : Callee := sigCallee ps hs (fun (d : ((List Int) × Unit)) (e : Unit) => f k d.1) val wr
def E (k : Nat) : Env := ⟨fnTab [], loopTab [(0, l0.sum k)], natsTab [], natTab []⟩
theorem fE (k : Nat) : ∀ f, ∀ c ∈ (E k).fn f, CalleeOK Tryd.prog f c := fnTab_ok trivial
namespace l0
theorem round (k : Nat) (d : (Unit × (List Int) × Int × Unit)) (e : ((List Int) × Unit)) (G : St → Option (Ex × St)) : roundK Tryd.prog (E k) 17 0 (subC (bodyOf Tryd.f16) [1, 1, 0, 1, 0, 0]) (recast cl hn kp) (finBy cl hn kp rc rs ri) G ⟨mkS S d, mkH H e⟩ =
    step (fun x3 x4 => some (.exit 0, KX d e (x3, x4))) (fun x3 x4 => G ⟨mkS S ((), x3, x4, ()), mkH H (e.1, ())⟩) k e.1 d.2.1 d.2.2.1 := by kernel_rfl
theorem it (k n : Nat) (d : (Unit × (List Int) × Int × Unit)) (e : ((List Int) × Unit)) : loopIt Tryd.prog (E k) 17 0 (subC (bodyOf Tryd.f16) [1, 1, 0, 1, 0, 0]) (recast cl hn kp) (finBy cl hn kp rc rs ri) n ⟨mkS S d, mkH H e⟩ = go (fun x3 x4 => some (.exit 0, KX d e (x3, x4))) k e.1 n d.2.1 d.2.2.1 :=
  loopIt_eq (D := (Unit × (List Int) × Int × Unit) × ((List Int) × Unit)) (fun p => ⟨mkS S p.1, mkH H p.2⟩) (fun F p => step (fun x3 x4 => some (.exit 0, KX p.1 p.2 (x3, x4))) (fun x3 x4 => F (((), x3, x4, ()), (p.2.1, ()))) k p.2.1 p.1.2.1 p.1.2.2.1) (fun n p => go (fun x3 x4 => some (.exit 0, KX p.1 p.2 (x3, x4))) k p.2.1 n p.1.2.1 p.1.2.2.1) (fun _ => rfl) (fun _ _ => rfl) (fun G p => round k p.1 p.2 G) n (d, e)
theorem ok (k : Nat) : LoopOK Tryd.prog 17 (subC (bodyOf Tryd.f16) [1, 1, 0, 1, 0, 0]) (sum k) :=
  loop_sigX hm (fE k) (loopsOK_of [] (by kernel_rfl) trivial) S cl hn kp H 0 (fun (d : (Unit × (List Int) × Int × Unit)) (e : ((List Int) × Unit)) => f k e.1 k d.2.1 d.2.2.1) KX cl hn kp rc rs ri k
    (fun d e => (it k k d e).trans (go_nat (fun v => some (Ex.exit 0, KX d e v)) (fun x3 x4 => some (x3, x4)) k e.1 k d.2.1 d.2.2.1).symm)
end l0
theorem run (k : Nat) (d : ((List Int) × Unit)) (e : Unit) : runFn Tryd.prog (E k) 17 (bodyOf Tryd.f16) Tryd.f16.results.toList cl hn hi (mkL ps d) (mkH hs e) =
    tree (fun b0 => leafFn hs fi e val wr b0) k d.1 := by kernel_rfl
theorem run_f (k : Nat) (d : ((List Int) × Unit)) (e : Unit) : runFn Tryd.prog (E k) 17 (bodyOf Tryd.f16) Tryd.f16.results.toList cl hn hi (mkL ps d) (mkH hs e) = (f k d.1).bind (leafFn hs fi e val wr) :=
  (run k d e).trans (tree_nat (leafFn hs fi e val wr) (fun b0 => some b0) k d.1).symm
theorem fnIs : FnIs Tryd.prog 16 Tryd.f16 (bodyOf Tryd.f16) 17 := ⟨by kernel_rfl, by kernel_rfl, by kernel_rfl, by kernel_rfl⟩
theorem ok (k : Nat) : CalleeOK Tryd.prog 16 (callee k) :=
  callee_sig (T := (List Int)) fnIs hm (fE k) (loopsOK_of [(0, subC (bodyOf Tryd.f16) [1, 1, 0, 1, 0, 0])] (by kernel_rfl) ⟨of_loop (l0.sum k) rfl (l0.ok k), trivial⟩) ps hs cl hn fi (fun (d : ((List Int) × Unit)) (e : Unit) => f k d.1) val wr rfl (fun _ => rfl) (run_f k)
end trailheadref05_Name
namespace trailheadref01_padded
namespace l0
def step {X : Type} (K : (List Int) → Option X) (G : (List Int) → Option X) (k : Nat) (x3 : Int) (x0 : (List Int)) : Option X :=
  (bif ((remI ((List.length x0) : Int) 64) != (56 : Int)) then (bif (fits ((List.length x0) + 1)) then (G (x0 ++ ([0] : (List Int)))) else none) else (K x0))
def go {X : Type} (K : (List Int) → Option X) (k : Nat) (x3 : Int) : Nat → (List Int) → Option X
  | 0, _ => none
  | n + 1, x0 => step K (go K k x3 n) k x3 x0
def f (k : Nat) (x3 : Int) (n : Nat) (x0 : (List Int)) : Option (List Int) := go (fun x0 => some x0) k x3 n x0
theorem step_nat {X Y : Type} (h : X → Option Y) (K : (List Int) → Option X) (G : (List Int) → Option X) (k : Nat) (x3 : Int) (x0 : (List Int)) : Option.bind (step K G k x3 x0) h = step (fun x0 => Option.bind (K x0) h) (fun x0 => Option.bind (G x0) h) k x3 x0 := by
  simp only [step, bif_bind, sel_bind', Option.bind_assoc, Option.bind_none, Option.bind_some]
theorem go_nat {X Y : Type} (h : X → Option Y) (K : (List Int) → Option X) (k : Nat) (x3 : Int) (n : Nat) : ∀ (x0 : (List Int)), Option.bind (go K k x3 n x0) h = go (fun x0 => Option.bind (K x0) h) k x3 n x0 := by
  induction n with
  | zero => intros; rfl
  | succ n ih => intro x0; show Option.bind (step K (go K k x3 n) k x3 x0) h = step (fun x0 => Option.bind (K x0) h) (go (fun x0 => Option.bind (K x0) h) k x3 n) k x3 x0; rw [step_nat h]; simp only [ih]
abbrev S : List (Nat × Sh) := [(0, .data .str), (3, .data (.int .i64))]
abbrev H : List (Nat × ESh) := []
abbrev cl : List (Place × Nat × Hint) := []
abbrev hn : List (Nat × Hint) := [(0, .any), (3, .any)]
abbrev kp : List Nat := []
abbrev rc : List (Place × Nat × Hint) := []
abbrev rs : List (Nat × Hint) := []
abbrev ri : List Nat := []
def KX (d : ((List Int) × Int × Unit)) (e : Unit) (v : (List Int)) : St := ⟨mkS S (v, d.2.1, ()), mkH H (())⟩
def sum (k : Nat) : LoopSum := sigLoopX S cl hn kp H 0 (fun (d : ((List Int) × Int × Unit)) (e : Unit) => f k d.2.1 k d.1) KX
end l0
namespace l2
def step {X : Type} (K : Int → (List Int) → Int → Option X) (G : Int → (List Int) → Int → Option X) (k : Nat) (x0 : (List Int)) (x3 : Int) (x4 : (List Int)) (x5 : Int) : Option X :=
  (bif (decide (x5 < (8 : Int))) then (bif (fits ((List.length (toStr ([(IntKind.wrap .u8 (remI x3 256))] : (List Int)))) + (List.length x4))) then (G (quoI .i64 x3 256) ((toStr ([(IntKind.wrap .u8 (remI x3 256))] : (List Int))) ++ x4) (addI .i64 x5 1)) else none) else (K x3 x4 x5))
def go {X : Type} (K : Int → (List Int) → Int → Option X) (k : Nat) (x0 : (List Int)) : Nat → Int → (List Int) → Int → Option X
  | 0, _, _, _ => none
  | n + 1, x3, x4, x5 => step K (go K k x0 n) k x0 x3 x4 x5
def f (k : Nat) (x0 : (List Int)) (n : Nat) (x3 : Int) (x4 : (List Int)) (x5 : Int) : Option (Int × ((List Int) × Int)) := go (fun x3 x4 x5 => some (x3, x4, x5)) k x0 n x3 x4 x5
theorem step_nat {X Y : Type} (h : X → Option Y) (K : Int → (List Int) → Int → Option X) (G : Int → (List Int) → Int → Option X) (k : Nat) (x0 : (List Int)) (x3 : Int) (x4 : (List Int)) (x5 : Int) : Option.bind (step K G k x0 x3 x4 x5) h = step (fun x3 x4 x5 => Option.bind (K x3 x4 x5) h) (fun x3 x4 x5 => Option.bind (G x3 x4 x5) h) k x0 x3 x4 x5 := by
  simp only [step, bif_bind, sel_bind', Option.bind_assoc, Option.bind_none, Option.bind_some]
theorem go_nat {X Y : Type} (h : X → Option Y) (K : Int → (List Int) → Int → Option X) (k : Nat) (x0 : (List Int)) (n : Nat) : ∀ (x3 : Int) (x4 : (List Int)) (x5 : Int), Option.bind (go K k x0 n x3 x4 x5) h = go (fun x3 x4 x5 => Option.bind (K x3 x4 x5) h) k x0 n x3 x4 x5 := by
  induction n with
  | zero => intros; rfl
  | succ n ih => intro x3 x4 x5; show Option.bind (step K (go K k x0 n) k x0 x3 x4 x5) h = step (fun x3 x4 x5 => Option.bind (K x3 x4 x5) h) (go (fun x3 x4 x5 => Option.bind (K x3 x4 x5) h) k x0 n) k x0 x3 x4 x5; rw [step_nat h]; simp only [ih]
abbrev S : List (Nat × Sh) := [(0, .data .str), (3, .data (.int .i64)), (4, .data .str), (5, .data (.int .i64))]
abbrev H : List (Nat × ESh) := []
abbrev cl : List (Place × Nat × Hint) := []
abbrev hn : List (Nat × Hint) := [(0, .any), (3, .any), (4, .any), (5, .any)]
abbrev kp : List Nat := []
abbrev rc : List (Place × Nat × Hint) := []
abbrev rs : List (Nat × Hint) := []
abbrev ri : List Nat := []
def KX (d : ((List Int) × Int × (List Int) × Int × Unit)) (e : Unit) (v : (Int × ((List Int) × Int))) : St := ⟨mkS S (d.1, v.1, v.2.1, v.2.2, ()), mkH H (())⟩
def sum (k : Nat) : LoopSum := sigLoopX S cl hn kp H 2 (fun (d : ((List Int) × Int × (List Int) × Int × Unit)) (e : Unit) => f k d.1 k d.2.1 d.2.2.1 d.2.2.2.1) KX
end l2
def tree {X : Type} (K : (List Int) → Option X) (k : Nat) (a0 : (List Int)) : Option X :=
  (bif (fits ((List.length a0) + 1)) then (Option.bind (trailheadref01_padded.l0.f k ((List.length a0) : Int) k (a0 ++ ([128] : (List Int)))) (fun r1 => (Option.bind (trailheadref01_padded.l2.f k r1 k (mulI .i64 8 ((List.length a0) : Int)) ([] : (List Int)) (0 : Int)) (fun r2 => (bif (fits ((List.length r1) + (List.length r2.2.1))) then (K (r1 ++ r2.2.1)) else none))))) else none)
def f (k : Nat) (a0 : (List Int)) : Option (List Int) := tree (fun b0 => some b0) k a0
theorem tree_nat {X Y : Type} (h : X → Option Y) (K : (List Int) → Option X) (k : Nat) (a0 : (List Int)) : Option.bind (tree K k a0) h = tree (fun b0 => Option.bind (K b0) h) k a0 := by
  simp only [tree, bif_bind, sel_bind', Option.bind_assoc, Option.bind_none, Option.bind_some]
abbrev ps : List Sh := [.data .str]
abbrev hs : List (Nat × ESh) := []
abbrev hi : List Nat := hs.map (·.1)
abbrev fi : List Nat := []
abbrev cl : List (Place × Nat × Hint) := []
abbrev hn : List Hint := [.any]
def val (t : (List Int)) : AV := Sh.mk (.data .str) t
def wr (t : (List Int)) : Heap := []
def callee (k : Nat) : Callee := sigCallee ps hs (fun (d : ((List Int) × Unit)) (e : Unit) => f k d.1) val wr
def E (k : Nat) : Env := ⟨fnTab [], loopTab [(0, l0.sum k), (2, l2.sum k)], natsTab [], natTab []⟩
theorem fE (k : Nat) : ∀ f, ∀ c ∈ (E k).fn f, CalleeOK Tryd.prog f c := fnTab_ok trivial
namespace l0
theorem round (k : Nat) (d : ((List Int) × Int × Unit)) (e : Unit) (G : St → Option (Ex × St)) : roundK Tryd.prog (E k) 34 0 (subC (bodyOf Tryd.f25) [1, 1, 1, 0, 0, 0]) (recast cl hn kp) (finBy cl hn kp rc rs ri) G ⟨mkS S d, mkH H e⟩ =
    step (fun x0 => some (.exit 0, KX d e x0)) (fun x0 => G ⟨mkS S (x0, d.2.1, ()), mkH H (())⟩) k d.2.1 d.1 := by kernel_rfl
theorem it (k n : Nat) (d : ((List Int) × Int × Unit)) (e : Unit) : loopIt Tryd.prog (E k) 34 0 (subC (bodyOf Tryd.f25) [1, 1, 1, 0, 0, 0]) (recast cl hn kp) (finBy cl hn kp rc rs ri) n ⟨mkS S d, mkH H e⟩ = go (fun x0 => some (.exit 0, KX d e x0)) k d.2.1 n d.1 :=
  loopIt_eq (D := ((List Int) × Int × Unit) × Unit) (fun p => ⟨mkS S p.1, mkH H p.2⟩) (fun F p => step (fun x0 => some (.exit 0, KX p.1 p.2 x0)) (fun x0 => F ((x0, p.1.2.1, ()), (()))) k p.1.2.1 p.1.1) (fun n p => go (fun x0 => some (.exit 0, KX p.1 p.2 x0)) k p.1.2.1 n p.1.1) (fun _ => rfl) (fun _ _ => rfl) (fun G p => round k p.1 p.2 G) n (d, e)
theorem ok (k : Nat) : LoopOK Tryd.prog 34 (subC (bodyOf Tryd.f25) [1, 1, 1, 0, 0, 0]) (sum k) :=
  loop_sigX hm (fE k) (loopsOK_of [] (by kernel_rfl) trivial) S cl hn kp H 0 (fun (d : ((List Int) × Int × Unit)) (e : Unit) => f k d.2.1 k d.1) KX cl hn kp rc rs ri k
    (fun d e => (it k k d e).trans (go_nat (fun v => some (Ex.exit 0, KX d e v)) (fun x0 => some x0) k d.2.1 k d.1).symm)
end l0
namespace l2
theorem round (k : Nat) (d : ((List Int) × Int × (List Int) × Int × Unit)) (e : Unit) (G : St → Option (Ex × St)) : roundK Tryd.prog (E k) 34 2 (subC (bodyOf Tryd.f25) [1, 1, 1, 1, 1, 1, 0, 1, 0, 0]) (recast cl hn kp) (finBy cl hn kp rc rs ri) G ⟨mkS S d, mkH H e⟩ =
    step (fun x3 x4 x5 => some (.exit 2, KX d e (x3, x4, x5))) (fun x3 x4 x5 => G ⟨mkS S (d.1, x3, x4, x5, ()), mkH H (())⟩) k d.1 d.2.1 d.2.2.1 d.2.2.2.1 := by kernel_rfl
theorem it (k n : Nat) (d : ((List Int) × Int × (List Int) × Int × Unit)) (e : Unit) : loopIt Tryd.prog (E k) 34 2 (subC (bodyOf Tryd.f25) [1, 1, 1, 1, 1, 1, 0, 1, 0, 0]) (recast cl hn kp) (finBy cl hn kp rc rs ri) n ⟨mkS S d, mkH H e⟩ = go (fun x3 x4 x5 => some (.exit 2, KX d e (x3, x4, x5))) k d.1 n d.2.1 d.2.2.1 d.2.2.2.1 :=
  loopIt_eq (D := ((List Int) × Int × (List Int) × Int × Unit) × Unit) (fun p => ⟨mkS S p.1, mkH H p.2⟩) (fun F p => step (fun x3 x4 x5 => some (.exit 2, KX p.1 p.2 (x3, x4, x5))) (fun x3 x4 x5 => F ((p.1.1, x3, x4, x5, ()), (()))) k p.1.1 p.1.2.1 p.1.2.2.1 p.1.2.2.2.1) (fun n p => go (fun x3 x4 x5 => some (.exit 2, KX p.1 p.2 (x3, x4, x5))) k p.1.1 n p.1.2.1 p.1.2.2.1 p.1.2.2.2.1) (fun _ => rfl) (fun _ _ => rfl) (fun G p => round k p.1 p.2 G) n (d, e)
theorem ok (k : Nat) : LoopOK Tryd.prog 34 (subC (bodyOf Tryd.f25) [1, 1, 1, 1, 1, 1, 0, 1, 0, 0]) (sum k) :=
  loop_sigX hm (fE k) (loopsOK_of [] (by kernel_rfl) trivial) S cl hn kp H 2 (fun (d : ((List Int) × Int × (List Int) × Int × Unit)) (e : Unit) => f k d.1 k d.2.1 d.2.2.1 d.2.2.2.1) KX cl hn kp rc rs ri k
    (fun d e => (it k k d e).trans (go_nat (fun v => some (Ex.exit 2, KX d e v)) (fun x3 x4 x5 => some (x3, x4, x5)) k d.1 k d.2.1 d.2.2.1 d.2.2.2.1).symm)
end l2
theorem run (k : Nat) (d : ((List Int) × Unit)) (e : Unit) : runFn Tryd.prog (E k) 34 (bodyOf Tryd.f25) Tryd.f25.results.toList cl hn hi (mkL ps d) (mkH hs e) =
    tree (fun b0 => leafFn hs fi e val wr b0) k d.1 := by kernel_rfl
theorem run_f (k : Nat) (d : ((List Int) × Unit)) (e : Unit) : runFn Tryd.prog (E k) 34 (bodyOf Tryd.f25) Tryd.f25.results.toList cl hn hi (mkL ps d) (mkH hs e) = (f k d.1).bind (leafFn hs fi e val wr) :=
  (run k d e).trans (tree_nat (leafFn hs fi e val wr) (fun b0 => some b0) k d.1).symm
theorem fnIs : FnIs Tryd.prog 25 Tryd.f25 (bodyOf Tryd.f25) 34 := ⟨by kernel_rfl, by kernel_rfl, by kernel_rfl, by kernel_rfl⟩
theorem ok (k : Nat) : CalleeOK Tryd.prog 25 (callee k) :=
  callee_sig (T := (List Int)) fnIs hm (fE k) (loopsOK_of [(0, subC (bodyOf Tryd.f25) [1, 1, 1, 0, 0, 0]), (2, subC (bodyOf Tryd.f25) [1, 1, 1, 1, 1, 1, 0, 1, 0, 0])] (by kernel_rfl) ⟨of_loop (l0.sum k) rfl (l0.ok k), ⟨of_loop (l2.sum k) rfl (l2.ok k), trivial⟩⟩) ps hs cl hn fi (fun (d : ((List Int) × Unit)) (e : Unit) => f k d.1) val wr rfl (fun _ => rfl) (run_f k)
end trailheadref01_padded
namespace trailheadref01_right
def tree {X : Type} (K : Int → Option X) (k : Nat) (a0 : Int) (a1 : Int) : Option X :=
  (bif (decide (a1 < 0)) then none else (bif (decide ((subI .u64 32 a1) < 0)) then none else (K (addI .u32 (shrI .u32 a0 a1) (shlI .u32 a0 (subI .u64 32 a1))))))
def f (k : Nat) (a0 : Int) (a1 : Int) : Option Int := tree (fun b0 => some b0) k a0 a1
theorem tree_nat {X Y : Type} (h : X → Option Y) (K : Int → Option X) (k : Nat) (a0 : Int) (a1 : Int) : Option.bind (tree K k a0 a1) h = tree (fun b0 => Option.bind (K b0) h) k a0 a1 := by
  simp only [tree, bif_bind, sel_bind', Option.bind_assoc, Option.bind_none, Option.bind_some]
abbrev ps : List Sh := [.data (.int .u32), .data (.int .u64)]
abbrev hs : List (Nat × ESh) := []
abbrev hi : List Nat := hs.map (·.1)
abbrev fi : List Nat := []
abbrev cl : List (Place × Nat × Hint) := []
abbrev hn : List Hint := [.any]
def val (t : Int) : AV := Sh.mk (.data (.int .u32)) t
def wr (t : Int) : Heap := []
def callee (k : Nat) : Callee := sigCallee ps hs (fun (d : (Int × Int × Unit)) (e : Unit) => f k d.1 d.2.1) val wr
def E (k : Nat) : Env := ⟨fnTab [], loopTab [], natsTab [], natTab []⟩
theorem fE (k : Nat) : ∀ f, ∀ c ∈ (E k).fn f, CalleeOK Tryd.prog f c := fnTab_ok trivial
theorem run (k : Nat) (d : (Int × Int × Unit)) (e : Unit) : runFn Tryd.prog (E k) 13 (bodyOf Tryd.f26) Tryd.f26.results.toList cl hn hi (mkL ps d) (mkH hs e) =
    tree (fun b0 => leafFn hs fi e val wr b0) k d.1 d.2.1 := by kernel_rfl
theorem run_f (k : Nat) (d : (Int × Int × Unit)) (e : Unit) : runFn Tryd.prog (E k) 13 (bodyOf Tryd.f26) Tryd.f26.results.toList cl hn hi (mkL ps d) (mkH hs e) = (f k d.1 d.2.1).bind (leafFn hs fi e val wr) :=
  (run k d e).trans (tree_nat (leafFn hs fi e val wr) (fun b0 => some b0) k d.1 d.2.1).symm
theorem fnIs : FnIs Tryd.prog 26 Tryd.f26 (bodyOf Tryd.f26) 13 := ⟨by kernel_rfl, by kernel_rfl, by kernel_rfl, by kernel_rfl⟩
theorem ok (k : Nat) : CalleeOK Tryd.prog 26 (callee k) :=
  callee_sig (T := Int) fnIs hm (fE k) (loopsOK_of [] (by kernel_rfl) trivial) ps hs cl hn fi (fun (d : (Int × Int × Unit)) (e : Unit) => f k d.1 d.2.1) val wr rfl (fun _ => rfl) (run_f k)
end trailheadref01_right
namespace trailheadref01_k
def tree {X : Type} (K : Int → Option X) (k : Nat) (a0 : Int) : Option X :=
  (bif (decide (0 ≤ a0)) then (bif (decide (a0 < 64)) then (K (List.getD ([1116352408, 1899447441, 3049323471, 3921009573, 961987163, 1508970993, 2453635748, 2870763221, 3624381080, 310598401, 607225278, 1426881987, 1925078388, 2162078206, 2614888103, 3248222580, 3835390401, 4022224774, 264347078, 604807628, 770255983, 1249150122, 1555081692, 1996064986, 2554220882, 2821834349, 2952996808, 3210313671, 3336571891, 3584528711, 113926993, 338241895, 666307205, 773529912, 1294757372, 1396182291, 1695183700, 1986661051, 2177026350, 2456956037, 2730485921, 2820302411, 3259730800, 3345764771, 3516065817, 3600352804, 4094571909, 275423344, 430227734, 506948616, 659060556, 883997877, 958139571, 1322822218, 1537002063, 1747873779, 1955562222, 2024104815, 2227730452, 2361852424, 2428436474, 2756734187, 3204031479, 3329325298] : (List Int)) (Int.toNat a0) 0)) else none) else none)
def f (k : Nat) (a0 : Int) : Option Int := tree (fun b0 => some b0) k a0
theorem tree_nat {X Y : Type} (h : X → Option Y) (K : Int → Option X) (k : Nat) (a0 : Int) : Option.bind (tree K k a0) h = tree (fun b0 => Option.bind (K b0) h) k a0 := by
  simp only [tree, bif_bind, sel_bind', Option.bind_assoc, Option.bind_none, Option.bind_some]
abbrev ps : List Sh := [.data (.int .i64)]
abbrev hs : List (Nat × ESh) := []
abbrev hi : List Nat := hs.map (·.1)
abbrev fi : List Nat := []
abbrev cl : List (Place × Nat × Hint) := []
abbrev hn : List Hint := [.any]
def val (t : Int) : AV := Sh.mk (.data (.int .u32)) t
def wr (t : Int) : Heap := []
def callee (k : Nat) : Callee := sigCallee ps hs (fun (d : (Int × Unit)) (e : Unit) => f k d.1) val wr
def E (k : Nat) : Env := ⟨fnTab [], loopTab [], natsTab [], natTab []⟩
theorem fE (k : Nat) : ∀ f, ∀ c ∈ (E k).fn f, CalleeOK Tryd.prog f c := fnTab_ok trivial
theorem run (k : Nat) (d : (Int × Unit)) (e : Unit) : runFn Tryd.prog (E k) 6 (bodyOf Tryd.f27) Tryd.f27.results.toList cl hn hi (mkL ps d) (mkH hs e) =
    tree (fun b0 => leafFn hs fi e val wr b0) k d.1 := by kernel_rfl
theorem run_f (k : Nat) (d : (Int × Unit)) (e : Unit) : runFn Tryd.prog (E k) 6 (bodyOf Tryd.f27) Tryd.f27.results.toList cl hn hi (mkL ps d) (mkH hs e) = (f k d.1).bind (leafFn hs fi e val wr) :=
  (run k d e).trans (tree_nat (leafFn hs fi e val wr) (fun b0 => some b0) k d.1).symm
theorem fnIs : FnIs Tryd.prog 27 Tryd.f27 (bodyOf Tryd.f27) 6 := ⟨by kernel_rfl, by kernel_rfl, by kernel_rfl, by kernel_rfl⟩
theorem ok (k : Nat) : CalleeOK Tryd.prog 27 (callee k) :=
  callee_sig (T := Int) fnIs hm (fE k) (loopsOK_of [] (by kernel_rfl) trivial) ps hs cl hn fi (fun (d : (Int × Unit)) (e : Unit) => f k d.1) val wr rfl (fun _ => rfl) (run_f k)
end trailheadref01_k
end Go.Proofs.YtnaenbijnpbhaaaDoor.Sy
