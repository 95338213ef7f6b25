/- What the Go functions come to, on data: printed by pr.py. -/
import Derived.Test.YtjciljaojcekeaaSx18
import Derived.Test.YtjciljaojcekeaaProg
namespace Go.Proofs.Ytjciljaojcekeaa.Sx
open Go Go.Proofs
set_option maxRecDepth 100000
set_option linter.unusedVariables false
set_option linter.unusedSimpArgs false

theorem hm : Try.prog.follows .mixedOrders = true := by kernel_rfl
theorem ext85 : CalleeOK Try.prog 85 (.ext (Int × Int) (run3 add64) pair64) := ext_add64 (fn := Try.f85) (by kernel_rfl) (by kernel_rfl) (by kernel_rfl) (by kernel_rfl) (by kernel_rfl)
theorem ext87 : CalleeOK Try.prog 87 (.ext (Int × Int) (run3 sub64) pair64) := ext_sub64 (fn := Try.f87) (by kernel_rfl) (by kernel_rfl) (by kernel_rfl) (by kernel_rfl) (by kernel_rfl)
def bytes0 : ByteArray := ⟨#[0, 1, 2, 2, 3, 3, 3, 3, 4, 4, 4, 4, 4, 4, 4, 4, 5, 5, 5, 5, 5, 5, 5, 5, 5, 5, 5, 5, 5, 5, 5, 5, 6, 6, 6, 6, 6, 6, 6, 6, 6, 6, 6, 6, 6, 6, 6, 6, 6, 6, 6, 6, 6, 6, 6, 6, 6, 6, 6, 6, 6, 6, 6, 6, 7, 7, 7, 7, 7, 7, 7, 7, 7, 7, 7, 7, 7, 7, 7, 7, 7, 7, 7, 7, 7, 7, 7, 7, 7, 7, 7, 7, 7, 7, 7, 7, 7, 7, 7, 7, 7, 7, 7, 7, 7, 7, 7, 7, 7, 7, 7, 7, 7, 7, 7, 7, 7, 7, 7, 7, 7, 7, 7, 7, 7, 7, 7, 7, 8, 8, 8, 8, 8, 8, 8, 8, 8, 8, 8, 8, 8, 8, 8, 8, 8, 8, 8, 8, 8, 8, 8, 8, 8, 8, 8, 8, 8, 8, 8, 8, 8, 8, 8, 8, 8, 8, 8, 8, 8, 8, 8, 8, 8, 8, 8, 8, 8, 8, 8, 8, 8, 8, 8, 8, 8, 8, 8, 8, 8, 8, 8, 8, 8, 8, 8, 8, 8, 8, 8, 8, 8, 8, 8, 8, 8, 8, 8, 8, 8, 8, 8, 8, 8, 8, 8, 8, 8, 8, 8, 8, 8, 8, 8, 8, 8, 8, 8, 8, 8, 8, 8, 8, 8, 8, 8, 8, 8, 8, 8, 8, 8, 8, 8, 8, 8, 8, 8, 8, 8, 8, 8, 8, 8, 8, 8, 8]⟩
namespace whole_Not
namespace l0
def step {X : Type} (K : Int → (List Int) → Option X) (G : Int → (List Int) → Option X) (k : Nat) (y1002 : (List Int)) (x4 : Int) (y1001 : (List Int)) : Option X :=
  (bif (decide (x4 < (4 : Int))) then (bif (decide (0 ≤ x4)) then (bif (decide (x4 < 4)) then (bif (decide ((Int.toNat x4) < 4)) then (bif (decide (0 ≤ x4)) then (bif (decide (x4 < 4)) then (bif (decide ((Int.toNat x4) < 4)) then (G (addI .i64 x4 1) (List.set y1001 (Int.toNat x4) (notI .u64 (List.getD y1001 (Int.toNat x4) 0)))) else none) else none) else none) else none) else none) else none) else (K x4 y1001))
def go {X : Type} (K : Int → (List Int) → Option X) (k : Nat) (y1002 : (List Int)) : Nat → Int → (List Int) → Option X
  | 0, _, _ => none
  | n + 1, x4, y1001 => step K (go K k y1002 n) k y1002 x4 y1001
def f (k : Nat) (y1002 : (List Int)) (n : Nat) (x4 : Int) (y1001 : (List Int)) : Option (Int × (List Int)) := go (fun x4 y1001 => some (x4, y1001)) k y1002 n x4 y1001
theorem step_nat {X Y : Type} (h : X → Option Y) (K : Int → (List Int) → Option X) (G : Int → (List Int) → Option X) (k : Nat) (y1002 : (List Int)) (x4 : Int) (y1001 : (List Int)) : Option.bind (step K G k y1002 x4 y1001) h = step (fun x4 y1001 => Option.bind (K x4 y1001) h) (fun x4 y1001 => Option.bind (G x4 y1001) h) k y1002 x4 y1001 := by
  simp only [step, bif_bind, sel_bind', Option.bind_assoc, Option.bind_none, Option.bind_some]
theorem go_nat {X Y : Type} (h : X → Option Y) (K : Int → (List Int) → Option X) (k : Nat) (y1002 : (List Int)) (n : Nat) : ∀ (x4 : Int) (y1001 : (List Int)), Option.bind (go K k y1002 n x4 y1001) h = go (fun x4 y1001 => Option.bind (K x4 y1001) h) k y1002 n x4 y1001 := by
  induction n with
  | zero => intros; rfl
  | succ n ih => intro x4 y1001; show Option.bind (step K (go K k y1002 n) k y1002 x4 y1001) h = step (fun x4 y1001 => Option.bind (K x4 y1001) h) (go (fun x4 y1001 => Option.bind (K x4 y1001) h) k y1002 n) k y1002 x4 y1001; rw [step_nat h]; simp only [ih]
abbrev S : List (Nat × Sh) := [(1, .ptr 1001), (2, .ptr 1002), (4, .data (.int .i64))]
abbrev H : List (Nat × ESh) := [(1001, .cell (.data (.arr .u64 4))), (1002, .cell (.data (.arr .u64 4)))]
def KX (d : (Unit × Unit × Int × Unit)) (e : ((List Int) × (List Int) × Unit)) (v : (Int × (List Int))) : St := ⟨mkS S ((), (), v.1, ()), mkH H (v.2, e.2.1, ())⟩
def sum (k : Nat) : LoopSum := sigLoopX S H 0 (fun (d : (Unit × Unit × Int × Unit)) (e : ((List Int) × (List Int) × Unit)) => f k e.2.1 k d.2.2.1 e.1) KX
end l0
def tree {X : Type} (K : (List Int) → Option X) (k : Nat) (a0 : (List Int)) : Option X :=
  (Option.bind (whole_Not.l0.f k ([0, 0, 0, 0] : (List Int)) k (0 : Int) a0) (fun r1 => (K r1.2)))
def f (k : Nat) (a0 : (List Int)) : Option (List Int) := tree (fun b0 => some b0) k a0
theorem tree_nat {X Y : Type} (h : X → Option Y) (K : (List Int) → Option X) (k : Nat) (a0 : (List Int)) : Option.bind (tree K k a0) h = tree (fun b0 => Option.bind (K b0) h) k a0 := by
  simp only [tree, bif_bind, sel_bind', Option.bind_assoc, Option.bind_none, Option.bind_some]
abbrev ps : List Sh := [.data (.arr .u64 4)]
abbrev hs : List (Nat × ESh) := []
abbrev hi : List Nat := hs.map (·.1)
def val (t : (List Int)) : AV := Sh.mk (.data (.arr .u64 4)) t
def wr (t : (List Int)) : Heap := []
def callee (k : Nat) : Callee := sigCallee ps hs (fun (d : ((List Int) × Unit)) (e : Unit) => f k d.1) val wr
def E (k : Nat) : Env := ⟨fnTab [], loopTab [(0, l0.sum k)]⟩
theorem fE (k : Nat) : ∀ f, ∀ c ∈ (E k).fn f, CalleeOK Try.prog f c := fnTab_ok trivial
namespace l0
theorem round (k : Nat) (d : (Unit × Unit × Int × Unit)) (e : ((List Int) × (List Int) × Unit)) (G : St → Option (Ex × St)) : roundK Try.prog (E k) 15 0 (subC (bodyOf Try.f56) [1, 0, 1, 0, 0]) (restrict (S.map (·.1)) (H.map (·.1))) (finBy (S.map (·.1)) (H.map (·.1)) [] []) G ⟨mkS S d, mkH H e⟩ =
    step (fun x4 y1001 => some (.exit 0, KX d e (x4, y1001))) (fun x4 y1001 => G ⟨mkS S ((), (), x4, ()), mkH H (y1001, e.2.1, ())⟩) k e.2.1 d.2.2.1 e.1 := by kernel_rfl
theorem it (k n : Nat) (d : (Unit × Unit × Int × Unit)) (e : ((List Int) × (List Int) × Unit)) : loopIt Try.prog (E k) 15 0 (subC (bodyOf Try.f56) [1, 0, 1, 0, 0]) (restrict (S.map (·.1)) (H.map (·.1))) (finBy (S.map (·.1)) (H.map (·.1)) [] []) n ⟨mkS S d, mkH H e⟩ = go (fun x4 y1001 => some (.exit 0, KX d e (x4, y1001))) k e.2.1 n d.2.2.1 e.1 :=
  loopIt_eq (D := (Unit × Unit × Int × Unit) × ((List Int) × (List Int) × Unit)) (fun p => ⟨mkS S p.1, mkH H p.2⟩) (fun F p => step (fun x4 y1001 => some (.exit 0, KX p.1 p.2 (x4, y1001))) (fun x4 y1001 => F (((), (), x4, ()), (y1001, p.2.2.1, ()))) k p.2.2.1 p.1.2.2.1 p.2.1) (fun n p => go (fun x4 y1001 => some (.exit 0, KX p.1 p.2 (x4, y1001))) k p.2.2.1 n p.1.2.2.1 p.2.1) (fun _ => rfl) (fun _ _ => rfl) (fun G p => round k p.1 p.2 G) n (d, e)
theorem ok (k : Nat) : LoopOK Try.prog 15 (subC (bodyOf Try.f56) [1, 0, 1, 0, 0]) (sum k) :=
  loop_sigX hm (fE k) (loopsOK_of [] (by kernel_rfl) trivial) S H 0 (fun (d : (Unit × Unit × Int × Unit)) (e : ((List Int) × (List Int) × Unit)) => f k e.2.1 k d.2.2.1 e.1) KX (S.map (·.1)) (H.map (·.1)) [] [] k
    (fun d e => (it k k d e).trans (go_nat (fun v => some (Ex.exit 0, KX d e v)) (fun x4 y1001 => some (x4, y1001)) k e.2.1 k d.2.2.1 e.1).symm)
end l0
theorem run (k : Nat) (d : ((List Int) × Unit)) (e : Unit) : runFn Try.prog (E k) 15 (bodyOf Try.f56) Try.f56.results.toList hi (mkL ps d) (mkH hs e) =
    tree (fun b0 => leafFn hs hi e val wr b0) k d.1 := by kernel_rfl
theorem run_f (k : Nat) (d : ((List Int) × Unit)) (e : Unit) : runFn Try.prog (E k) 15 (bodyOf Try.f56) Try.f56.results.toList hi (mkL ps d) (mkH hs e) = (f k d.1).bind (leafFn hs hi e val wr) :=
  (run k d e).trans (tree_nat (leafFn hs hi e val wr) (fun b0 => some b0) k d.1).symm
theorem fnIs : FnIs Try.prog 56 Try.f56 (bodyOf Try.f56) 15 := ⟨by kernel_rfl, by kernel_rfl, by kernel_rfl, by kernel_rfl⟩
theorem ok (k : Nat) : CalleeOK Try.prog 56 (callee k) :=
  callee_sig (T := (List Int)) fnIs hm (fE k) (loopsOK_of [(0, subC (bodyOf Try.f56) [1, 0, 1, 0, 0])] (by kernel_rfl) ⟨of_loop (l0.sum k) rfl (l0.ok k), trivial⟩) ps hs (fun (d : ((List Int) × Unit)) (e : Unit) => f k d.1) val wr rfl (fun _ => rfl) (run_f k)
end whole_Not
namespace whole_Most
def tree {X : Type} (K : (List Int) → Option X) (k : Nat) : Option X :=
  (Option.bind (whole_Not.f k ([0, 0, 0, 0] : (List Int))) (fun r1 => (K r1)))
def f (k : Nat) : Option (List Int) := tree (fun b0 => some b0) k
theorem tree_nat {X Y : Type} (h : X → Option Y) (K : (List Int) → Option X) (k : Nat) : Option.bind (tree K k) h = tree (fun b0 => Option.bind (K b0) h) k := by
  simp only [tree, bif_bind, sel_bind', Option.bind_assoc, Option.bind_none, Option.bind_some]
abbrev ps : List Sh := []
abbrev hs : List (Nat × ESh) := []
abbrev hi : List Nat := hs.map (·.1)
def val (t : (List Int)) : AV := Sh.mk (.data (.arr .u64 4)) t
def wr (t : (List Int)) : Heap := []
def callee (k : Nat) : Callee := sigCallee ps hs (fun (d : Unit) (e : Unit) => f k) val wr
def E (k : Nat) : Env := ⟨fnTab [(56, [whole_Not.callee k])], loopTab []⟩
theorem fE (k : Nat) : ∀ f, ∀ c ∈ (E k).fn f, CalleeOK Try.prog f c := fnTab_ok ⟨⟨whole_Not.ok k, trivial⟩, trivial⟩
theorem run (k : Nat) (d : Unit) (e : Unit) : runFn Try.prog (E k) 3 (bodyOf Try.f83) Try.f83.results.toList hi (mkL ps d) (mkH hs e) =
    tree (fun b0 => leafFn hs hi e val wr b0) k := by kernel_rfl
theorem run_f (k : Nat) (d : Unit) (e : Unit) : runFn Try.prog (E k) 3 (bodyOf Try.f83) Try.f83.results.toList hi (mkL ps d) (mkH hs e) = (f k).bind (leafFn hs hi e val wr) :=
  (run k d e).trans (tree_nat (leafFn hs hi e val wr) (fun b0 => some b0) k).symm
theorem fnIs : FnIs Try.prog 83 Try.f83 (bodyOf Try.f83) 3 := ⟨by kernel_rfl, by kernel_rfl, by kernel_rfl, by kernel_rfl⟩
theorem ok (k : Nat) : CalleeOK Try.prog 83 (callee k) :=
  callee_sig (T := (List Int)) fnIs hm (fE k) (loopsOK_of [] (by kernel_rfl) trivial) ps hs (fun (d : Unit) (e : Unit) => f k) val wr rfl (fun _ => rfl) (run_f k)
end whole_Most
namespace whole_Of
def tree {X : Type} (K : (List Int) → Option X) (k : Nat) (a0 : Int) : Option X :=
  (K ([a0, 0, 0, 0] : (List Int)))
def f (k : Nat) (a0 : Int) : Option (List Int) := tree (fun b0 => some b0) k a0
theorem tree_nat {X Y : Type} (h : X → Option Y) (K : (List Int) → Option X) (k : Nat) (a0 : Int) : Option.bind (tree K k a0) h = tree (fun b0 => Option.bind (K b0) h) k a0 := by
  simp only [tree, bif_bind, sel_bind', Option.bind_assoc, Option.bind_none, Option.bind_some]
abbrev ps : List Sh := [.data (.int .u64)]
abbrev hs : List (Nat × ESh) := []
abbrev hi : List Nat := hs.map (·.1)
def val (t : (List Int)) : AV := Sh.mk (.data (.arr .u64 4)) t
def wr (t : (List Int)) : Heap := []
def callee (k : Nat) : Callee := sigCallee ps hs (fun (d : (Int × Unit)) (e : Unit) => f k d.1) val wr
def E (k : Nat) : Env := ⟨fnTab [], loopTab []⟩
theorem fE (k : Nat) : ∀ f, ∀ c ∈ (E k).fn f, CalleeOK Try.prog f c := fnTab_ok trivial
theorem run (k : Nat) (d : (Int × Unit)) (e : Unit) : runFn Try.prog (E k) 5 (bodyOf Try.f44) Try.f44.results.toList hi (mkL ps d) (mkH hs e) =
    tree (fun b0 => leafFn hs hi e val wr b0) k d.1 := by kernel_rfl
theorem run_f (k : Nat) (d : (Int × Unit)) (e : Unit) : runFn Try.prog (E k) 5 (bodyOf Try.f44) Try.f44.results.toList hi (mkL ps d) (mkH hs e) = (f k d.1).bind (leafFn hs hi e val wr) :=
  (run k d e).trans (tree_nat (leafFn hs hi e val wr) (fun b0 => some b0) k d.1).symm
theorem fnIs : FnIs Try.prog 44 Try.f44 (bodyOf Try.f44) 5 := ⟨by kernel_rfl, by kernel_rfl, by kernel_rfl, by kernel_rfl⟩
theorem ok (k : Nat) : CalleeOK Try.prog 44 (callee k) :=
  callee_sig (T := (List Int)) fnIs hm (fE k) (loopsOK_of [] (by kernel_rfl) trivial) ps hs (fun (d : (Int × Unit)) (e : Unit) => f k d.1) val wr rfl (fun _ => rfl) (run_f k)
end whole_Of
namespace whole_Add
namespace l0
def step {X : Type} (K : Int → Int → (List Int) → Option X) (G : Int → Int → (List Int) → Option X) (k : Nat) (x5 : Bool) (y1003 : (List Int)) (y1004 : (List Int)) (x6 : Int) (x8 : Int) (y1002 : (List Int)) : Option X :=
  (bif (decide (x8 < (4 : Int))) then (bif (decide (0 ≤ x8)) then (bif (decide (x8 < 4)) then (bif (decide ((Int.toNat x8) < 4)) then (bif (decide (0 ≤ x8)) then (bif (decide (x8 < 4)) then (bif (decide ((Int.toNat x8) < 4)) then (Option.bind (add64 (List.getD y1002 (Int.toNat x8) 0) (List.getD y1003 (Int.toNat x8) 0) x6) (fun r1 => (bif (decide (0 ≤ x8)) then (bif (decide (x8 < 4)) then (bif (decide ((Int.toNat x8) < 4)) then (G r1.2 (addI .i64 x8 1) (List.set y1002 (Int.toNat x8) r1.1)) else none) else none) else none))) else none) else none) else none) else none) else none) else none) else (K x6 x8 y1002))
def go {X : Type} (K : Int → Int → (List Int) → Option X) (k : Nat) (x5 : Bool) (y1003 : (List Int)) (y1004 : (List Int)) : Nat → Int → Int → (List Int) → Option X
  | 0, _, _, _ => none
  | n + 1, x6, x8, y1002 => step K (go K k x5 y1003 y1004 n) k x5 y1003 y1004 x6 x8 y1002
def f (k : Nat) (x5 : Bool) (y1003 : (List Int)) (y1004 : (List Int)) (n : Nat) (x6 : Int) (x8 : Int) (y1002 : (List Int)) : Option (Int × (Int × (List Int))) := go (fun x6 x8 y1002 => some (x6, x8, y1002)) k x5 y1003 y1004 n x6 x8 y1002
theorem step_nat {X Y : Type} (h : X → Option Y) (K : Int → Int → (List Int) → Option X) (G : Int → Int → (List Int) → Option X) (k : Nat) (x5 : Bool) (y1003 : (List Int)) (y1004 : (List Int)) (x6 : Int) (x8 : Int) (y1002 : (List Int)) : Option.bind (step K G k x5 y1003 y1004 x6 x8 y1002) h = step (fun x6 x8 y1002 => Option.bind (K x6 x8 y1002) h) (fun x6 x8 y1002 => Option.bind (G x6 x8 y1002) h) k x5 y1003 y1004 x6 x8 y1002 := by
  simp only [step, bif_bind, sel_bind', Option.bind_assoc, Option.bind_none, Option.bind_some]
theorem go_nat {X Y : Type} (h : X → Option Y) (K : Int → Int → (List Int) → Option X) (k : Nat) (x5 : Bool) (y1003 : (List Int)) (y1004 : (List Int)) (n : Nat) : ∀ (x6 : Int) (x8 : Int) (y1002 : (List Int)), Option.bind (go K k x5 y1003 y1004 n x6 x8 y1002) h = go (fun x6 x8 y1002 => Option.bind (K x6 x8 y1002) h) k x5 y1003 y1004 n x6 x8 y1002 := by
  induction n with
  | zero => intros; rfl
  | succ n ih => intro x6 x8 y1002; show Option.bind (step K (go K k x5 y1003 y1004 n) k x5 y1003 y1004 x6 x8 y1002) h = step (fun x6 x8 y1002 => Option.bind (K x6 x8 y1002) h) (go (fun x6 x8 y1002 => Option.bind (K x6 x8 y1002) h) k x5 y1003 y1004 n) k x5 y1003 y1004 x6 x8 y1002; rw [step_nat h]; simp only [ih]
abbrev S : List (Nat × Sh) := [(2, .ptr 1002), (3, .ptr 1003), (4, .ptr 1004), (5, .data .bool), (6, .data (.int .u64)), (8, .data (.int .i64))]
abbrev H : List (Nat × ESh) := [(1002, .cell (.data (.arr .u64 4))), (1003, .cell (.data (.arr .u64 4))), (1004, .cell (.data (.arr .u64 4)))]
def KX (d : (Unit × Unit × Unit × Bool × Int × Int × Unit)) (e : ((List Int) × (List Int) × (List Int) × Unit)) (v : (Int × (Int × (List Int)))) : St := ⟨mkS S ((), (), (), d.2.2.2.1, v.1, v.2.1, ()), mkH H (v.2.2, e.2.1, e.2.2.1, ())⟩
def sum (k : Nat) : LoopSum := sigLoopX S H 0 (fun (d : (Unit × Unit × Unit × Bool × Int × Int × Unit)) (e : ((List Int) × (List Int) × (List Int) × Unit)) => f k d.2.2.2.1 e.2.1 e.2.2.1 k d.2.2.2.2.1 d.2.2.2.2.2.1 e.1) KX
end l0
def tree {X : Type} (K : (List Int) → Bool → Option X) (k : Nat) (a0 : (List Int)) (a1 : (List Int)) : Option X :=
  (Option.bind (whole_Add.l0.f k false a1 ([0, 0, 0, 0] : (List Int)) k (0 : Int) (0 : Int) a0) (fun r2 => (K r2.2.2 (r2.1 != (0 : Int)))))
def f (k : Nat) (a0 : (List Int)) (a1 : (List Int)) : Option ((List Int) × Bool) := tree (fun b0 b1 => some (b0, b1)) k a0 a1
theorem tree_nat {X Y : Type} (h : X → Option Y) (K : (List Int) → Bool → Option X) (k : Nat) (a0 : (List Int)) (a1 : (List Int)) : Option.bind (tree K k a0 a1) h = tree (fun b0 b1 => Option.bind (K b0 b1) h) k a0 a1 := by
  simp only [tree, bif_bind, sel_bind', Option.bind_assoc, Option.bind_none, Option.bind_some]
abbrev ps : List Sh := [.data (.arr .u64 4), .data (.arr .u64 4)]
abbrev hs : List (Nat × ESh) := []
abbrev hi : List Nat := hs.map (·.1)
def val (t : ((List Int) × Bool)) : AV := .tcons (Sh.mk (.data (.arr .u64 4)) t.1) (.tcons (Sh.mk (.data .bool) t.2) .tnil)
def wr (t : ((List Int) × Bool)) : Heap := []
def callee (k : Nat) : Callee := sigCallee ps hs (fun (d : ((List Int) × (List Int) × Unit)) (e : Unit) => f k d.1 d.2.1) val wr
def E (k : Nat) : Env := ⟨fnTab [(85, [.ext (Int × Int) (run3 add64) pair64])], loopTab [(0, l0.sum k)]⟩
theorem fE (k : Nat) : ∀ f, ∀ c ∈ (E k).fn f, CalleeOK Try.prog f c := fnTab_ok ⟨⟨ext85, trivial⟩, trivial⟩
namespace l0
theorem round (k : Nat) (d : (Unit × Unit × Unit × Bool × Int × Int × Unit)) (e : ((List Int) × (List Int) × (List Int) × Unit)) (G : St → Option (Ex × St)) : roundK Try.prog (E k) 28 0 (subC (bodyOf Try.f51) [1, 1, 0, 1, 0, 0]) (restrict (S.map (·.1)) (H.map (·.1))) (finBy (S.map (·.1)) (H.map (·.1)) [] []) G ⟨mkS S d, mkH H e⟩ =
    step (fun x6 x8 y1002 => some (.exit 0, KX d e (x6, x8, y1002))) (fun x6 x8 y1002 => G ⟨mkS S ((), (), (), d.2.2.2.1, x6, x8, ()), mkH H (y1002, e.2.1, e.2.2.1, ())⟩) k d.2.2.2.1 e.2.1 e.2.2.1 d.2.2.2.2.1 d.2.2.2.2.2.1 e.1 := by kernel_rfl
theorem it (k n : Nat) (d : (Unit × Unit × Unit × Bool × Int × Int × Unit)) (e : ((List Int) × (List Int) × (List Int) × Unit)) : loopIt Try.prog (E k) 28 0 (subC (bodyOf Try.f51) [1, 1, 0, 1, 0, 0]) (restrict (S.map (·.1)) (H.map (·.1))) (finBy (S.map (·.1)) (H.map (·.1)) [] []) n ⟨mkS S d, mkH H e⟩ = go (fun x6 x8 y1002 => some (.exit 0, KX d e (x6, x8, y1002))) k d.2.2.2.1 e.2.1 e.2.2.1 n d.2.2.2.2.1 d.2.2.2.2.2.1 e.1 :=
  loopIt_eq (D := (Unit × Unit × Unit × Bool × Int × Int × Unit) × ((List Int) × (List Int) × (List Int) × Unit)) (fun p => ⟨mkS S p.1, mkH H p.2⟩) (fun F p => step (fun x6 x8 y1002 => some (.exit 0, KX p.1 p.2 (x6, x8, y1002))) (fun x6 x8 y1002 => F (((), (), (), p.1.2.2.2.1, x6, x8, ()), (y1002, p.2.2.1, p.2.2.2.1, ()))) k p.1.2.2.2.1 p.2.2.1 p.2.2.2.1 p.1.2.2.2.2.1 p.1.2.2.2.2.2.1 p.2.1) (fun n p => go (fun x6 x8 y1002 => some (.exit 0, KX p.1 p.2 (x6, x8, y1002))) k p.1.2.2.2.1 p.2.2.1 p.2.2.2.1 n p.1.2.2.2.2.1 p.1.2.2.2.2.2.1 p.2.1) (fun _ => rfl) (fun _ _ => rfl) (fun G p => round k p.1 p.2 G) n (d, e)
theorem ok (k : Nat) : LoopOK Try.prog 28 (subC (bodyOf Try.f51) [1, 1, 0, 1, 0, 0]) (sum k) :=
  loop_sigX hm (fE k) (loopsOK_of [] (by kernel_rfl) trivial) S H 0 (fun (d : (Unit × Unit × Unit × Bool × Int × Int × Unit)) (e : ((List Int) × (List Int) × (List Int) × Unit)) => f k d.2.2.2.1 e.2.1 e.2.2.1 k d.2.2.2.2.1 d.2.2.2.2.2.1 e.1) KX (S.map (·.1)) (H.map (·.1)) [] [] k
    (fun d e => (it k k d e).trans (go_nat (fun v => some (Ex.exit 0, KX d e v)) (fun x6 x8 y1002 => some (x6, x8, y1002)) k d.2.2.2.1 e.2.1 e.2.2.1 k d.2.2.2.2.1 d.2.2.2.2.2.1 e.1).symm)
end l0
theorem run (k : Nat) (d : ((List Int) × (List Int) × Unit)) (e : Unit) : runFn Try.prog (E k) 28 (bodyOf Try.f51) Try.f51.results.toList hi (mkL ps d) (mkH hs e) =
    tree (fun b0 b1 => leafFn hs hi e val wr (b0, b1)) k d.1 d.2.1 := by kernel_rfl
theorem run_f (k : Nat) (d : ((List Int) × (List Int) × Unit)) (e : Unit) : runFn Try.prog (E k) 28 (bodyOf Try.f51) Try.f51.results.toList hi (mkL ps d) (mkH hs e) = (f k d.1 d.2.1).bind (leafFn hs hi e val wr) :=
  (run k d e).trans (tree_nat (leafFn hs hi e val wr) (fun b0 b1 => some (b0, b1)) k d.1 d.2.1).symm
theorem fnIs : FnIs Try.prog 51 Try.f51 (bodyOf Try.f51) 28 := ⟨by kernel_rfl, by kernel_rfl, by kernel_rfl, by kernel_rfl⟩
theorem ok (k : Nat) : CalleeOK Try.prog 51 (callee k) :=
  callee_sig (T := ((List Int) × Bool)) fnIs hm (fE k) (loopsOK_of [(0, subC (bodyOf Try.f51) [1, 1, 0, 1, 0, 0])] (by kernel_rfl) ⟨of_loop (l0.sum k) rfl (l0.ok k), trivial⟩) ps hs (fun (d : ((List Int) × (List Int) × Unit)) (e : Unit) => f k d.1 d.2.1) val wr rfl (fun _ => rfl) (run_f k)
end whole_Add
namespace math_bits_Len64
def tree {X : Type} (K : Int → Option X) (k : Nat) (a0 : Int) : Option X :=
  (bif (decide (a0 ≥ (4294967296 : Int))) then (bif (decide ((shrI .u64 a0 32) ≥ (65536 : Int))) then (bif (decide ((shrI .u64 (shrI .u64 a0 32) 16) ≥ (256 : Int))) then (bif (decide (0 ≤ (IntKind.wrap .u8 (shrI .u64 (shrI .u64 (shrI .u64 a0 32) 16) 8)))) then (bif (decide ((IntKind.wrap .u8 (shrI .u64 (shrI .u64 (shrI .u64 a0 32) 16) 8)) < (ByteArray.size bytes0 : Int))) then (K (addI .i64 56 (IntKind.wrap .i64 (strAt bytes0 (Int.toNat (IntKind.wrap .u8 (shrI .u64 (shrI .u64 (shrI .u64 a0 32) 16) 8))))))) else none) else none) else (bif (decide (0 ≤ (IntKind.wrap .u8 (shrI .u64 (shrI .u64 a0 32) 16)))) then (bif (decide ((IntKind.wrap .u8 (shrI .u64 (shrI .u64 a0 32) 16)) < (ByteArray.size bytes0 : Int))) then (K (addI .i64 48 (IntKind.wrap .i64 (strAt bytes0 (Int.toNat (IntKind.wrap .u8 (shrI .u64 (shrI .u64 a0 32) 16))))))) else none) else none)) else (bif (decide ((shrI .u64 a0 32) ≥ (256 : Int))) then (bif (decide (0 ≤ (IntKind.wrap .u8 (shrI .u64 (shrI .u64 a0 32) 8)))) then (bif (decide ((IntKind.wrap .u8 (shrI .u64 (shrI .u64 a0 32) 8)) < (ByteArray.size bytes0 : Int))) then (K (addI .i64 40 (IntKind.wrap .i64 (strAt bytes0 (Int.toNat (IntKind.wrap .u8 (shrI .u64 (shrI .u64 a0 32) 8))))))) else none) else none) else (bif (decide (0 ≤ (IntKind.wrap .u8 (shrI .u64 a0 32)))) then (bif (decide ((IntKind.wrap .u8 (shrI .u64 a0 32)) < (ByteArray.size bytes0 : Int))) then (K (addI .i64 32 (IntKind.wrap .i64 (strAt bytes0 (Int.toNat (IntKind.wrap .u8 (shrI .u64 a0 32))))))) else none) else none))) else (bif (decide (a0 ≥ (65536 : Int))) then (bif (decide ((shrI .u64 a0 16) ≥ (256 : Int))) then (bif (decide (0 ≤ (IntKind.wrap .u8 (shrI .u64 (shrI .u64 a0 16) 8)))) then (bif (decide ((IntKind.wrap .u8 (shrI .u64 (shrI .u64 a0 16) 8)) < (ByteArray.size bytes0 : Int))) then (K (addI .i64 24 (IntKind.wrap .i64 (strAt bytes0 (Int.toNat (IntKind.wrap .u8 (shrI .u64 (shrI .u64 a0 16) 8))))))) else none) else none) else (bif (decide (0 ≤ (IntKind.wrap .u8 (shrI .u64 a0 16)))) then (bif (decide ((IntKind.wrap .u8 (shrI .u64 a0 16)) < (ByteArray.size bytes0 : Int))) then (K (addI .i64 16 (IntKind.wrap .i64 (strAt bytes0 (Int.toNat (IntKind.wrap .u8 (shrI .u64 a0 16))))))) else none) else none)) else (bif (decide (a0 ≥ (256 : Int))) then (bif (decide (0 ≤ (IntKind.wrap .u8 (shrI .u64 a0 8)))) then (bif (decide ((IntKind.wrap .u8 (shrI .u64 a0 8)) < (ByteArray.size bytes0 : Int))) then (K (addI .i64 8 (IntKind.wrap .i64 (strAt bytes0 (Int.toNat (IntKind.wrap .u8 (shrI .u64 a0 8))))))) else none) else none) else (bif (decide (0 ≤ (IntKind.wrap .u8 a0))) then (bif (decide ((IntKind.wrap .u8 a0) < (ByteArray.size bytes0 : Int))) then (K (addI .i64 0 (IntKind.wrap .i64 (strAt bytes0 (Int.toNat (IntKind.wrap .u8 a0)))))) else none) else none))))
def f (k : Nat) (a0 : Int) : Option Int := tree (fun b0 => some b0) k a0
theorem tree_nat {X Y : Type} (h : X → Option Y) (K : Int → Option X) (k : Nat) (a0 : Int) : Option.bind (tree K k a0) h = tree (fun b0 => Option.bind (K b0) h) k a0 := by
  simp only [tree, bif_bind, sel_bind', Option.bind_assoc, Option.bind_none, Option.bind_some]
abbrev ps : List Sh := [.data (.int .u64)]
abbrev hs : List (Nat × ESh) := []
abbrev hi : List Nat := hs.map (·.1)
def val (t : Int) : AV := Sh.mk (.data (.int .i64)) t
def wr (t : Int) : Heap := []
def callee (k : Nat) : Callee := sigCallee ps hs (fun (d : (Int × Unit)) (e : Unit) => f k d.1) val wr
def E (k : Nat) : Env := ⟨fnTab [], loopTab []⟩
theorem fE (k : Nat) : ∀ f, ∀ c ∈ (E k).fn f, CalleeOK Try.prog f c := fnTab_ok trivial
theorem run (k : Nat) (d : (Int × Unit)) (e : Unit) : runFn Try.prog (E k) 25 (bodyOf Try.f84) Try.f84.results.toList hi (mkL ps d) (mkH hs e) =
    tree (fun b0 => leafFn hs hi e val wr b0) k d.1 := by kernel_rfl
theorem run_f (k : Nat) (d : (Int × Unit)) (e : Unit) : runFn Try.prog (E k) 25 (bodyOf Try.f84) Try.f84.results.toList hi (mkL ps d) (mkH hs e) = (f k d.1).bind (leafFn hs hi e val wr) :=
  (run k d e).trans (tree_nat (leafFn hs hi e val wr) (fun b0 => some b0) k d.1).symm
theorem fnIs : FnIs Try.prog 84 Try.f84 (bodyOf Try.f84) 25 := ⟨by kernel_rfl, by kernel_rfl, by kernel_rfl, by kernel_rfl⟩
theorem ok (k : Nat) : CalleeOK Try.prog 84 (callee k) :=
  callee_sig (T := Int) fnIs hm (fE k) (loopsOK_of [] (by kernel_rfl) trivial) ps hs (fun (d : (Int × Unit)) (e : Unit) => f k d.1) val wr rfl (fun _ => rfl) (run_f k)
end math_bits_Len64
namespace whole_Len
namespace l0
def step {X : Type} (K : Int → Option X) (Q : Int → Option X) (G : Int → Option X) (k : Nat) (x2 : Int) (y1001 : (List Int)) (x3 : Int) : Option X :=
  (bif (decide (x3 ≥ (0 : Int))) then (bif (decide (0 ≤ x3)) then (bif (decide (x3 < 4)) then (bif (decide ((Int.toNat x3) < 4)) then (bif ((List.getD y1001 (Int.toNat x3) 0) != (0 : Int)) then (bif (decide (0 ≤ x3)) then (bif (decide (x3 < 4)) then (bif (decide ((Int.toNat x3) < 4)) then (Option.bind (math_bits_Len64.f k (List.getD y1001 (Int.toNat x3) 0)) (fun r1 => (Q (addI .i64 (mulI .i64 64 x3) r1)))) else none) else none) else none) else (G (subI .i64 x3 1))) else none) else none) else none) else (K x3))
def go {X : Type} (K : Int → Option X) (Q : Int → Option X) (k : Nat) (x2 : Int) (y1001 : (List Int)) : Nat → Int → Option X
  | 0, _ => none
  | n + 1, x3 => step K Q (go K Q k x2 y1001 n) k x2 y1001 x3
def f (k : Nat) (x2 : Int) (y1001 : (List Int)) (n : Nat) (x3 : Int) : Option (Int ⊕ Int) := go (fun x3 => some (.inl x3)) (fun q0 => some (.inr q0)) k x2 y1001 n x3
theorem step_nat {X Y : Type} (h : X → Option Y) (K : Int → Option X) (Q : Int → Option X) (G : Int → Option X) (k : Nat) (x2 : Int) (y1001 : (List Int)) (x3 : Int) : Option.bind (step K Q G k x2 y1001 x3) h = step (fun x3 => Option.bind (K x3) h) (fun q0 => Option.bind (Q q0) h) (fun x3 => Option.bind (G x3) h) k x2 y1001 x3 := by
  simp only [step, bif_bind, sel_bind', Option.bind_assoc, Option.bind_none, Option.bind_some]
theorem go_nat {X Y : Type} (h : X → Option Y) (K : Int → Option X) (Q : Int → Option X) (k : Nat) (x2 : Int) (y1001 : (List Int)) (n : Nat) : ∀ (x3 : Int), Option.bind (go K Q k x2 y1001 n x3) h = go (fun x3 => Option.bind (K x3) h) (fun q0 => Option.bind (Q q0) h) k x2 y1001 n x3 := by
  induction n with
  | zero => intros; rfl
  | succ n ih => intro x3; show Option.bind (step K Q (go K Q k x2 y1001 n) k x2 y1001 x3) h = step (fun x3 => Option.bind (K x3) h) (fun q0 => Option.bind (Q q0) h) (go (fun x3 => Option.bind (K x3) h) (fun q0 => Option.bind (Q q0) h) k x2 y1001 n) k x2 y1001 x3; rw [step_nat h]; simp only [ih]
abbrev S : List (Nat × Sh) := [(1, .ptr 1001), (2, .data (.int .i64)), (3, .data (.int .i64))]
abbrev H : List (Nat × ESh) := [(1001, .cell (.data (.arr .u64 4)))]
def KX (d : (Unit × Int × Int × Unit)) (e : ((List Int) × Unit)) (v : Int) : St := ⟨mkS S ((), d.2.1, v, ()), mkH H (e.1, ())⟩
abbrev RS : List (Nat × Sh) := [(2, .data (.int .i64))]
abbrev RH : List (Nat × ESh) := []
def RX (d : (Unit × Int × Int × Unit)) (e : ((List Int) × Unit)) (v : Int) : St := ⟨mkS RS (v, ()), mkH RH (())⟩
def sum (k : Nat) : LoopSum := sigLoop S H 0 (fun (d : (Unit × Int × Int × Unit)) (e : ((List Int) × Unit)) => f k d.2.1 e.1 k d.2.2.1) KX RX
end l0
def tree {X : Type} (K : Int → Option X) (k : Nat) (a0 : (List Int)) : Option X :=
  (Option.bind (whole_Len.l0.f k (0 : Int) a0 k (3 : Int)) (fun r2 => sel r2 (fun v3 => (K (0 : Int))) (fun q4 => (K q4))))
def f (k : Nat) (a0 : (List Int)) : Option Int := tree (fun b0 => some b0) k a0
theorem tree_nat {X Y : Type} (h : X → Option Y) (K : Int → Option X) (k : Nat) (a0 : (List Int)) : Option.bind (tree K k a0) h = tree (fun b0 => Option.bind (K b0) h) k a0 := by
  simp only [tree, bif_bind, sel_bind', Option.bind_assoc, Option.bind_none, Option.bind_some]
abbrev ps : List Sh := [.data (.arr .u64 4)]
abbrev hs : List (Nat × ESh) := []
abbrev hi : List Nat := hs.map (·.1)
def val (t : Int) : AV := Sh.mk (.data (.int .i64)) t
def wr (t : Int) : Heap := []
def callee (k : Nat) : Callee := sigCallee ps hs (fun (d : ((List Int) × Unit)) (e : Unit) => f k d.1) val wr
def E (k : Nat) : Env := ⟨fnTab [(84, [math_bits_Len64.callee k])], loopTab [(0, l0.sum k)]⟩
theorem fE (k : Nat) : ∀ f, ∀ c ∈ (E k).fn f, CalleeOK Try.prog f c := fnTab_ok ⟨⟨math_bits_Len64.ok k, trivial⟩, trivial⟩
namespace l0
theorem round (k : Nat) (d : (Unit × Int × Int × Unit)) (e : ((List Int) × Unit)) (G : St → Option (Ex × St)) : roundK Try.prog (E k) 19 0 (subC (bodyOf Try.f43) [1, 0, 1, 0, 0]) (restrict (S.map (·.1)) (H.map (·.1))) (finBy (S.map (·.1)) (H.map (·.1)) (RS.map (·.1)) (RH.map (·.1))) G ⟨mkS S d, mkH H e⟩ =
    step (fun x3 => some (.exit 0, KX d e x3)) (fun q0 => some (.ret, RX d e q0)) (fun x3 => G ⟨mkS S ((), d.2.1, x3, ()), mkH H (e.1, ())⟩) k d.2.1 e.1 d.2.2.1 := by kernel_rfl
theorem it (k n : Nat) (d : (Unit × Int × Int × Unit)) (e : ((List Int) × Unit)) : loopIt Try.prog (E k) 19 0 (subC (bodyOf Try.f43) [1, 0, 1, 0, 0]) (restrict (S.map (·.1)) (H.map (·.1))) (finBy (S.map (·.1)) (H.map (·.1)) (RS.map (·.1)) (RH.map (·.1))) n ⟨mkS S d, mkH H e⟩ = go (fun x3 => some (.exit 0, KX d e x3)) (fun q0 => some (.ret, RX d e q0)) k d.2.1 e.1 n d.2.2.1 :=
  loopIt_eq (D := (Unit × Int × Int × Unit) × ((List Int) × Unit)) (fun p => ⟨mkS S p.1, mkH H p.2⟩) (fun F p => step (fun x3 => some (.exit 0, KX p.1 p.2 x3)) (fun q0 => some (.ret, RX p.1 p.2 q0)) (fun x3 => F (((), p.1.2.1, x3, ()), (p.2.1, ()))) k p.1.2.1 p.2.1 p.1.2.2.1) (fun n p => go (fun x3 => some (.exit 0, KX p.1 p.2 x3)) (fun q0 => some (.ret, RX p.1 p.2 q0)) k p.1.2.1 p.2.1 n p.1.2.2.1) (fun _ => rfl) (fun _ _ => rfl) (fun G p => round k p.1 p.2 G) n (d, e)
theorem ok (k : Nat) : LoopOK Try.prog 19 (subC (bodyOf Try.f43) [1, 0, 1, 0, 0]) (sum k) :=
  loop_sig hm (fE k) (loopsOK_of [] (by kernel_rfl) trivial) S H 0 (fun (d : (Unit × Int × Int × Unit)) (e : ((List Int) × Unit)) => f k d.2.1 e.1 k d.2.2.1) KX RX (S.map (·.1)) (H.map (·.1)) (RS.map (·.1)) (RH.map (·.1)) k
    (fun d e => (it k k d e).trans (go_nat (exitOf 0 (KX d e) (RX d e)) (fun x3 => some (.inl x3)) (fun q0 => some (.inr q0)) k d.2.1 e.1 k d.2.2.1).symm)
end l0
theorem run (k : Nat) (d : ((List Int) × Unit)) (e : Unit) : runFn Try.prog (E k) 19 (bodyOf Try.f43) Try.f43.results.toList hi (mkL ps d) (mkH hs e) =
    tree (fun b0 => leafFn hs hi e val wr b0) k d.1 := by kernel_rfl
theorem run_f (k : Nat) (d : ((List Int) × Unit)) (e : Unit) : runFn Try.prog (E k) 19 (bodyOf Try.f43) Try.f43.results.toList hi (mkL ps d) (mkH hs e) = (f k d.1).bind (leafFn hs hi e val wr) :=
  (run k d e).trans (tree_nat (leafFn hs hi e val wr) (fun b0 => some b0) k d.1).symm
theorem fnIs : FnIs Try.prog 43 Try.f43 (bodyOf Try.f43) 19 := ⟨by kernel_rfl, by kernel_rfl, by kernel_rfl, by kernel_rfl⟩
theorem ok (k : Nat) : CalleeOK Try.prog 43 (callee k) :=
  callee_sig (T := Int) fnIs hm (fE k) (loopsOK_of [(0, subC (bodyOf Try.f43) [1, 0, 1, 0, 0])] (by kernel_rfl) ⟨of_loop (l0.sum k) rfl (l0.ok k), trivial⟩) ps hs (fun (d : ((List Int) × Unit)) (e : Unit) => f k d.1) val wr rfl (fun _ => rfl) (run_f k)
end whole_Len
namespace trailheadlaw02_alive
def tree {X : Type} (K : Bool → Option X) (k : Nat) : Option X :=
  (Option.bind (whole_Most.f k) (fun r1 => (Option.bind (whole_Of.f k (1 : Int)) (fun r2 => (Option.bind (whole_Add.f k r1 r2) (fun r3 => (bif (decide (r3.1 = ([0, 0, 0, 0] : (List Int)))) then (bif r3.2 then (Option.bind (whole_Most.f k) (fun r4 => (Option.bind (whole_Len.f k r4) (fun r5 => (K (r5 == (256 : Int))))))) else (K false)) else (K false))))))))
def f (k : Nat) : Option Bool := tree (fun b0 => some b0) k
theorem tree_nat {X Y : Type} (h : X → Option Y) (K : Bool → Option X) (k : Nat) : Option.bind (tree K k) h = tree (fun b0 => Option.bind (K b0) h) k := by
  simp only [tree, bif_bind, sel_bind', Option.bind_assoc, Option.bind_none, Option.bind_some]
abbrev ps : List Sh := []
abbrev hs : List (Nat × ESh) := []
abbrev hi : List Nat := hs.map (·.1)
def val (t : Bool) : AV := Sh.mk (.data .bool) t
def wr (t : Bool) : Heap := []
def callee (k : Nat) : Callee := sigCallee ps hs (fun (d : Unit) (e : Unit) => f k) val wr
def E (k : Nat) : Env := ⟨fnTab [(83, [whole_Most.callee k]), (44, [whole_Of.callee k]), (51, [whole_Add.callee k]), (43, [whole_Len.callee k])], loopTab []⟩
theorem fE (k : Nat) : ∀ f, ∀ c ∈ (E k).fn f, CalleeOK Try.prog f c := fnTab_ok ⟨⟨whole_Most.ok k, trivial⟩, ⟨whole_Of.ok k, trivial⟩, ⟨whole_Add.ok k, trivial⟩, ⟨whole_Len.ok k, trivial⟩, trivial⟩
theorem run (k : Nat) (d : Unit) (e : Unit) : runFn Try.prog (E k) 20 (bodyOf Try.f38) Try.f38.results.toList hi (mkL ps d) (mkH hs e) =
    tree (fun b0 => leafFn hs hi e val wr b0) k := by kernel_rfl
theorem run_f (k : Nat) (d : Unit) (e : Unit) : runFn Try.prog (E k) 20 (bodyOf Try.f38) Try.f38.results.toList hi (mkL ps d) (mkH hs e) = (f k).bind (leafFn hs hi e val wr) :=
  (run k d e).trans (tree_nat (leafFn hs hi e val wr) (fun b0 => some b0) k).symm
theorem fnIs : FnIs Try.prog 38 Try.f38 (bodyOf Try.f38) 20 := ⟨by kernel_rfl, by kernel_rfl, by kernel_rfl, by kernel_rfl⟩
theorem ok (k : Nat) : CalleeOK Try.prog 38 (callee k) :=
  callee_sig (T := Bool) fnIs hm (fE k) (loopsOK_of [] (by kernel_rfl) trivial) ps hs (fun (d : Unit) (e : Unit) => f k) val wr rfl (fun _ => rfl) (run_f k)
end trailheadlaw02_alive
namespace trailheadref02_Bit
def tree {X : Type} (K : Int → Option X) (k : Nat) (a0 : (List Int)) (a1 : Int) : Option X :=
  (bif (decide (a1 < (0 : Int))) then (K (0 : Int)) else (bif (decide (a1 > (255 : Int))) then (K (0 : Int)) else (bif (decide (0 ≤ (quoI .i64 a1 64))) then (bif (decide ((quoI .i64 a1 64) < 4)) then (bif (decide ((Int.toNat (quoI .i64 a1 64)) < 4)) then (bif (decide ((IntKind.wrap .u64 (remI a1 64)) < 0)) then none else (K (IntKind.wrap .i64 (remI (shrI .u64 (List.getD a0 (Int.toNat (quoI .i64 a1 64)) 0) (IntKind.wrap .u64 (remI a1 64))) 2)))) else none) else none) else none)))
def f (k : Nat) (a0 : (List Int)) (a1 : Int) : Option Int := tree (fun b0 => some b0) k a0 a1
theorem tree_nat {X Y : Type} (h : X → Option Y) (K : Int → Option X) (k : Nat) (a0 : (List Int)) (a1 : Int) : Option.bind (tree K k a0 a1) h = tree (fun b0 => Option.bind (K b0) h) k a0 a1 := by
  simp only [tree, bif_bind, sel_bind', Option.bind_assoc, Option.bind_none, Option.bind_some]
abbrev ps : List Sh := [.data (.arr .u64 4), .data (.int .i64)]
abbrev hs : List (Nat × ESh) := []
abbrev hi : List Nat := hs.map (·.1)
def val (t : Int) : AV := Sh.mk (.data (.int .i64)) t
def wr (t : Int) : Heap := []
def callee (k : Nat) : Callee := sigCallee ps hs (fun (d : ((List Int) × Int × Unit)) (e : Unit) => f k d.1 d.2.1) val wr
def E (k : Nat) : Env := ⟨fnTab [], loopTab []⟩
theorem fE (k : Nat) : ∀ f, ∀ c ∈ (E k).fn f, CalleeOK Try.prog f c := fnTab_ok trivial
theorem run (k : Nat) (d : ((List Int) × Int × Unit)) (e : Unit) : runFn Try.prog (E k) 21 (bodyOf Try.f40) Try.f40.results.toList hi (mkL ps d) (mkH hs e) =
    tree (fun b0 => leafFn hs hi e val wr b0) k d.1 d.2.1 := by kernel_rfl
theorem run_f (k : Nat) (d : ((List Int) × Int × Unit)) (e : Unit) : runFn Try.prog (E k) 21 (bodyOf Try.f40) Try.f40.results.toList hi (mkL ps d) (mkH hs e) = (f k d.1 d.2.1).bind (leafFn hs hi e val wr) :=
  (run k d e).trans (tree_nat (leafFn hs hi e val wr) (fun b0 => some b0) k d.1 d.2.1).symm
theorem fnIs : FnIs Try.prog 40 Try.f40 (bodyOf Try.f40) 21 := ⟨by kernel_rfl, by kernel_rfl, by kernel_rfl, by kernel_rfl⟩
theorem ok (k : Nat) : CalleeOK Try.prog 40 (callee k) :=
  callee_sig (T := Int) fnIs hm (fE k) (loopsOK_of [] (by kernel_rfl) trivial) ps hs (fun (d : ((List Int) × Int × Unit)) (e : Unit) => f k d.1 d.2.1) val wr rfl (fun _ => rfl) (run_f k)
end trailheadref02_Bit
namespace trailheadref02_Less
namespace l0
def step {X : Type} (K : Int → Option X) (Q : Bool → Option X) (G : Int → Option X) (k : Nat) (x4 : Bool) (y1002 : (List Int)) (y1003 : (List Int)) (x5 : Int) : Option X :=
  (bif (decide (x5 ≥ (0 : Int))) then (Option.bind (trailheadref02_Bit.f k y1002 x5) (fun r1 => (Option.bind (trailheadref02_Bit.f k y1003 x5) (fun r2 => (bif (r1 != r2) then (Option.bind (trailheadref02_Bit.f k y1002 x5) (fun r3 => (Option.bind (trailheadref02_Bit.f k y1003 x5) (fun r4 => (Q (decide (r3 < r4))))))) else (G (subI .i64 x5 1))))))) else (K x5))
def go {X : Type} (K : Int → Option X) (Q : Bool → Option X) (k : Nat) (x4 : Bool) (y1002 : (List Int)) (y1003 : (List Int)) : Nat → Int → Option X
  | 0, _ => none
  | n + 1, x5 => step K Q (go K Q k x4 y1002 y1003 n) k x4 y1002 y1003 x5
def f (k : Nat) (x4 : Bool) (y1002 : (List Int)) (y1003 : (List Int)) (n : Nat) (x5 : Int) : Option (Int ⊕ Bool) := go (fun x5 => some (.inl x5)) (fun q0 => some (.inr q0)) k x4 y1002 y1003 n x5
theorem step_nat {X Y : Type} (h : X → Option Y) (K : Int → Option X) (Q : Bool → Option X) (G : Int → Option X) (k : Nat) (x4 : Bool) (y1002 : (List Int)) (y1003 : (List Int)) (x5 : Int) : Option.bind (step K Q G k x4 y1002 y1003 x5) h = step (fun x5 => Option.bind (K x5) h) (fun q0 => Option.bind (Q q0) h) (fun x5 => Option.bind (G x5) h) k x4 y1002 y1003 x5 := by
  simp only [step, bif_bind, sel_bind', Option.bind_assoc, Option.bind_none, Option.bind_some]
theorem go_nat {X Y : Type} (h : X → Option Y) (K : Int → Option X) (Q : Bool → Option X) (k : Nat) (x4 : Bool) (y1002 : (List Int)) (y1003 : (List Int)) (n : Nat) : ∀ (x5 : Int), Option.bind (go K Q k x4 y1002 y1003 n x5) h = go (fun x5 => Option.bind (K x5) h) (fun q0 => Option.bind (Q q0) h) k x4 y1002 y1003 n x5 := by
  induction n with
  | zero => intros; rfl
  | succ n ih => intro x5; show Option.bind (step K Q (go K Q k x4 y1002 y1003 n) k x4 y1002 y1003 x5) h = step (fun x5 => Option.bind (K x5) h) (fun q0 => Option.bind (Q q0) h) (go (fun x5 => Option.bind (K x5) h) (fun q0 => Option.bind (Q q0) h) k x4 y1002 y1003 n) k x4 y1002 y1003 x5; rw [step_nat h]; simp only [ih]
abbrev S : List (Nat × Sh) := [(2, .ptr 1002), (3, .ptr 1003), (4, .data .bool), (5, .data (.int .i64))]
abbrev H : List (Nat × ESh) := [(1002, .cell (.data (.arr .u64 4))), (1003, .cell (.data (.arr .u64 4)))]
def KX (d : (Unit × Unit × Bool × Int × Unit)) (e : ((List Int) × (List Int) × Unit)) (v : Int) : St := ⟨mkS S ((), (), d.2.2.1, v, ()), mkH H (e.1, e.2.1, ())⟩
abbrev RS : List (Nat × Sh) := [(4, .data .bool)]
abbrev RH : List (Nat × ESh) := []
def RX (d : (Unit × Unit × Bool × Int × Unit)) (e : ((List Int) × (List Int) × Unit)) (v : Bool) : St := ⟨mkS RS (v, ()), mkH RH (())⟩
def sum (k : Nat) : LoopSum := sigLoop S H 0 (fun (d : (Unit × Unit × Bool × Int × Unit)) (e : ((List Int) × (List Int) × Unit)) => f k d.2.2.1 e.1 e.2.1 k d.2.2.2.1) KX RX
end l0
def tree {X : Type} (K : Bool → Option X) (k : Nat) (a0 : (List Int)) (a1 : (List Int)) : Option X :=
  (Option.bind (trailheadref02_Less.l0.f k false a0 a1 k (255 : Int)) (fun r5 => sel r5 (fun v6 => (K false)) (fun q7 => (K q7))))
def f (k : Nat) (a0 : (List Int)) (a1 : (List Int)) : Option Bool := tree (fun b0 => some b0) k a0 a1
theorem tree_nat {X Y : Type} (h : X → Option Y) (K : Bool → Option X) (k : Nat) (a0 : (List Int)) (a1 : (List Int)) : Option.bind (tree K k a0 a1) h = tree (fun b0 => Option.bind (K b0) h) k a0 a1 := by
  simp only [tree, bif_bind, sel_bind', Option.bind_assoc, Option.bind_none, Option.bind_some]
abbrev ps : List Sh := [.data (.arr .u64 4), .data (.arr .u64 4)]
abbrev hs : List (Nat × ESh) := []
abbrev hi : List Nat := hs.map (·.1)
def val (t : Bool) : AV := Sh.mk (.data .bool) t
def wr (t : Bool) : Heap := []
def callee (k : Nat) : Callee := sigCallee ps hs (fun (d : ((List Int) × (List Int) × Unit)) (e : Unit) => f k d.1 d.2.1) val wr
def E (k : Nat) : Env := ⟨fnTab [(40, [trailheadref02_Bit.callee k])], loopTab [(0, l0.sum k)]⟩
theorem fE (k : Nat) : ∀ f, ∀ c ∈ (E k).fn f, CalleeOK Try.prog f c := fnTab_ok ⟨⟨trailheadref02_Bit.ok k, trivial⟩, trivial⟩
namespace l0
theorem round (k : Nat) (d : (Unit × Unit × Bool × Int × Unit)) (e : ((List Int) × (List Int) × Unit)) (G : St → Option (Ex × St)) : roundK Try.prog (E k) 24 0 (subC (bodyOf Try.f29) [1, 0, 1, 0, 0]) (restrict (S.map (·.1)) (H.map (·.1))) (finBy (S.map (·.1)) (H.map (·.1)) (RS.map (·.1)) (RH.map (·.1))) G ⟨mkS S d, mkH H e⟩ =
    step (fun x5 => some (.exit 0, KX d e x5)) (fun q0 => some (.ret, RX d e q0)) (fun x5 => G ⟨mkS S ((), (), d.2.2.1, x5, ()), mkH H (e.1, e.2.1, ())⟩) k d.2.2.1 e.1 e.2.1 d.2.2.2.1 := by kernel_rfl
theorem it (k n : Nat) (d : (Unit × Unit × Bool × Int × Unit)) (e : ((List Int) × (List Int) × Unit)) : loopIt Try.prog (E k) 24 0 (subC (bodyOf Try.f29) [1, 0, 1, 0, 0]) (restrict (S.map (·.1)) (H.map (·.1))) (finBy (S.map (·.1)) (H.map (·.1)) (RS.map (·.1)) (RH.map (·.1))) n ⟨mkS S d, mkH H e⟩ = go (fun x5 => some (.exit 0, KX d e x5)) (fun q0 => some (.ret, RX d e q0)) k d.2.2.1 e.1 e.2.1 n d.2.2.2.1 :=
  loopIt_eq (D := (Unit × Unit × Bool × Int × Unit) × ((List Int) × (List Int) × Unit)) (fun p => ⟨mkS S p.1, mkH H p.2⟩) (fun F p => step (fun x5 => some (.exit 0, KX p.1 p.2 x5)) (fun q0 => some (.ret, RX p.1 p.2 q0)) (fun x5 => F (((), (), p.1.2.2.1, x5, ()), (p.2.1, p.2.2.1, ()))) k p.1.2.2.1 p.2.1 p.2.2.1 p.1.2.2.2.1) (fun n p => go (fun x5 => some (.exit 0, KX p.1 p.2 x5)) (fun q0 => some (.ret, RX p.1 p.2 q0)) k p.1.2.2.1 p.2.1 p.2.2.1 n p.1.2.2.2.1) (fun _ => rfl) (fun _ _ => rfl) (fun G p => round k p.1 p.2 G) n (d, e)
theorem ok (k : Nat) : LoopOK Try.prog 24 (subC (bodyOf Try.f29) [1, 0, 1, 0, 0]) (sum k) :=
  loop_sig hm (fE k) (loopsOK_of [] (by kernel_rfl) trivial) S H 0 (fun (d : (Unit × Unit × Bool × Int × Unit)) (e : ((List Int) × (List Int) × Unit)) => f k d.2.2.1 e.1 e.2.1 k d.2.2.2.1) KX RX (S.map (·.1)) (H.map (·.1)) (RS.map (·.1)) (RH.map (·.1)) k
    (fun d e => (it k k d e).trans (go_nat (exitOf 0 (KX d e) (RX d e)) (fun x5 => some (.inl x5)) (fun q0 => some (.inr q0)) k d.2.2.1 e.1 e.2.1 k d.2.2.2.1).symm)
end l0
theorem run (k : Nat) (d : ((List Int) × (List Int) × Unit)) (e : Unit) : runFn Try.prog (E k) 24 (bodyOf Try.f29) Try.f29.results.toList hi (mkL ps d) (mkH hs e) =
    tree (fun b0 => leafFn hs hi e val wr b0) k d.1 d.2.1 := by kernel_rfl
theorem run_f (k : Nat) (d : ((List Int) × (List Int) × Unit)) (e : Unit) : runFn Try.prog (E k) 24 (bodyOf Try.f29) Try.f29.results.toList hi (mkL ps d) (mkH hs e) = (f k d.1 d.2.1).bind (leafFn hs hi e val wr) :=
  (run k d e).trans (tree_nat (leafFn hs hi e val wr) (fun b0 => some b0) k d.1 d.2.1).symm
theorem fnIs : FnIs Try.prog 29 Try.f29 (bodyOf Try.f29) 24 := ⟨by kernel_rfl, by kernel_rfl, by kernel_rfl, by kernel_rfl⟩
theorem ok (k : Nat) : CalleeOK Try.prog 29 (callee k) :=
  callee_sig (T := Bool) fnIs hm (fE k) (loopsOK_of [(0, subC (bodyOf Try.f29) [1, 0, 1, 0, 0])] (by kernel_rfl) ⟨of_loop (l0.sum k) rfl (l0.ok k), trivial⟩) ps hs (fun (d : ((List Int) × (List Int) × Unit)) (e : Unit) => f k d.1 d.2.1) val wr rfl (fun _ => rfl) (run_f k)
end trailheadref02_Less
namespace whole_Compare
namespace l0
def step {X : Type} (K : Int → Option X) (Q : Int → Option X) (G : Int → Option X) (k : Nat) (x4 : Int) (y1002 : (List Int)) (y1003 : (List Int)) (x5 : Int) : Option X :=
  (bif (decide (x5 ≥ (0 : Int))) then (bif (decide (0 ≤ x5)) then (bif (decide (x5 < 4)) then (bif (decide ((Int.toNat x5) < 4)) then (bif (decide (0 ≤ x5)) then (bif (decide (x5 < 4)) then (bif (decide ((Int.toNat x5) < 4)) then (bif (decide ((List.getD y1002 (Int.toNat x5) 0) < (List.getD y1003 (Int.toNat x5) 0))) then (Q ((-1) : Int)) else (bif (decide (0 ≤ x5)) then (bif (decide (x5 < 4)) then (bif (decide ((Int.toNat x5) < 4)) then (bif (decide (0 ≤ x5)) then (bif (decide (x5 < 4)) then (bif (decide ((Int.toNat x5) < 4)) then (bif (decide ((List.getD y1002 (Int.toNat x5) 0) > (List.getD y1003 (Int.toNat x5) 0))) then (Q (1 : Int)) else (G (subI .i64 x5 1))) else none) else none) else none) else none) else none) else none)) else none) else none) else none) else none) else none) else none) else (K x5))
def go {X : Type} (K : Int → Option X) (Q : Int → Option X) (k : Nat) (x4 : Int) (y1002 : (List Int)) (y1003 : (List Int)) : Nat → Int → Option X
  | 0, _ => none
  | n + 1, x5 => step K Q (go K Q k x4 y1002 y1003 n) k x4 y1002 y1003 x5
def f (k : Nat) (x4 : Int) (y1002 : (List Int)) (y1003 : (List Int)) (n : Nat) (x5 : Int) : Option (Int ⊕ Int) := go (fun x5 => some (.inl x5)) (fun q0 => some (.inr q0)) k x4 y1002 y1003 n x5
theorem step_nat {X Y : Type} (h : X → Option Y) (K : Int → Option X) (Q : Int → Option X) (G : Int → Option X) (k : Nat) (x4 : Int) (y1002 : (List Int)) (y1003 : (List Int)) (x5 : Int) : Option.bind (step K Q G k x4 y1002 y1003 x5) h = step (fun x5 => Option.bind (K x5) h) (fun q0 => Option.bind (Q q0) h) (fun x5 => Option.bind (G x5) h) k x4 y1002 y1003 x5 := by
  simp only [step, bif_bind, sel_bind', Option.bind_assoc, Option.bind_none, Option.bind_some]
theorem go_nat {X Y : Type} (h : X → Option Y) (K : Int → Option X) (Q : Int → Option X) (k : Nat) (x4 : Int) (y1002 : (List Int)) (y1003 : (List Int)) (n : Nat) : ∀ (x5 : Int), Option.bind (go K Q k x4 y1002 y1003 n x5) h = go (fun x5 => Option.bind (K x5) h) (fun q0 => Option.bind (Q q0) h) k x4 y1002 y1003 n x5 := by
  induction n with
  | zero => intros; rfl
  | succ n ih => intro x5; show Option.bind (step K Q (go K Q k x4 y1002 y1003 n) k x4 y1002 y1003 x5) h = step (fun x5 => Option.bind (K x5) h) (fun q0 => Option.bind (Q q0) h) (go (fun x5 => Option.bind (K x5) h) (fun q0 => Option.bind (Q q0) h) k x4 y1002 y1003 n) k x4 y1002 y1003 x5; rw [step_nat h]; simp only [ih]
abbrev S : List (Nat × Sh) := [(2, .ptr 1002), (3, .ptr 1003), (4, .data (.int .i64)), (5, .data (.int .i64))]
abbrev H : List (Nat × ESh) := [(1002, .cell (.data (.arr .u64 4))), (1003, .cell (.data (.arr .u64 4)))]
def KX (d : (Unit × Unit × Int × Int × Unit)) (e : ((List Int) × (List Int) × Unit)) (v : Int) : St := ⟨mkS S ((), (), d.2.2.1, v, ()), mkH H (e.1, e.2.1, ())⟩
abbrev RS : List (Nat × Sh) := [(4, .data (.int .i64))]
abbrev RH : List (Nat × ESh) := []
def RX (d : (Unit × Unit × Int × Int × Unit)) (e : ((List Int) × (List Int) × Unit)) (v : Int) : St := ⟨mkS RS (v, ()), mkH RH (())⟩
def sum (k : Nat) : LoopSum := sigLoop S H 0 (fun (d : (Unit × Unit × Int × Int × Unit)) (e : ((List Int) × (List Int) × Unit)) => f k d.2.2.1 e.1 e.2.1 k d.2.2.2.1) KX RX
end l0
def tree {X : Type} (K : Int → Option X) (k : Nat) (a0 : (List Int)) (a1 : (List Int)) : Option X :=
  (Option.bind (whole_Compare.l0.f k (0 : Int) a0 a1 k (3 : Int)) (fun r1 => sel r1 (fun v2 => (K (0 : Int))) (fun q3 => (K q3))))
def f (k : Nat) (a0 : (List Int)) (a1 : (List Int)) : Option Int := tree (fun b0 => some b0) k a0 a1
theorem tree_nat {X Y : Type} (h : X → Option Y) (K : Int → Option X) (k : Nat) (a0 : (List Int)) (a1 : (List Int)) : Option.bind (tree K k a0 a1) h = tree (fun b0 => Option.bind (K b0) h) k a0 a1 := by
  simp only [tree, bif_bind, sel_bind', Option.bind_assoc, Option.bind_none, Option.bind_some]
abbrev ps : List Sh := [.data (.arr .u64 4), .data (.arr .u64 4)]
abbrev hs : List (Nat × ESh) := []
abbrev hi : List Nat := hs.map (·.1)
def val (t : Int) : AV := Sh.mk (.data (.int .i64)) t
def wr (t : Int) : Heap := []
def callee (k : Nat) : Callee := sigCallee ps hs (fun (d : ((List Int) × (List Int) × Unit)) (e : Unit) => f k d.1 d.2.1) val wr
def E (k : Nat) : Env := ⟨fnTab [], loopTab [(0, l0.sum k)]⟩
theorem fE (k : Nat) : ∀ f, ∀ c ∈ (E k).fn f, CalleeOK Try.prog f c := fnTab_ok trivial
namespace l0
theorem round (k : Nat) (d : (Unit × Unit × Int × Int × Unit)) (e : ((List Int) × (List Int) × Unit)) (G : St → Option (Ex × St)) : roundK Try.prog (E k) 26 0 (subC (bodyOf Try.f39) [1, 0, 1, 0, 0]) (restrict (S.map (·.1)) (H.map (·.1))) (finBy (S.map (·.1)) (H.map (·.1)) (RS.map (·.1)) (RH.map (·.1))) G ⟨mkS S d, mkH H e⟩ =
    step (fun x5 => some (.exit 0, KX d e x5)) (fun q0 => some (.ret, RX d e q0)) (fun x5 => G ⟨mkS S ((), (), d.2.2.1, x5, ()), mkH H (e.1, e.2.1, ())⟩) k d.2.2.1 e.1 e.2.1 d.2.2.2.1 := by kernel_rfl
theorem it (k n : Nat) (d : (Unit × Unit × Int × Int × Unit)) (e : ((List Int) × (List Int) × Unit)) : loopIt Try.prog (E k) 26 0 (subC (bodyOf Try.f39) [1, 0, 1, 0, 0]) (restrict (S.map (·.1)) (H.map (·.1))) (finBy (S.map (·.1)) (H.map (·.1)) (RS.map (·.1)) (RH.map (·.1))) n ⟨mkS S d, mkH H e⟩ = go (fun x5 => some (.exit 0, KX d e x5)) (fun q0 => some (.ret, RX d e q0)) k d.2.2.1 e.1 e.2.1 n d.2.2.2.1 :=
  loopIt_eq (D := (Unit × Unit × Int × Int × Unit) × ((List Int) × (List Int) × Unit)) (fun p => ⟨mkS S p.1, mkH H p.2⟩) (fun F p => step (fun x5 => some (.exit 0, KX p.1 p.2 x5)) (fun q0 => some (.ret, RX p.1 p.2 q0)) (fun x5 => F (((), (), p.1.2.2.1, x5, ()), (p.2.1, p.2.2.1, ()))) k p.1.2.2.1 p.2.1 p.2.2.1 p.1.2.2.2.1) (fun n p => go (fun x5 => some (.exit 0, KX p.1 p.2 x5)) (fun q0 => some (.ret, RX p.1 p.2 q0)) k p.1.2.2.1 p.2.1 p.2.2.1 n p.1.2.2.2.1) (fun _ => rfl) (fun _ _ => rfl) (fun G p => round k p.1 p.2 G) n (d, e)
theorem ok (k : Nat) : LoopOK Try.prog 26 (subC (bodyOf Try.f39) [1, 0, 1, 0, 0]) (sum k) :=
  loop_sig hm (fE k) (loopsOK_of [] (by kernel_rfl) trivial) S H 0 (fun (d : (Unit × Unit × Int × Int × Unit)) (e : ((List Int) × (List Int) × Unit)) => f k d.2.2.1 e.1 e.2.1 k d.2.2.2.1) KX RX (S.map (·.1)) (H.map (·.1)) (RS.map (·.1)) (RH.map (·.1)) k
    (fun d e => (it k k d e).trans (go_nat (exitOf 0 (KX d e) (RX d e)) (fun x5 => some (.inl x5)) (fun q0 => some (.inr q0)) k d.2.2.1 e.1 e.2.1 k d.2.2.2.1).symm)
end l0
theorem run (k : Nat) (d : ((List Int) × (List Int) × Unit)) (e : Unit) : runFn Try.prog (E k) 26 (bodyOf Try.f39) Try.f39.results.toList hi (mkL ps d) (mkH hs e) =
    tree (fun b0 => leafFn hs hi e val wr b0) k d.1 d.2.1 := by kernel_rfl
theorem run_f (k : Nat) (d : ((List Int) × (List Int) × Unit)) (e : Unit) : runFn Try.prog (E k) 26 (bodyOf Try.f39) Try.f39.results.toList hi (mkL ps d) (mkH hs e) = (f k d.1 d.2.1).bind (leafFn hs hi e val wr) :=
  (run k d e).trans (tree_nat (leafFn hs hi e val wr) (fun b0 => some b0) k d.1 d.2.1).symm
theorem fnIs : FnIs Try.prog 39 Try.f39 (bodyOf Try.f39) 26 := ⟨by kernel_rfl, by kernel_rfl, by kernel_rfl, by kernel_rfl⟩
theorem ok (k : Nat) : CalleeOK Try.prog 39 (callee k) :=
  callee_sig (T := Int) fnIs hm (fE k) (loopsOK_of [(0, subC (bodyOf Try.f39) [1, 0, 1, 0, 0])] (by kernel_rfl) ⟨of_loop (l0.sum k) rfl (l0.ok k), trivial⟩) ps hs (fun (d : ((List Int) × (List Int) × Unit)) (e : Unit) => f k d.1 d.2.1) val wr rfl (fun _ => rfl) (run_f k)
end whole_Compare
namespace whole_Less
def tree {X : Type} (K : Bool → Option X) (k : Nat) (a0 : (List Int)) (a1 : (List Int)) : Option X :=
  (Option.bind (whole_Compare.f k a0 a1) (fun r1 => (K (decide (r1 < (0 : Int))))))
def f (k : Nat) (a0 : (List Int)) (a1 : (List Int)) : Option Bool := tree (fun b0 => some b0) k a0 a1
theorem tree_nat {X Y : Type} (h : X → Option Y) (K : Bool → Option X) (k : Nat) (a0 : (List Int)) (a1 : (List Int)) : Option.bind (tree K k a0 a1) h = tree (fun b0 => Option.bind (K b0) h) k a0 a1 := by
  simp only [tree, bif_bind, sel_bind', Option.bind_assoc, Option.bind_none, Option.bind_some]
abbrev ps : List Sh := [.data (.arr .u64 4), .data (.arr .u64 4)]
abbrev hs : List (Nat × ESh) := []
abbrev hi : List Nat := hs.map (·.1)
def val (t : Bool) : AV := Sh.mk (.data .bool) t
def wr (t : Bool) : Heap := []
def callee (k : Nat) : Callee := sigCallee ps hs (fun (d : ((List Int) × (List Int) × Unit)) (e : Unit) => f k d.1 d.2.1) val wr
def E (k : Nat) : Env := ⟨fnTab [(39, [whole_Compare.callee k])], loopTab []⟩
theorem fE (k : Nat) : ∀ f, ∀ c ∈ (E k).fn f, CalleeOK Try.prog f c := fnTab_ok ⟨⟨whole_Compare.ok k, trivial⟩, trivial⟩
theorem run (k : Nat) (d : ((List Int) × (List Int) × Unit)) (e : Unit) : runFn Try.prog (E k) 9 (bodyOf Try.f41) Try.f41.results.toList hi (mkL ps d) (mkH hs e) =
    tree (fun b0 => leafFn hs hi e val wr b0) k d.1 d.2.1 := by kernel_rfl
theorem run_f (k : Nat) (d : ((List Int) × (List Int) × Unit)) (e : Unit) : runFn Try.prog (E k) 9 (bodyOf Try.f41) Try.f41.results.toList hi (mkL ps d) (mkH hs e) = (f k d.1 d.2.1).bind (leafFn hs hi e val wr) :=
  (run k d e).trans (tree_nat (leafFn hs hi e val wr) (fun b0 => some b0) k d.1 d.2.1).symm
theorem fnIs : FnIs Try.prog 41 Try.f41 (bodyOf Try.f41) 9 := ⟨by kernel_rfl, by kernel_rfl, by kernel_rfl, by kernel_rfl⟩
theorem ok (k : Nat) : CalleeOK Try.prog 41 (callee k) :=
  callee_sig (T := Bool) fnIs hm (fE k) (loopsOK_of [] (by kernel_rfl) trivial) ps hs (fun (d : ((List Int) × (List Int) × Unit)) (e : Unit) => f k d.1 d.2.1) val wr rfl (fun _ => rfl) (run_f k)
end whole_Less
namespace whole_Zero
def tree {X : Type} (K : Bool → Option X) (k : Nat) (a0 : (List Int)) : Option X :=
  (K (decide (a0 = ([0, 0, 0, 0] : (List Int)))))
def f (k : Nat) (a0 : (List Int)) : Option Bool := tree (fun b0 => some b0) k a0
theorem tree_nat {X Y : Type} (h : X → Option Y) (K : Bool → Option X) (k : Nat) (a0 : (List Int)) : Option.bind (tree K k a0) h = tree (fun b0 => Option.bind (K b0) h) k a0 := by
  simp only [tree, bif_bind, sel_bind', Option.bind_assoc, Option.bind_none, Option.bind_some]
abbrev ps : List Sh := [.data (.arr .u64 4)]
abbrev hs : List (Nat × ESh) := []
abbrev hi : List Nat := hs.map (·.1)
def val (t : Bool) : AV := Sh.mk (.data .bool) t
def wr (t : Bool) : Heap := []
def callee (k : Nat) : Callee := sigCallee ps hs (fun (d : ((List Int) × Unit)) (e : Unit) => f k d.1) val wr
def E (k : Nat) : Env := ⟨fnTab [], loopTab []⟩
theorem fE (k : Nat) : ∀ f, ∀ c ∈ (E k).fn f, CalleeOK Try.prog f c := fnTab_ok trivial
theorem run (k : Nat) (d : ((List Int) × Unit)) (e : Unit) : runFn Try.prog (E k) 6 (bodyOf Try.f42) Try.f42.results.toList hi (mkL ps d) (mkH hs e) =
    tree (fun b0 => leafFn hs hi e val wr b0) k d.1 := by kernel_rfl
theorem run_f (k : Nat) (d : ((List Int) × Unit)) (e : Unit) : runFn Try.prog (E k) 6 (bodyOf Try.f42) Try.f42.results.toList hi (mkL ps d) (mkH hs e) = (f k d.1).bind (leafFn hs hi e val wr) :=
  (run k d e).trans (tree_nat (leafFn hs hi e val wr) (fun b0 => some b0) k d.1).symm
theorem fnIs : FnIs Try.prog 42 Try.f42 (bodyOf Try.f42) 6 := ⟨by kernel_rfl, by kernel_rfl, by kernel_rfl, by kernel_rfl⟩
theorem ok (k : Nat) : CalleeOK Try.prog 42 (callee k) :=
  callee_sig (T := Bool) fnIs hm (fE k) (loopsOK_of [] (by kernel_rfl) trivial) ps hs (fun (d : ((List Int) × Unit)) (e : Unit) => f k d.1) val wr rfl (fun _ => rfl) (run_f k)
end whole_Zero
namespace trailheadlaw02_WholeOrder
namespace l0
def step {X : Type} (K : Int → Int → Option X) (G : Int → Int → Option X) (k : Nat) (x4 : Bool) (x5 : Bool) (x6 : Int) (y1002 : (List Int)) (y1003 : (List Int)) (x7 : Int) (x8 : Int) : Option X :=
  (bif (decide (x8 < (256 : Int))) then (Option.bind (trailheadref02_Bit.f k y1002 x8) (fun r4 => (bif (r4 == (1 : Int)) then (G (addI .i64 x8 1) (addI .i64 x8 1)) else (G x7 (addI .i64 x8 1))))) else (K x7 x8))
def go {X : Type} (K : Int → Int → Option X) (k : Nat) (x4 : Bool) (x5 : Bool) (x6 : Int) (y1002 : (List Int)) (y1003 : (List Int)) : Nat → Int → Int → Option X
  | 0, _, _ => none
  | n + 1, x7, x8 => step K (go K k x4 x5 x6 y1002 y1003 n) k x4 x5 x6 y1002 y1003 x7 x8
def f (k : Nat) (x4 : Bool) (x5 : Bool) (x6 : Int) (y1002 : (List Int)) (y1003 : (List Int)) (n : Nat) (x7 : Int) (x8 : Int) : Option (Int × Int) := go (fun x7 x8 => some (x7, x8)) k x4 x5 x6 y1002 y1003 n x7 x8
theorem step_nat {X Y : Type} (h : X → Option Y) (K : Int → Int → Option X) (G : Int → Int → Option X) (k : Nat) (x4 : Bool) (x5 : Bool) (x6 : Int) (y1002 : (List Int)) (y1003 : (List Int)) (x7 : Int) (x8 : Int) : Option.bind (step K G k x4 x5 x6 y1002 y1003 x7 x8) h = step (fun x7 x8 => Option.bind (K x7 x8) h) (fun x7 x8 => Option.bind (G x7 x8) h) k x4 x5 x6 y1002 y1003 x7 x8 := by
  simp only [step, bif_bind, sel_bind', Option.bind_assoc, Option.bind_none, Option.bind_some]
theorem go_nat {X Y : Type} (h : X → Option Y) (K : Int → Int → Option X) (k : Nat) (x4 : Bool) (x5 : Bool) (x6 : Int) (y1002 : (List Int)) (y1003 : (List Int)) (n : Nat) : ∀ (x7 : Int) (x8 : Int), Option.bind (go K k x4 x5 x6 y1002 y1003 n x7 x8) h = go (fun x7 x8 => Option.bind (K x7 x8) h) k x4 x5 x6 y1002 y1003 n x7 x8 := by
  induction n with
  | zero => intros; rfl
  | succ n ih => intro x7 x8; show Option.bind (step K (go K k x4 x5 x6 y1002 y1003 n) k x4 x5 x6 y1002 y1003 x7 x8) h = step (fun x7 x8 => Option.bind (K x7 x8) h) (go (fun x7 x8 => Option.bind (K x7 x8) h) k x4 x5 x6 y1002 y1003 n) k x4 x5 x6 y1002 y1003 x7 x8; rw [step_nat h]; simp only [ih]
abbrev S : List (Nat × Sh) := [(2, .ptr 1002), (3, .ptr 1003), (4, .data .bool), (5, .data .bool), (6, .data (.int .i64)), (7, .data (.int .i64)), (8, .data (.int .i64))]
abbrev H : List (Nat × ESh) := [(1002, .cell (.data (.arr .u64 4))), (1003, .cell (.data (.arr .u64 4)))]
def KX (d : (Unit × Unit × Bool × Bool × Int × Int × Int × Unit)) (e : ((List Int) × (List Int) × Unit)) (v : (Int × Int)) : St := ⟨mkS S ((), (), d.2.2.1, d.2.2.2.1, d.2.2.2.2.1, v.1, v.2, ()), mkH H (e.1, e.2.1, ())⟩
def sum (k : Nat) : LoopSum := sigLoopX S H 0 (fun (d : (Unit × Unit × Bool × Bool × Int × Int × Int × Unit)) (e : ((List Int) × (List Int) × Unit)) => f k d.2.2.1 d.2.2.2.1 d.2.2.2.2.1 e.1 e.2.1 k d.2.2.2.2.2.1 d.2.2.2.2.2.2.1) KX
end l0
def tree {X : Type} (K : Bool → Option X) (k : Nat) (a0 : (List Int)) (a1 : (List Int)) : Option X :=
  (Option.bind (trailheadlaw02_alive.f k) (fun r1 => (bif (!r1) then (K false) else (Option.bind (trailheadref02_Less.f k a0 a1) (fun r2 => (Option.bind (whole_Compare.f k a0 a1) (fun r3 => (Option.bind (trailheadlaw02_WholeOrder.l0.f k false r2 r3 a0 a1 k (0 : Int) (0 : Int)) (fun r5 => (Option.bind (whole_Less.f k a0 a1) (fun r6 => (bif (r6 == r2) then (bif ((decide (r3 < (0 : Int))) == r2) then (bif ((r3 == (0 : Int)) == (decide (a0 = a1))) then (Option.bind (whole_Compare.f k a1 a0) (fun r7 => (bif (r3 == (subI .i64 0 r7)) then (bif (decide (r3 ≥ ((-1) : Int))) then (bif (decide (r3 ≤ (1 : Int))) then (Option.bind (whole_Zero.f k a0) (fun r8 => (bif (r8 == (decide (a0 = ([0, 0, 0, 0] : (List Int))))) then (Option.bind (whole_Len.f k a0) (fun r9 => (bif (r9 == r5.1) then (Option.bind (whole_Of.f k (List.getD a0 0 0)) (fun r10 => (K (decide (r10 = ([(List.getD a0 0 0), 0, 0, 0] : (List Int))))))) else (K false)))) else (K false)))) else (K false)) else (K false)) else (K false)))) else (K false)) else (K false)) else (K false)))))))))))))
def f (k : Nat) (a0 : (List Int)) (a1 : (List Int)) : Option Bool := tree (fun b0 => some b0) k a0 a1
theorem tree_nat {X Y : Type} (h : X → Option Y) (K : Bool → Option X) (k : Nat) (a0 : (List Int)) (a1 : (List Int)) : Option.bind (tree K k a0 a1) h = tree (fun b0 => Option.bind (K b0) h) k a0 a1 := by
  simp only [tree, bif_bind, sel_bind', Option.bind_assoc, Option.bind_none, Option.bind_some]
abbrev ps : List Sh := [.data (.arr .u64 4), .data (.arr .u64 4)]
abbrev hs : List (Nat × ESh) := []
abbrev hi : List Nat := hs.map (·.1)
def val (t : Bool) : AV := Sh.mk (.data .bool) t
def wr (t : Bool) : Heap := []
def callee (k : Nat) : Callee := sigCallee ps hs (fun (d : ((List Int) × (List Int) × Unit)) (e : Unit) => f k d.1 d.2.1) val wr
def E (k : Nat) : Env := ⟨fnTab [(38, [trailheadlaw02_alive.callee k]), (29, [trailheadref02_Less.callee k]), (39, [whole_Compare.callee k]), (40, [trailheadref02_Bit.callee k]), (41, [whole_Less.callee k]), (42, [whole_Zero.callee k]), (43, [whole_Len.callee k]), (44, [whole_Of.callee k])], loopTab [(0, l0.sum k)]⟩
theorem fE (k : Nat) : ∀ f, ∀ c ∈ (E k).fn f, CalleeOK Try.prog f c := fnTab_ok ⟨⟨trailheadlaw02_alive.ok k, trivial⟩, ⟨trailheadref02_Less.ok k, trivial⟩, ⟨whole_Compare.ok k, trivial⟩, ⟨trailheadref02_Bit.ok k, trivial⟩, ⟨whole_Less.ok k, trivial⟩, ⟨whole_Zero.ok k, trivial⟩, ⟨whole_Len.ok k, trivial⟩, ⟨whole_Of.ok k, trivial⟩, trivial⟩
namespace l0
theorem round (k : Nat) (d : (Unit × Unit × Bool × Bool × Int × Int × Int × Unit)) (e : ((List Int) × (List Int) × Unit)) (G : St → Option (Ex × St)) : roundK Try.prog (E k) 85 0 (subC (bodyOf Try.f6) [1, 1, 1, 1, 1, 0, 1, 0, 0]) (restrict (S.map (·.1)) (H.map (·.1))) (finBy (S.map (·.1)) (H.map (·.1)) [] []) G ⟨mkS S d, mkH H e⟩ =
    step (fun x7 x8 => some (.exit 0, KX d e (x7, x8))) (fun x7 x8 => G ⟨mkS S ((), (), d.2.2.1, d.2.2.2.1, d.2.2.2.2.1, x7, x8, ()), mkH H (e.1, e.2.1, ())⟩) k d.2.2.1 d.2.2.2.1 d.2.2.2.2.1 e.1 e.2.1 d.2.2.2.2.2.1 d.2.2.2.2.2.2.1 := by kernel_rfl
theorem it (k n : Nat) (d : (Unit × Unit × Bool × Bool × Int × Int × Int × Unit)) (e : ((List Int) × (List Int) × Unit)) : loopIt Try.prog (E k) 85 0 (subC (bodyOf Try.f6) [1, 1, 1, 1, 1, 0, 1, 0, 0]) (restrict (S.map (·.1)) (H.map (·.1))) (finBy (S.map (·.1)) (H.map (·.1)) [] []) n ⟨mkS S d, mkH H e⟩ = go (fun x7 x8 => some (.exit 0, KX d e (x7, x8))) k d.2.2.1 d.2.2.2.1 d.2.2.2.2.1 e.1 e.2.1 n d.2.2.2.2.2.1 d.2.2.2.2.2.2.1 :=
  loopIt_eq (D := (Unit × Unit × Bool × Bool × Int × Int × Int × Unit) × ((List Int) × (List Int) × Unit)) (fun p => ⟨mkS S p.1, mkH H p.2⟩) (fun F p => step (fun x7 x8 => some (.exit 0, KX p.1 p.2 (x7, x8))) (fun x7 x8 => F (((), (), p.1.2.2.1, p.1.2.2.2.1, p.1.2.2.2.2.1, x7, x8, ()), (p.2.1, p.2.2.1, ()))) k p.1.2.2.1 p.1.2.2.2.1 p.1.2.2.2.2.1 p.2.1 p.2.2.1 p.1.2.2.2.2.2.1 p.1.2.2.2.2.2.2.1) (fun n p => go (fun x7 x8 => some (.exit 0, KX p.1 p.2 (x7, x8))) k p.1.2.2.1 p.1.2.2.2.1 p.1.2.2.2.2.1 p.2.1 p.2.2.1 n p.1.2.2.2.2.2.1 p.1.2.2.2.2.2.2.1) (fun _ => rfl) (fun _ _ => rfl) (fun G p => round k p.1 p.2 G) n (d, e)
theorem ok (k : Nat) : LoopOK Try.prog 85 (subC (bodyOf Try.f6) [1, 1, 1, 1, 1, 0, 1, 0, 0]) (sum k) :=
  loop_sigX hm (fE k) (loopsOK_of [] (by kernel_rfl) trivial) S H 0 (fun (d : (Unit × Unit × Bool × Bool × Int × Int × Int × Unit)) (e : ((List Int) × (List Int) × Unit)) => f k d.2.2.1 d.2.2.2.1 d.2.2.2.2.1 e.1 e.2.1 k d.2.2.2.2.2.1 d.2.2.2.2.2.2.1) KX (S.map (·.1)) (H.map (·.1)) [] [] k
    (fun d e => (it k k d e).trans (go_nat (fun v => some (Ex.exit 0, KX d e v)) (fun x7 x8 => some (x7, x8)) k d.2.2.1 d.2.2.2.1 d.2.2.2.2.1 e.1 e.2.1 k d.2.2.2.2.2.1 d.2.2.2.2.2.2.1).symm)
end l0
theorem run (k : Nat) (d : ((List Int) × (List Int) × Unit)) (e : Unit) : runFn Try.prog (E k) 85 (bodyOf Try.f6) Try.f6.results.toList hi (mkL ps d) (mkH hs e) =
    tree (fun b0 => leafFn hs hi e val wr b0) k d.1 d.2.1 := by kernel_rfl
theorem run_f (k : Nat) (d : ((List Int) × (List Int) × Unit)) (e : Unit) : runFn Try.prog (E k) 85 (bodyOf Try.f6) Try.f6.results.toList hi (mkL ps d) (mkH hs e) = (f k d.1 d.2.1).bind (leafFn hs hi e val wr) :=
  (run k d e).trans (tree_nat (leafFn hs hi e val wr) (fun b0 => some b0) k d.1 d.2.1).symm
theorem fnIs : FnIs Try.prog 6 Try.f6 (bodyOf Try.f6) 85 := ⟨by kernel_rfl, by kernel_rfl, by kernel_rfl, by kernel_rfl⟩
theorem ok (k : Nat) : CalleeOK Try.prog 6 (callee k) :=
  callee_sig (T := Bool) fnIs hm (fE k) (loopsOK_of [(0, subC (bodyOf Try.f6) [1, 1, 1, 1, 1, 0, 1, 0, 0])] (by kernel_rfl) ⟨of_loop (l0.sum k) rfl (l0.ok k), trivial⟩) ps hs (fun (d : ((List Int) × (List Int) × Unit)) (e : Unit) => f k d.1 d.2.1) val wr rfl (fun _ => rfl) (run_f k)
end trailheadlaw02_WholeOrder
namespace whole_FromHash
namespace l0
def step {X : Type} (K : Int → (List Int) → Option X) (G : Int → (List Int) → Option X) (k : Nat) (x6 : (List Int)) (y1002 : (List Int)) (x7 : Int) (y1003 : (List Int)) : Option X :=
  (bif (decide (x7 < (32 : Int))) then (bif (decide (0 ≤ x7)) then (bif (decide (x7 < 32)) then (bif (decide (0 ≤ (quoI .i64 x7 8))) then (bif (decide ((quoI .i64 x7 8) < 4)) then (bif (decide ((Int.toNat (quoI .i64 x7 8)) < 4)) then (bif (decide ((mulI .i64 8 (remI x7 8)) < 0)) then none else (bif (decide (0 ≤ (quoI .i64 x7 8))) then (bif (decide ((quoI .i64 x7 8) < 4)) then (bif (decide ((Int.toNat (quoI .i64 x7 8)) < 4)) then (G (addI .i64 x7 1) (List.set y1003 (Int.toNat (quoI .i64 x7 8)) (orI .u64 (List.getD y1003 (Int.toNat (quoI .i64 x7 8)) 0) (shlI .u64 (IntKind.wrap .u64 (List.getD x6 (Int.toNat x7) 0)) (mulI .i64 8 (remI x7 8)))))) else none) else none) else none)) else none) else none) else none) else none) else none) else (K x7 y1003))
def go {X : Type} (K : Int → (List Int) → Option X) (k : Nat) (x6 : (List Int)) (y1002 : (List Int)) : Nat → Int → (List Int) → Option X
  | 0, _, _ => none
  | n + 1, x7, y1003 => step K (go K k x6 y1002 n) k x6 y1002 x7 y1003
def f (k : Nat) (x6 : (List Int)) (y1002 : (List Int)) (n : Nat) (x7 : Int) (y1003 : (List Int)) : Option (Int × (List Int)) := go (fun x7 y1003 => some (x7, y1003)) k x6 y1002 n x7 y1003
theorem step_nat {X Y : Type} (h : X → Option Y) (K : Int → (List Int) → Option X) (G : Int → (List Int) → Option X) (k : Nat) (x6 : (List Int)) (y1002 : (List Int)) (x7 : Int) (y1003 : (List Int)) : Option.bind (step K G k x6 y1002 x7 y1003) h = step (fun x7 y1003 => Option.bind (K x7 y1003) h) (fun x7 y1003 => Option.bind (G x7 y1003) h) k x6 y1002 x7 y1003 := by
  simp only [step, bif_bind, sel_bind', Option.bind_assoc, Option.bind_none, Option.bind_some]
theorem go_nat {X Y : Type} (h : X → Option Y) (K : Int → (List Int) → Option X) (k : Nat) (x6 : (List Int)) (y1002 : (List Int)) (n : Nat) : ∀ (x7 : Int) (y1003 : (List Int)), Option.bind (go K k x6 y1002 n x7 y1003) h = go (fun x7 y1003 => Option.bind (K x7 y1003) h) k x6 y1002 n x7 y1003 := by
  induction n with
  | zero => intros; rfl
  | succ n ih => intro x7 y1003; show Option.bind (step K (go K k x6 y1002 n) k x6 y1002 x7 y1003) h = step (fun x7 y1003 => Option.bind (K x7 y1003) h) (go (fun x7 y1003 => Option.bind (K x7 y1003) h) k x6 y1002 n) k x6 y1002 x7 y1003; rw [step_nat h]; simp only [ih]
abbrev S : List (Nat × Sh) := [(2, .ptr 1002), (3, .ptr 1003), (6, .data (.arr .u8 32)), (7, .data (.int .i64))]
abbrev H : List (Nat × ESh) := [(1002, .cell (.data (.arr .u64 4))), (1003, .cell (.data (.arr .u64 4)))]
def KX (d : (Unit × Unit × (List Int) × Int × Unit)) (e : ((List Int) × (List Int) × Unit)) (v : (Int × (List Int))) : St := ⟨mkS S ((), (), d.2.2.1, v.1, ()), mkH H (e.1, v.2, ())⟩
def sum (k : Nat) : LoopSum := sigLoopX S H 0 (fun (d : (Unit × Unit × (List Int) × Int × Unit)) (e : ((List Int) × (List Int) × Unit)) => f k d.2.2.1 e.1 k d.2.2.2.1 e.2.1) KX
end l0
def tree {X : Type} (K : (List Int) → Option X) (k : Nat) (a0 : (List Int)) : Option X :=
  (Option.bind (whole_FromHash.l0.f k a0 ([0, 0, 0, 0] : (List Int)) k (0 : Int) ([0, 0, 0, 0] : (List Int))) (fun r1 => (K r1.2)))
def f (k : Nat) (a0 : (List Int)) : Option (List Int) := tree (fun b0 => some b0) k a0
theorem tree_nat {X Y : Type} (h : X → Option Y) (K : (List Int) → Option X) (k : Nat) (a0 : (List Int)) : Option.bind (tree K k a0) h = tree (fun b0 => Option.bind (K b0) h) k a0 := by
  simp only [tree, bif_bind, sel_bind', Option.bind_assoc, Option.bind_none, Option.bind_some]
abbrev ps : List Sh := [.data (.arr .u8 32)]
abbrev hs : List (Nat × ESh) := []
abbrev hi : List Nat := hs.map (·.1)
def val (t : (List Int)) : AV := Sh.mk (.data (.arr .u64 4)) t
def wr (t : (List Int)) : Heap := []
def callee (k : Nat) : Callee := sigCallee ps hs (fun (d : ((List Int) × Unit)) (e : Unit) => f k d.1) val wr
def E (k : Nat) : Env := ⟨fnTab [], loopTab [(0, l0.sum k)]⟩
theorem fE (k : Nat) : ∀ f, ∀ c ∈ (E k).fn f, CalleeOK Try.prog f c := fnTab_ok trivial
namespace l0
theorem round (k : Nat) (d : (Unit × Unit × (List Int) × Int × Unit)) (e : ((List Int) × (List Int) × Unit)) (G : St → Option (Ex × St)) : roundK Try.prog (E k) 25 0 (subC (bodyOf Try.f45) [1, 1, 0, 1, 0, 0]) (restrict (S.map (·.1)) (H.map (·.1))) (finBy (S.map (·.1)) (H.map (·.1)) [] []) G ⟨mkS S d, mkH H e⟩ =
    step (fun x7 y1003 => some (.exit 0, KX d e (x7, y1003))) (fun x7 y1003 => G ⟨mkS S ((), (), d.2.2.1, x7, ()), mkH H (e.1, y1003, ())⟩) k d.2.2.1 e.1 d.2.2.2.1 e.2.1 := by kernel_rfl
theorem it (k n : Nat) (d : (Unit × Unit × (List Int) × Int × Unit)) (e : ((List Int) × (List Int) × Unit)) : loopIt Try.prog (E k) 25 0 (subC (bodyOf Try.f45) [1, 1, 0, 1, 0, 0]) (restrict (S.map (·.1)) (H.map (·.1))) (finBy (S.map (·.1)) (H.map (·.1)) [] []) n ⟨mkS S d, mkH H e⟩ = go (fun x7 y1003 => some (.exit 0, KX d e (x7, y1003))) k d.2.2.1 e.1 n d.2.2.2.1 e.2.1 :=
  loopIt_eq (D := (Unit × Unit × (List Int) × Int × Unit) × ((List Int) × (List Int) × Unit)) (fun p => ⟨mkS S p.1, mkH H p.2⟩) (fun F p => step (fun x7 y1003 => some (.exit 0, KX p.1 p.2 (x7, y1003))) (fun x7 y1003 => F (((), (), p.1.2.2.1, x7, ()), (p.2.1, y1003, ()))) k p.1.2.2.1 p.2.1 p.1.2.2.2.1 p.2.2.1) (fun n p => go (fun x7 y1003 => some (.exit 0, KX p.1 p.2 (x7, y1003))) k p.1.2.2.1 p.2.1 n p.1.2.2.2.1 p.2.2.1) (fun _ => rfl) (fun _ _ => rfl) (fun G p => round k p.1 p.2 G) n (d, e)
theorem ok (k : Nat) : LoopOK Try.prog 25 (subC (bodyOf Try.f45) [1, 1, 0, 1, 0, 0]) (sum k) :=
  loop_sigX hm (fE k) (loopsOK_of [] (by kernel_rfl) trivial) S H 0 (fun (d : (Unit × Unit × (List Int) × Int × Unit)) (e : ((List Int) × (List Int) × Unit)) => f k d.2.2.1 e.1 k d.2.2.2.1 e.2.1) KX (S.map (·.1)) (H.map (·.1)) [] [] k
    (fun d e => (it k k d e).trans (go_nat (fun v => some (Ex.exit 0, KX d e v)) (fun x7 y1003 => some (x7, y1003)) k d.2.2.1 e.1 k d.2.2.2.1 e.2.1).symm)
end l0
theorem run (k : Nat) (d : ((List Int) × Unit)) (e : Unit) : runFn Try.prog (E k) 25 (bodyOf Try.f45) Try.f45.results.toList hi (mkL ps d) (mkH hs e) =
    tree (fun b0 => leafFn hs hi e val wr b0) k d.1 := by kernel_rfl
theorem run_f (k : Nat) (d : ((List Int) × Unit)) (e : Unit) : runFn Try.prog (E k) 25 (bodyOf Try.f45) Try.f45.results.toList hi (mkL ps d) (mkH hs e) = (f k d.1).bind (leafFn hs hi e val wr) :=
  (run k d e).trans (tree_nat (leafFn hs hi e val wr) (fun b0 => some b0) k d.1).symm
theorem fnIs : FnIs Try.prog 45 Try.f45 (bodyOf Try.f45) 25 := ⟨by kernel_rfl, by kernel_rfl, by kernel_rfl, by kernel_rfl⟩
theorem ok (k : Nat) : CalleeOK Try.prog 45 (callee k) :=
  callee_sig (T := (List Int)) fnIs hm (fE k) (loopsOK_of [(0, subC (bodyOf Try.f45) [1, 1, 0, 1, 0, 0])] (by kernel_rfl) ⟨of_loop (l0.sum k) rfl (l0.ok k), trivial⟩) ps hs (fun (d : ((List Int) × Unit)) (e : Unit) => f k d.1) val wr rfl (fun _ => rfl) (run_f k)
end whole_FromHash
namespace whole_Hash
namespace l0
def step {X : Type} (K : Int → (List Int) → Option X) (G : Int → (List Int) → Option X) (k : Nat) (y1001 : (List Int)) (y1002 : (List Int)) (x5 : Int) (y1003 : (List Int)) : Option X :=
  (bif (decide (x5 < (32 : Int))) then (bif (decide (0 ≤ (quoI .i64 x5 8))) then (bif (decide ((quoI .i64 x5 8) < 4)) then (bif (decide ((Int.toNat (quoI .i64 x5 8)) < 4)) then (bif (decide ((mulI .i64 8 (remI x5 8)) < 0)) then none else (bif (decide (0 ≤ x5)) then (bif (decide (x5 < 32)) then (bif (decide ((Int.toNat x5) < 32)) then (G (addI .i64 x5 1) (List.set y1003 (Int.toNat x5) (IntKind.wrap .u8 (shrI .u64 (List.getD y1001 (Int.toNat (quoI .i64 x5 8)) 0) (mulI .i64 8 (remI x5 8)))))) else none) else none) else none)) else none) else none) else none) else (K x5 y1003))
def go {X : Type} (K : Int → (List Int) → Option X) (k : Nat) (y1001 : (List Int)) (y1002 : (List Int)) : Nat → Int → (List Int) → Option X
  | 0, _, _ => none
  | n + 1, x5, y1003 => step K (go K k y1001 y1002 n) k y1001 y1002 x5 y1003
def f (k : Nat) (y1001 : (List Int)) (y1002 : (List Int)) (n : Nat) (x5 : Int) (y1003 : (List Int)) : Option (Int × (List Int)) := go (fun x5 y1003 => some (x5, y1003)) k y1001 y1002 n x5 y1003
theorem step_nat {X Y : Type} (h : X → Option Y) (K : Int → (List Int) → Option X) (G : Int → (List Int) → Option X) (k : Nat) (y1001 : (List Int)) (y1002 : (List Int)) (x5 : Int) (y1003 : (List Int)) : Option.bind (step K G k y1001 y1002 x5 y1003) h = step (fun x5 y1003 => Option.bind (K x5 y1003) h) (fun x5 y1003 => Option.bind (G x5 y1003) h) k y1001 y1002 x5 y1003 := by
  simp only [step, bif_bind, sel_bind', Option.bind_assoc, Option.bind_none, Option.bind_some]
theorem go_nat {X Y : Type} (h : X → Option Y) (K : Int → (List Int) → Option X) (k : Nat) (y1001 : (List Int)) (y1002 : (List Int)) (n : Nat) : ∀ (x5 : Int) (y1003 : (List Int)), Option.bind (go K k y1001 y1002 n x5 y1003) h = go (fun x5 y1003 => Option.bind (K x5 y1003) h) k y1001 y1002 n x5 y1003 := by
  induction n with
  | zero => intros; rfl
  | succ n ih => intro x5 y1003; show Option.bind (step K (go K k y1001 y1002 n) k y1001 y1002 x5 y1003) h = step (fun x5 y1003 => Option.bind (K x5 y1003) h) (go (fun x5 y1003 => Option.bind (K x5 y1003) h) k y1001 y1002 n) k y1001 y1002 x5 y1003; rw [step_nat h]; simp only [ih]
abbrev S : List (Nat × Sh) := [(1, .ptr 1001), (2, .ptr 1002), (3, .ptr 1003), (5, .data (.int .i64))]
abbrev H : List (Nat × ESh) := [(1001, .cell (.data (.arr .u64 4))), (1002, .cell (.data (.arr .u8 32))), (1003, .cell (.data (.arr .u8 32)))]
def KX (d : (Unit × Unit × Unit × Int × Unit)) (e : ((List Int) × (List Int) × (List Int) × Unit)) (v : (Int × (List Int))) : St := ⟨mkS S ((), (), (), v.1, ()), mkH H (e.1, e.2.1, v.2, ())⟩
def sum (k : Nat) : LoopSum := sigLoopX S H 0 (fun (d : (Unit × Unit × Unit × Int × Unit)) (e : ((List Int) × (List Int) × (List Int) × Unit)) => f k e.1 e.2.1 k d.2.2.2.1 e.2.2.1) KX
end l0
def tree {X : Type} (K : (List Int) → Option X) (k : Nat) (a0 : (List Int)) : Option X :=
  (Option.bind (whole_Hash.l0.f k a0 ([0, 0, 0, 0, 0, 0, 0, 0, 0, 0, 0, 0, 0, 0, 0, 0, 0, 0, 0, 0, 0, 0, 0, 0, 0, 0, 0, 0, 0, 0, 0, 0] : (List Int)) k (0 : Int) ([0, 0, 0, 0, 0, 0, 0, 0, 0, 0, 0, 0, 0, 0, 0, 0, 0, 0, 0, 0, 0, 0, 0, 0, 0, 0, 0, 0, 0, 0, 0, 0] : (List Int))) (fun r1 => (K r1.2)))
def f (k : Nat) (a0 : (List Int)) : Option (List Int) := tree (fun b0 => some b0) k a0
theorem tree_nat {X Y : Type} (h : X → Option Y) (K : (List Int) → Option X) (k : Nat) (a0 : (List Int)) : Option.bind (tree K k a0) h = tree (fun b0 => Option.bind (K b0) h) k a0 := by
  simp only [tree, bif_bind, sel_bind', Option.bind_assoc, Option.bind_none, Option.bind_some]
abbrev ps : List Sh := [.data (.arr .u64 4)]
abbrev hs : List (Nat × ESh) := []
abbrev hi : List Nat := hs.map (·.1)
def val (t : (List Int)) : AV := Sh.mk (.data (.arr .u8 32)) t
def wr (t : (List Int)) : Heap := []
def callee (k : Nat) : Callee := sigCallee ps hs (fun (d : ((List Int) × Unit)) (e : Unit) => f k d.1) val wr
def E (k : Nat) : Env := ⟨fnTab [], loopTab [(0, l0.sum k)]⟩
theorem fE (k : Nat) : ∀ f, ∀ c ∈ (E k).fn f, CalleeOK Try.prog f c := fnTab_ok trivial
namespace l0
theorem round (k : Nat) (d : (Unit × Unit × Unit × Int × Unit)) (e : ((List Int) × (List Int) × (List Int) × Unit)) (G : St → Option (Ex × St)) : roundK Try.prog (E k) 21 0 (subC (bodyOf Try.f46) [1, 1, 0, 1, 0, 0]) (restrict (S.map (·.1)) (H.map (·.1))) (finBy (S.map (·.1)) (H.map (·.1)) [] []) G ⟨mkS S d, mkH H e⟩ =
    step (fun x5 y1003 => some (.exit 0, KX d e (x5, y1003))) (fun x5 y1003 => G ⟨mkS S ((), (), (), x5, ()), mkH H (e.1, e.2.1, y1003, ())⟩) k e.1 e.2.1 d.2.2.2.1 e.2.2.1 := by kernel_rfl
theorem it (k n : Nat) (d : (Unit × Unit × Unit × Int × Unit)) (e : ((List Int) × (List Int) × (List Int) × Unit)) : loopIt Try.prog (E k) 21 0 (subC (bodyOf Try.f46) [1, 1, 0, 1, 0, 0]) (restrict (S.map (·.1)) (H.map (·.1))) (finBy (S.map (·.1)) (H.map (·.1)) [] []) n ⟨mkS S d, mkH H e⟩ = go (fun x5 y1003 => some (.exit 0, KX d e (x5, y1003))) k e.1 e.2.1 n d.2.2.2.1 e.2.2.1 :=
  loopIt_eq (D := (Unit × Unit × Unit × Int × Unit) × ((List Int) × (List Int) × (List Int) × Unit)) (fun p => ⟨mkS S p.1, mkH H p.2⟩) (fun F p => step (fun x5 y1003 => some (.exit 0, KX p.1 p.2 (x5, y1003))) (fun x5 y1003 => F (((), (), (), x5, ()), (p.2.1, p.2.2.1, y1003, ()))) k p.2.1 p.2.2.1 p.1.2.2.2.1 p.2.2.2.1) (fun n p => go (fun x5 y1003 => some (.exit 0, KX p.1 p.2 (x5, y1003))) k p.2.1 p.2.2.1 n p.1.2.2.2.1 p.2.2.2.1) (fun _ => rfl) (fun _ _ => rfl) (fun G p => round k p.1 p.2 G) n (d, e)
theorem ok (k : Nat) : LoopOK Try.prog 21 (subC (bodyOf Try.f46) [1, 1, 0, 1, 0, 0]) (sum k) :=
  loop_sigX hm (fE k) (loopsOK_of [] (by kernel_rfl) trivial) S H 0 (fun (d : (Unit × Unit × Unit × Int × Unit)) (e : ((List Int) × (List Int) × (List Int) × Unit)) => f k e.1 e.2.1 k d.2.2.2.1 e.2.2.1) KX (S.map (·.1)) (H.map (·.1)) [] [] k
    (fun d e => (it k k d e).trans (go_nat (fun v => some (Ex.exit 0, KX d e v)) (fun x5 y1003 => some (x5, y1003)) k e.1 e.2.1 k d.2.2.2.1 e.2.2.1).symm)
end l0
theorem run (k : Nat) (d : ((List Int) × Unit)) (e : Unit) : runFn Try.prog (E k) 21 (bodyOf Try.f46) Try.f46.results.toList hi (mkL ps d) (mkH hs e) =
    tree (fun b0 => leafFn hs hi e val wr b0) k d.1 := by kernel_rfl
theorem run_f (k : Nat) (d : ((List Int) × Unit)) (e : Unit) : runFn Try.prog (E k) 21 (bodyOf Try.f46) Try.f46.results.toList hi (mkL ps d) (mkH hs e) = (f k d.1).bind (leafFn hs hi e val wr) :=
  (run k d e).trans (tree_nat (leafFn hs hi e val wr) (fun b0 => some b0) k d.1).symm
theorem fnIs : FnIs Try.prog 46 Try.f46 (bodyOf Try.f46) 21 := ⟨by kernel_rfl, by kernel_rfl, by kernel_rfl, by kernel_rfl⟩
theorem ok (k : Nat) : CalleeOK Try.prog 46 (callee k) :=
  callee_sig (T := (List Int)) fnIs hm (fE k) (loopsOK_of [(0, subC (bodyOf Try.f46) [1, 1, 0, 1, 0, 0])] (by kernel_rfl) ⟨of_loop (l0.sum k) rfl (l0.ok k), trivial⟩) ps hs (fun (d : ((List Int) × Unit)) (e : Unit) => f k d.1) val wr rfl (fun _ => rfl) (run_f k)
end whole_Hash
namespace trailheadlaw02_WholeHashes
namespace l0
def step {X : Type} (K : Int → Option X) (Q : Bool → Option X) (G : Int → Option X) (k : Nat) (x4 : Bool) (y1002 : (List Int)) (y1003 : (List Int)) (y1005 : (List Int)) (x6 : Int) : Option X :=
  (bif (decide (x6 < (32 : Int))) then (bif (decide (0 ≤ (quoI .i64 x6 8))) then (bif (decide ((quoI .i64 x6 8) < 4)) then (bif (decide ((Int.toNat (quoI .i64 x6 8)) < 4)) then (bif (decide ((IntKind.wrap .u64 (mulI .i64 8 (remI x6 8))) < 0)) then none else (bif (decide (0 ≤ x6)) then (bif (decide (x6 < 32)) then (bif (decide ((Int.toNat x6) < 32)) then (bif ((IntKind.wrap .u8 (shrI .u64 (List.getD y1005 (Int.toNat (quoI .i64 x6 8)) 0) (IntKind.wrap .u64 (mulI .i64 8 (remI x6 8))))) != (List.getD y1002 (Int.toNat x6) 0)) then (Q false) else (G (addI .i64 x6 1))) else none) else none) else none)) else none) else none) else none) else (K x6))
def go {X : Type} (K : Int → Option X) (Q : Bool → Option X) (k : Nat) (x4 : Bool) (y1002 : (List Int)) (y1003 : (List Int)) (y1005 : (List Int)) : Nat → Int → Option X
  | 0, _ => none
  | n + 1, x6 => step K Q (go K Q k x4 y1002 y1003 y1005 n) k x4 y1002 y1003 y1005 x6
def f (k : Nat) (x4 : Bool) (y1002 : (List Int)) (y1003 : (List Int)) (y1005 : (List Int)) (n : Nat) (x6 : Int) : Option (Int ⊕ Bool) := go (fun x6 => some (.inl x6)) (fun q0 => some (.inr q0)) k x4 y1002 y1003 y1005 n x6
theorem step_nat {X Y : Type} (h : X → Option Y) (K : Int → Option X) (Q : Bool → Option X) (G : Int → Option X) (k : Nat) (x4 : Bool) (y1002 : (List Int)) (y1003 : (List Int)) (y1005 : (List Int)) (x6 : Int) : Option.bind (step K Q G k x4 y1002 y1003 y1005 x6) h = step (fun x6 => Option.bind (K x6) h) (fun q0 => Option.bind (Q q0) h) (fun x6 => Option.bind (G x6) h) k x4 y1002 y1003 y1005 x6 := by
  simp only [step, bif_bind, sel_bind', Option.bind_assoc, Option.bind_none, Option.bind_some]
theorem go_nat {X Y : Type} (h : X → Option Y) (K : Int → Option X) (Q : Bool → Option X) (k : Nat) (x4 : Bool) (y1002 : (List Int)) (y1003 : (List Int)) (y1005 : (List Int)) (n : Nat) : ∀ (x6 : Int), Option.bind (go K Q k x4 y1002 y1003 y1005 n x6) h = go (fun x6 => Option.bind (K x6) h) (fun q0 => Option.bind (Q q0) h) k x4 y1002 y1003 y1005 n x6 := by
  induction n with
  | zero => intros; rfl
  | succ n ih => intro x6; show Option.bind (step K Q (go K Q k x4 y1002 y1003 y1005 n) k x4 y1002 y1003 y1005 x6) h = step (fun x6 => Option.bind (K x6) h) (fun q0 => Option.bind (Q q0) h) (go (fun x6 => Option.bind (K x6) h) (fun q0 => Option.bind (Q q0) h) k x4 y1002 y1003 y1005 n) k x4 y1002 y1003 y1005 x6; rw [step_nat h]; simp only [ih]
abbrev S : List (Nat × Sh) := [(2, .ptr 1002), (3, .ptr 1003), (4, .data .bool), (5, .ptr 1005), (6, .data (.int .i64))]
abbrev H : List (Nat × ESh) := [(1002, .cell (.data (.arr .u8 32))), (1003, .cell (.data (.arr .u64 4))), (1005, .cell (.data (.arr .u64 4)))]
def KX (d : (Unit × Unit × Bool × Unit × Int × Unit)) (e : ((List Int) × (List Int) × (List Int) × Unit)) (v : Int) : St := ⟨mkS S ((), (), d.2.2.1, (), v, ()), mkH H (e.1, e.2.1, e.2.2.1, ())⟩
abbrev RS : List (Nat × Sh) := [(4, .data .bool)]
abbrev RH : List (Nat × ESh) := []
def RX (d : (Unit × Unit × Bool × Unit × Int × Unit)) (e : ((List Int) × (List Int) × (List Int) × Unit)) (v : Bool) : St := ⟨mkS RS (v, ()), mkH RH (())⟩
def sum (k : Nat) : LoopSum := sigLoop S H 0 (fun (d : (Unit × Unit × Bool × Unit × Int × Unit)) (e : ((List Int) × (List Int) × (List Int) × Unit)) => f k d.2.2.1 e.1 e.2.1 e.2.2.1 k d.2.2.2.2.1) KX RX
end l0
def tree {X : Type} (K : Bool → Option X) (k : Nat) (a0 : (List Int)) (a1 : (List Int)) : Option X :=
  (Option.bind (trailheadlaw02_alive.f k) (fun r1 => (bif (!r1) then (K false) else (Option.bind (whole_FromHash.f k a0) (fun r2 => (Option.bind (trailheadlaw02_WholeHashes.l0.f k false a0 a1 r2 k (0 : Int)) (fun r3 => sel r3 (fun v4 => (Option.bind (whole_Hash.f k r2) (fun r6 => (bif (decide (r6 = a0)) then (Option.bind (whole_Hash.f k a1) (fun r7 => (Option.bind (whole_FromHash.f k r7) (fun r8 => (K (decide (r8 = a1))))))) else (K false))))) (fun q5 => (K q5)))))))))
def f (k : Nat) (a0 : (List Int)) (a1 : (List Int)) : Option Bool := tree (fun b0 => some b0) k a0 a1
theorem tree_nat {X Y : Type} (h : X → Option Y) (K : Bool → Option X) (k : Nat) (a0 : (List Int)) (a1 : (List Int)) : Option.bind (tree K k a0 a1) h = tree (fun b0 => Option.bind (K b0) h) k a0 a1 := by
  simp only [tree, bif_bind, sel_bind', Option.bind_assoc, Option.bind_none, Option.bind_some]
abbrev ps : List Sh := [.data (.arr .u8 32), .data (.arr .u64 4)]
abbrev hs : List (Nat × ESh) := []
abbrev hi : List Nat := hs.map (·.1)
def val (t : Bool) : AV := Sh.mk (.data .bool) t
def wr (t : Bool) : Heap := []
def callee (k : Nat) : Callee := sigCallee ps hs (fun (d : ((List Int) × (List Int) × Unit)) (e : Unit) => f k d.1 d.2.1) val wr
def E (k : Nat) : Env := ⟨fnTab [(38, [trailheadlaw02_alive.callee k]), (45, [whole_FromHash.callee k]), (46, [whole_Hash.callee k])], loopTab [(0, l0.sum k)]⟩
theorem fE (k : Nat) : ∀ f, ∀ c ∈ (E k).fn f, CalleeOK Try.prog f c := fnTab_ok ⟨⟨trailheadlaw02_alive.ok k, trivial⟩, ⟨whole_FromHash.ok k, trivial⟩, ⟨whole_Hash.ok k, trivial⟩, trivial⟩
namespace l0
theorem round (k : Nat) (d : (Unit × Unit × Bool × Unit × Int × Unit)) (e : ((List Int) × (List Int) × (List Int) × Unit)) (G : St → Option (Ex × St)) : roundK Try.prog (E k) 40 0 (subC (bodyOf Try.f7) [1, 1, 1, 0, 1, 0, 0]) (restrict (S.map (·.1)) (H.map (·.1))) (finBy (S.map (·.1)) (H.map (·.1)) (RS.map (·.1)) (RH.map (·.1))) G ⟨mkS S d, mkH H e⟩ =
    step (fun x6 => some (.exit 0, KX d e x6)) (fun q0 => some (.ret, RX d e q0)) (fun x6 => G ⟨mkS S ((), (), d.2.2.1, (), x6, ()), mkH H (e.1, e.2.1, e.2.2.1, ())⟩) k d.2.2.1 e.1 e.2.1 e.2.2.1 d.2.2.2.2.1 := by kernel_rfl
theorem it (k n : Nat) (d : (Unit × Unit × Bool × Unit × Int × Unit)) (e : ((List Int) × (List Int) × (List Int) × Unit)) : loopIt Try.prog (E k) 40 0 (subC (bodyOf Try.f7) [1, 1, 1, 0, 1, 0, 0]) (restrict (S.map (·.1)) (H.map (·.1))) (finBy (S.map (·.1)) (H.map (·.1)) (RS.map (·.1)) (RH.map (·.1))) n ⟨mkS S d, mkH H e⟩ = go (fun x6 => some (.exit 0, KX d e x6)) (fun q0 => some (.ret, RX d e q0)) k d.2.2.1 e.1 e.2.1 e.2.2.1 n d.2.2.2.2.1 :=
  loopIt_eq (D := (Unit × Unit × Bool × Unit × Int × Unit) × ((List Int) × (List Int) × (List Int) × Unit)) (fun p => ⟨mkS S p.1, mkH H p.2⟩) (fun F p => step (fun x6 => some (.exit 0, KX p.1 p.2 x6)) (fun q0 => some (.ret, RX p.1 p.2 q0)) (fun x6 => F (((), (), p.1.2.2.1, (), x6, ()), (p.2.1, p.2.2.1, p.2.2.2.1, ()))) k p.1.2.2.1 p.2.1 p.2.2.1 p.2.2.2.1 p.1.2.2.2.2.1) (fun n p => go (fun x6 => some (.exit 0, KX p.1 p.2 x6)) (fun q0 => some (.ret, RX p.1 p.2 q0)) k p.1.2.2.1 p.2.1 p.2.2.1 p.2.2.2.1 n p.1.2.2.2.2.1) (fun _ => rfl) (fun _ _ => rfl) (fun G p => round k p.1 p.2 G) n (d, e)
theorem ok (k : Nat) : LoopOK Try.prog 40 (subC (bodyOf Try.f7) [1, 1, 1, 0, 1, 0, 0]) (sum k) :=
  loop_sig hm (fE k) (loopsOK_of [] (by kernel_rfl) trivial) S H 0 (fun (d : (Unit × Unit × Bool × Unit × Int × Unit)) (e : ((List Int) × (List Int) × (List Int) × Unit)) => f k d.2.2.1 e.1 e.2.1 e.2.2.1 k d.2.2.2.2.1) KX RX (S.map (·.1)) (H.map (·.1)) (RS.map (·.1)) (RH.map (·.1)) k
    (fun d e => (it k k d e).trans (go_nat (exitOf 0 (KX d e) (RX d e)) (fun x6 => some (.inl x6)) (fun q0 => some (.inr q0)) k d.2.2.1 e.1 e.2.1 e.2.2.1 k d.2.2.2.2.1).symm)
end l0
theorem run (k : Nat) (d : ((List Int) × (List Int) × Unit)) (e : Unit) : runFn Try.prog (E k) 40 (bodyOf Try.f7) Try.f7.results.toList hi (mkL ps d) (mkH hs e) =
    tree (fun b0 => leafFn hs hi e val wr b0) k d.1 d.2.1 := by kernel_rfl
theorem run_f (k : Nat) (d : ((List Int) × (List Int) × Unit)) (e : Unit) : runFn Try.prog (E k) 40 (bodyOf Try.f7) Try.f7.results.toList hi (mkL ps d) (mkH hs e) = (f k d.1 d.2.1).bind (leafFn hs hi e val wr) :=
  (run k d e).trans (tree_nat (leafFn hs hi e val wr) (fun b0 => some b0) k d.1 d.2.1).symm
theorem fnIs : FnIs Try.prog 7 Try.f7 (bodyOf Try.f7) 40 := ⟨by kernel_rfl, by kernel_rfl, by kernel_rfl, by kernel_rfl⟩
theorem ok (k : Nat) : CalleeOK Try.prog 7 (callee k) :=
  callee_sig (T := Bool) fnIs hm (fE k) (loopsOK_of [(0, subC (bodyOf Try.f7) [1, 1, 1, 0, 1, 0, 0])] (by kernel_rfl) ⟨of_loop (l0.sum k) rfl (l0.ok k), trivial⟩) ps hs (fun (d : ((List Int) × (List Int) × Unit)) (e : Unit) => f k d.1 d.2.1) val wr rfl (fun _ => rfl) (run_f k)
end trailheadlaw02_WholeHashes
namespace trailheadref02_set
def tree {X : Type} (K : (List Int) → Option X) (k : Nat) (a0 : (List Int)) (a1 : Int) : Option X :=
  (bif (decide (0 ≤ (quoI .i64 a1 64))) then (bif (decide ((quoI .i64 a1 64) < 4)) then (bif (decide ((Int.toNat (quoI .i64 a1 64)) < 4)) then (bif (decide ((IntKind.wrap .u64 (remI a1 64)) < 0)) then none else (bif (decide (0 ≤ (quoI .i64 a1 64))) then (bif (decide ((quoI .i64 a1 64) < 4)) then (bif (decide ((Int.toNat (quoI .i64 a1 64)) < 4)) then (K (List.set a0 (Int.toNat (quoI .i64 a1 64)) (orI .u64 (List.getD a0 (Int.toNat (quoI .i64 a1 64)) 0) (shlI .u64 1 (IntKind.wrap .u64 (remI a1 64)))))) else none) else none) else none)) else none) else none) else none)
def f (k : Nat) (a0 : (List Int)) (a1 : Int) : Option (List Int) := tree (fun b0 => some b0) k a0 a1
theorem tree_nat {X Y : Type} (h : X → Option Y) (K : (List Int) → Option X) (k : Nat) (a0 : (List Int)) (a1 : Int) : Option.bind (tree K k a0 a1) h = tree (fun b0 => Option.bind (K b0) h) k a0 a1 := by
  simp only [tree, bif_bind, sel_bind', Option.bind_assoc, Option.bind_none, Option.bind_some]
abbrev ps : List Sh := [.data (.arr .u64 4), .data (.int .i64)]
abbrev hs : List (Nat × ESh) := []
abbrev hi : List Nat := hs.map (·.1)
def val (t : (List Int)) : AV := Sh.mk (.data (.arr .u64 4)) t
def wr (t : (List Int)) : Heap := []
def callee (k : Nat) : Callee := sigCallee ps hs (fun (d : ((List Int) × Int × Unit)) (e : Unit) => f k d.1 d.2.1) val wr
def E (k : Nat) : Env := ⟨fnTab [], loopTab []⟩
theorem fE (k : Nat) : ∀ f, ∀ c ∈ (E k).fn f, CalleeOK Try.prog f c := fnTab_ok trivial
theorem run (k : Nat) (d : ((List Int) × Int × Unit)) (e : Unit) : runFn Try.prog (E k) 18 (bodyOf Try.f86) Try.f86.results.toList hi (mkL ps d) (mkH hs e) =
    tree (fun b0 => leafFn hs hi e val wr b0) k d.1 d.2.1 := by kernel_rfl
theorem run_f (k : Nat) (d : ((List Int) × Int × Unit)) (e : Unit) : runFn Try.prog (E k) 18 (bodyOf Try.f86) Try.f86.results.toList hi (mkL ps d) (mkH hs e) = (f k d.1 d.2.1).bind (leafFn hs hi e val wr) :=
  (run k d e).trans (tree_nat (leafFn hs hi e val wr) (fun b0 => some b0) k d.1 d.2.1).symm
theorem fnIs : FnIs Try.prog 86 Try.f86 (bodyOf Try.f86) 18 := ⟨by kernel_rfl, by kernel_rfl, by kernel_rfl, by kernel_rfl⟩
theorem ok (k : Nat) : CalleeOK Try.prog 86 (callee k) :=
  callee_sig (T := (List Int)) fnIs hm (fE k) (loopsOK_of [] (by kernel_rfl) trivial) ps hs (fun (d : ((List Int) × Int × Unit)) (e : Unit) => f k d.1 d.2.1) val wr rfl (fun _ => rfl) (run_f k)
end trailheadref02_set
namespace trailheadref02_Add
namespace l0
def step {X : Type} (K : Int → Int → (List Int) → Option X) (G : Int → Int → (List Int) → Option X) (k : Nat) (x5 : Bool) (y1002 : (List Int)) (y1003 : (List Int)) (y1004 : (List Int)) (x7 : Int) (x8 : Int) (y1006 : (List Int)) : Option X :=
  (bif (decide (x8 < (256 : Int))) then (Option.bind (trailheadref02_Bit.f k y1002 x8) (fun r1 => (Option.bind (trailheadref02_Bit.f k y1003 x8) (fun r2 => (bif ((remI (addI .i64 (addI .i64 r1 r2) x7) 2) == (1 : Int)) then (Option.bind (trailheadref02_set.f k y1006 x8) (fun r3 => (G (quoI .i64 (addI .i64 (addI .i64 r1 r2) x7) 2) (addI .i64 x8 1) r3))) else (G (quoI .i64 (addI .i64 (addI .i64 r1 r2) x7) 2) (addI .i64 x8 1) y1006)))))) else (K x7 x8 y1006))
def go {X : Type} (K : Int → Int → (List Int) → Option X) (k : Nat) (x5 : Bool) (y1002 : (List Int)) (y1003 : (List Int)) (y1004 : (List Int)) : Nat → Int → Int → (List Int) → Option X
  | 0, _, _, _ => none
  | n + 1, x7, x8, y1006 => step K (go K k x5 y1002 y1003 y1004 n) k x5 y1002 y1003 y1004 x7 x8 y1006
def f (k : Nat) (x5 : Bool) (y1002 : (List Int)) (y1003 : (List Int)) (y1004 : (List Int)) (n : Nat) (x7 : Int) (x8 : Int) (y1006 : (List Int)) : Option (Int × (Int × (List Int))) := go (fun x7 x8 y1006 => some (x7, x8, y1006)) k x5 y1002 y1003 y1004 n x7 x8 y1006
theorem step_nat {X Y : Type} (h : X → Option Y) (K : Int → Int → (List Int) → Option X) (G : Int → Int → (List Int) → Option X) (k : Nat) (x5 : Bool) (y1002 : (List Int)) (y1003 : (List Int)) (y1004 : (List Int)) (x7 : Int) (x8 : Int) (y1006 : (List Int)) : Option.bind (step K G k x5 y1002 y1003 y1004 x7 x8 y1006) h = step (fun x7 x8 y1006 => Option.bind (K x7 x8 y1006) h) (fun x7 x8 y1006 => Option.bind (G x7 x8 y1006) h) k x5 y1002 y1003 y1004 x7 x8 y1006 := by
  simp only [step, bif_bind, sel_bind', Option.bind_assoc, Option.bind_none, Option.bind_some]
theorem go_nat {X Y : Type} (h : X → Option Y) (K : Int → Int → (List Int) → Option X) (k : Nat) (x5 : Bool) (y1002 : (List Int)) (y1003 : (List Int)) (y1004 : (List Int)) (n : Nat) : ∀ (x7 : Int) (x8 : Int) (y1006 : (List Int)), Option.bind (go K k x5 y1002 y1003 y1004 n x7 x8 y1006) h = go (fun x7 x8 y1006 => Option.bind (K x7 x8 y1006) h) k x5 y1002 y1003 y1004 n x7 x8 y1006 := by
  induction n with
  | zero => intros; rfl
  | succ n ih => intro x7 x8 y1006; show Option.bind (step K (go K k x5 y1002 y1003 y1004 n) k x5 y1002 y1003 y1004 x7 x8 y1006) h = step (fun x7 x8 y1006 => Option.bind (K x7 x8 y1006) h) (go (fun x7 x8 y1006 => Option.bind (K x7 x8 y1006) h) k x5 y1002 y1003 y1004 n) k x5 y1002 y1003 y1004 x7 x8 y1006; rw [step_nat h]; simp only [ih]
abbrev S : List (Nat × Sh) := [(2, .ptr 1002), (3, .ptr 1003), (4, .ptr 1004), (5, .data .bool), (6, .ptr 1006), (7, .data (.int .i64)), (8, .data (.int .i64))]
abbrev H : List (Nat × ESh) := [(1002, .cell (.data (.arr .u64 4))), (1003, .cell (.data (.arr .u64 4))), (1004, .cell (.data (.arr .u64 4))), (1006, .cell (.data (.arr .u64 4)))]
def KX (d : (Unit × Unit × Unit × Bool × Unit × Int × Int × Unit)) (e : ((List Int) × (List Int) × (List Int) × (List Int) × Unit)) (v : (Int × (Int × (List Int)))) : St := ⟨mkS S ((), (), (), d.2.2.2.1, (), v.1, v.2.1, ()), mkH H (e.1, e.2.1, e.2.2.1, v.2.2, ())⟩
def sum (k : Nat) : LoopSum := sigLoopX S H 0 (fun (d : (Unit × Unit × Unit × Bool × Unit × Int × Int × Unit)) (e : ((List Int) × (List Int) × (List Int) × (List Int) × Unit)) => f k d.2.2.2.1 e.1 e.2.1 e.2.2.1 k d.2.2.2.2.2.1 d.2.2.2.2.2.2.1 e.2.2.2.1) KX
end l0
def tree {X : Type} (K : (List Int) → Bool → Option X) (k : Nat) (a0 : (List Int)) (a1 : (List Int)) : Option X :=
  (Option.bind (trailheadref02_Add.l0.f k false a0 a1 ([0, 0, 0, 0] : (List Int)) k (0 : Int) (0 : Int) ([0, 0, 0, 0] : (List Int))) (fun r4 => (K r4.2.2 (r4.1 == (1 : Int)))))
def f (k : Nat) (a0 : (List Int)) (a1 : (List Int)) : Option ((List Int) × Bool) := tree (fun b0 b1 => some (b0, b1)) k a0 a1
theorem tree_nat {X Y : Type} (h : X → Option Y) (K : (List Int) → Bool → Option X) (k : Nat) (a0 : (List Int)) (a1 : (List Int)) : Option.bind (tree K k a0 a1) h = tree (fun b0 b1 => Option.bind (K b0 b1) h) k a0 a1 := by
  simp only [tree, bif_bind, sel_bind', Option.bind_assoc, Option.bind_none, Option.bind_some]
abbrev ps : List Sh := [.data (.arr .u64 4), .data (.arr .u64 4)]
abbrev hs : List (Nat × ESh) := []
abbrev hi : List Nat := hs.map (·.1)
def val (t : ((List Int) × Bool)) : AV := .tcons (Sh.mk (.data (.arr .u64 4)) t.1) (.tcons (Sh.mk (.data .bool) t.2) .tnil)
def wr (t : ((List Int) × Bool)) : Heap := []
def callee (k : Nat) : Callee := sigCallee ps hs (fun (d : ((List Int) × (List Int) × Unit)) (e : Unit) => f k d.1 d.2.1) val wr
def E (k : Nat) : Env := ⟨fnTab [(40, [trailheadref02_Bit.callee k]), (86, [trailheadref02_set.callee k])], loopTab [(0, l0.sum k)]⟩
theorem fE (k : Nat) : ∀ f, ∀ c ∈ (E k).fn f, CalleeOK Try.prog f c := fnTab_ok ⟨⟨trailheadref02_Bit.ok k, trivial⟩, ⟨trailheadref02_set.ok k, trivial⟩, trivial⟩
namespace l0
theorem round (k : Nat) (d : (Unit × Unit × Unit × Bool × Unit × Int × Int × Unit)) (e : ((List Int) × (List Int) × (List Int) × (List Int) × Unit)) (G : St → Option (Ex × St)) : roundK Try.prog (E k) 35 0 (subC (bodyOf Try.f52) [1, 1, 1, 0, 1, 0, 0]) (restrict (S.map (·.1)) (H.map (·.1))) (finBy (S.map (·.1)) (H.map (·.1)) [] []) G ⟨mkS S d, mkH H e⟩ =
    step (fun x7 x8 y1006 => some (.exit 0, KX d e (x7, x8, y1006))) (fun x7 x8 y1006 => G ⟨mkS S ((), (), (), d.2.2.2.1, (), x7, x8, ()), mkH H (e.1, e.2.1, e.2.2.1, y1006, ())⟩) k d.2.2.2.1 e.1 e.2.1 e.2.2.1 d.2.2.2.2.2.1 d.2.2.2.2.2.2.1 e.2.2.2.1 := by kernel_rfl
theorem it (k n : Nat) (d : (Unit × Unit × Unit × Bool × Unit × Int × Int × Unit)) (e : ((List Int) × (List Int) × (List Int) × (List Int) × Unit)) : loopIt Try.prog (E k) 35 0 (subC (bodyOf Try.f52) [1, 1, 1, 0, 1, 0, 0]) (restrict (S.map (·.1)) (H.map (·.1))) (finBy (S.map (·.1)) (H.map (·.1)) [] []) n ⟨mkS S d, mkH H e⟩ = go (fun x7 x8 y1006 => some (.exit 0, KX d e (x7, x8, y1006))) k d.2.2.2.1 e.1 e.2.1 e.2.2.1 n d.2.2.2.2.2.1 d.2.2.2.2.2.2.1 e.2.2.2.1 :=
  loopIt_eq (D := (Unit × Unit × Unit × Bool × Unit × Int × Int × Unit) × ((List Int) × (List Int) × (List Int) × (List Int) × Unit)) (fun p => ⟨mkS S p.1, mkH H p.2⟩) (fun F p => step (fun x7 x8 y1006 => some (.exit 0, KX p.1 p.2 (x7, x8, y1006))) (fun x7 x8 y1006 => F (((), (), (), p.1.2.2.2.1, (), x7, x8, ()), (p.2.1, p.2.2.1, p.2.2.2.1, y1006, ()))) k p.1.2.2.2.1 p.2.1 p.2.2.1 p.2.2.2.1 p.1.2.2.2.2.2.1 p.1.2.2.2.2.2.2.1 p.2.2.2.2.1) (fun n p => go (fun x7 x8 y1006 => some (.exit 0, KX p.1 p.2 (x7, x8, y1006))) k p.1.2.2.2.1 p.2.1 p.2.2.1 p.2.2.2.1 n p.1.2.2.2.2.2.1 p.1.2.2.2.2.2.2.1 p.2.2.2.2.1) (fun _ => rfl) (fun _ _ => rfl) (fun G p => round k p.1 p.2 G) n (d, e)
theorem ok (k : Nat) : LoopOK Try.prog 35 (subC (bodyOf Try.f52) [1, 1, 1, 0, 1, 0, 0]) (sum k) :=
  loop_sigX hm (fE k) (loopsOK_of [] (by kernel_rfl) trivial) S H 0 (fun (d : (Unit × Unit × Unit × Bool × Unit × Int × Int × Unit)) (e : ((List Int) × (List Int) × (List Int) × (List Int) × Unit)) => f k d.2.2.2.1 e.1 e.2.1 e.2.2.1 k d.2.2.2.2.2.1 d.2.2.2.2.2.2.1 e.2.2.2.1) KX (S.map (·.1)) (H.map (·.1)) [] [] k
    (fun d e => (it k k d e).trans (go_nat (fun v => some (Ex.exit 0, KX d e v)) (fun x7 x8 y1006 => some (x7, x8, y1006)) k d.2.2.2.1 e.1 e.2.1 e.2.2.1 k d.2.2.2.2.2.1 d.2.2.2.2.2.2.1 e.2.2.2.1).symm)
end l0
theorem run (k : Nat) (d : ((List Int) × (List Int) × Unit)) (e : Unit) : runFn Try.prog (E k) 35 (bodyOf Try.f52) Try.f52.results.toList hi (mkL ps d) (mkH hs e) =
    tree (fun b0 b1 => leafFn hs hi e val wr (b0, b1)) k d.1 d.2.1 := by kernel_rfl
theorem run_f (k : Nat) (d : ((List Int) × (List Int) × Unit)) (e : Unit) : runFn Try.prog (E k) 35 (bodyOf Try.f52) Try.f52.results.toList hi (mkL ps d) (mkH hs e) = (f k d.1 d.2.1).bind (leafFn hs hi e val wr) :=
  (run k d e).trans (tree_nat (leafFn hs hi e val wr) (fun b0 b1 => some (b0, b1)) k d.1 d.2.1).symm
theorem fnIs : FnIs Try.prog 52 Try.f52 (bodyOf Try.f52) 35 := ⟨by kernel_rfl, by kernel_rfl, by kernel_rfl, by kernel_rfl⟩
theorem ok (k : Nat) : CalleeOK Try.prog 52 (callee k) :=
  callee_sig (T := ((List Int) × Bool)) fnIs hm (fE k) (loopsOK_of [(0, subC (bodyOf Try.f52) [1, 1, 1, 0, 1, 0, 0])] (by kernel_rfl) ⟨of_loop (l0.sum k) rfl (l0.ok k), trivial⟩) ps hs (fun (d : ((List Int) × (List Int) × Unit)) (e : Unit) => f k d.1 d.2.1) val wr rfl (fun _ => rfl) (run_f k)
end trailheadref02_Add
namespace whole_Sub
namespace l0
def step {X : Type} (K : Int → Int → (List Int) → Option X) (G : Int → Int → (List Int) → Option X) (k : Nat) (x5 : Bool) (y1003 : (List Int)) (y1004 : (List Int)) (x6 : Int) (x8 : Int) (y1002 : (List Int)) : Option X :=
  (bif (decide (x8 < (4 : Int))) then (bif (decide (0 ≤ x8)) then (bif (decide (x8 < 4)) then (bif (decide ((Int.toNat x8) < 4)) then (bif (decide (0 ≤ x8)) then (bif (decide (x8 < 4)) then (bif (decide ((Int.toNat x8) < 4)) then (Option.bind (sub64 (List.getD y1002 (Int.toNat x8) 0) (List.getD y1003 (Int.toNat x8) 0) x6) (fun r1 => (bif (decide (0 ≤ x8)) then (bif (decide (x8 < 4)) then (bif (decide ((Int.toNat x8) < 4)) then (G r1.2 (addI .i64 x8 1) (List.set y1002 (Int.toNat x8) r1.1)) else none) else none) else none))) else none) else none) else none) else none) else none) else none) else (K x6 x8 y1002))
def go {X : Type} (K : Int → Int → (List Int) → Option X) (k : Nat) (x5 : Bool) (y1003 : (List Int)) (y1004 : (List Int)) : Nat → Int → Int → (List Int) → Option X
  | 0, _, _, _ => none
  | n + 1, x6, x8, y1002 => step K (go K k x5 y1003 y1004 n) k x5 y1003 y1004 x6 x8 y1002
def f (k : Nat) (x5 : Bool) (y1003 : (List Int)) (y1004 : (List Int)) (n : Nat) (x6 : Int) (x8 : Int) (y1002 : (List Int)) : Option (Int × (Int × (List Int))) := go (fun x6 x8 y1002 => some (x6, x8, y1002)) k x5 y1003 y1004 n x6 x8 y1002
theorem step_nat {X Y : Type} (h : X → Option Y) (K : Int → Int → (List Int) → Option X) (G : Int → Int → (List Int) → Option X) (k : Nat) (x5 : Bool) (y1003 : (List Int)) (y1004 : (List Int)) (x6 : Int) (x8 : Int) (y1002 : (List Int)) : Option.bind (step K G k x5 y1003 y1004 x6 x8 y1002) h = step (fun x6 x8 y1002 => Option.bind (K x6 x8 y1002) h) (fun x6 x8 y1002 => Option.bind (G x6 x8 y1002) h) k x5 y1003 y1004 x6 x8 y1002 := by
  simp only [step, bif_bind, sel_bind', Option.bind_assoc, Option.bind_none, Option.bind_some]
theorem go_nat {X Y : Type} (h : X → Option Y) (K : Int → Int → (List Int) → Option X) (k : Nat) (x5 : Bool) (y1003 : (List Int)) (y1004 : (List Int)) (n : Nat) : ∀ (x6 : Int) (x8 : Int) (y1002 : (List Int)), Option.bind (go K k x5 y1003 y1004 n x6 x8 y1002) h = go (fun x6 x8 y1002 => Option.bind (K x6 x8 y1002) h) k x5 y1003 y1004 n x6 x8 y1002 := by
  induction n with
  | zero => intros; rfl
  | succ n ih => intro x6 x8 y1002; show Option.bind (step K (go K k x5 y1003 y1004 n) k x5 y1003 y1004 x6 x8 y1002) h = step (fun x6 x8 y1002 => Option.bind (K x6 x8 y1002) h) (go (fun x6 x8 y1002 => Option.bind (K x6 x8 y1002) h) k x5 y1003 y1004 n) k x5 y1003 y1004 x6 x8 y1002; rw [step_nat h]; simp only [ih]
abbrev S : List (Nat × Sh) := [(2, .ptr 1002), (3, .ptr 1003), (4, .ptr 1004), (5, .data .bool), (6, .data (.int .u64)), (8, .data (.int .i64))]
abbrev H : List (Nat × ESh) := [(1002, .cell (.data (.arr .u64 4))), (1003, .cell (.data (.arr .u64 4))), (1004, .cell (.data (.arr .u64 4)))]
def KX (d : (Unit × Unit × Unit × Bool × Int × Int × Unit)) (e : ((List Int) × (List Int) × (List Int) × Unit)) (v : (Int × (Int × (List Int)))) : St := ⟨mkS S ((), (), (), d.2.2.2.1, v.1, v.2.1, ()), mkH H (v.2.2, e.2.1, e.2.2.1, ())⟩
def sum (k : Nat) : LoopSum := sigLoopX S H 0 (fun (d : (Unit × Unit × Unit × Bool × Int × Int × Unit)) (e : ((List Int) × (List Int) × (List Int) × Unit)) => f k d.2.2.2.1 e.2.1 e.2.2.1 k d.2.2.2.2.1 d.2.2.2.2.2.1 e.1) KX
end l0
def tree {X : Type} (K : (List Int) → Bool → Option X) (k : Nat) (a0 : (List Int)) (a1 : (List Int)) : Option X :=
  (Option.bind (whole_Sub.l0.f k false a1 ([0, 0, 0, 0] : (List Int)) k (0 : Int) (0 : Int) a0) (fun r2 => (K r2.2.2 (r2.1 != (0 : Int)))))
def f (k : Nat) (a0 : (List Int)) (a1 : (List Int)) : Option ((List Int) × Bool) := tree (fun b0 b1 => some (b0, b1)) k a0 a1
theorem tree_nat {X Y : Type} (h : X → Option Y) (K : (List Int) → Bool → Option X) (k : Nat) (a0 : (List Int)) (a1 : (List Int)) : Option.bind (tree K k a0 a1) h = tree (fun b0 b1 => Option.bind (K b0 b1) h) k a0 a1 := by
  simp only [tree, bif_bind, sel_bind', Option.bind_assoc, Option.bind_none, Option.bind_some]
abbrev ps : List Sh := [.data (.arr .u64 4), .data (.arr .u64 4)]
abbrev hs : List (Nat × ESh) := []
abbrev hi : List Nat := hs.map (·.1)
def val (t : ((List Int) × Bool)) : AV := .tcons (Sh.mk (.data (.arr .u64 4)) t.1) (.tcons (Sh.mk (.data .bool) t.2) .tnil)
def wr (t : ((List Int) × Bool)) : Heap := []
def callee (k : Nat) : Callee := sigCallee ps hs (fun (d : ((List Int) × (List Int) × Unit)) (e : Unit) => f k d.1 d.2.1) val wr
def E (k : Nat) : Env := ⟨fnTab [(87, [.ext (Int × Int) (run3 sub64) pair64])], loopTab [(0, l0.sum k)]⟩
theorem fE (k : Nat) : ∀ f, ∀ c ∈ (E k).fn f, CalleeOK Try.prog f c := fnTab_ok ⟨⟨ext87, trivial⟩, trivial⟩
namespace l0
theorem round (k : Nat) (d : (Unit × Unit × Unit × Bool × Int × Int × Unit)) (e : ((List Int) × (List Int) × (List Int) × Unit)) (G : St → Option (Ex × St)) : roundK Try.prog (E k) 28 0 (subC (bodyOf Try.f53) [1, 1, 0, 1, 0, 0]) (restrict (S.map (·.1)) (H.map (·.1))) (finBy (S.map (·.1)) (H.map (·.1)) [] []) G ⟨mkS S d, mkH H e⟩ =
    step (fun x6 x8 y1002 => some (.exit 0, KX d e (x6, x8, y1002))) (fun x6 x8 y1002 => G ⟨mkS S ((), (), (), d.2.2.2.1, x6, x8, ()), mkH H (y1002, e.2.1, e.2.2.1, ())⟩) k d.2.2.2.1 e.2.1 e.2.2.1 d.2.2.2.2.1 d.2.2.2.2.2.1 e.1 := by kernel_rfl
theorem it (k n : Nat) (d : (Unit × Unit × Unit × Bool × Int × Int × Unit)) (e : ((List Int) × (List Int) × (List Int) × Unit)) : loopIt Try.prog (E k) 28 0 (subC (bodyOf Try.f53) [1, 1, 0, 1, 0, 0]) (restrict (S.map (·.1)) (H.map (·.1))) (finBy (S.map (·.1)) (H.map (·.1)) [] []) n ⟨mkS S d, mkH H e⟩ = go (fun x6 x8 y1002 => some (.exit 0, KX d e (x6, x8, y1002))) k d.2.2.2.1 e.2.1 e.2.2.1 n d.2.2.2.2.1 d.2.2.2.2.2.1 e.1 :=
  loopIt_eq (D := (Unit × Unit × Unit × Bool × Int × Int × Unit) × ((List Int) × (List Int) × (List Int) × Unit)) (fun p => ⟨mkS S p.1, mkH H p.2⟩) (fun F p => step (fun x6 x8 y1002 => some (.exit 0, KX p.1 p.2 (x6, x8, y1002))) (fun x6 x8 y1002 => F (((), (), (), p.1.2.2.2.1, x6, x8, ()), (y1002, p.2.2.1, p.2.2.2.1, ()))) k p.1.2.2.2.1 p.2.2.1 p.2.2.2.1 p.1.2.2.2.2.1 p.1.2.2.2.2.2.1 p.2.1) (fun n p => go (fun x6 x8 y1002 => some (.exit 0, KX p.1 p.2 (x6, x8, y1002))) k p.1.2.2.2.1 p.2.2.1 p.2.2.2.1 n p.1.2.2.2.2.1 p.1.2.2.2.2.2.1 p.2.1) (fun _ => rfl) (fun _ _ => rfl) (fun G p => round k p.1 p.2 G) n (d, e)
theorem ok (k : Nat) : LoopOK Try.prog 28 (subC (bodyOf Try.f53) [1, 1, 0, 1, 0, 0]) (sum k) :=
  loop_sigX hm (fE k) (loopsOK_of [] (by kernel_rfl) trivial) S H 0 (fun (d : (Unit × Unit × Unit × Bool × Int × Int × Unit)) (e : ((List Int) × (List Int) × (List Int) × Unit)) => f k d.2.2.2.1 e.2.1 e.2.2.1 k d.2.2.2.2.1 d.2.2.2.2.2.1 e.1) KX (S.map (·.1)) (H.map (·.1)) [] [] k
    (fun d e => (it k k d e).trans (go_nat (fun v => some (Ex.exit 0, KX d e v)) (fun x6 x8 y1002 => some (x6, x8, y1002)) k d.2.2.2.1 e.2.1 e.2.2.1 k d.2.2.2.2.1 d.2.2.2.2.2.1 e.1).symm)
end l0
theorem run (k : Nat) (d : ((List Int) × (List Int) × Unit)) (e : Unit) : runFn Try.prog (E k) 28 (bodyOf Try.f53) Try.f53.results.toList hi (mkL ps d) (mkH hs e) =
    tree (fun b0 b1 => leafFn hs hi e val wr (b0, b1)) k d.1 d.2.1 := by kernel_rfl
theorem run_f (k : Nat) (d : ((List Int) × (List Int) × Unit)) (e : Unit) : runFn Try.prog (E k) 28 (bodyOf Try.f53) Try.f53.results.toList hi (mkL ps d) (mkH hs e) = (f k d.1 d.2.1).bind (leafFn hs hi e val wr) :=
  (run k d e).trans (tree_nat (leafFn hs hi e val wr) (fun b0 b1 => some (b0, b1)) k d.1 d.2.1).symm
theorem fnIs : FnIs Try.prog 53 Try.f53 (bodyOf Try.f53) 28 := ⟨by kernel_rfl, by kernel_rfl, by kernel_rfl, by kernel_rfl⟩
theorem ok (k : Nat) : CalleeOK Try.prog 53 (callee k) :=
  callee_sig (T := ((List Int) × Bool)) fnIs hm (fE k) (loopsOK_of [(0, subC (bodyOf Try.f53) [1, 1, 0, 1, 0, 0])] (by kernel_rfl) ⟨of_loop (l0.sum k) rfl (l0.ok k), trivial⟩) ps hs (fun (d : ((List Int) × (List Int) × Unit)) (e : Unit) => f k d.1 d.2.1) val wr rfl (fun _ => rfl) (run_f k)
end whole_Sub
namespace trailheadref02_Not
namespace l0
def step {X : Type} (K : Int → (List Int) → Option X) (G : Int → (List Int) → Option X) (k : Nat) (y1001 : (List Int)) (y1002 : (List Int)) (x4 : Int) (y1003 : (List Int)) : Option X :=
  (bif (decide (x4 < (256 : Int))) then (Option.bind (trailheadref02_Bit.f k y1001 x4) (fun r1 => (bif (r1 == (0 : Int)) then (Option.bind (trailheadref02_set.f k y1003 x4) (fun r2 => (G (addI .i64 x4 1) r2))) else (G (addI .i64 x4 1) y1003)))) else (K x4 y1003))
def go {X : Type} (K : Int → (List Int) → Option X) (k : Nat) (y1001 : (List Int)) (y1002 : (List Int)) : Nat → Int → (List Int) → Option X
  | 0, _, _ => none
  | n + 1, x4, y1003 => step K (go K k y1001 y1002 n) k y1001 y1002 x4 y1003
def f (k : Nat) (y1001 : (List Int)) (y1002 : (List Int)) (n : Nat) (x4 : Int) (y1003 : (List Int)) : Option (Int × (List Int)) := go (fun x4 y1003 => some (x4, y1003)) k y1001 y1002 n x4 y1003
theorem step_nat {X Y : Type} (h : X → Option Y) (K : Int → (List Int) → Option X) (G : Int → (List Int) → Option X) (k : Nat) (y1001 : (List Int)) (y1002 : (List Int)) (x4 : Int) (y1003 : (List Int)) : Option.bind (step K G k y1001 y1002 x4 y1003) h = step (fun x4 y1003 => Option.bind (K x4 y1003) h) (fun x4 y1003 => Option.bind (G x4 y1003) h) k y1001 y1002 x4 y1003 := by
  simp only [step, bif_bind, sel_bind', Option.bind_assoc, Option.bind_none, Option.bind_some]
theorem go_nat {X Y : Type} (h : X → Option Y) (K : Int → (List Int) → Option X) (k : Nat) (y1001 : (List Int)) (y1002 : (List Int)) (n : Nat) : ∀ (x4 : Int) (y1003 : (List Int)), Option.bind (go K k y1001 y1002 n x4 y1003) h = go (fun x4 y1003 => Option.bind (K x4 y1003) h) k y1001 y1002 n x4 y1003 := by
  induction n with
  | zero => intros; rfl
  | succ n ih => intro x4 y1003; show Option.bind (step K (go K k y1001 y1002 n) k y1001 y1002 x4 y1003) h = step (fun x4 y1003 => Option.bind (K x4 y1003) h) (go (fun x4 y1003 => Option.bind (K x4 y1003) h) k y1001 y1002 n) k y1001 y1002 x4 y1003; rw [step_nat h]; simp only [ih]
abbrev S : List (Nat × Sh) := [(1, .ptr 1001), (2, .ptr 1002), (3, .ptr 1003), (4, .data (.int .i64))]
abbrev H : List (Nat × ESh) := [(1001, .cell (.data (.arr .u64 4))), (1002, .cell (.data (.arr .u64 4))), (1003, .cell (.data (.arr .u64 4)))]
def KX (d : (Unit × Unit × Unit × Int × Unit)) (e : ((List Int) × (List Int) × (List Int) × Unit)) (v : (Int × (List Int))) : St := ⟨mkS S ((), (), (), v.1, ()), mkH H (e.1, e.2.1, v.2, ())⟩
def sum (k : Nat) : LoopSum := sigLoopX S H 0 (fun (d : (Unit × Unit × Unit × Int × Unit)) (e : ((List Int) × (List Int) × (List Int) × Unit)) => f k e.1 e.2.1 k d.2.2.2.1 e.2.2.1) KX
end l0
def tree {X : Type} (K : (List Int) → Option X) (k : Nat) (a0 : (List Int)) : Option X :=
  (Option.bind (trailheadref02_Not.l0.f k a0 ([0, 0, 0, 0] : (List Int)) k (0 : Int) ([0, 0, 0, 0] : (List Int))) (fun r3 => (K r3.2)))
def f (k : Nat) (a0 : (List Int)) : Option (List Int) := tree (fun b0 => some b0) k a0
theorem tree_nat {X Y : Type} (h : X → Option Y) (K : (List Int) → Option X) (k : Nat) (a0 : (List Int)) : Option.bind (tree K k a0) h = tree (fun b0 => Option.bind (K b0) h) k a0 := by
  simp only [tree, bif_bind, sel_bind', Option.bind_assoc, Option.bind_none, Option.bind_some]
abbrev ps : List Sh := [.data (.arr .u64 4)]
abbrev hs : List (Nat × ESh) := []
abbrev hi : List Nat := hs.map (·.1)
def val (t : (List Int)) : AV := Sh.mk (.data (.arr .u64 4)) t
def wr (t : (List Int)) : Heap := []
def callee (k : Nat) : Callee := sigCallee ps hs (fun (d : ((List Int) × Unit)) (e : Unit) => f k d.1) val wr
def E (k : Nat) : Env := ⟨fnTab [(40, [trailheadref02_Bit.callee k]), (86, [trailheadref02_set.callee k])], loopTab [(0, l0.sum k)]⟩
theorem fE (k : Nat) : ∀ f, ∀ c ∈ (E k).fn f, CalleeOK Try.prog f c := fnTab_ok ⟨⟨trailheadref02_Bit.ok k, trivial⟩, ⟨trailheadref02_set.ok k, trivial⟩, trivial⟩
namespace l0
theorem round (k : Nat) (d : (Unit × Unit × Unit × Int × Unit)) (e : ((List Int) × (List Int) × (List Int) × Unit)) (G : St → Option (Ex × St)) : roundK Try.prog (E k) 18 0 (subC (bodyOf Try.f57) [1, 1, 0, 1, 0, 0]) (restrict (S.map (·.1)) (H.map (·.1))) (finBy (S.map (·.1)) (H.map (·.1)) [] []) G ⟨mkS S d, mkH H e⟩ =
    step (fun x4 y1003 => some (.exit 0, KX d e (x4, y1003))) (fun x4 y1003 => G ⟨mkS S ((), (), (), x4, ()), mkH H (e.1, e.2.1, y1003, ())⟩) k e.1 e.2.1 d.2.2.2.1 e.2.2.1 := by kernel_rfl
theorem it (k n : Nat) (d : (Unit × Unit × Unit × Int × Unit)) (e : ((List Int) × (List Int) × (List Int) × Unit)) : loopIt Try.prog (E k) 18 0 (subC (bodyOf Try.f57) [1, 1, 0, 1, 0, 0]) (restrict (S.map (·.1)) (H.map (·.1))) (finBy (S.map (·.1)) (H.map (·.1)) [] []) n ⟨mkS S d, mkH H e⟩ = go (fun x4 y1003 => some (.exit 0, KX d e (x4, y1003))) k e.1 e.2.1 n d.2.2.2.1 e.2.2.1 :=
  loopIt_eq (D := (Unit × Unit × Unit × Int × Unit) × ((List Int) × (List Int) × (List Int) × Unit)) (fun p => ⟨mkS S p.1, mkH H p.2⟩) (fun F p => step (fun x4 y1003 => some (.exit 0, KX p.1 p.2 (x4, y1003))) (fun x4 y1003 => F (((), (), (), x4, ()), (p.2.1, p.2.2.1, y1003, ()))) k p.2.1 p.2.2.1 p.1.2.2.2.1 p.2.2.2.1) (fun n p => go (fun x4 y1003 => some (.exit 0, KX p.1 p.2 (x4, y1003))) k p.2.1 p.2.2.1 n p.1.2.2.2.1 p.2.2.2.1) (fun _ => rfl) (fun _ _ => rfl) (fun G p => round k p.1 p.2 G) n (d, e)
theorem ok (k : Nat) : LoopOK Try.prog 18 (subC (bodyOf Try.f57) [1, 1, 0, 1, 0, 0]) (sum k) :=
  loop_sigX hm (fE k) (loopsOK_of [] (by kernel_rfl) trivial) S H 0 (fun (d : (Unit × Unit × Unit × Int × Unit)) (e : ((List Int) × (List Int) × (List Int) × Unit)) => f k e.1 e.2.1 k d.2.2.2.1 e.2.2.1) KX (S.map (·.1)) (H.map (·.1)) [] [] k
    (fun d e => (it k k d e).trans (go_nat (fun v => some (Ex.exit 0, KX d e v)) (fun x4 y1003 => some (x4, y1003)) k e.1 e.2.1 k d.2.2.2.1 e.2.2.1).symm)
end l0
theorem run (k : Nat) (d : ((List Int) × Unit)) (e : Unit) : runFn Try.prog (E k) 18 (bodyOf Try.f57) Try.f57.results.toList hi (mkL ps d) (mkH hs e) =
    tree (fun b0 => leafFn hs hi e val wr b0) k d.1 := by kernel_rfl
theorem run_f (k : Nat) (d : ((List Int) × Unit)) (e : Unit) : runFn Try.prog (E k) 18 (bodyOf Try.f57) Try.f57.results.toList hi (mkL ps d) (mkH hs e) = (f k d.1).bind (leafFn hs hi e val wr) :=
  (run k d e).trans (tree_nat (leafFn hs hi e val wr) (fun b0 => some b0) k d.1).symm
theorem fnIs : FnIs Try.prog 57 Try.f57 (bodyOf Try.f57) 18 := ⟨by kernel_rfl, by kernel_rfl, by kernel_rfl, by kernel_rfl⟩
theorem ok (k : Nat) : CalleeOK Try.prog 57 (callee k) :=
  callee_sig (T := (List Int)) fnIs hm (fE k) (loopsOK_of [(0, subC (bodyOf Try.f57) [1, 1, 0, 1, 0, 0])] (by kernel_rfl) ⟨of_loop (l0.sum k) rfl (l0.ok k), trivial⟩) ps hs (fun (d : ((List Int) × Unit)) (e : Unit) => f k d.1) val wr rfl (fun _ => rfl) (run_f k)
end trailheadref02_Not
namespace trailheadref02_Sub
def tree {X : Type} (K : (List Int) → Bool → Option X) (k : Nat) (a0 : (List Int)) (a1 : (List Int)) : Option X :=
  (Option.bind (trailheadref02_Not.f k a1) (fun r1 => (Option.bind (trailheadref02_Add.f k a0 r1) (fun r2 => (Option.bind (trailheadref02_Add.f k r2.1 ([1, 0, 0, 0] : (List Int))) (fun r3 => (Option.bind (trailheadref02_Less.f k a0 a1) (fun r4 => (K r3.1 r4)))))))))
def f (k : Nat) (a0 : (List Int)) (a1 : (List Int)) : Option ((List Int) × Bool) := tree (fun b0 b1 => some (b0, b1)) k a0 a1
theorem tree_nat {X Y : Type} (h : X → Option Y) (K : (List Int) → Bool → Option X) (k : Nat) (a0 : (List Int)) (a1 : (List Int)) : Option.bind (tree K k a0 a1) h = tree (fun b0 b1 => Option.bind (K b0 b1) h) k a0 a1 := by
  simp only [tree, bif_bind, sel_bind', Option.bind_assoc, Option.bind_none, Option.bind_some]
abbrev ps : List Sh := [.data (.arr .u64 4), .data (.arr .u64 4)]
abbrev hs : List (Nat × ESh) := []
abbrev hi : List Nat := hs.map (·.1)
def val (t : ((List Int) × Bool)) : AV := .tcons (Sh.mk (.data (.arr .u64 4)) t.1) (.tcons (Sh.mk (.data .bool) t.2) .tnil)
def wr (t : ((List Int) × Bool)) : Heap := []
def callee (k : Nat) : Callee := sigCallee ps hs (fun (d : ((List Int) × (List Int) × Unit)) (e : Unit) => f k d.1 d.2.1) val wr
def E (k : Nat) : Env := ⟨fnTab [(57, [trailheadref02_Not.callee k]), (52, [trailheadref02_Add.callee k]), (29, [trailheadref02_Less.callee k])], loopTab []⟩
theorem fE (k : Nat) : ∀ f, ∀ c ∈ (E k).fn f, CalleeOK Try.prog f c := fnTab_ok ⟨⟨trailheadref02_Not.ok k, trivial⟩, ⟨trailheadref02_Add.ok k, trivial⟩, ⟨trailheadref02_Less.ok k, trivial⟩, trivial⟩
theorem run (k : Nat) (d : ((List Int) × (List Int) × Unit)) (e : Unit) : runFn Try.prog (E k) 25 (bodyOf Try.f54) Try.f54.results.toList hi (mkL ps d) (mkH hs e) =
    tree (fun b0 b1 => leafFn hs hi e val wr (b0, b1)) k d.1 d.2.1 := by kernel_rfl
theorem run_f (k : Nat) (d : ((List Int) × (List Int) × Unit)) (e : Unit) : runFn Try.prog (E k) 25 (bodyOf Try.f54) Try.f54.results.toList hi (mkL ps d) (mkH hs e) = (f k d.1 d.2.1).bind (leafFn hs hi e val wr) :=
  (run k d e).trans (tree_nat (leafFn hs hi e val wr) (fun b0 b1 => some (b0, b1)) k d.1 d.2.1).symm
theorem fnIs : FnIs Try.prog 54 Try.f54 (bodyOf Try.f54) 25 := ⟨by kernel_rfl, by kernel_rfl, by kernel_rfl, by kernel_rfl⟩
theorem ok (k : Nat) : CalleeOK Try.prog 54 (callee k) :=
  callee_sig (T := ((List Int) × Bool)) fnIs hm (fE k) (loopsOK_of [] (by kernel_rfl) trivial) ps hs (fun (d : ((List Int) × (List Int) × Unit)) (e : Unit) => f k d.1 d.2.1) val wr rfl (fun _ => rfl) (run_f k)
end trailheadref02_Sub
namespace whole_Sum
namespace l0
def step {X : Type} (K : Bool → Int → (List Int) → Option X) (G : Bool → Int → (List Int) → Option X) (k : Nat) (x3 : Bool) (x10 : Int) (y0 : (List (List Int))) (y1002 : (List Int)) (x5 : Bool) (x11 : Int) (y1004 : (List Int)) : Option X :=
  (bif (decide (x11 < x10)) then (bif (decide (0 ≤ x11)) then (bif (decide (x11 < ((List.length y0) : Int))) then (bif (decide ((Int.toNat x11) < (List.length y0))) then (Option.bind (whole_Add.f k y1004 (List.getD y0 (Int.toNat x11) (Ty.dflt (.arr .u64 4) : (List Int)))) (fun r1 => (bif x5 then (G true (addI .i64 x11 1) r1.1) else (G r1.2 (addI .i64 x11 1) r1.1)))) else none) else none) else none) else (K x5 x11 y1004))
def go {X : Type} (K : Bool → Int → (List Int) → Option X) (k : Nat) (x3 : Bool) (x10 : Int) (y0 : (List (List Int))) (y1002 : (List Int)) : Nat → Bool → Int → (List Int) → Option X
  | 0, _, _, _ => none
  | n + 1, x5, x11, y1004 => step K (go K k x3 x10 y0 y1002 n) k x3 x10 y0 y1002 x5 x11 y1004
def f (k : Nat) (x3 : Bool) (x10 : Int) (y0 : (List (List Int))) (y1002 : (List Int)) (n : Nat) (x5 : Bool) (x11 : Int) (y1004 : (List Int)) : Option (Bool × (Int × (List Int))) := go (fun x5 x11 y1004 => some (x5, x11, y1004)) k x3 x10 y0 y1002 n x5 x11 y1004
theorem step_nat {X Y : Type} (h : X → Option Y) (K : Bool → Int → (List Int) → Option X) (G : Bool → Int → (List Int) → Option X) (k : Nat) (x3 : Bool) (x10 : Int) (y0 : (List (List Int))) (y1002 : (List Int)) (x5 : Bool) (x11 : Int) (y1004 : (List Int)) : Option.bind (step K G k x3 x10 y0 y1002 x5 x11 y1004) h = step (fun x5 x11 y1004 => Option.bind (K x5 x11 y1004) h) (fun x5 x11 y1004 => Option.bind (G x5 x11 y1004) h) k x3 x10 y0 y1002 x5 x11 y1004 := by
  simp only [step, bif_bind, sel_bind', Option.bind_assoc, Option.bind_none, Option.bind_some]
theorem go_nat {X Y : Type} (h : X → Option Y) (K : Bool → Int → (List Int) → Option X) (k : Nat) (x3 : Bool) (x10 : Int) (y0 : (List (List Int))) (y1002 : (List Int)) (n : Nat) : ∀ (x5 : Bool) (x11 : Int) (y1004 : (List Int)), Option.bind (go K k x3 x10 y0 y1002 n x5 x11 y1004) h = go (fun x5 x11 y1004 => Option.bind (K x5 x11 y1004) h) k x3 x10 y0 y1002 n x5 x11 y1004 := by
  induction n with
  | zero => intros; rfl
  | succ n ih => intro x5 x11 y1004; show Option.bind (step K (go K k x3 x10 y0 y1002 n) k x3 x10 y0 y1002 x5 x11 y1004) h = step (fun x5 x11 y1004 => Option.bind (K x5 x11 y1004) h) (go (fun x5 x11 y1004 => Option.bind (K x5 x11 y1004) h) k x3 x10 y0 y1002 n) k x3 x10 y0 y1002 x5 x11 y1004; rw [step_nat h]; simp only [ih]
abbrev S : List (Nat × Sh) := [(2, .ptr 1002), (3, .data .bool), (4, .ptr 1004), (5, .data .bool), (9, .vec 0), (10, .data (.int .i64)), (11, .data (.int .i64))]
abbrev H : List (Nat × ESh) := [(0, .rows true 27 (.arr .u64 4)), (1002, .cell (.data (.arr .u64 4))), (1004, .cell (.data (.arr .u64 4)))]
def KX (d : (Unit × Bool × Unit × Bool × Unit × Int × Int × Unit)) (e : ((List (List Int)) × (List Int) × (List Int) × Unit)) (v : (Bool × (Int × (List Int)))) : St := ⟨mkS S ((), d.2.1, (), v.1, (), d.2.2.2.2.2.1, v.2.1, ()), mkH H (e.1, e.2.1, v.2.2, ())⟩
def sum (k : Nat) : LoopSum := sigLoopX S H 0 (fun (d : (Unit × Bool × Unit × Bool × Unit × Int × Int × Unit)) (e : ((List (List Int)) × (List Int) × (List Int) × Unit)) => f k d.2.1 d.2.2.2.2.2.1 e.1 e.2.1 k d.2.2.2.1 d.2.2.2.2.2.2.1 e.2.2.1) KX
end l0
def tree {X : Type} (K : (List Int) → Bool → Option X) (k : Nat) (m0 : (List (List Int))) : Option X :=
  (Option.bind (whole_Sum.l0.f k false ((List.length m0) : Int) m0 ([0, 0, 0, 0] : (List Int)) k false (0 : Int) ([0, 0, 0, 0] : (List Int))) (fun r2 => (K r2.2.2 r2.1)))
def f (k : Nat) (m0 : (List (List Int))) : Option ((List Int) × Bool) := tree (fun b0 b1 => some (b0, b1)) k m0
theorem tree_nat {X Y : Type} (h : X → Option Y) (K : (List Int) → Bool → Option X) (k : Nat) (m0 : (List (List Int))) : Option.bind (tree K k m0) h = tree (fun b0 b1 => Option.bind (K b0 b1) h) k m0 := by
  simp only [tree, bif_bind, sel_bind', Option.bind_assoc, Option.bind_none, Option.bind_some]
abbrev ps : List Sh := [.vec 0]
abbrev hs : List (Nat × ESh) := [(0, .rows true 27 (.arr .u64 4))]
abbrev hi : List Nat := hs.map (·.1)
def val (t : ((List Int) × Bool)) : AV := .tcons (Sh.mk (.data (.arr .u64 4)) t.1) (.tcons (Sh.mk (.data .bool) t.2) .tnil)
def wr (t : ((List Int) × Bool)) : Heap := []
def callee (k : Nat) : Callee := sigCallee ps hs (fun (d : (Unit × Unit)) (e : ((List (List Int)) × Unit)) => f k e.1) val wr
def E (k : Nat) : Env := ⟨fnTab [(51, [whole_Add.callee k])], loopTab [(0, l0.sum k)]⟩
theorem fE (k : Nat) : ∀ f, ∀ c ∈ (E k).fn f, CalleeOK Try.prog f c := fnTab_ok ⟨⟨whole_Add.ok k, trivial⟩, trivial⟩
namespace l0
theorem round (k : Nat) (d : (Unit × Bool × Unit × Bool × Unit × Int × Int × Unit)) (e : ((List (List Int)) × (List Int) × (List Int) × Unit)) (G : St → Option (Ex × St)) : roundK Try.prog (E k) 28 0 (subC (bodyOf Try.f55) [1, 1, 1, 0, 1, 0, 0]) (restrict (S.map (·.1)) (H.map (·.1))) (finBy (S.map (·.1)) (H.map (·.1)) [] []) G ⟨mkS S d, mkH H e⟩ =
    step (fun x5 x11 y1004 => some (.exit 0, KX d e (x5, x11, y1004))) (fun x5 x11 y1004 => G ⟨mkS S ((), d.2.1, (), x5, (), d.2.2.2.2.2.1, x11, ()), mkH H (e.1, e.2.1, y1004, ())⟩) k d.2.1 d.2.2.2.2.2.1 e.1 e.2.1 d.2.2.2.1 d.2.2.2.2.2.2.1 e.2.2.1 := by kernel_rfl
theorem it (k n : Nat) (d : (Unit × Bool × Unit × Bool × Unit × Int × Int × Unit)) (e : ((List (List Int)) × (List Int) × (List Int) × Unit)) : loopIt Try.prog (E k) 28 0 (subC (bodyOf Try.f55) [1, 1, 1, 0, 1, 0, 0]) (restrict (S.map (·.1)) (H.map (·.1))) (finBy (S.map (·.1)) (H.map (·.1)) [] []) n ⟨mkS S d, mkH H e⟩ = go (fun x5 x11 y1004 => some (.exit 0, KX d e (x5, x11, y1004))) k d.2.1 d.2.2.2.2.2.1 e.1 e.2.1 n d.2.2.2.1 d.2.2.2.2.2.2.1 e.2.2.1 :=
  loopIt_eq (D := (Unit × Bool × Unit × Bool × Unit × Int × Int × Unit) × ((List (List Int)) × (List Int) × (List Int) × Unit)) (fun p => ⟨mkS S p.1, mkH H p.2⟩) (fun F p => step (fun x5 x11 y1004 => some (.exit 0, KX p.1 p.2 (x5, x11, y1004))) (fun x5 x11 y1004 => F (((), p.1.2.1, (), x5, (), p.1.2.2.2.2.2.1, x11, ()), (p.2.1, p.2.2.1, y1004, ()))) k p.1.2.1 p.1.2.2.2.2.2.1 p.2.1 p.2.2.1 p.1.2.2.2.1 p.1.2.2.2.2.2.2.1 p.2.2.2.1) (fun n p => go (fun x5 x11 y1004 => some (.exit 0, KX p.1 p.2 (x5, x11, y1004))) k p.1.2.1 p.1.2.2.2.2.2.1 p.2.1 p.2.2.1 n p.1.2.2.2.1 p.1.2.2.2.2.2.2.1 p.2.2.2.1) (fun _ => rfl) (fun _ _ => rfl) (fun G p => round k p.1 p.2 G) n (d, e)
theorem ok (k : Nat) : LoopOK Try.prog 28 (subC (bodyOf Try.f55) [1, 1, 1, 0, 1, 0, 0]) (sum k) :=
  loop_sigX hm (fE k) (loopsOK_of [] (by kernel_rfl) trivial) S H 0 (fun (d : (Unit × Bool × Unit × Bool × Unit × Int × Int × Unit)) (e : ((List (List Int)) × (List Int) × (List Int) × Unit)) => f k d.2.1 d.2.2.2.2.2.1 e.1 e.2.1 k d.2.2.2.1 d.2.2.2.2.2.2.1 e.2.2.1) KX (S.map (·.1)) (H.map (·.1)) [] [] k
    (fun d e => (it k k d e).trans (go_nat (fun v => some (Ex.exit 0, KX d e v)) (fun x5 x11 y1004 => some (x5, x11, y1004)) k d.2.1 d.2.2.2.2.2.1 e.1 e.2.1 k d.2.2.2.1 d.2.2.2.2.2.2.1 e.2.2.1).symm)
end l0
theorem run (k : Nat) (d : (Unit × Unit)) (e : ((List (List Int)) × Unit)) : runFn Try.prog (E k) 28 (bodyOf Try.f55) Try.f55.results.toList hi (mkL ps d) (mkH hs e) =
    tree (fun b0 b1 => leafFn hs hi e val wr (b0, b1)) k e.1 := by kernel_rfl
theorem run_f (k : Nat) (d : (Unit × Unit)) (e : ((List (List Int)) × Unit)) : runFn Try.prog (E k) 28 (bodyOf Try.f55) Try.f55.results.toList hi (mkL ps d) (mkH hs e) = (f k e.1).bind (leafFn hs hi e val wr) :=
  (run k d e).trans (tree_nat (leafFn hs hi e val wr) (fun b0 b1 => some (b0, b1)) k e.1).symm
theorem fnIs : FnIs Try.prog 55 Try.f55 (bodyOf Try.f55) 28 := ⟨by kernel_rfl, by kernel_rfl, by kernel_rfl, by kernel_rfl⟩
theorem ok (k : Nat) : CalleeOK Try.prog 55 (callee k) :=
  callee_sig (T := ((List Int) × Bool)) fnIs hm (fE k) (loopsOK_of [(0, subC (bodyOf Try.f55) [1, 1, 1, 0, 1, 0, 0])] (by kernel_rfl) ⟨of_loop (l0.sum k) rfl (l0.ok k), trivial⟩) ps hs (fun (d : (Unit × Unit)) (e : ((List (List Int)) × Unit)) => f k e.1) val wr rfl (fun _ => rfl) (run_f k)
end whole_Sum
namespace trailheadlaw02_WholeSums
def tree {X : Type} (K : Bool → Option X) (k : Nat) (a0 : (List Int)) (a1 : (List Int)) (a2 : (List Int)) : Option X :=
  (Option.bind (trailheadlaw02_alive.f k) (fun r1 => (bif (!r1) then (K false) else (Option.bind (whole_Add.f k a0 a1) (fun r2 => (Option.bind (trailheadref02_Add.f k a0 a1) (fun r3 => (Option.bind (whole_Sub.f k a0 a1) (fun r4 => (Option.bind (trailheadref02_Sub.f k a0 a1) (fun r5 => (Option.bind (whole_Sum.f k ([a0, a1, a2] : (List (List Int)))) (fun r6 => (Option.bind (trailheadref02_Add.f k r3.1 a2) (fun r7 => (Option.bind (whole_Sub.f k r2.1 a1) (fun r8 => (bif (decide (r2.1 = r3.1)) then (bif (r2.2 == r3.2) then (bif (decide (r4.1 = r5.1)) then (bif (r4.2 == r5.2) then (bif (decide (r6.1 = r7.1)) then (bif r3.2 then (bif (r6.2 == true) then (bif (decide (r8.1 = a0)) then (Option.bind (whole_Not.f k a0) (fun r9 => (Option.bind (trailheadref02_Not.f k a0) (fun r10 => (K (decide (r9 = r10))))))) else (K false)) else (K false)) else (bif (r6.2 == r7.2) then (bif (decide (r8.1 = a0)) then (Option.bind (whole_Not.f k a0) (fun r11 => (Option.bind (trailheadref02_Not.f k a0) (fun r12 => (K (decide (r11 = r12))))))) else (K false)) else (K false))) else (K false)) else (K false)) else (K false)) else (K false)) else (K false)))))))))))))))))))
def f (k : Nat) (a0 : (List Int)) (a1 : (List Int)) (a2 : (List Int)) : Option Bool := tree (fun b0 => some b0) k a0 a1 a2
theorem tree_nat {X Y : Type} (h : X → Option Y) (K : Bool → Option X) (k : Nat) (a0 : (List Int)) (a1 : (List Int)) (a2 : (List Int)) : Option.bind (tree K k a0 a1 a2) h = tree (fun b0 => Option.bind (K b0) h) k a0 a1 a2 := by
  simp only [tree, bif_bind, sel_bind', Option.bind_assoc, Option.bind_none, Option.bind_some]
abbrev ps : List Sh := [.data (.arr .u64 4), .data (.arr .u64 4), .data (.arr .u64 4)]
abbrev hs : List (Nat × ESh) := []
abbrev hi : List Nat := hs.map (·.1)
def val (t : Bool) : AV := Sh.mk (.data .bool) t
def wr (t : Bool) : Heap := []
def callee (k : Nat) : Callee := sigCallee ps hs (fun (d : ((List Int) × (List Int) × (List Int) × Unit)) (e : Unit) => f k d.1 d.2.1 d.2.2.1) val wr
def E (k : Nat) : Env := ⟨fnTab [(38, [trailheadlaw02_alive.callee k]), (51, [whole_Add.callee k]), (52, [trailheadref02_Add.callee k]), (53, [whole_Sub.callee k]), (54, [trailheadref02_Sub.callee k]), (55, [whole_Sum.callee k]), (56, [whole_Not.callee k]), (57, [trailheadref02_Not.callee k])], loopTab []⟩
theorem fE (k : Nat) : ∀ f, ∀ c ∈ (E k).fn f, CalleeOK Try.prog f c := fnTab_ok ⟨⟨trailheadlaw02_alive.ok k, trivial⟩, ⟨whole_Add.ok k, trivial⟩, ⟨trailheadref02_Add.ok k, trivial⟩, ⟨whole_Sub.ok k, trivial⟩, ⟨trailheadref02_Sub.ok k, trivial⟩, ⟨whole_Sum.ok k, trivial⟩, ⟨whole_Not.ok k, trivial⟩, ⟨trailheadref02_Not.ok k, trivial⟩, trivial⟩
theorem run (k : Nat) (d : ((List Int) × (List Int) × (List Int) × Unit)) (e : Unit) : runFn Try.prog (E k) 110 (bodyOf Try.f11) Try.f11.results.toList hi (mkL ps d) (mkH hs e) =
    tree (fun b0 => leafFn hs hi e val wr b0) k d.1 d.2.1 d.2.2.1 := by kernel_rfl
theorem run_f (k : Nat) (d : ((List Int) × (List Int) × (List Int) × Unit)) (e : Unit) : runFn Try.prog (E k) 110 (bodyOf Try.f11) Try.f11.results.toList hi (mkL ps d) (mkH hs e) = (f k d.1 d.2.1 d.2.2.1).bind (leafFn hs hi e val wr) :=
  (run k d e).trans (tree_nat (leafFn hs hi e val wr) (fun b0 => some b0) k d.1 d.2.1 d.2.2.1).symm
theorem fnIs : FnIs Try.prog 11 Try.f11 (bodyOf Try.f11) 110 := ⟨by kernel_rfl, by kernel_rfl, by kernel_rfl, by kernel_rfl⟩
theorem ok (k : Nat) : CalleeOK Try.prog 11 (callee k) :=
  callee_sig (T := Bool) fnIs hm (fE k) (loopsOK_of [] (by kernel_rfl) trivial) ps hs (fun (d : ((List Int) × (List Int) × (List Int) × Unit)) (e : Unit) => f k d.1 d.2.1 d.2.2.1) val wr rfl (fun _ => rfl) (run_f k)
end trailheadlaw02_WholeSums
namespace whole_Up
namespace l0
def step {X : Type} (K : Int → (List Int) → Option X) (G : Int → (List Int) → Option X) (k : Nat) (x6 : Int) (x7 : Int) (y1002 : (List Int)) (y1004 : (List Int)) (x8 : Int) (y1005 : (List Int)) : Option X :=
  (bif (decide (x8 < (4 : Int))) then (bif (decide (0 ≤ (subI .i64 x8 x6))) then (bif (decide ((subI .i64 x8 x6) < 4)) then (bif (decide ((Int.toNat (subI .i64 x8 x6)) < 4)) then (bif (decide (x7 < 0)) then none else (bif (decide (0 ≤ x8)) then (bif (decide (x8 < 4)) then (bif (decide ((Int.toNat x8) < 4)) then (bif (decide (x8 > x6)) then (bif (decide (0 ≤ x8)) then (bif (decide (x8 < 4)) then (bif (decide ((Int.toNat x8) < 4)) then (bif (decide (0 ≤ (subI .i64 (subI .i64 x8 x6) 1))) then (bif (decide ((subI .i64 (subI .i64 x8 x6) 1) < 4)) then (bif (decide ((Int.toNat (subI .i64 (subI .i64 x8 x6) 1)) < 4)) then (bif (decide ((subI .i64 64 x7) < 0)) then none else (bif (decide (0 ≤ x8)) then (bif (decide (x8 < 4)) then (bif (decide ((Int.toNat x8) < 4)) then (G (addI .i64 x8 1) (List.set (List.set y1005 (Int.toNat x8) (shlI .u64 (List.getD y1002 (Int.toNat (subI .i64 x8 x6)) 0) x7)) (Int.toNat x8) (orI .u64 (List.getD (List.set y1005 (Int.toNat x8) (shlI .u64 (List.getD y1002 (Int.toNat (subI .i64 x8 x6)) 0) x7)) (Int.toNat x8) 0) (shrI .u64 (List.getD y1002 (Int.toNat (subI .i64 (subI .i64 x8 x6) 1)) 0) (subI .i64 64 x7))))) else none) else none) else none)) else none) else none) else none) else none) else none) else none) else (G (addI .i64 x8 1) (List.set y1005 (Int.toNat x8) (shlI .u64 (List.getD y1002 (Int.toNat (subI .i64 x8 x6)) 0) x7)))) else none) else none) else none)) else none) else none) else none) else (K x8 y1005))
def go {X : Type} (K : Int → (List Int) → Option X) (k : Nat) (x6 : Int) (x7 : Int) (y1002 : (List Int)) (y1004 : (List Int)) : Nat → Int → (List Int) → Option X
  | 0, _, _ => none
  | n + 1, x8, y1005 => step K (go K k x6 x7 y1002 y1004 n) k x6 x7 y1002 y1004 x8 y1005
def f (k : Nat) (x6 : Int) (x7 : Int) (y1002 : (List Int)) (y1004 : (List Int)) (n : Nat) (x8 : Int) (y1005 : (List Int)) : Option (Int × (List Int)) := go (fun x8 y1005 => some (x8, y1005)) k x6 x7 y1002 y1004 n x8 y1005
theorem step_nat {X Y : Type} (h : X → Option Y) (K : Int → (List Int) → Option X) (G : Int → (List Int) → Option X) (k : Nat) (x6 : Int) (x7 : Int) (y1002 : (List Int)) (y1004 : (List Int)) (x8 : Int) (y1005 : (List Int)) : Option.bind (step K G k x6 x7 y1002 y1004 x8 y1005) h = step (fun x8 y1005 => Option.bind (K x8 y1005) h) (fun x8 y1005 => Option.bind (G x8 y1005) h) k x6 x7 y1002 y1004 x8 y1005 := by
  simp only [step, bif_bind, sel_bind', Option.bind_assoc, Option.bind_none, Option.bind_some]
theorem go_nat {X Y : Type} (h : X → Option Y) (K : Int → (List Int) → Option X) (k : Nat) (x6 : Int) (x7 : Int) (y1002 : (List Int)) (y1004 : (List Int)) (n : Nat) : ∀ (x8 : Int) (y1005 : (List Int)), Option.bind (go K k x6 x7 y1002 y1004 n x8 y1005) h = go (fun x8 y1005 => Option.bind (K x8 y1005) h) k x6 x7 y1002 y1004 n x8 y1005 := by
  induction n with
  | zero => intros; rfl
  | succ n ih => intro x8 y1005; show Option.bind (step K (go K k x6 x7 y1002 y1004 n) k x6 x7 y1002 y1004 x8 y1005) h = step (fun x8 y1005 => Option.bind (K x8 y1005) h) (go (fun x8 y1005 => Option.bind (K x8 y1005) h) k x6 x7 y1002 y1004 n) k x6 x7 y1002 y1004 x8 y1005; rw [step_nat h]; simp only [ih]
abbrev S : List (Nat × Sh) := [(2, .ptr 1002), (4, .ptr 1004), (5, .ptr 1005), (6, .data (.int .i64)), (7, .data (.int .i64)), (8, .data (.int .i64))]
abbrev H : List (Nat × ESh) := [(1002, .cell (.data (.arr .u64 4))), (1004, .cell (.data (.arr .u64 4))), (1005, .cell (.data (.arr .u64 4)))]
def KX (d : (Unit × Unit × Unit × Int × Int × Int × Unit)) (e : ((List Int) × (List Int) × (List Int) × Unit)) (v : (Int × (List Int))) : St := ⟨mkS S ((), (), (), d.2.2.2.1, d.2.2.2.2.1, v.1, ()), mkH H (e.1, e.2.1, v.2, ())⟩
def sum (k : Nat) : LoopSum := sigLoopX S H 0 (fun (d : (Unit × Unit × Unit × Int × Int × Int × Unit)) (e : ((List Int) × (List Int) × (List Int) × Unit)) => f k d.2.2.2.1 d.2.2.2.2.1 e.1 e.2.1 k d.2.2.2.2.2.1 e.2.2.1) KX
end l0
def tree {X : Type} (K : (List Int) → Option X) (k : Nat) (a0 : (List Int)) (a1 : Int) : Option X :=
  (bif (decide (a1 ≥ (256 : Int))) then (K ([0, 0, 0, 0] : (List Int))) else (Option.bind (whole_Up.l0.f k (quoI .i64 (mxI a1 0) 64) (remI (mxI a1 0) 64) a0 ([0, 0, 0, 0] : (List Int)) k (quoI .i64 (mxI a1 0) 64) ([0, 0, 0, 0] : (List Int))) (fun r1 => (K r1.2))))
def f (k : Nat) (a0 : (List Int)) (a1 : Int) : Option (List Int) := tree (fun b0 => some b0) k a0 a1
theorem tree_nat {X Y : Type} (h : X → Option Y) (K : (List Int) → Option X) (k : Nat) (a0 : (List Int)) (a1 : Int) : Option.bind (tree K k a0 a1) h = tree (fun b0 => Option.bind (K b0) h) k a0 a1 := by
  simp only [tree, bif_bind, sel_bind', Option.bind_assoc, Option.bind_none, Option.bind_some]
abbrev ps : List Sh := [.data (.arr .u64 4), .data (.int .i64)]
abbrev hs : List (Nat × ESh) := []
abbrev hi : List Nat := hs.map (·.1)
def val (t : (List Int)) : AV := Sh.mk (.data (.arr .u64 4)) t
def wr (t : (List Int)) : Heap := []
def callee (k : Nat) : Callee := sigCallee ps hs (fun (d : ((List Int) × Int × Unit)) (e : Unit) => f k d.1 d.2.1) val wr
def E (k : Nat) : Env := ⟨fnTab [], loopTab [(0, l0.sum k)]⟩
theorem fE (k : Nat) : ∀ f, ∀ c ∈ (E k).fn f, CalleeOK Try.prog f c := fnTab_ok trivial
namespace l0
theorem round (k : Nat) (d : (Unit × Unit × Unit × Int × Int × Int × Unit)) (e : ((List Int) × (List Int) × (List Int) × Unit)) (G : St → Option (Ex × St)) : roundK Try.prog (E k) 50 0 (subC (bodyOf Try.f58) [1, 1, 1, 1, 0, 1, 0, 0]) (restrict (S.map (·.1)) (H.map (·.1))) (finBy (S.map (·.1)) (H.map (·.1)) [] []) G ⟨mkS S d, mkH H e⟩ =
    step (fun x8 y1005 => some (.exit 0, KX d e (x8, y1005))) (fun x8 y1005 => G ⟨mkS S ((), (), (), d.2.2.2.1, d.2.2.2.2.1, x8, ()), mkH H (e.1, e.2.1, y1005, ())⟩) k d.2.2.2.1 d.2.2.2.2.1 e.1 e.2.1 d.2.2.2.2.2.1 e.2.2.1 := by kernel_rfl
theorem it (k n : Nat) (d : (Unit × Unit × Unit × Int × Int × Int × Unit)) (e : ((List Int) × (List Int) × (List Int) × Unit)) : loopIt Try.prog (E k) 50 0 (subC (bodyOf Try.f58) [1, 1, 1, 1, 0, 1, 0, 0]) (restrict (S.map (·.1)) (H.map (·.1))) (finBy (S.map (·.1)) (H.map (·.1)) [] []) n ⟨mkS S d, mkH H e⟩ = go (fun x8 y1005 => some (.exit 0, KX d e (x8, y1005))) k d.2.2.2.1 d.2.2.2.2.1 e.1 e.2.1 n d.2.2.2.2.2.1 e.2.2.1 :=
  loopIt_eq (D := (Unit × Unit × Unit × Int × Int × Int × Unit) × ((List Int) × (List Int) × (List Int) × Unit)) (fun p => ⟨mkS S p.1, mkH H p.2⟩) (fun F p => step (fun x8 y1005 => some (.exit 0, KX p.1 p.2 (x8, y1005))) (fun x8 y1005 => F (((), (), (), p.1.2.2.2.1, p.1.2.2.2.2.1, x8, ()), (p.2.1, p.2.2.1, y1005, ()))) k p.1.2.2.2.1 p.1.2.2.2.2.1 p.2.1 p.2.2.1 p.1.2.2.2.2.2.1 p.2.2.2.1) (fun n p => go (fun x8 y1005 => some (.exit 0, KX p.1 p.2 (x8, y1005))) k p.1.2.2.2.1 p.1.2.2.2.2.1 p.2.1 p.2.2.1 n p.1.2.2.2.2.2.1 p.2.2.2.1) (fun _ => rfl) (fun _ _ => rfl) (fun G p => round k p.1 p.2 G) n (d, e)
theorem ok (k : Nat) : LoopOK Try.prog 50 (subC (bodyOf Try.f58) [1, 1, 1, 1, 0, 1, 0, 0]) (sum k) :=
  loop_sigX hm (fE k) (loopsOK_of [] (by kernel_rfl) trivial) S H 0 (fun (d : (Unit × Unit × Unit × Int × Int × Int × Unit)) (e : ((List Int) × (List Int) × (List Int) × Unit)) => f k d.2.2.2.1 d.2.2.2.2.1 e.1 e.2.1 k d.2.2.2.2.2.1 e.2.2.1) KX (S.map (·.1)) (H.map (·.1)) [] [] k
    (fun d e => (it k k d e).trans (go_nat (fun v => some (Ex.exit 0, KX d e v)) (fun x8 y1005 => some (x8, y1005)) k d.2.2.2.1 d.2.2.2.2.1 e.1 e.2.1 k d.2.2.2.2.2.1 e.2.2.1).symm)
end l0
theorem run (k : Nat) (d : ((List Int) × Int × Unit)) (e : Unit) : runFn Try.prog (E k) 50 (bodyOf Try.f58) Try.f58.results.toList hi (mkL ps d) (mkH hs e) =
    tree (fun b0 => leafFn hs hi e val wr b0) k d.1 d.2.1 := by kernel_rfl
theorem run_f (k : Nat) (d : ((List Int) × Int × Unit)) (e : Unit) : runFn Try.prog (E k) 50 (bodyOf Try.f58) Try.f58.results.toList hi (mkL ps d) (mkH hs e) = (f k d.1 d.2.1).bind (leafFn hs hi e val wr) :=
  (run k d e).trans (tree_nat (leafFn hs hi e val wr) (fun b0 => some b0) k d.1 d.2.1).symm
theorem fnIs : FnIs Try.prog 58 Try.f58 (bodyOf Try.f58) 50 := ⟨by kernel_rfl, by kernel_rfl, by kernel_rfl, by kernel_rfl⟩
theorem ok (k : Nat) : CalleeOK Try.prog 58 (callee k) :=
  callee_sig (T := (List Int)) fnIs hm (fE k) (loopsOK_of [(0, subC (bodyOf Try.f58) [1, 1, 1, 1, 0, 1, 0, 0])] (by kernel_rfl) ⟨of_loop (l0.sum k) rfl (l0.ok k), trivial⟩) ps hs (fun (d : ((List Int) × Int × Unit)) (e : Unit) => f k d.1 d.2.1) val wr rfl (fun _ => rfl) (run_f k)
end whole_Up
namespace trailheadref02_Move
namespace l0
def step {X : Type} (K : Int → (List Int) → Option X) (G : Int → (List Int) → Option X) (k : Nat) (y1004 : (List Int)) (y1005 : (List Int)) (x1 : Int) (y1002 : (List Int)) : Option X :=
  (bif (decide (x1 ≥ (64 : Int))) then (G (subI .i64 x1 64) ([0, (List.getD y1002 0 0), (List.getD y1002 1 0), (List.getD y1002 2 0)] : (List Int))) else (K x1 y1002))
def go {X : Type} (K : Int → (List Int) → Option X) (k : Nat) (y1004 : (List Int)) (y1005 : (List Int)) : Nat → Int → (List Int) → Option X
  | 0, _, _ => none
  | n + 1, x1, y1002 => step K (go K k y1004 y1005 n) k y1004 y1005 x1 y1002
def f (k : Nat) (y1004 : (List Int)) (y1005 : (List Int)) (n : Nat) (x1 : Int) (y1002 : (List Int)) : Option (Int × (List Int)) := go (fun x1 y1002 => some (x1, y1002)) k y1004 y1005 n x1 y1002
theorem step_nat {X Y : Type} (h : X → Option Y) (K : Int → (List Int) → Option X) (G : Int → (List Int) → Option X) (k : Nat) (y1004 : (List Int)) (y1005 : (List Int)) (x1 : Int) (y1002 : (List Int)) : Option.bind (step K G k y1004 y1005 x1 y1002) h = step (fun x1 y1002 => Option.bind (K x1 y1002) h) (fun x1 y1002 => Option.bind (G x1 y1002) h) k y1004 y1005 x1 y1002 := by
  simp only [step, bif_bind, sel_bind', Option.bind_assoc, Option.bind_none, Option.bind_some]
theorem go_nat {X Y : Type} (h : X → Option Y) (K : Int → (List Int) → Option X) (k : Nat) (y1004 : (List Int)) (y1005 : (List Int)) (n : Nat) : ∀ (x1 : Int) (y1002 : (List Int)), Option.bind (go K k y1004 y1005 n x1 y1002) h = go (fun x1 y1002 => Option.bind (K x1 y1002) h) k y1004 y1005 n x1 y1002 := by
  induction n with
  | zero => intros; rfl
  | succ n ih => intro x1 y1002; show Option.bind (step K (go K k y1004 y1005 n) k y1004 y1005 x1 y1002) h = step (fun x1 y1002 => Option.bind (K x1 y1002) h) (go (fun x1 y1002 => Option.bind (K x1 y1002) h) k y1004 y1005 n) k y1004 y1005 x1 y1002; rw [step_nat h]; simp only [ih]
abbrev S : List (Nat × Sh) := [(1, .data (.int .i64)), (2, .ptr 1002), (4, .ptr 1004), (5, .ptr 1005)]
abbrev H : List (Nat × ESh) := [(1002, .cell (.data (.arr .u64 4))), (1004, .cell (.data (.arr .u64 4))), (1005, .cell (.data (.arr .u64 4)))]
def KX (d : (Int × Unit × Unit × Unit × Unit)) (e : ((List Int) × (List Int) × (List Int) × Unit)) (v : (Int × (List Int))) : St := ⟨mkS S (v.1, (), (), (), ()), mkH H (v.2, e.2.1, e.2.2.1, ())⟩
def sum (k : Nat) : LoopSum := sigLoopX S H 0 (fun (d : (Int × Unit × Unit × Unit × Unit)) (e : ((List Int) × (List Int) × (List Int) × Unit)) => f k e.2.1 e.2.2.1 k d.1 e.1) KX
end l0
namespace l2
def step {X : Type} (K : Int → (List Int) → Option X) (G : Int → (List Int) → Option X) (k : Nat) (y1004 : (List Int)) (y1005 : (List Int)) (x1 : Int) (y1002 : (List Int)) : Option X :=
  (bif (decide (x1 ≤ ((-64) : Int))) then (G (addI .i64 x1 64) ([(List.getD y1002 1 0), (List.getD y1002 2 0), (List.getD y1002 3 0), 0] : (List Int))) else (K x1 y1002))
def go {X : Type} (K : Int → (List Int) → Option X) (k : Nat) (y1004 : (List Int)) (y1005 : (List Int)) : Nat → Int → (List Int) → Option X
  | 0, _, _ => none
  | n + 1, x1, y1002 => step K (go K k y1004 y1005 n) k y1004 y1005 x1 y1002
def f (k : Nat) (y1004 : (List Int)) (y1005 : (List Int)) (n : Nat) (x1 : Int) (y1002 : (List Int)) : Option (Int × (List Int)) := go (fun x1 y1002 => some (x1, y1002)) k y1004 y1005 n x1 y1002
theorem step_nat {X Y : Type} (h : X → Option Y) (K : Int → (List Int) → Option X) (G : Int → (List Int) → Option X) (k : Nat) (y1004 : (List Int)) (y1005 : (List Int)) (x1 : Int) (y1002 : (List Int)) : Option.bind (step K G k y1004 y1005 x1 y1002) h = step (fun x1 y1002 => Option.bind (K x1 y1002) h) (fun x1 y1002 => Option.bind (G x1 y1002) h) k y1004 y1005 x1 y1002 := by
  simp only [step, bif_bind, sel_bind', Option.bind_assoc, Option.bind_none, Option.bind_some]
theorem go_nat {X Y : Type} (h : X → Option Y) (K : Int → (List Int) → Option X) (k : Nat) (y1004 : (List Int)) (y1005 : (List Int)) (n : Nat) : ∀ (x1 : Int) (y1002 : (List Int)), Option.bind (go K k y1004 y1005 n x1 y1002) h = go (fun x1 y1002 => Option.bind (K x1 y1002) h) k y1004 y1005 n x1 y1002 := by
  induction n with
  | zero => intros; rfl
  | succ n ih => intro x1 y1002; show Option.bind (step K (go K k y1004 y1005 n) k y1004 y1005 x1 y1002) h = step (fun x1 y1002 => Option.bind (K x1 y1002) h) (go (fun x1 y1002 => Option.bind (K x1 y1002) h) k y1004 y1005 n) k y1004 y1005 x1 y1002; rw [step_nat h]; simp only [ih]
abbrev S : List (Nat × Sh) := [(1, .data (.int .i64)), (2, .ptr 1002), (4, .ptr 1004), (5, .ptr 1005)]
abbrev H : List (Nat × ESh) := [(1002, .cell (.data (.arr .u64 4))), (1004, .cell (.data (.arr .u64 4))), (1005, .cell (.data (.arr .u64 4)))]
def KX (d : (Int × Unit × Unit × Unit × Unit)) (e : ((List Int) × (List Int) × (List Int) × Unit)) (v : (Int × (List Int))) : St := ⟨mkS S (v.1, (), (), (), ()), mkH H (v.2, e.2.1, e.2.2.1, ())⟩
def sum (k : Nat) : LoopSum := sigLoopX S H 2 (fun (d : (Int × Unit × Unit × Unit × Unit)) (e : ((List Int) × (List Int) × (List Int) × Unit)) => f k e.2.1 e.2.2.1 k d.1 e.1) KX
end l2
namespace l4
def step {X : Type} (K : Int → (List Int) → Option X) (G : Int → (List Int) → Option X) (k : Nat) (x1 : Int) (y1002 : (List Int)) (y1004 : (List Int)) (x6 : Int) (y1005 : (List Int)) : Option X :=
  (bif (decide (x6 < (4 : Int))) then (bif (decide (x1 > (0 : Int))) then (bif (decide (0 ≤ x6)) then (bif (decide (x6 < 4)) then (bif (decide ((Int.toNat x6) < 4)) then (bif (decide ((IntKind.wrap .u64 x1) < 0)) then none else (bif (decide (0 ≤ x6)) then (bif (decide (x6 < 4)) then (bif (decide ((Int.toNat x6) < 4)) then (bif (decide (x6 > (0 : Int))) then (bif (decide (0 ≤ x6)) then (bif (decide (x6 < 4)) then (bif (decide ((Int.toNat x6) < 4)) then (bif (decide (0 ≤ (subI .i64 x6 1))) then (bif (decide ((subI .i64 x6 1) < 4)) then (bif (decide ((Int.toNat (subI .i64 x6 1)) < 4)) then (bif (decide ((IntKind.wrap .u64 (subI .i64 64 x1)) < 0)) then none else (bif (decide (0 ≤ x6)) then (bif (decide (x6 < 4)) then (bif (decide ((Int.toNat x6) < 4)) then (G (addI .i64 x6 1) (List.set (List.set y1005 (Int.toNat x6) (shlI .u64 (List.getD y1002 (Int.toNat x6) 0) (IntKind.wrap .u64 x1))) (Int.toNat x6) (addI .u64 (List.getD (List.set y1005 (Int.toNat x6) (shlI .u64 (List.getD y1002 (Int.toNat x6) 0) (IntKind.wrap .u64 x1))) (Int.toNat x6) 0) (shrI .u64 (List.getD y1002 (Int.toNat (subI .i64 x6 1)) 0) (IntKind.wrap .u64 (subI .i64 64 x1)))))) else none) else none) else none)) else none) else none) else none) else none) else none) else none) else (G (addI .i64 x6 1) (List.set y1005 (Int.toNat x6) (shlI .u64 (List.getD y1002 (Int.toNat x6) 0) (IntKind.wrap .u64 x1))))) else none) else none) else none)) else none) else none) else none) else (bif (decide (0 ≤ x6)) then (bif (decide (x6 < 4)) then (bif (decide ((Int.toNat x6) < 4)) then (bif (decide ((IntKind.wrap .u64 (subI .i64 0 x1)) < 0)) then none else (bif (decide (0 ≤ x6)) then (bif (decide (x6 < 4)) then (bif (decide ((Int.toNat x6) < 4)) then (bif (decide (x6 < (3 : Int))) then (bif (decide (0 ≤ x6)) then (bif (decide (x6 < 4)) then (bif (decide ((Int.toNat x6) < 4)) then (bif (decide (0 ≤ (addI .i64 x6 1))) then (bif (decide ((addI .i64 x6 1) < 4)) then (bif (decide ((Int.toNat (addI .i64 x6 1)) < 4)) then (bif (decide ((IntKind.wrap .u64 (addI .i64 64 x1)) < 0)) then none else (bif (decide (0 ≤ x6)) then (bif (decide (x6 < 4)) then (bif (decide ((Int.toNat x6) < 4)) then (G (addI .i64 x6 1) (List.set (List.set y1005 (Int.toNat x6) (shrI .u64 (List.getD y1002 (Int.toNat x6) 0) (IntKind.wrap .u64 (subI .i64 0 x1)))) (Int.toNat x6) (addI .u64 (List.getD (List.set y1005 (Int.toNat x6) (shrI .u64 (List.getD y1002 (Int.toNat x6) 0) (IntKind.wrap .u64 (subI .i64 0 x1)))) (Int.toNat x6) 0) (shlI .u64 (List.getD y1002 (Int.toNat (addI .i64 x6 1)) 0) (IntKind.wrap .u64 (addI .i64 64 x1)))))) else none) else none) else none)) else none) else none) else none) else none) else none) else none) else (G (addI .i64 x6 1) (List.set y1005 (Int.toNat x6) (shrI .u64 (List.getD y1002 (Int.toNat x6) 0) (IntKind.wrap .u64 (subI .i64 0 x1)))))) else none) else none) else none)) else none) else none) else none)) else (K x6 y1005))
def go {X : Type} (K : Int → (List Int) → Option X) (k : Nat) (x1 : Int) (y1002 : (List Int)) (y1004 : (List Int)) : Nat → Int → (List Int) → Option X
  | 0, _, _ => none
  | n + 1, x6, y1005 => step K (go K k x1 y1002 y1004 n) k x1 y1002 y1004 x6 y1005
def f (k : Nat) (x1 : Int) (y1002 : (List Int)) (y1004 : (List Int)) (n : Nat) (x6 : Int) (y1005 : (List Int)) : Option (Int × (List Int)) := go (fun x6 y1005 => some (x6, y1005)) k x1 y1002 y1004 n x6 y1005
theorem step_nat {X Y : Type} (h : X → Option Y) (K : Int → (List Int) → Option X) (G : Int → (List Int) → Option X) (k : Nat) (x1 : Int) (y1002 : (List Int)) (y1004 : (List Int)) (x6 : Int) (y1005 : (List Int)) : Option.bind (step K G k x1 y1002 y1004 x6 y1005) h = step (fun x6 y1005 => Option.bind (K x6 y1005) h) (fun x6 y1005 => Option.bind (G x6 y1005) h) k x1 y1002 y1004 x6 y1005 := by
  simp only [step, bif_bind, sel_bind', Option.bind_assoc, Option.bind_none, Option.bind_some]
theorem go_nat {X Y : Type} (h : X → Option Y) (K : Int → (List Int) → Option X) (k : Nat) (x1 : Int) (y1002 : (List Int)) (y1004 : (List Int)) (n : Nat) : ∀ (x6 : Int) (y1005 : (List Int)), Option.bind (go K k x1 y1002 y1004 n x6 y1005) h = go (fun x6 y1005 => Option.bind (K x6 y1005) h) k x1 y1002 y1004 n x6 y1005 := by
  induction n with
  | zero => intros; rfl
  | succ n ih => intro x6 y1005; show Option.bind (step K (go K k x1 y1002 y1004 n) k x1 y1002 y1004 x6 y1005) h = step (fun x6 y1005 => Option.bind (K x6 y1005) h) (go (fun x6 y1005 => Option.bind (K x6 y1005) h) k x1 y1002 y1004 n) k x1 y1002 y1004 x6 y1005; rw [step_nat h]; simp only [ih]
abbrev S : List (Nat × Sh) := [(1, .data (.int .i64)), (2, .ptr 1002), (4, .ptr 1004), (5, .ptr 1005), (6, .data (.int .i64))]
abbrev H : List (Nat × ESh) := [(1002, .cell (.data (.arr .u64 4))), (1004, .cell (.data (.arr .u64 4))), (1005, .cell (.data (.arr .u64 4)))]
def KX (d : (Int × Unit × Unit × Unit × Int × Unit)) (e : ((List Int) × (List Int) × (List Int) × Unit)) (v : (Int × (List Int))) : St := ⟨mkS S (d.1, (), (), (), v.1, ()), mkH H (e.1, e.2.1, v.2, ())⟩
def sum (k : Nat) : LoopSum := sigLoopX S H 4 (fun (d : (Int × Unit × Unit × Unit × Int × Unit)) (e : ((List Int) × (List Int) × (List Int) × Unit)) => f k d.1 e.1 e.2.1 k d.2.2.2.2.1 e.2.2.1) KX
end l4
def tree {X : Type} (K : (List Int) → Option X) (k : Nat) (a0 : (List Int)) (a1 : Int) : Option X :=
  (bif (decide (a1 ≤ ((-256) : Int))) then (K ([0, 0, 0, 0] : (List Int))) else (bif (decide (a1 ≥ (256 : Int))) then (K ([0, 0, 0, 0] : (List Int))) else (Option.bind (trailheadref02_Move.l0.f k ([0, 0, 0, 0] : (List Int)) ([0, 0, 0, 0] : (List Int)) k a1 a0) (fun r1 => (Option.bind (trailheadref02_Move.l2.f k ([0, 0, 0, 0] : (List Int)) ([0, 0, 0, 0] : (List Int)) k r1.1 r1.2) (fun r2 => (bif (r2.1 == (0 : Int)) then (K r2.2) else (Option.bind (trailheadref02_Move.l4.f k r2.1 r2.2 ([0, 0, 0, 0] : (List Int)) k (0 : Int) ([0, 0, 0, 0] : (List Int))) (fun r3 => (K r3.2))))))))))
def f (k : Nat) (a0 : (List Int)) (a1 : Int) : Option (List Int) := tree (fun b0 => some b0) k a0 a1
theorem tree_nat {X Y : Type} (h : X → Option Y) (K : (List Int) → Option X) (k : Nat) (a0 : (List Int)) (a1 : Int) : Option.bind (tree K k a0 a1) h = tree (fun b0 => Option.bind (K b0) h) k a0 a1 := by
  simp only [tree, bif_bind, sel_bind', Option.bind_assoc, Option.bind_none, Option.bind_some]
abbrev ps : List Sh := [.data (.arr .u64 4), .data (.int .i64)]
abbrev hs : List (Nat × ESh) := []
abbrev hi : List Nat := hs.map (·.1)
def val (t : (List Int)) : AV := Sh.mk (.data (.arr .u64 4)) t
def wr (t : (List Int)) : Heap := []
def callee (k : Nat) : Callee := sigCallee ps hs (fun (d : ((List Int) × Int × Unit)) (e : Unit) => f k d.1 d.2.1) val wr
def E (k : Nat) : Env := ⟨fnTab [], loopTab [(0, l0.sum k), (2, l2.sum k), (4, l4.sum k)]⟩
theorem fE (k : Nat) : ∀ f, ∀ c ∈ (E k).fn f, CalleeOK Try.prog f c := fnTab_ok trivial
namespace l0
theorem round (k : Nat) (d : (Int × Unit × Unit × Unit × Unit)) (e : ((List Int) × (List Int) × (List Int) × Unit)) (G : St → Option (Ex × St)) : roundK Try.prog (E k) 96 0 (subC (bodyOf Try.f59) [1, 1, 1, 0, 0, 0]) (restrict (S.map (·.1)) (H.map (·.1))) (finBy (S.map (·.1)) (H.map (·.1)) [] []) G ⟨mkS S d, mkH H e⟩ =
    step (fun x1 y1002 => some (.exit 0, KX d e (x1, y1002))) (fun x1 y1002 => G ⟨mkS S (x1, (), (), (), ()), mkH H (y1002, e.2.1, e.2.2.1, ())⟩) k e.2.1 e.2.2.1 d.1 e.1 := by kernel_rfl
theorem it (k n : Nat) (d : (Int × Unit × Unit × Unit × Unit)) (e : ((List Int) × (List Int) × (List Int) × Unit)) : loopIt Try.prog (E k) 96 0 (subC (bodyOf Try.f59) [1, 1, 1, 0, 0, 0]) (restrict (S.map (·.1)) (H.map (·.1))) (finBy (S.map (·.1)) (H.map (·.1)) [] []) n ⟨mkS S d, mkH H e⟩ = go (fun x1 y1002 => some (.exit 0, KX d e (x1, y1002))) k e.2.1 e.2.2.1 n d.1 e.1 :=
  loopIt_eq (D := (Int × Unit × Unit × Unit × Unit) × ((List Int) × (List Int) × (List Int) × Unit)) (fun p => ⟨mkS S p.1, mkH H p.2⟩) (fun F p => step (fun x1 y1002 => some (.exit 0, KX p.1 p.2 (x1, y1002))) (fun x1 y1002 => F ((x1, (), (), (), ()), (y1002, p.2.2.1, p.2.2.2.1, ()))) k p.2.2.1 p.2.2.2.1 p.1.1 p.2.1) (fun n p => go (fun x1 y1002 => some (.exit 0, KX p.1 p.2 (x1, y1002))) k p.2.2.1 p.2.2.2.1 n p.1.1 p.2.1) (fun _ => rfl) (fun _ _ => rfl) (fun G p => round k p.1 p.2 G) n (d, e)
theorem ok (k : Nat) : LoopOK Try.prog 96 (subC (bodyOf Try.f59) [1, 1, 1, 0, 0, 0]) (sum k) :=
  loop_sigX hm (fE k) (loopsOK_of [] (by kernel_rfl) trivial) S H 0 (fun (d : (Int × Unit × Unit × Unit × Unit)) (e : ((List Int) × (List Int) × (List Int) × Unit)) => f k e.2.1 e.2.2.1 k d.1 e.1) KX (S.map (·.1)) (H.map (·.1)) [] [] k
    (fun d e => (it k k d e).trans (go_nat (fun v => some (Ex.exit 0, KX d e v)) (fun x1 y1002 => some (x1, y1002)) k e.2.1 e.2.2.1 k d.1 e.1).symm)
end l0
namespace l2
theorem round (k : Nat) (d : (Int × Unit × Unit × Unit × Unit)) (e : ((List Int) × (List Int) × (List Int) × Unit)) (G : St → Option (Ex × St)) : roundK Try.prog (E k) 96 2 (subC (bodyOf Try.f59) [1, 1, 1, 1, 0, 0, 0]) (restrict (S.map (·.1)) (H.map (·.1))) (finBy (S.map (·.1)) (H.map (·.1)) [] []) G ⟨mkS S d, mkH H e⟩ =
    step (fun x1 y1002 => some (.exit 2, KX d e (x1, y1002))) (fun x1 y1002 => G ⟨mkS S (x1, (), (), (), ()), mkH H (y1002, e.2.1, e.2.2.1, ())⟩) k e.2.1 e.2.2.1 d.1 e.1 := by kernel_rfl
theorem it (k n : Nat) (d : (Int × Unit × Unit × Unit × Unit)) (e : ((List Int) × (List Int) × (List Int) × Unit)) : loopIt Try.prog (E k) 96 2 (subC (bodyOf Try.f59) [1, 1, 1, 1, 0, 0, 0]) (restrict (S.map (·.1)) (H.map (·.1))) (finBy (S.map (·.1)) (H.map (·.1)) [] []) n ⟨mkS S d, mkH H e⟩ = go (fun x1 y1002 => some (.exit 2, KX d e (x1, y1002))) k e.2.1 e.2.2.1 n d.1 e.1 :=
  loopIt_eq (D := (Int × Unit × Unit × Unit × Unit) × ((List Int) × (List Int) × (List Int) × Unit)) (fun p => ⟨mkS S p.1, mkH H p.2⟩) (fun F p => step (fun x1 y1002 => some (.exit 2, KX p.1 p.2 (x1, y1002))) (fun x1 y1002 => F ((x1, (), (), (), ()), (y1002, p.2.2.1, p.2.2.2.1, ()))) k p.2.2.1 p.2.2.2.1 p.1.1 p.2.1) (fun n p => go (fun x1 y1002 => some (.exit 2, KX p.1 p.2 (x1, y1002))) k p.2.2.1 p.2.2.2.1 n p.1.1 p.2.1) (fun _ => rfl) (fun _ _ => rfl) (fun G p => round k p.1 p.2 G) n (d, e)
theorem ok (k : Nat) : LoopOK Try.prog 96 (subC (bodyOf Try.f59) [1, 1, 1, 1, 0, 0, 0]) (sum k) :=
  loop_sigX hm (fE k) (loopsOK_of [] (by kernel_rfl) trivial) S H 2 (fun (d : (Int × Unit × Unit × Unit × Unit)) (e : ((List Int) × (List Int) × (List Int) × Unit)) => f k e.2.1 e.2.2.1 k d.1 e.1) KX (S.map (·.1)) (H.map (·.1)) [] [] k
    (fun d e => (it k k d e).trans (go_nat (fun v => some (Ex.exit 2, KX d e v)) (fun x1 y1002 => some (x1, y1002)) k e.2.1 e.2.2.1 k d.1 e.1).symm)
end l2
namespace l4
theorem round (k : Nat) (d : (Int × Unit × Unit × Unit × Int × Unit)) (e : ((List Int) × (List Int) × (List Int) × Unit)) (G : St → Option (Ex × St)) : roundK Try.prog (E k) 96 4 (subC (bodyOf Try.f59) [1, 1, 1, 1, 1, 1, 0, 1, 0, 0]) (restrict (S.map (·.1)) (H.map (·.1))) (finBy (S.map (·.1)) (H.map (·.1)) [] []) G ⟨mkS S d, mkH H e⟩ =
    step (fun x6 y1005 => some (.exit 4, KX d e (x6, y1005))) (fun x6 y1005 => G ⟨mkS S (d.1, (), (), (), x6, ()), mkH H (e.1, e.2.1, y1005, ())⟩) k d.1 e.1 e.2.1 d.2.2.2.2.1 e.2.2.1 := by kernel_rfl
theorem it (k n : Nat) (d : (Int × Unit × Unit × Unit × Int × Unit)) (e : ((List Int) × (List Int) × (List Int) × Unit)) : loopIt Try.prog (E k) 96 4 (subC (bodyOf Try.f59) [1, 1, 1, 1, 1, 1, 0, 1, 0, 0]) (restrict (S.map (·.1)) (H.map (·.1))) (finBy (S.map (·.1)) (H.map (·.1)) [] []) n ⟨mkS S d, mkH H e⟩ = go (fun x6 y1005 => some (.exit 4, KX d e (x6, y1005))) k d.1 e.1 e.2.1 n d.2.2.2.2.1 e.2.2.1 :=
  loopIt_eq (D := (Int × Unit × Unit × Unit × Int × Unit) × ((List Int) × (List Int) × (List Int) × Unit)) (fun p => ⟨mkS S p.1, mkH H p.2⟩) (fun F p => step (fun x6 y1005 => some (.exit 4, KX p.1 p.2 (x6, y1005))) (fun x6 y1005 => F ((p.1.1, (), (), (), x6, ()), (p.2.1, p.2.2.1, y1005, ()))) k p.1.1 p.2.1 p.2.2.1 p.1.2.2.2.2.1 p.2.2.2.1) (fun n p => go (fun x6 y1005 => some (.exit 4, KX p.1 p.2 (x6, y1005))) k p.1.1 p.2.1 p.2.2.1 n p.1.2.2.2.2.1 p.2.2.2.1) (fun _ => rfl) (fun _ _ => rfl) (fun G p => round k p.1 p.2 G) n (d, e)
theorem ok (k : Nat) : LoopOK Try.prog 96 (subC (bodyOf Try.f59) [1, 1, 1, 1, 1, 1, 0, 1, 0, 0]) (sum k) :=
  loop_sigX hm (fE k) (loopsOK_of [] (by kernel_rfl) trivial) S H 4 (fun (d : (Int × Unit × Unit × Unit × Int × Unit)) (e : ((List Int) × (List Int) × (List Int) × Unit)) => f k d.1 e.1 e.2.1 k d.2.2.2.2.1 e.2.2.1) KX (S.map (·.1)) (H.map (·.1)) [] [] k
    (fun d e => (it k k d e).trans (go_nat (fun v => some (Ex.exit 4, KX d e v)) (fun x6 y1005 => some (x6, y1005)) k d.1 e.1 e.2.1 k d.2.2.2.2.1 e.2.2.1).symm)
end l4
theorem run (k : Nat) (d : ((List Int) × Int × Unit)) (e : Unit) : runFn Try.prog (E k) 96 (bodyOf Try.f59) Try.f59.results.toList hi (mkL ps d) (mkH hs e) =
    tree (fun b0 => leafFn hs hi e val wr b0) k d.1 d.2.1 := by kernel_rfl
theorem run_f (k : Nat) (d : ((List Int) × Int × Unit)) (e : Unit) : runFn Try.prog (E k) 96 (bodyOf Try.f59) Try.f59.results.toList hi (mkL ps d) (mkH hs e) = (f k d.1 d.2.1).bind (leafFn hs hi e val wr) :=
  (run k d e).trans (tree_nat (leafFn hs hi e val wr) (fun b0 => some b0) k d.1 d.2.1).symm
theorem fnIs : FnIs Try.prog 59 Try.f59 (bodyOf Try.f59) 96 := ⟨by kernel_rfl, by kernel_rfl, by kernel_rfl, by kernel_rfl⟩
theorem ok (k : Nat) : CalleeOK Try.prog 59 (callee k) :=
  callee_sig (T := (List Int)) fnIs hm (fE k) (loopsOK_of [(0, subC (bodyOf Try.f59) [1, 1, 1, 0, 0, 0]), (2, subC (bodyOf Try.f59) [1, 1, 1, 1, 0, 0, 0]), (4, subC (bodyOf Try.f59) [1, 1, 1, 1, 1, 1, 0, 1, 0, 0])] (by kernel_rfl) ⟨of_loop (l0.sum k) rfl (l0.ok k), ⟨of_loop (l2.sum k) rfl (l2.ok k), ⟨of_loop (l4.sum k) rfl (l4.ok k), trivial⟩⟩⟩) ps hs (fun (d : ((List Int) × Int × Unit)) (e : Unit) => f k d.1 d.2.1) val wr rfl (fun _ => rfl) (run_f k)
end trailheadref02_Move
namespace whole_Down
namespace l0
def step {X : Type} (K : Int → (List Int) → Option X) (G : Int → (List Int) → Option X) (k : Nat) (x6 : Int) (x7 : Int) (x19 : Int) (y1002 : (List Int)) (y1004 : (List Int)) (x20 : Int) (y1005 : (List Int)) : Option X :=
  (bif (decide (x20 < x19)) then (bif (decide (0 ≤ (addI .i64 x20 x6))) then (bif (decide ((addI .i64 x20 x6) < 4)) then (bif (decide ((Int.toNat (addI .i64 x20 x6)) < 4)) then (bif (decide (x7 < 0)) then none else (bif (decide (0 ≤ x20)) then (bif (decide (x20 < 4)) then (bif (decide ((Int.toNat x20) < 4)) then (bif (decide ((addI .i64 (addI .i64 x20 x6) 1) < (4 : Int))) then (bif (decide (0 ≤ x20)) then (bif (decide (x20 < 4)) then (bif (decide ((Int.toNat x20) < 4)) then (bif (decide (0 ≤ (addI .i64 (addI .i64 x20 x6) 1))) then (bif (decide ((addI .i64 (addI .i64 x20 x6) 1) < 4)) then (bif (decide ((Int.toNat (addI .i64 (addI .i64 x20 x6) 1)) < 4)) then (bif (decide ((subI .i64 64 x7) < 0)) then none else (bif (decide (0 ≤ x20)) then (bif (decide (x20 < 4)) then (bif (decide ((Int.toNat x20) < 4)) then (G (addI .i64 x20 1) (List.set (List.set y1005 (Int.toNat x20) (shrI .u64 (List.getD y1002 (Int.toNat (addI .i64 x20 x6)) 0) x7)) (Int.toNat x20) (orI .u64 (List.getD (List.set y1005 (Int.toNat x20) (shrI .u64 (List.getD y1002 (Int.toNat (addI .i64 x20 x6)) 0) x7)) (Int.toNat x20) 0) (shlI .u64 (List.getD y1002 (Int.toNat (addI .i64 (addI .i64 x20 x6) 1)) 0) (subI .i64 64 x7))))) else none) else none) else none)) else none) else none) else none) else none) else none) else none) else (G (addI .i64 x20 1) (List.set y1005 (Int.toNat x20) (shrI .u64 (List.getD y1002 (Int.toNat (addI .i64 x20 x6)) 0) x7)))) else none) else none) else none)) else none) else none) else none) else (K x20 y1005))
def go {X : Type} (K : Int → (List Int) → Option X) (k : Nat) (x6 : Int) (x7 : Int) (x19 : Int) (y1002 : (List Int)) (y1004 : (List Int)) : Nat → Int → (List Int) → Option X
  | 0, _, _ => none
  | n + 1, x20, y1005 => step K (go K k x6 x7 x19 y1002 y1004 n) k x6 x7 x19 y1002 y1004 x20 y1005
def f (k : Nat) (x6 : Int) (x7 : Int) (x19 : Int) (y1002 : (List Int)) (y1004 : (List Int)) (n : Nat) (x20 : Int) (y1005 : (List Int)) : Option (Int × (List Int)) := go (fun x20 y1005 => some (x20, y1005)) k x6 x7 x19 y1002 y1004 n x20 y1005
theorem step_nat {X Y : Type} (h : X → Option Y) (K : Int → (List Int) → Option X) (G : Int → (List Int) → Option X) (k : Nat) (x6 : Int) (x7 : Int) (x19 : Int) (y1002 : (List Int)) (y1004 : (List Int)) (x20 : Int) (y1005 : (List Int)) : Option.bind (step K G k x6 x7 x19 y1002 y1004 x20 y1005) h = step (fun x20 y1005 => Option.bind (K x20 y1005) h) (fun x20 y1005 => Option.bind (G x20 y1005) h) k x6 x7 x19 y1002 y1004 x20 y1005 := by
  simp only [step, bif_bind, sel_bind', Option.bind_assoc, Option.bind_none, Option.bind_some]
theorem go_nat {X Y : Type} (h : X → Option Y) (K : Int → (List Int) → Option X) (k : Nat) (x6 : Int) (x7 : Int) (x19 : Int) (y1002 : (List Int)) (y1004 : (List Int)) (n : Nat) : ∀ (x20 : Int) (y1005 : (List Int)), Option.bind (go K k x6 x7 x19 y1002 y1004 n x20 y1005) h = go (fun x20 y1005 => Option.bind (K x20 y1005) h) k x6 x7 x19 y1002 y1004 n x20 y1005 := by
  induction n with
  | zero => intros; rfl
  | succ n ih => intro x20 y1005; show Option.bind (step K (go K k x6 x7 x19 y1002 y1004 n) k x6 x7 x19 y1002 y1004 x20 y1005) h = step (fun x20 y1005 => Option.bind (K x20 y1005) h) (go (fun x20 y1005 => Option.bind (K x20 y1005) h) k x6 x7 x19 y1002 y1004 n) k x6 x7 x19 y1002 y1004 x20 y1005; rw [step_nat h]; simp only [ih]
abbrev S : List (Nat × Sh) := [(2, .ptr 1002), (4, .ptr 1004), (5, .ptr 1005), (6, .data (.int .i64)), (7, .data (.int .i64)), (19, .data (.int .i64)), (20, .data (.int .i64))]
abbrev H : List (Nat × ESh) := [(1002, .cell (.data (.arr .u64 4))), (1004, .cell (.data (.arr .u64 4))), (1005, .cell (.data (.arr .u64 4)))]
def KX (d : (Unit × Unit × Unit × Int × Int × Int × Int × Unit)) (e : ((List Int) × (List Int) × (List Int) × Unit)) (v : (Int × (List Int))) : St := ⟨mkS S ((), (), (), d.2.2.2.1, d.2.2.2.2.1, d.2.2.2.2.2.1, v.1, ()), mkH H (e.1, e.2.1, v.2, ())⟩
def sum (k : Nat) : LoopSum := sigLoopX S H 0 (fun (d : (Unit × Unit × Unit × Int × Int × Int × Int × Unit)) (e : ((List Int) × (List Int) × (List Int) × Unit)) => f k d.2.2.2.1 d.2.2.2.2.1 d.2.2.2.2.2.1 e.1 e.2.1 k d.2.2.2.2.2.2.1 e.2.2.1) KX
end l0
def tree {X : Type} (K : (List Int) → Option X) (k : Nat) (a0 : (List Int)) (a1 : Int) : Option X :=
  (bif (decide (a1 ≥ (256 : Int))) then (K ([0, 0, 0, 0] : (List Int))) else (Option.bind (whole_Down.l0.f k (quoI .i64 (mxI a1 0) 64) (remI (mxI a1 0) 64) (subI .i64 4 (quoI .i64 (mxI a1 0) 64)) a0 ([0, 0, 0, 0] : (List Int)) k (0 : Int) ([0, 0, 0, 0] : (List Int))) (fun r1 => (K r1.2))))
def f (k : Nat) (a0 : (List Int)) (a1 : Int) : Option (List Int) := tree (fun b0 => some b0) k a0 a1
theorem tree_nat {X Y : Type} (h : X → Option Y) (K : (List Int) → Option X) (k : Nat) (a0 : (List Int)) (a1 : Int) : Option.bind (tree K k a0 a1) h = tree (fun b0 => Option.bind (K b0) h) k a0 a1 := by
  simp only [tree, bif_bind, sel_bind', Option.bind_assoc, Option.bind_none, Option.bind_some]
abbrev ps : List Sh := [.data (.arr .u64 4), .data (.int .i64)]
abbrev hs : List (Nat × ESh) := []
abbrev hi : List Nat := hs.map (·.1)
def val (t : (List Int)) : AV := Sh.mk (.data (.arr .u64 4)) t
def wr (t : (List Int)) : Heap := []
def callee (k : Nat) : Callee := sigCallee ps hs (fun (d : ((List Int) × Int × Unit)) (e : Unit) => f k d.1 d.2.1) val wr
def E (k : Nat) : Env := ⟨fnTab [], loopTab [(0, l0.sum k)]⟩
theorem fE (k : Nat) : ∀ f, ∀ c ∈ (E k).fn f, CalleeOK Try.prog f c := fnTab_ok trivial
namespace l0
theorem round (k : Nat) (d : (Unit × Unit × Unit × Int × Int × Int × Int × Unit)) (e : ((List Int) × (List Int) × (List Int) × Unit)) (G : St → Option (Ex × St)) : roundK Try.prog (E k) 53 0 (subC (bodyOf Try.f60) [1, 1, 1, 1, 0, 1, 0, 0]) (restrict (S.map (·.1)) (H.map (·.1))) (finBy (S.map (·.1)) (H.map (·.1)) [] []) G ⟨mkS S d, mkH H e⟩ =
    step (fun x20 y1005 => some (.exit 0, KX d e (x20, y1005))) (fun x20 y1005 => G ⟨mkS S ((), (), (), d.2.2.2.1, d.2.2.2.2.1, d.2.2.2.2.2.1, x20, ()), mkH H (e.1, e.2.1, y1005, ())⟩) k d.2.2.2.1 d.2.2.2.2.1 d.2.2.2.2.2.1 e.1 e.2.1 d.2.2.2.2.2.2.1 e.2.2.1 := by kernel_rfl
theorem it (k n : Nat) (d : (Unit × Unit × Unit × Int × Int × Int × Int × Unit)) (e : ((List Int) × (List Int) × (List Int) × Unit)) : loopIt Try.prog (E k) 53 0 (subC (bodyOf Try.f60) [1, 1, 1, 1, 0, 1, 0, 0]) (restrict (S.map (·.1)) (H.map (·.1))) (finBy (S.map (·.1)) (H.map (·.1)) [] []) n ⟨mkS S d, mkH H e⟩ = go (fun x20 y1005 => some (.exit 0, KX d e (x20, y1005))) k d.2.2.2.1 d.2.2.2.2.1 d.2.2.2.2.2.1 e.1 e.2.1 n d.2.2.2.2.2.2.1 e.2.2.1 :=
  loopIt_eq (D := (Unit × Unit × Unit × Int × Int × Int × Int × Unit) × ((List Int) × (List Int) × (List Int) × Unit)) (fun p => ⟨mkS S p.1, mkH H p.2⟩) (fun F p => step (fun x20 y1005 => some (.exit 0, KX p.1 p.2 (x20, y1005))) (fun x20 y1005 => F (((), (), (), p.1.2.2.2.1, p.1.2.2.2.2.1, p.1.2.2.2.2.2.1, x20, ()), (p.2.1, p.2.2.1, y1005, ()))) k p.1.2.2.2.1 p.1.2.2.2.2.1 p.1.2.2.2.2.2.1 p.2.1 p.2.2.1 p.1.2.2.2.2.2.2.1 p.2.2.2.1) (fun n p => go (fun x20 y1005 => some (.exit 0, KX p.1 p.2 (x20, y1005))) k p.1.2.2.2.1 p.1.2.2.2.2.1 p.1.2.2.2.2.2.1 p.2.1 p.2.2.1 n p.1.2.2.2.2.2.2.1 p.2.2.2.1) (fun _ => rfl) (fun _ _ => rfl) (fun G p => round k p.1 p.2 G) n (d, e)
theorem ok (k : Nat) : LoopOK Try.prog 53 (subC (bodyOf Try.f60) [1, 1, 1, 1, 0, 1, 0, 0]) (sum k) :=
  loop_sigX hm (fE k) (loopsOK_of [] (by kernel_rfl) trivial) S H 0 (fun (d : (Unit × Unit × Unit × Int × Int × Int × Int × Unit)) (e : ((List Int) × (List Int) × (List Int) × Unit)) => f k d.2.2.2.1 d.2.2.2.2.1 d.2.2.2.2.2.1 e.1 e.2.1 k d.2.2.2.2.2.2.1 e.2.2.1) KX (S.map (·.1)) (H.map (·.1)) [] [] k
    (fun d e => (it k k d e).trans (go_nat (fun v => some (Ex.exit 0, KX d e v)) (fun x20 y1005 => some (x20, y1005)) k d.2.2.2.1 d.2.2.2.2.1 d.2.2.2.2.2.1 e.1 e.2.1 k d.2.2.2.2.2.2.1 e.2.2.1).symm)
end l0
theorem run (k : Nat) (d : ((List Int) × Int × Unit)) (e : Unit) : runFn Try.prog (E k) 53 (bodyOf Try.f60) Try.f60.results.toList hi (mkL ps d) (mkH hs e) =
    tree (fun b0 => leafFn hs hi e val wr b0) k d.1 d.2.1 := by kernel_rfl
theorem run_f (k : Nat) (d : ((List Int) × Int × Unit)) (e : Unit) : runFn Try.prog (E k) 53 (bodyOf Try.f60) Try.f60.results.toList hi (mkL ps d) (mkH hs e) = (f k d.1 d.2.1).bind (leafFn hs hi e val wr) :=
  (run k d e).trans (tree_nat (leafFn hs hi e val wr) (fun b0 => some b0) k d.1 d.2.1).symm
theorem fnIs : FnIs Try.prog 60 Try.f60 (bodyOf Try.f60) 53 := ⟨by kernel_rfl, by kernel_rfl, by kernel_rfl, by kernel_rfl⟩
theorem ok (k : Nat) : CalleeOK Try.prog 60 (callee k) :=
  callee_sig (T := (List Int)) fnIs hm (fE k) (loopsOK_of [(0, subC (bodyOf Try.f60) [1, 1, 1, 1, 0, 1, 0, 0])] (by kernel_rfl) ⟨of_loop (l0.sum k) rfl (l0.ok k), trivial⟩) ps hs (fun (d : ((List Int) × Int × Unit)) (e : Unit) => f k d.1 d.2.1) val wr rfl (fun _ => rfl) (run_f k)
end whole_Down
namespace trailheadlaw02_WholeMoves
def tree {X : Type} (K : Bool → Option X) (k : Nat) (a0 : (List Int)) (a1 : Int) : Option X :=
  (Option.bind (trailheadlaw02_alive.f k) (fun r1 => (bif (!r1) then (K false) else (Option.bind (whole_Up.f k a0 a1) (fun r2 => (Option.bind (trailheadref02_Move.f k a0 (mxI a1 0)) (fun r3 => (bif (decide (r2 = r3)) then (Option.bind (whole_Down.f k a0 a1) (fun r4 => (Option.bind (trailheadref02_Move.f k a0 (subI .i64 0 (mxI a1 0))) (fun r5 => (K (decide (r4 = r5))))))) else (K false)))))))))
def f (k : Nat) (a0 : (List Int)) (a1 : Int) : Option Bool := tree (fun b0 => some b0) k a0 a1
theorem tree_nat {X Y : Type} (h : X → Option Y) (K : Bool → Option X) (k : Nat) (a0 : (List Int)) (a1 : Int) : Option.bind (tree K k a0 a1) h = tree (fun b0 => Option.bind (K b0) h) k a0 a1 := by
  simp only [tree, bif_bind, sel_bind', Option.bind_assoc, Option.bind_none, Option.bind_some]
abbrev ps : List Sh := [.data (.arr .u64 4), .data (.int .i64)]
abbrev hs : List (Nat × ESh) := []
abbrev hi : List Nat := hs.map (·.1)
def val (t : Bool) : AV := Sh.mk (.data .bool) t
def wr (t : Bool) : Heap := []
def callee (k : Nat) : Callee := sigCallee ps hs (fun (d : ((List Int) × Int × Unit)) (e : Unit) => f k d.1 d.2.1) val wr
def E (k : Nat) : Env := ⟨fnTab [(38, [trailheadlaw02_alive.callee k]), (58, [whole_Up.callee k]), (59, [trailheadref02_Move.callee k]), (60, [whole_Down.callee k])], loopTab []⟩
theorem fE (k : Nat) : ∀ f, ∀ c ∈ (E k).fn f, CalleeOK Try.prog f c := fnTab_ok ⟨⟨trailheadlaw02_alive.ok k, trivial⟩, ⟨whole_Up.ok k, trivial⟩, ⟨trailheadref02_Move.ok k, trivial⟩, ⟨whole_Down.ok k, trivial⟩, trivial⟩
theorem run (k : Nat) (d : ((List Int) × Int × Unit)) (e : Unit) : runFn Try.prog (E k) 27 (bodyOf Try.f12) Try.f12.results.toList hi (mkL ps d) (mkH hs e) =
    tree (fun b0 => leafFn hs hi e val wr b0) k d.1 d.2.1 := by kernel_rfl
theorem run_f (k : Nat) (d : ((List Int) × Int × Unit)) (e : Unit) : runFn Try.prog (E k) 27 (bodyOf Try.f12) Try.f12.results.toList hi (mkL ps d) (mkH hs e) = (f k d.1 d.2.1).bind (leafFn hs hi e val wr) :=
  (run k d e).trans (tree_nat (leafFn hs hi e val wr) (fun b0 => some b0) k d.1 d.2.1).symm
theorem fnIs : FnIs Try.prog 12 Try.f12 (bodyOf Try.f12) 27 := ⟨by kernel_rfl, by kernel_rfl, by kernel_rfl, by kernel_rfl⟩
theorem ok (k : Nat) : CalleeOK Try.prog 12 (callee k) :=
  callee_sig (T := Bool) fnIs hm (fE k) (loopsOK_of [] (by kernel_rfl) trivial) ps hs (fun (d : ((List Int) × Int × Unit)) (e : Unit) => f k d.1 d.2.1) val wr rfl (fun _ => rfl) (run_f k)
end trailheadlaw02_WholeMoves
namespace trailheadlaw02_WholeBack
def tree {X : Type} (K : Bool → Option X) (k : Nat) (a0 : (List Int)) (a1 : Int) : Option X :=
  (Option.bind (trailheadlaw02_alive.f k) (fun r1 => (bif (!r1) then (K false) else (bif (decide (a1 < (0 : Int))) then (K true) else (bif (decide (a1 > (255 : Int))) then (K true) else (Option.bind (whole_Up.f k a0 a1) (fun r2 => (Option.bind (whole_Down.f k r2 a1) (fun r3 => (Option.bind (whole_Down.f k a0 a1) (fun r4 => (Option.bind (whole_Up.f k r4 a1) (fun r5 => (Option.bind (whole_Sub.f k a0 r3) (fun r6 => (Option.bind (whole_Sub.f k a0 r5) (fun r7 => (bif (!r7.2) then (Option.bind (whole_Len.f k r7.1) (fun r8 => (bif (decide (r8 ≤ a1)) then (Option.bind (whole_Len.f k r3) (fun r9 => (bif (decide (r9 ≤ (subI .i64 256 a1))) then (Option.bind (whole_Up.f k r6.1 a1) (fun r10 => (bif (decide (r10 = ([0, 0, 0, 0] : (List Int)))) then (Option.bind (whole_Len.f k a0) (fun r11 => (bif (decide ((addI .i64 r11 a1) > (256 : Int))) then (K true) else (K (decide (r3 = a0)))))) else (K false)))) else (K false)))) else (K false)))) else (K false)))))))))))))))))))
def f (k : Nat) (a0 : (List Int)) (a1 : Int) : Option Bool := tree (fun b0 => some b0) k a0 a1
theorem tree_nat {X Y : Type} (h : X → Option Y) (K : Bool → Option X) (k : Nat) (a0 : (List Int)) (a1 : Int) : Option.bind (tree K k a0 a1) h = tree (fun b0 => Option.bind (K b0) h) k a0 a1 := by
  simp only [tree, bif_bind, sel_bind', Option.bind_assoc, Option.bind_none, Option.bind_some]
abbrev ps : List Sh := [.data (.arr .u64 4), .data (.int .i64)]
abbrev hs : List (Nat × ESh) := []
abbrev hi : List Nat := hs.map (·.1)
def val (t : Bool) : AV := Sh.mk (.data .bool) t
def wr (t : Bool) : Heap := []
def callee (k : Nat) : Callee := sigCallee ps hs (fun (d : ((List Int) × Int × Unit)) (e : Unit) => f k d.1 d.2.1) val wr
def E (k : Nat) : Env := ⟨fnTab [(38, [trailheadlaw02_alive.callee k]), (58, [whole_Up.callee k]), (60, [whole_Down.callee k]), (53, [whole_Sub.callee k]), (43, [whole_Len.callee k])], loopTab []⟩
theorem fE (k : Nat) : ∀ f, ∀ c ∈ (E k).fn f, CalleeOK Try.prog f c := fnTab_ok ⟨⟨trailheadlaw02_alive.ok k, trivial⟩, ⟨whole_Up.ok k, trivial⟩, ⟨whole_Down.ok k, trivial⟩, ⟨whole_Sub.ok k, trivial⟩, ⟨whole_Len.ok k, trivial⟩, trivial⟩
theorem run (k : Nat) (d : ((List Int) × Int × Unit)) (e : Unit) : runFn Try.prog (E k) 75 (bodyOf Try.f17) Try.f17.results.toList hi (mkL ps d) (mkH hs e) =
    tree (fun b0 => leafFn hs hi e val wr b0) k d.1 d.2.1 := by kernel_rfl
theorem run_f (k : Nat) (d : ((List Int) × Int × Unit)) (e : Unit) : runFn Try.prog (E k) 75 (bodyOf Try.f17) Try.f17.results.toList hi (mkL ps d) (mkH hs e) = (f k d.1 d.2.1).bind (leafFn hs hi e val wr) :=
  (run k d e).trans (tree_nat (leafFn hs hi e val wr) (fun b0 => some b0) k d.1 d.2.1).symm
theorem fnIs : FnIs Try.prog 17 Try.f17 (bodyOf Try.f17) 75 := ⟨by kernel_rfl, by kernel_rfl, by kernel_rfl, by kernel_rfl⟩
theorem ok (k : Nat) : CalleeOK Try.prog 17 (callee k) :=
  callee_sig (T := Bool) fnIs hm (fE k) (loopsOK_of [] (by kernel_rfl) trivial) ps hs (fun (d : ((List Int) × Int × Unit)) (e : Unit) => f k d.1 d.2.1) val wr rfl (fun _ => rfl) (run_f k)
end trailheadlaw02_WholeBack
namespace whole_Quo
namespace l0
def step {X : Type} (K : Int → (List Int) → (List Int) → Option X) (G : Int → (List Int) → (List Int) → Option X) (k : Nat) (y1002 : (List Int)) (y1003 : (List Int)) (y1004 : (List Int)) (y1005 : (List Int)) (x8 : Int) (y1006 : (List Int)) (y1007 : (List Int)) : Option X :=
  (bif (decide (x8 ≥ (0 : Int))) then (Option.bind (whole_Up.f k y1007 (1 : Int)) (fun r3 => (bif (decide (0 ≤ (quoI .i64 x8 64))) then (bif (decide ((quoI .i64 x8 64) < 4)) then (bif (decide ((Int.toNat (quoI .i64 x8 64)) < 4)) then (bif (decide ((remI x8 64) < 0)) then none else (bif ((shrI .u64 (List.getD y1007 3 0) 63) == (1 : Int)) then (Option.bind (whole_Sub.f k (List.set r3 0 (orI .u64 (List.getD r3 0 0) (andI .u64 (shrI .u64 (List.getD y1002 (Int.toNat (quoI .i64 x8 64)) 0) (remI x8 64)) 1))) y1003) (fun r4 => (bif (decide (0 ≤ (quoI .i64 x8 64))) then (bif (decide ((quoI .i64 x8 64) < 4)) then (bif (decide ((Int.toNat (quoI .i64 x8 64)) < 4)) then (bif (decide ((remI x8 64) < 0)) then none else (bif (decide (0 ≤ (quoI .i64 x8 64))) then (bif (decide ((quoI .i64 x8 64) < 4)) then (bif (decide ((Int.toNat (quoI .i64 x8 64)) < 4)) then (G (subI .i64 x8 1) (List.set y1006 (Int.toNat (quoI .i64 x8 64)) (orI .u64 (List.getD y1006 (Int.toNat (quoI .i64 x8 64)) 0) (shlI .u64 1 (remI x8 64)))) r4.1) else none) else none) else none)) else none) else none) else none))) else (Option.bind (whole_Less.f k (List.set r3 0 (orI .u64 (List.getD r3 0 0) (andI .u64 (shrI .u64 (List.getD y1002 (Int.toNat (quoI .i64 x8 64)) 0) (remI x8 64)) 1))) y1003) (fun r5 => (bif (!r5) then (Option.bind (whole_Sub.f k (List.set r3 0 (orI .u64 (List.getD r3 0 0) (andI .u64 (shrI .u64 (List.getD y1002 (Int.toNat (quoI .i64 x8 64)) 0) (remI x8 64)) 1))) y1003) (fun r6 => (bif (decide (0 ≤ (quoI .i64 x8 64))) then (bif (decide ((quoI .i64 x8 64) < 4)) then (bif (decide ((Int.toNat (quoI .i64 x8 64)) < 4)) then (bif (decide ((remI x8 64) < 0)) then none else (bif (decide (0 ≤ (quoI .i64 x8 64))) then (bif (decide ((quoI .i64 x8 64) < 4)) then (bif (decide ((Int.toNat (quoI .i64 x8 64)) < 4)) then (G (subI .i64 x8 1) (List.set y1006 (Int.toNat (quoI .i64 x8 64)) (orI .u64 (List.getD y1006 (Int.toNat (quoI .i64 x8 64)) 0) (shlI .u64 1 (remI x8 64)))) r6.1) else none) else none) else none)) else none) else none) else none))) else (G (subI .i64 x8 1) y1006 (List.set r3 0 (orI .u64 (List.getD r3 0 0) (andI .u64 (shrI .u64 (List.getD y1002 (Int.toNat (quoI .i64 x8 64)) 0) (remI x8 64)) 1))))))))) else none) else none) else none))) else (K x8 y1006 y1007))
def go {X : Type} (K : Int → (List Int) → (List Int) → Option X) (k : Nat) (y1002 : (List Int)) (y1003 : (List Int)) (y1004 : (List Int)) (y1005 : (List Int)) : Nat → Int → (List Int) → (List Int) → Option X
  | 0, _, _, _ => none
  | n + 1, x8, y1006, y1007 => step K (go K k y1002 y1003 y1004 y1005 n) k y1002 y1003 y1004 y1005 x8 y1006 y1007
def f (k : Nat) (y1002 : (List Int)) (y1003 : (List Int)) (y1004 : (List Int)) (y1005 : (List Int)) (n : Nat) (x8 : Int) (y1006 : (List Int)) (y1007 : (List Int)) : Option (Int × ((List Int) × (List Int))) := go (fun x8 y1006 y1007 => some (x8, y1006, y1007)) k y1002 y1003 y1004 y1005 n x8 y1006 y1007
theorem step_nat {X Y : Type} (h : X → Option Y) (K : Int → (List Int) → (List Int) → Option X) (G : Int → (List Int) → (List Int) → Option X) (k : Nat) (y1002 : (List Int)) (y1003 : (List Int)) (y1004 : (List Int)) (y1005 : (List Int)) (x8 : Int) (y1006 : (List Int)) (y1007 : (List Int)) : Option.bind (step K G k y1002 y1003 y1004 y1005 x8 y1006 y1007) h = step (fun x8 y1006 y1007 => Option.bind (K x8 y1006 y1007) h) (fun x8 y1006 y1007 => Option.bind (G x8 y1006 y1007) h) k y1002 y1003 y1004 y1005 x8 y1006 y1007 := by
  simp only [step, bif_bind, sel_bind', Option.bind_assoc, Option.bind_none, Option.bind_some]
theorem go_nat {X Y : Type} (h : X → Option Y) (K : Int → (List Int) → (List Int) → Option X) (k : Nat) (y1002 : (List Int)) (y1003 : (List Int)) (y1004 : (List Int)) (y1005 : (List Int)) (n : Nat) : ∀ (x8 : Int) (y1006 : (List Int)) (y1007 : (List Int)), Option.bind (go K k y1002 y1003 y1004 y1005 n x8 y1006 y1007) h = go (fun x8 y1006 y1007 => Option.bind (K x8 y1006 y1007) h) k y1002 y1003 y1004 y1005 n x8 y1006 y1007 := by
  induction n with
  | zero => intros; rfl
  | succ n ih => intro x8 y1006 y1007; show Option.bind (step K (go K k y1002 y1003 y1004 y1005 n) k y1002 y1003 y1004 y1005 x8 y1006 y1007) h = step (fun x8 y1006 y1007 => Option.bind (K x8 y1006 y1007) h) (go (fun x8 y1006 y1007 => Option.bind (K x8 y1006 y1007) h) k y1002 y1003 y1004 y1005 n) k y1002 y1003 y1004 y1005 x8 y1006 y1007; rw [step_nat h]; simp only [ih]
abbrev S : List (Nat × Sh) := [(2, .ptr 1002), (3, .ptr 1003), (4, .ptr 1004), (5, .ptr 1005), (6, .ptr 1006), (7, .ptr 1007), (8, .data (.int .i64))]
abbrev H : List (Nat × ESh) := [(1002, .cell (.data (.arr .u64 4))), (1003, .cell (.data (.arr .u64 4))), (1004, .cell (.data (.arr .u64 4))), (1005, .cell (.data (.arr .u64 4))), (1006, .cell (.data (.arr .u64 4))), (1007, .cell (.data (.arr .u64 4)))]
def KX (d : (Unit × Unit × Unit × Unit × Unit × Unit × Int × Unit)) (e : ((List Int) × (List Int) × (List Int) × (List Int) × (List Int) × (List Int) × Unit)) (v : (Int × ((List Int) × (List Int)))) : St := ⟨mkS S ((), (), (), (), (), (), v.1, ()), mkH H (e.1, e.2.1, e.2.2.1, e.2.2.2.1, v.2.1, v.2.2, ())⟩
def sum (k : Nat) : LoopSum := sigLoopX S H 0 (fun (d : (Unit × Unit × Unit × Unit × Unit × Unit × Int × Unit)) (e : ((List Int) × (List Int) × (List Int) × (List Int) × (List Int) × (List Int) × Unit)) => f k e.1 e.2.1 e.2.2.1 e.2.2.2.1 k d.2.2.2.2.2.2.1 e.2.2.2.2.1 e.2.2.2.2.2.1) KX
end l0
def tree {X : Type} (K : (List Int) → (List Int) → Option X) (k : Nat) (a0 : (List Int)) (a1 : (List Int)) : Option X :=
  (Option.bind (whole_Zero.f k a1) (fun r1 => (bif r1 then (K ([0, 0, 0, 0] : (List Int)) ([0, 0, 0, 0] : (List Int))) else (Option.bind (whole_Len.f k a0) (fun r2 => (Option.bind (whole_Quo.l0.f k a0 a1 ([0, 0, 0, 0] : (List Int)) ([0, 0, 0, 0] : (List Int)) k (subI .i64 r2 1) ([0, 0, 0, 0] : (List Int)) ([0, 0, 0, 0] : (List Int))) (fun r7 => (K r7.2.1 r7.2.2))))))))
def f (k : Nat) (a0 : (List Int)) (a1 : (List Int)) : Option ((List Int) × (List Int)) := tree (fun b0 b1 => some (b0, b1)) k a0 a1
theorem tree_nat {X Y : Type} (h : X → Option Y) (K : (List Int) → (List Int) → Option X) (k : Nat) (a0 : (List Int)) (a1 : (List Int)) : Option.bind (tree K k a0 a1) h = tree (fun b0 b1 => Option.bind (K b0 b1) h) k a0 a1 := by
  simp only [tree, bif_bind, sel_bind', Option.bind_assoc, Option.bind_none, Option.bind_some]
abbrev ps : List Sh := [.data (.arr .u64 4), .data (.arr .u64 4)]
abbrev hs : List (Nat × ESh) := []
abbrev hi : List Nat := hs.map (·.1)
def val (t : ((List Int) × (List Int))) : AV := .tcons (Sh.mk (.data (.arr .u64 4)) t.1) (.tcons (Sh.mk (.data (.arr .u64 4)) t.2) .tnil)
def wr (t : ((List Int) × (List Int))) : Heap := []
def callee (k : Nat) : Callee := sigCallee ps hs (fun (d : ((List Int) × (List Int) × Unit)) (e : Unit) => f k d.1 d.2.1) val wr
def E (k : Nat) : Env := ⟨fnTab [(42, [whole_Zero.callee k]), (43, [whole_Len.callee k]), (58, [whole_Up.callee k]), (53, [whole_Sub.callee k]), (41, [whole_Less.callee k])], loopTab [(0, l0.sum k)]⟩
theorem fE (k : Nat) : ∀ f, ∀ c ∈ (E k).fn f, CalleeOK Try.prog f c := fnTab_ok ⟨⟨whole_Zero.ok k, trivial⟩, ⟨whole_Len.ok k, trivial⟩, ⟨whole_Up.ok k, trivial⟩, ⟨whole_Sub.ok k, trivial⟩, ⟨whole_Less.ok k, trivial⟩, trivial⟩
namespace l0
theorem round (k : Nat) (d : (Unit × Unit × Unit × Unit × Unit × Unit × Int × Unit)) (e : ((List Int) × (List Int) × (List Int) × (List Int) × (List Int) × (List Int) × Unit)) (G : St → Option (Ex × St)) : roundK Try.prog (E k) 63 0 (subC (bodyOf Try.f70) [1, 1, 1, 0, 1, 0, 0]) (restrict (S.map (·.1)) (H.map (·.1))) (finBy (S.map (·.1)) (H.map (·.1)) [] []) G ⟨mkS S d, mkH H e⟩ =
    step (fun x8 y1006 y1007 => some (.exit 0, KX d e (x8, y1006, y1007))) (fun x8 y1006 y1007 => G ⟨mkS S ((), (), (), (), (), (), x8, ()), mkH H (e.1, e.2.1, e.2.2.1, e.2.2.2.1, y1006, y1007, ())⟩) k e.1 e.2.1 e.2.2.1 e.2.2.2.1 d.2.2.2.2.2.2.1 e.2.2.2.2.1 e.2.2.2.2.2.1 := by kernel_rfl
theorem it (k n : Nat) (d : (Unit × Unit × Unit × Unit × Unit × Unit × Int × Unit)) (e : ((List Int) × (List Int) × (List Int) × (List Int) × (List Int) × (List Int) × Unit)) : loopIt Try.prog (E k) 63 0 (subC (bodyOf Try.f70) [1, 1, 1, 0, 1, 0, 0]) (restrict (S.map (·.1)) (H.map (·.1))) (finBy (S.map (·.1)) (H.map (·.1)) [] []) n ⟨mkS S d, mkH H e⟩ = go (fun x8 y1006 y1007 => some (.exit 0, KX d e (x8, y1006, y1007))) k e.1 e.2.1 e.2.2.1 e.2.2.2.1 n d.2.2.2.2.2.2.1 e.2.2.2.2.1 e.2.2.2.2.2.1 :=
  loopIt_eq (D := (Unit × Unit × Unit × Unit × Unit × Unit × Int × Unit) × ((List Int) × (List Int) × (List Int) × (List Int) × (List Int) × (List Int) × Unit)) (fun p => ⟨mkS S p.1, mkH H p.2⟩) (fun F p => step (fun x8 y1006 y1007 => some (.exit 0, KX p.1 p.2 (x8, y1006, y1007))) (fun x8 y1006 y1007 => F (((), (), (), (), (), (), x8, ()), (p.2.1, p.2.2.1, p.2.2.2.1, p.2.2.2.2.1, y1006, y1007, ()))) k p.2.1 p.2.2.1 p.2.2.2.1 p.2.2.2.2.1 p.1.2.2.2.2.2.2.1 p.2.2.2.2.2.1 p.2.2.2.2.2.2.1) (fun n p => go (fun x8 y1006 y1007 => some (.exit 0, KX p.1 p.2 (x8, y1006, y1007))) k p.2.1 p.2.2.1 p.2.2.2.1 p.2.2.2.2.1 n p.1.2.2.2.2.2.2.1 p.2.2.2.2.2.1 p.2.2.2.2.2.2.1) (fun _ => rfl) (fun _ _ => rfl) (fun G p => round k p.1 p.2 G) n (d, e)
theorem ok (k : Nat) : LoopOK Try.prog 63 (subC (bodyOf Try.f70) [1, 1, 1, 0, 1, 0, 0]) (sum k) :=
  loop_sigX hm (fE k) (loopsOK_of [] (by kernel_rfl) trivial) S H 0 (fun (d : (Unit × Unit × Unit × Unit × Unit × Unit × Int × Unit)) (e : ((List Int) × (List Int) × (List Int) × (List Int) × (List Int) × (List Int) × Unit)) => f k e.1 e.2.1 e.2.2.1 e.2.2.2.1 k d.2.2.2.2.2.2.1 e.2.2.2.2.1 e.2.2.2.2.2.1) KX (S.map (·.1)) (H.map (·.1)) [] [] k
    (fun d e => (it k k d e).trans (go_nat (fun v => some (Ex.exit 0, KX d e v)) (fun x8 y1006 y1007 => some (x8, y1006, y1007)) k e.1 e.2.1 e.2.2.1 e.2.2.2.1 k d.2.2.2.2.2.2.1 e.2.2.2.2.1 e.2.2.2.2.2.1).symm)
end l0
theorem run (k : Nat) (d : ((List Int) × (List Int) × Unit)) (e : Unit) : runFn Try.prog (E k) 63 (bodyOf Try.f70) Try.f70.results.toList hi (mkL ps d) (mkH hs e) =
    tree (fun b0 b1 => leafFn hs hi e val wr (b0, b1)) k d.1 d.2.1 := by kernel_rfl
theorem run_f (k : Nat) (d : ((List Int) × (List Int) × Unit)) (e : Unit) : runFn Try.prog (E k) 63 (bodyOf Try.f70) Try.f70.results.toList hi (mkL ps d) (mkH hs e) = (f k d.1 d.2.1).bind (leafFn hs hi e val wr) :=
  (run k d e).trans (tree_nat (leafFn hs hi e val wr) (fun b0 b1 => some (b0, b1)) k d.1 d.2.1).symm
theorem fnIs : FnIs Try.prog 70 Try.f70 (bodyOf Try.f70) 63 := ⟨by kernel_rfl, by kernel_rfl, by kernel_rfl, by kernel_rfl⟩
theorem ok (k : Nat) : CalleeOK Try.prog 70 (callee k) :=
  callee_sig (T := ((List Int) × (List Int))) fnIs hm (fE k) (loopsOK_of [(0, subC (bodyOf Try.f70) [1, 1, 1, 0, 1, 0, 0])] (by kernel_rfl) ⟨of_loop (l0.sum k) rfl (l0.ok k), trivial⟩) ps hs (fun (d : ((List Int) × (List Int) × Unit)) (e : Unit) => f k d.1 d.2.1) val wr rfl (fun _ => rfl) (run_f k)
end whole_Quo
namespace trailheadref02_Quo
namespace l0
def step {X : Type} (K : Int → (List Int) → (List Int) → Option X) (G : Int → (List Int) → (List Int) → Option X) (k : Nat) (y1003 : (List Int)) (y1004 : (List Int)) (y1005 : (List Int)) (x8 : Int) (y1006 : (List Int)) (y1007 : (List Int)) : Option X :=
  (bif (decide (x8 ≥ (0 : Int))) then (Option.bind (trailheadref02_Move.f k y1003 x8) (fun r1 => (Option.bind (trailheadref02_Move.f k r1 (subI .i64 0 x8)) (fun r2 => (bif (decide (r2 = y1003)) then (Option.bind (trailheadref02_Less.f k y1007 r1) (fun r3 => (bif (!r3) then (Option.bind (trailheadref02_Sub.f k y1007 r1) (fun r4 => (Option.bind (trailheadref02_set.f k y1006 x8) (fun r5 => (G (subI .i64 x8 1) r5 r4.1))))) else (G (subI .i64 x8 1) y1006 y1007)))) else (G (subI .i64 x8 1) y1006 y1007)))))) else (K x8 y1006 y1007))
def go {X : Type} (K : Int → (List Int) → (List Int) → Option X) (k : Nat) (y1003 : (List Int)) (y1004 : (List Int)) (y1005 : (List Int)) : Nat → Int → (List Int) → (List Int) → Option X
  | 0, _, _, _ => none
  | n + 1, x8, y1006, y1007 => step K (go K k y1003 y1004 y1005 n) k y1003 y1004 y1005 x8 y1006 y1007
def f (k : Nat) (y1003 : (List Int)) (y1004 : (List Int)) (y1005 : (List Int)) (n : Nat) (x8 : Int) (y1006 : (List Int)) (y1007 : (List Int)) : Option (Int × ((List Int) × (List Int))) := go (fun x8 y1006 y1007 => some (x8, y1006, y1007)) k y1003 y1004 y1005 n x8 y1006 y1007
theorem step_nat {X Y : Type} (h : X → Option Y) (K : Int → (List Int) → (List Int) → Option X) (G : Int → (List Int) → (List Int) → Option X) (k : Nat) (y1003 : (List Int)) (y1004 : (List Int)) (y1005 : (List Int)) (x8 : Int) (y1006 : (List Int)) (y1007 : (List Int)) : Option.bind (step K G k y1003 y1004 y1005 x8 y1006 y1007) h = step (fun x8 y1006 y1007 => Option.bind (K x8 y1006 y1007) h) (fun x8 y1006 y1007 => Option.bind (G x8 y1006 y1007) h) k y1003 y1004 y1005 x8 y1006 y1007 := by
  simp only [step, bif_bind, sel_bind', Option.bind_assoc, Option.bind_none, Option.bind_some]
theorem go_nat {X Y : Type} (h : X → Option Y) (K : Int → (List Int) → (List Int) → Option X) (k : Nat) (y1003 : (List Int)) (y1004 : (List Int)) (y1005 : (List Int)) (n : Nat) : ∀ (x8 : Int) (y1006 : (List Int)) (y1007 : (List Int)), Option.bind (go K k y1003 y1004 y1005 n x8 y1006 y1007) h = go (fun x8 y1006 y1007 => Option.bind (K x8 y1006 y1007) h) k y1003 y1004 y1005 n x8 y1006 y1007 := by
  induction n with
  | zero => intros; rfl
  | succ n ih => intro x8 y1006 y1007; show Option.bind (step K (go K k y1003 y1004 y1005 n) k y1003 y1004 y1005 x8 y1006 y1007) h = step (fun x8 y1006 y1007 => Option.bind (K x8 y1006 y1007) h) (go (fun x8 y1006 y1007 => Option.bind (K x8 y1006 y1007) h) k y1003 y1004 y1005 n) k y1003 y1004 y1005 x8 y1006 y1007; rw [step_nat h]; simp only [ih]
abbrev S : List (Nat × Sh) := [(3, .ptr 1003), (4, .ptr 1004), (5, .ptr 1005), (6, .ptr 1006), (7, .ptr 1007), (8, .data (.int .i64))]
abbrev H : List (Nat × ESh) := [(1003, .cell (.data (.arr .u64 4))), (1004, .cell (.data (.arr .u64 4))), (1005, .cell (.data (.arr .u64 4))), (1006, .cell (.data (.arr .u64 4))), (1007, .cell (.data (.arr .u64 4)))]
def KX (d : (Unit × Unit × Unit × Unit × Unit × Int × Unit)) (e : ((List Int) × (List Int) × (List Int) × (List Int) × (List Int) × Unit)) (v : (Int × ((List Int) × (List Int)))) : St := ⟨mkS S ((), (), (), (), (), v.1, ()), mkH H (e.1, e.2.1, e.2.2.1, v.2.1, v.2.2, ())⟩
def sum (k : Nat) : LoopSum := sigLoopX S H 0 (fun (d : (Unit × Unit × Unit × Unit × Unit × Int × Unit)) (e : ((List Int) × (List Int) × (List Int) × (List Int) × (List Int) × Unit)) => f k e.1 e.2.1 e.2.2.1 k d.2.2.2.2.2.1 e.2.2.2.1 e.2.2.2.2.1) KX
end l0
def tree {X : Type} (K : (List Int) → (List Int) → Option X) (k : Nat) (a0 : (List Int)) (a1 : (List Int)) : Option X :=
  (bif (decide (a1 = ([0, 0, 0, 0] : (List Int)))) then (K ([0, 0, 0, 0] : (List Int)) ([0, 0, 0, 0] : (List Int))) else (Option.bind (trailheadref02_Quo.l0.f k a1 ([0, 0, 0, 0] : (List Int)) ([0, 0, 0, 0] : (List Int)) k (255 : Int) ([0, 0, 0, 0] : (List Int)) a0) (fun r6 => (K r6.2.1 r6.2.2))))
def f (k : Nat) (a0 : (List Int)) (a1 : (List Int)) : Option ((List Int) × (List Int)) := tree (fun b0 b1 => some (b0, b1)) k a0 a1
theorem tree_nat {X Y : Type} (h : X → Option Y) (K : (List Int) → (List Int) → Option X) (k : Nat) (a0 : (List Int)) (a1 : (List Int)) : Option.bind (tree K k a0 a1) h = tree (fun b0 b1 => Option.bind (K b0 b1) h) k a0 a1 := by
  simp only [tree, bif_bind, sel_bind', Option.bind_assoc, Option.bind_none, Option.bind_some]
abbrev ps : List Sh := [.data (.arr .u64 4), .data (.arr .u64 4)]
abbrev hs : List (Nat × ESh) := []
abbrev hi : List Nat := hs.map (·.1)
def val (t : ((List Int) × (List Int))) : AV := .tcons (Sh.mk (.data (.arr .u64 4)) t.1) (.tcons (Sh.mk (.data (.arr .u64 4)) t.2) .tnil)
def wr (t : ((List Int) × (List Int))) : Heap := []
def callee (k : Nat) : Callee := sigCallee ps hs (fun (d : ((List Int) × (List Int) × Unit)) (e : Unit) => f k d.1 d.2.1) val wr
def E (k : Nat) : Env := ⟨fnTab [(59, [trailheadref02_Move.callee k]), (29, [trailheadref02_Less.callee k]), (54, [trailheadref02_Sub.callee k]), (86, [trailheadref02_set.callee k])], loopTab [(0, l0.sum k)]⟩
theorem fE (k : Nat) : ∀ f, ∀ c ∈ (E k).fn f, CalleeOK Try.prog f c := fnTab_ok ⟨⟨trailheadref02_Move.ok k, trivial⟩, ⟨trailheadref02_Less.ok k, trivial⟩, ⟨trailheadref02_Sub.ok k, trivial⟩, ⟨trailheadref02_set.ok k, trivial⟩, trivial⟩
namespace l0
theorem round (k : Nat) (d : (Unit × Unit × Unit × Unit × Unit × Int × Unit)) (e : ((List Int) × (List Int) × (List Int) × (List Int) × (List Int) × Unit)) (G : St → Option (Ex × St)) : roundK Try.prog (E k) 47 0 (subC (bodyOf Try.f71) [1, 1, 1, 1, 0, 1, 0, 0]) (restrict (S.map (·.1)) (H.map (·.1))) (finBy (S.map (·.1)) (H.map (·.1)) [] []) G ⟨mkS S d, mkH H e⟩ =
    step (fun x8 y1006 y1007 => some (.exit 0, KX d e (x8, y1006, y1007))) (fun x8 y1006 y1007 => G ⟨mkS S ((), (), (), (), (), x8, ()), mkH H (e.1, e.2.1, e.2.2.1, y1006, y1007, ())⟩) k e.1 e.2.1 e.2.2.1 d.2.2.2.2.2.1 e.2.2.2.1 e.2.2.2.2.1 := by kernel_rfl
theorem it (k n : Nat) (d : (Unit × Unit × Unit × Unit × Unit × Int × Unit)) (e : ((List Int) × (List Int) × (List Int) × (List Int) × (List Int) × Unit)) : loopIt Try.prog (E k) 47 0 (subC (bodyOf Try.f71) [1, 1, 1, 1, 0, 1, 0, 0]) (restrict (S.map (·.1)) (H.map (·.1))) (finBy (S.map (·.1)) (H.map (·.1)) [] []) n ⟨mkS S d, mkH H e⟩ = go (fun x8 y1006 y1007 => some (.exit 0, KX d e (x8, y1006, y1007))) k e.1 e.2.1 e.2.2.1 n d.2.2.2.2.2.1 e.2.2.2.1 e.2.2.2.2.1 :=
  loopIt_eq (D := (Unit × Unit × Unit × Unit × Unit × Int × Unit) × ((List Int) × (List Int) × (List Int) × (List Int) × (List Int) × Unit)) (fun p => ⟨mkS S p.1, mkH H p.2⟩) (fun F p => step (fun x8 y1006 y1007 => some (.exit 0, KX p.1 p.2 (x8, y1006, y1007))) (fun x8 y1006 y1007 => F (((), (), (), (), (), x8, ()), (p.2.1, p.2.2.1, p.2.2.2.1, y1006, y1007, ()))) k p.2.1 p.2.2.1 p.2.2.2.1 p.1.2.2.2.2.2.1 p.2.2.2.2.1 p.2.2.2.2.2.1) (fun n p => go (fun x8 y1006 y1007 => some (.exit 0, KX p.1 p.2 (x8, y1006, y1007))) k p.2.1 p.2.2.1 p.2.2.2.1 n p.1.2.2.2.2.2.1 p.2.2.2.2.1 p.2.2.2.2.2.1) (fun _ => rfl) (fun _ _ => rfl) (fun G p => round k p.1 p.2 G) n (d, e)
theorem ok (k : Nat) : LoopOK Try.prog 47 (subC (bodyOf Try.f71) [1, 1, 1, 1, 0, 1, 0, 0]) (sum k) :=
  loop_sigX hm (fE k) (loopsOK_of [] (by kernel_rfl) trivial) S H 0 (fun (d : (Unit × Unit × Unit × Unit × Unit × Int × Unit)) (e : ((List Int) × (List Int) × (List Int) × (List Int) × (List Int) × Unit)) => f k e.1 e.2.1 e.2.2.1 k d.2.2.2.2.2.1 e.2.2.2.1 e.2.2.2.2.1) KX (S.map (·.1)) (H.map (·.1)) [] [] k
    (fun d e => (it k k d e).trans (go_nat (fun v => some (Ex.exit 0, KX d e v)) (fun x8 y1006 y1007 => some (x8, y1006, y1007)) k e.1 e.2.1 e.2.2.1 k d.2.2.2.2.2.1 e.2.2.2.1 e.2.2.2.2.1).symm)
end l0
theorem run (k : Nat) (d : ((List Int) × (List Int) × Unit)) (e : Unit) : runFn Try.prog (E k) 47 (bodyOf Try.f71) Try.f71.results.toList hi (mkL ps d) (mkH hs e) =
    tree (fun b0 b1 => leafFn hs hi e val wr (b0, b1)) k d.1 d.2.1 := by kernel_rfl
theorem run_f (k : Nat) (d : ((List Int) × (List Int) × Unit)) (e : Unit) : runFn Try.prog (E k) 47 (bodyOf Try.f71) Try.f71.results.toList hi (mkL ps d) (mkH hs e) = (f k d.1 d.2.1).bind (leafFn hs hi e val wr) :=
  (run k d e).trans (tree_nat (leafFn hs hi e val wr) (fun b0 b1 => some (b0, b1)) k d.1 d.2.1).symm
theorem fnIs : FnIs Try.prog 71 Try.f71 (bodyOf Try.f71) 47 := ⟨by kernel_rfl, by kernel_rfl, by kernel_rfl, by kernel_rfl⟩
theorem ok (k : Nat) : CalleeOK Try.prog 71 (callee k) :=
  callee_sig (T := ((List Int) × (List Int))) fnIs hm (fE k) (loopsOK_of [(0, subC (bodyOf Try.f71) [1, 1, 1, 1, 0, 1, 0, 0])] (by kernel_rfl) ⟨of_loop (l0.sum k) rfl (l0.ok k), trivial⟩) ps hs (fun (d : ((List Int) × (List Int) × Unit)) (e : Unit) => f k d.1 d.2.1) val wr rfl (fun _ => rfl) (run_f k)
end trailheadref02_Quo
namespace trailheadlaw02_WholeQuotients
def tree {X : Type} (K : Bool → Option X) (k : Nat) (a0 : (List Int)) (a1 : (List Int)) : Option X :=
  (Option.bind (trailheadlaw02_alive.f k) (fun r1 => (bif (!r1) then (K false) else (Option.bind (whole_Quo.f k a0 a1) (fun r2 => (Option.bind (trailheadref02_Quo.f k a0 a1) (fun r3 => (bif (decide (r2.1 = r3.1)) then (bif (decide (r2.2 = r3.2)) then (Option.bind (whole_Zero.f k a1) (fun r4 => (bif r4 then (K true) else (Option.bind (whole_Less.f k r2.2 a1) (fun r5 => (K r5)))))) else (K false)) else (K false)))))))))
def f (k : Nat) (a0 : (List Int)) (a1 : (List Int)) : Option Bool := tree (fun b0 => some b0) k a0 a1
theorem tree_nat {X Y : Type} (h : X → Option Y) (K : Bool → Option X) (k : Nat) (a0 : (List Int)) (a1 : (List Int)) : Option.bind (tree K k a0 a1) h = tree (fun b0 => Option.bind (K b0) h) k a0 a1 := by
  simp only [tree, bif_bind, sel_bind', Option.bind_assoc, Option.bind_none, Option.bind_some]
abbrev ps : List Sh := [.data (.arr .u64 4), .data (.arr .u64 4)]
abbrev hs : List (Nat × ESh) := []
abbrev hi : List Nat := hs.map (·.1)
def val (t : Bool) : AV := Sh.mk (.data .bool) t
def wr (t : Bool) : Heap := []
def callee (k : Nat) : Callee := sigCallee ps hs (fun (d : ((List Int) × (List Int) × Unit)) (e : Unit) => f k d.1 d.2.1) val wr
def E (k : Nat) : Env := ⟨fnTab [(38, [trailheadlaw02_alive.callee k]), (70, [whole_Quo.callee k]), (71, [trailheadref02_Quo.callee k]), (42, [whole_Zero.callee k]), (41, [whole_Less.callee k])], loopTab []⟩
theorem fE (k : Nat) : ∀ f, ∀ c ∈ (E k).fn f, CalleeOK Try.prog f c := fnTab_ok ⟨⟨trailheadlaw02_alive.ok k, trivial⟩, ⟨whole_Quo.ok k, trivial⟩, ⟨trailheadref02_Quo.ok k, trivial⟩, ⟨whole_Zero.ok k, trivial⟩, ⟨whole_Less.ok k, trivial⟩, trivial⟩
theorem run (k : Nat) (d : ((List Int) × (List Int) × Unit)) (e : Unit) : runFn Try.prog (E k) 40 (bodyOf Try.f18) Try.f18.results.toList hi (mkL ps d) (mkH hs e) =
    tree (fun b0 => leafFn hs hi e val wr b0) k d.1 d.2.1 := by kernel_rfl
theorem run_f (k : Nat) (d : ((List Int) × (List Int) × Unit)) (e : Unit) : runFn Try.prog (E k) 40 (bodyOf Try.f18) Try.f18.results.toList hi (mkL ps d) (mkH hs e) = (f k d.1 d.2.1).bind (leafFn hs hi e val wr) :=
  (run k d e).trans (tree_nat (leafFn hs hi e val wr) (fun b0 => some b0) k d.1 d.2.1).symm
theorem fnIs : FnIs Try.prog 18 Try.f18 (bodyOf Try.f18) 40 := ⟨by kernel_rfl, by kernel_rfl, by kernel_rfl, by kernel_rfl⟩
theorem ok (k : Nat) : CalleeOK Try.prog 18 (callee k) :=
  callee_sig (T := Bool) fnIs hm (fE k) (loopsOK_of [] (by kernel_rfl) trivial) ps hs (fun (d : ((List Int) × (List Int) × Unit)) (e : Unit) => f k d.1 d.2.1) val wr rfl (fun _ => rfl) (run_f k)
end trailheadlaw02_WholeQuotients
namespace math_bits_Mul64
def tree {X : Type} (K : Int → Int → Option X) (k : Nat) (a0 : Int) (a1 : Int) : Option X :=
  (K (addI .u64 (addI .u64 (mulI .u64 (shrI .u64 a0 32) (shrI .u64 a1 32)) (shrI .u64 (addI .u64 (mulI .u64 (shrI .u64 a0 32) (andI .u64 a1 4294967295)) (shrI .u64 (mulI .u64 (andI .u64 a0 4294967295) (andI .u64 a1 4294967295)) 32)) 32)) (shrI .u64 (addI .u64 (andI .u64 (addI .u64 (mulI .u64 (shrI .u64 a0 32) (andI .u64 a1 4294967295)) (shrI .u64 (mulI .u64 (andI .u64 a0 4294967295) (andI .u64 a1 4294967295)) 32)) 4294967295) (mulI .u64 (andI .u64 a0 4294967295) (shrI .u64 a1 32))) 32)) (mulI .u64 a0 a1))
def f (k : Nat) (a0 : Int) (a1 : Int) : Option (Int × Int) := tree (fun b0 b1 => some (b0, b1)) k a0 a1
theorem tree_nat {X Y : Type} (h : X → Option Y) (K : Int → Int → Option X) (k : Nat) (a0 : Int) (a1 : Int) : Option.bind (tree K k a0 a1) h = tree (fun b0 b1 => Option.bind (K b0 b1) h) k a0 a1 := by
  simp only [tree, bif_bind, sel_bind', Option.bind_assoc, Option.bind_none, Option.bind_some]
abbrev ps : List Sh := [.data (.int .u64), .data (.int .u64)]
abbrev hs : List (Nat × ESh) := []
abbrev hi : List Nat := hs.map (·.1)
def val (t : (Int × Int)) : AV := .tcons (Sh.mk (.data (.int .u64)) t.1) (.tcons (Sh.mk (.data (.int .u64)) t.2) .tnil)
def wr (t : (Int × Int)) : Heap := []
def callee (k : Nat) : Callee := sigCallee ps hs (fun (d : (Int × Int × Unit)) (e : Unit) => f k d.1 d.2.1) val wr
def E (k : Nat) : Env := ⟨fnTab [], loopTab []⟩
theorem fE (k : Nat) : ∀ f, ∀ c ∈ (E k).fn f, CalleeOK Try.prog f c := fnTab_ok trivial
theorem run (k : Nat) (d : (Int × Int × Unit)) (e : Unit) : runFn Try.prog (E k) 51 (bodyOf Try.f88) Try.f88.results.toList hi (mkL ps d) (mkH hs e) =
    tree (fun b0 b1 => leafFn hs hi e val wr (b0, b1)) k d.1 d.2.1 := by kernel_rfl
theorem run_f (k : Nat) (d : (Int × Int × Unit)) (e : Unit) : runFn Try.prog (E k) 51 (bodyOf Try.f88) Try.f88.results.toList hi (mkL ps d) (mkH hs e) = (f k d.1 d.2.1).bind (leafFn hs hi e val wr) :=
  (run k d e).trans (tree_nat (leafFn hs hi e val wr) (fun b0 b1 => some (b0, b1)) k d.1 d.2.1).symm
theorem fnIs : FnIs Try.prog 88 Try.f88 (bodyOf Try.f88) 51 := ⟨by kernel_rfl, by kernel_rfl, by kernel_rfl, by kernel_rfl⟩
theorem ok (k : Nat) : CalleeOK Try.prog 88 (callee k) :=
  callee_sig (T := (Int × Int)) fnIs hm (fE k) (loopsOK_of [] (by kernel_rfl) trivial) ps hs (fun (d : (Int × Int × Unit)) (e : Unit) => f k d.1 d.2.1) val wr rfl (fun _ => rfl) (run_f k)
end math_bits_Mul64
namespace whole_Times
namespace l0
def step {X : Type} (K : Int → Int → (List Int) → Option X) (G : Int → Int → (List Int) → Option X) (k : Nat) (x1 : Int) (x5 : Bool) (y1004 : (List Int)) (x6 : Int) (x11 : Int) (y1002 : (List Int)) : Option X :=
  (bif (decide (x11 < (4 : Int))) then (bif (decide (0 ≤ x11)) then (bif (decide (x11 < 4)) then (bif (decide ((Int.toNat x11) < 4)) then (Option.bind (math_bits_Mul64.f k (List.getD y1002 (Int.toNat x11) 0) x1) (fun r1 => (Option.bind (add64 r1.2 x6 0) (fun r2 => (bif (decide (0 ≤ x11)) then (bif (decide (x11 < 4)) then (bif (decide ((Int.toNat x11) < 4)) then (G (addI .u64 r1.1 r2.2) (addI .i64 x11 1) (List.set y1002 (Int.toNat x11) r2.1)) else none) else none) else none))))) else none) else none) else none) else (K x6 x11 y1002))
def go {X : Type} (K : Int → Int → (List Int) → Option X) (k : Nat) (x1 : Int) (x5 : Bool) (y1004 : (List Int)) : Nat → Int → Int → (List Int) → Option X
  | 0, _, _, _ => none
  | n + 1, x6, x11, y1002 => step K (go K k x1 x5 y1004 n) k x1 x5 y1004 x6 x11 y1002
def f (k : Nat) (x1 : Int) (x5 : Bool) (y1004 : (List Int)) (n : Nat) (x6 : Int) (x11 : Int) (y1002 : (List Int)) : Option (Int × (Int × (List Int))) := go (fun x6 x11 y1002 => some (x6, x11, y1002)) k x1 x5 y1004 n x6 x11 y1002
theorem step_nat {X Y : Type} (h : X → Option Y) (K : Int → Int → (List Int) → Option X) (G : Int → Int → (List Int) → Option X) (k : Nat) (x1 : Int) (x5 : Bool) (y1004 : (List Int)) (x6 : Int) (x11 : Int) (y1002 : (List Int)) : Option.bind (step K G k x1 x5 y1004 x6 x11 y1002) h = step (fun x6 x11 y1002 => Option.bind (K x6 x11 y1002) h) (fun x6 x11 y1002 => Option.bind (G x6 x11 y1002) h) k x1 x5 y1004 x6 x11 y1002 := by
  simp only [step, bif_bind, sel_bind', Option.bind_assoc, Option.bind_none, Option.bind_some]
theorem go_nat {X Y : Type} (h : X → Option Y) (K : Int → Int → (List Int) → Option X) (k : Nat) (x1 : Int) (x5 : Bool) (y1004 : (List Int)) (n : Nat) : ∀ (x6 : Int) (x11 : Int) (y1002 : (List Int)), Option.bind (go K k x1 x5 y1004 n x6 x11 y1002) h = go (fun x6 x11 y1002 => Option.bind (K x6 x11 y1002) h) k x1 x5 y1004 n x6 x11 y1002 := by
  induction n with
  | zero => intros; rfl
  | succ n ih => intro x6 x11 y1002; show Option.bind (step K (go K k x1 x5 y1004 n) k x1 x5 y1004 x6 x11 y1002) h = step (fun x6 x11 y1002 => Option.bind (K x6 x11 y1002) h) (go (fun x6 x11 y1002 => Option.bind (K x6 x11 y1002) h) k x1 x5 y1004 n) k x1 x5 y1004 x6 x11 y1002; rw [step_nat h]; simp only [ih]
abbrev S : List (Nat × Sh) := [(1, .data (.int .u64)), (2, .ptr 1002), (4, .ptr 1004), (5, .data .bool), (6, .data (.int .u64)), (11, .data (.int .i64))]
abbrev H : List (Nat × ESh) := [(1002, .cell (.data (.arr .u64 4))), (1004, .cell (.data (.arr .u64 4)))]
def KX (d : (Int × Unit × Unit × Bool × Int × Int × Unit)) (e : ((List Int) × (List Int) × Unit)) (v : (Int × (Int × (List Int)))) : St := ⟨mkS S (d.1, (), (), d.2.2.2.1, v.1, v.2.1, ()), mkH H (v.2.2, e.2.1, ())⟩
def sum (k : Nat) : LoopSum := sigLoopX S H 0 (fun (d : (Int × Unit × Unit × Bool × Int × Int × Unit)) (e : ((List Int) × (List Int) × Unit)) => f k d.1 d.2.2.2.1 e.2.1 k d.2.2.2.2.1 d.2.2.2.2.2.1 e.1) KX
end l0
def tree {X : Type} (K : (List Int) → Bool → Option X) (k : Nat) (a0 : (List Int)) (a1 : Int) : Option X :=
  (Option.bind (whole_Times.l0.f k a1 false ([0, 0, 0, 0] : (List Int)) k (0 : Int) (0 : Int) a0) (fun r3 => (K r3.2.2 (r3.1 != (0 : Int)))))
def f (k : Nat) (a0 : (List Int)) (a1 : Int) : Option ((List Int) × Bool) := tree (fun b0 b1 => some (b0, b1)) k a0 a1
theorem tree_nat {X Y : Type} (h : X → Option Y) (K : (List Int) → Bool → Option X) (k : Nat) (a0 : (List Int)) (a1 : Int) : Option.bind (tree K k a0 a1) h = tree (fun b0 b1 => Option.bind (K b0 b1) h) k a0 a1 := by
  simp only [tree, bif_bind, sel_bind', Option.bind_assoc, Option.bind_none, Option.bind_some]
abbrev ps : List Sh := [.data (.arr .u64 4), .data (.int .u64)]
abbrev hs : List (Nat × ESh) := []
abbrev hi : List Nat := hs.map (·.1)
def val (t : ((List Int) × Bool)) : AV := .tcons (Sh.mk (.data (.arr .u64 4)) t.1) (.tcons (Sh.mk (.data .bool) t.2) .tnil)
def wr (t : ((List Int) × Bool)) : Heap := []
def callee (k : Nat) : Callee := sigCallee ps hs (fun (d : ((List Int) × Int × Unit)) (e : Unit) => f k d.1 d.2.1) val wr
def E (k : Nat) : Env := ⟨fnTab [(88, [math_bits_Mul64.callee k]), (85, [.ext (Int × Int) (run3 add64) pair64])], loopTab [(0, l0.sum k)]⟩
theorem fE (k : Nat) : ∀ f, ∀ c ∈ (E k).fn f, CalleeOK Try.prog f c := fnTab_ok ⟨⟨math_bits_Mul64.ok k, trivial⟩, ⟨ext85, trivial⟩, trivial⟩
namespace l0
theorem round (k : Nat) (d : (Int × Unit × Unit × Bool × Int × Int × Unit)) (e : ((List Int) × (List Int) × Unit)) (G : St → Option (Ex × St)) : roundK Try.prog (E k) 37 0 (subC (bodyOf Try.f72) [1, 1, 0, 1, 0, 0]) (restrict (S.map (·.1)) (H.map (·.1))) (finBy (S.map (·.1)) (H.map (·.1)) [] []) G ⟨mkS S d, mkH H e⟩ =
    step (fun x6 x11 y1002 => some (.exit 0, KX d e (x6, x11, y1002))) (fun x6 x11 y1002 => G ⟨mkS S (d.1, (), (), d.2.2.2.1, x6, x11, ()), mkH H (y1002, e.2.1, ())⟩) k d.1 d.2.2.2.1 e.2.1 d.2.2.2.2.1 d.2.2.2.2.2.1 e.1 := by kernel_rfl
theorem it (k n : Nat) (d : (Int × Unit × Unit × Bool × Int × Int × Unit)) (e : ((List Int) × (List Int) × Unit)) : loopIt Try.prog (E k) 37 0 (subC (bodyOf Try.f72) [1, 1, 0, 1, 0, 0]) (restrict (S.map (·.1)) (H.map (·.1))) (finBy (S.map (·.1)) (H.map (·.1)) [] []) n ⟨mkS S d, mkH H e⟩ = go (fun x6 x11 y1002 => some (.exit 0, KX d e (x6, x11, y1002))) k d.1 d.2.2.2.1 e.2.1 n d.2.2.2.2.1 d.2.2.2.2.2.1 e.1 :=
  loopIt_eq (D := (Int × Unit × Unit × Bool × Int × Int × Unit) × ((List Int) × (List Int) × Unit)) (fun p => ⟨mkS S p.1, mkH H p.2⟩) (fun F p => step (fun x6 x11 y1002 => some (.exit 0, KX p.1 p.2 (x6, x11, y1002))) (fun x6 x11 y1002 => F ((p.1.1, (), (), p.1.2.2.2.1, x6, x11, ()), (y1002, p.2.2.1, ()))) k p.1.1 p.1.2.2.2.1 p.2.2.1 p.1.2.2.2.2.1 p.1.2.2.2.2.2.1 p.2.1) (fun n p => go (fun x6 x11 y1002 => some (.exit 0, KX p.1 p.2 (x6, x11, y1002))) k p.1.1 p.1.2.2.2.1 p.2.2.1 n p.1.2.2.2.2.1 p.1.2.2.2.2.2.1 p.2.1) (fun _ => rfl) (fun _ _ => rfl) (fun G p => round k p.1 p.2 G) n (d, e)
theorem ok (k : Nat) : LoopOK Try.prog 37 (subC (bodyOf Try.f72) [1, 1, 0, 1, 0, 0]) (sum k) :=
  loop_sigX hm (fE k) (loopsOK_of [] (by kernel_rfl) trivial) S H 0 (fun (d : (Int × Unit × Unit × Bool × Int × Int × Unit)) (e : ((List Int) × (List Int) × Unit)) => f k d.1 d.2.2.2.1 e.2.1 k d.2.2.2.2.1 d.2.2.2.2.2.1 e.1) KX (S.map (·.1)) (H.map (·.1)) [] [] k
    (fun d e => (it k k d e).trans (go_nat (fun v => some (Ex.exit 0, KX d e v)) (fun x6 x11 y1002 => some (x6, x11, y1002)) k d.1 d.2.2.2.1 e.2.1 k d.2.2.2.2.1 d.2.2.2.2.2.1 e.1).symm)
end l0
theorem run (k : Nat) (d : ((List Int) × Int × Unit)) (e : Unit) : runFn Try.prog (E k) 37 (bodyOf Try.f72) Try.f72.results.toList hi (mkL ps d) (mkH hs e) =
    tree (fun b0 b1 => leafFn hs hi e val wr (b0, b1)) k d.1 d.2.1 := by kernel_rfl
theorem run_f (k : Nat) (d : ((List Int) × Int × Unit)) (e : Unit) : runFn Try.prog (E k) 37 (bodyOf Try.f72) Try.f72.results.toList hi (mkL ps d) (mkH hs e) = (f k d.1 d.2.1).bind (leafFn hs hi e val wr) :=
  (run k d e).trans (tree_nat (leafFn hs hi e val wr) (fun b0 b1 => some (b0, b1)) k d.1 d.2.1).symm
theorem fnIs : FnIs Try.prog 72 Try.f72 (bodyOf Try.f72) 37 := ⟨by kernel_rfl, by kernel_rfl, by kernel_rfl, by kernel_rfl⟩
theorem ok (k : Nat) : CalleeOK Try.prog 72 (callee k) :=
  callee_sig (T := ((List Int) × Bool)) fnIs hm (fE k) (loopsOK_of [(0, subC (bodyOf Try.f72) [1, 1, 0, 1, 0, 0])] (by kernel_rfl) ⟨of_loop (l0.sum k) rfl (l0.ok k), trivial⟩) ps hs (fun (d : ((List Int) × Int × Unit)) (e : Unit) => f k d.1 d.2.1) val wr rfl (fun _ => rfl) (run_f k)
end whole_Times
namespace trailheadref02_Times
namespace l0
def step {X : Type} (K : Bool → Int → (List Int) → Option X) (G : Bool → Int → (List Int) → Option X) (k : Nat) (x1 : Int) (x5 : Bool) (y1002 : (List Int)) (y1004 : (List Int)) (x7 : Bool) (x8 : Int) (y1006 : (List Int)) : Option X :=
  (bif (decide (x8 < (64 : Int))) then (bif (decide ((IntKind.wrap .u64 x8) < 0)) then none else (bif ((remI (shrI .u64 x1 (IntKind.wrap .u64 x8)) 2) == (1 : Int)) then (Option.bind (trailheadref02_Move.f k y1002 x8) (fun r1 => (Option.bind (trailheadref02_Add.f k y1006 r1) (fun r2 => (bif x7 then (G true (addI .i64 x8 1) r2.1) else (bif r2.2 then (G true (addI .i64 x8 1) r2.1) else (Option.bind (trailheadref02_Move.f k y1002 x8) (fun r3 => (Option.bind (trailheadref02_Move.f k r3 (subI .i64 0 x8)) (fun r4 => (G (!(decide (r4 = y1002))) (addI .i64 x8 1) r2.1))))))))))) else (G x7 (addI .i64 x8 1) y1006))) else (K x7 x8 y1006))
def go {X : Type} (K : Bool → Int → (List Int) → Option X) (k : Nat) (x1 : Int) (x5 : Bool) (y1002 : (List Int)) (y1004 : (List Int)) : Nat → Bool → Int → (List Int) → Option X
  | 0, _, _, _ => none
  | n + 1, x7, x8, y1006 => step K (go K k x1 x5 y1002 y1004 n) k x1 x5 y1002 y1004 x7 x8 y1006
def f (k : Nat) (x1 : Int) (x5 : Bool) (y1002 : (List Int)) (y1004 : (List Int)) (n : Nat) (x7 : Bool) (x8 : Int) (y1006 : (List Int)) : Option (Bool × (Int × (List Int))) := go (fun x7 x8 y1006 => some (x7, x8, y1006)) k x1 x5 y1002 y1004 n x7 x8 y1006
theorem step_nat {X Y : Type} (h : X → Option Y) (K : Bool → Int → (List Int) → Option X) (G : Bool → Int → (List Int) → Option X) (k : Nat) (x1 : Int) (x5 : Bool) (y1002 : (List Int)) (y1004 : (List Int)) (x7 : Bool) (x8 : Int) (y1006 : (List Int)) : Option.bind (step K G k x1 x5 y1002 y1004 x7 x8 y1006) h = step (fun x7 x8 y1006 => Option.bind (K x7 x8 y1006) h) (fun x7 x8 y1006 => Option.bind (G x7 x8 y1006) h) k x1 x5 y1002 y1004 x7 x8 y1006 := by
  simp only [step, bif_bind, sel_bind', Option.bind_assoc, Option.bind_none, Option.bind_some]
theorem go_nat {X Y : Type} (h : X → Option Y) (K : Bool → Int → (List Int) → Option X) (k : Nat) (x1 : Int) (x5 : Bool) (y1002 : (List Int)) (y1004 : (List Int)) (n : Nat) : ∀ (x7 : Bool) (x8 : Int) (y1006 : (List Int)), Option.bind (go K k x1 x5 y1002 y1004 n x7 x8 y1006) h = go (fun x7 x8 y1006 => Option.bind (K x7 x8 y1006) h) k x1 x5 y1002 y1004 n x7 x8 y1006 := by
  induction n with
  | zero => intros; rfl
  | succ n ih => intro x7 x8 y1006; show Option.bind (step K (go K k x1 x5 y1002 y1004 n) k x1 x5 y1002 y1004 x7 x8 y1006) h = step (fun x7 x8 y1006 => Option.bind (K x7 x8 y1006) h) (go (fun x7 x8 y1006 => Option.bind (K x7 x8 y1006) h) k x1 x5 y1002 y1004 n) k x1 x5 y1002 y1004 x7 x8 y1006; rw [step_nat h]; simp only [ih]
abbrev S : List (Nat × Sh) := [(1, .data (.int .u64)), (2, .ptr 1002), (4, .ptr 1004), (5, .data .bool), (6, .ptr 1006), (7, .data .bool), (8, .data (.int .i64))]
abbrev H : List (Nat × ESh) := [(1002, .cell (.data (.arr .u64 4))), (1004, .cell (.data (.arr .u64 4))), (1006, .cell (.data (.arr .u64 4)))]
def KX (d : (Int × Unit × Unit × Bool × Unit × Bool × Int × Unit)) (e : ((List Int) × (List Int) × (List Int) × Unit)) (v : (Bool × (Int × (List Int)))) : St := ⟨mkS S (d.1, (), (), d.2.2.2.1, (), v.1, v.2.1, ()), mkH H (e.1, e.2.1, v.2.2, ())⟩
def sum (k : Nat) : LoopSum := sigLoopX S H 0 (fun (d : (Int × Unit × Unit × Bool × Unit × Bool × Int × Unit)) (e : ((List Int) × (List Int) × (List Int) × Unit)) => f k d.1 d.2.2.2.1 e.1 e.2.1 k d.2.2.2.2.2.1 d.2.2.2.2.2.2.1 e.2.2.1) KX
end l0
def tree {X : Type} (K : (List Int) → Bool → Option X) (k : Nat) (a0 : (List Int)) (a1 : Int) : Option X :=
  (Option.bind (trailheadref02_Times.l0.f k a1 false a0 ([0, 0, 0, 0] : (List Int)) k false (0 : Int) ([0, 0, 0, 0] : (List Int))) (fun r5 => (K r5.2.2 r5.1)))
def f (k : Nat) (a0 : (List Int)) (a1 : Int) : Option ((List Int) × Bool) := tree (fun b0 b1 => some (b0, b1)) k a0 a1
theorem tree_nat {X Y : Type} (h : X → Option Y) (K : (List Int) → Bool → Option X) (k : Nat) (a0 : (List Int)) (a1 : Int) : Option.bind (tree K k a0 a1) h = tree (fun b0 b1 => Option.bind (K b0 b1) h) k a0 a1 := by
  simp only [tree, bif_bind, sel_bind', Option.bind_assoc, Option.bind_none, Option.bind_some]
abbrev ps : List Sh := [.data (.arr .u64 4), .data (.int .u64)]
abbrev hs : List (Nat × ESh) := []
abbrev hi : List Nat := hs.map (·.1)
def val (t : ((List Int) × Bool)) : AV := .tcons (Sh.mk (.data (.arr .u64 4)) t.1) (.tcons (Sh.mk (.data .bool) t.2) .tnil)
def wr (t : ((List Int) × Bool)) : Heap := []
def callee (k : Nat) : Callee := sigCallee ps hs (fun (d : ((List Int) × Int × Unit)) (e : Unit) => f k d.1 d.2.1) val wr
def E (k : Nat) : Env := ⟨fnTab [(59, [trailheadref02_Move.callee k]), (52, [trailheadref02_Add.callee k])], loopTab [(0, l0.sum k)]⟩
theorem fE (k : Nat) : ∀ f, ∀ c ∈ (E k).fn f, CalleeOK Try.prog f c := fnTab_ok ⟨⟨trailheadref02_Move.ok k, trivial⟩, ⟨trailheadref02_Add.ok k, trivial⟩, trivial⟩
namespace l0
theorem round (k : Nat) (d : (Int × Unit × Unit × Bool × Unit × Bool × Int × Unit)) (e : ((List Int) × (List Int) × (List Int) × Unit)) (G : St → Option (Ex × St)) : roundK Try.prog (E k) 47 0 (subC (bodyOf Try.f73) [1, 1, 1, 0, 1, 0, 0]) (restrict (S.map (·.1)) (H.map (·.1))) (finBy (S.map (·.1)) (H.map (·.1)) [] []) G ⟨mkS S d, mkH H e⟩ =
    step (fun x7 x8 y1006 => some (.exit 0, KX d e (x7, x8, y1006))) (fun x7 x8 y1006 => G ⟨mkS S (d.1, (), (), d.2.2.2.1, (), x7, x8, ()), mkH H (e.1, e.2.1, y1006, ())⟩) k d.1 d.2.2.2.1 e.1 e.2.1 d.2.2.2.2.2.1 d.2.2.2.2.2.2.1 e.2.2.1 := by kernel_rfl
theorem it (k n : Nat) (d : (Int × Unit × Unit × Bool × Unit × Bool × Int × Unit)) (e : ((List Int) × (List Int) × (List Int) × Unit)) : loopIt Try.prog (E k) 47 0 (subC (bodyOf Try.f73) [1, 1, 1, 0, 1, 0, 0]) (restrict (S.map (·.1)) (H.map (·.1))) (finBy (S.map (·.1)) (H.map (·.1)) [] []) n ⟨mkS S d, mkH H e⟩ = go (fun x7 x8 y1006 => some (.exit 0, KX d e (x7, x8, y1006))) k d.1 d.2.2.2.1 e.1 e.2.1 n d.2.2.2.2.2.1 d.2.2.2.2.2.2.1 e.2.2.1 :=
  loopIt_eq (D := (Int × Unit × Unit × Bool × Unit × Bool × Int × Unit) × ((List Int) × (List Int) × (List Int) × Unit)) (fun p => ⟨mkS S p.1, mkH H p.2⟩) (fun F p => step (fun x7 x8 y1006 => some (.exit 0, KX p.1 p.2 (x7, x8, y1006))) (fun x7 x8 y1006 => F ((p.1.1, (), (), p.1.2.2.2.1, (), x7, x8, ()), (p.2.1, p.2.2.1, y1006, ()))) k p.1.1 p.1.2.2.2.1 p.2.1 p.2.2.1 p.1.2.2.2.2.2.1 p.1.2.2.2.2.2.2.1 p.2.2.2.1) (fun n p => go (fun x7 x8 y1006 => some (.exit 0, KX p.1 p.2 (x7, x8, y1006))) k p.1.1 p.1.2.2.2.1 p.2.1 p.2.2.1 n p.1.2.2.2.2.2.1 p.1.2.2.2.2.2.2.1 p.2.2.2.1) (fun _ => rfl) (fun _ _ => rfl) (fun G p => round k p.1 p.2 G) n (d, e)
theorem ok (k : Nat) : LoopOK Try.prog 47 (subC (bodyOf Try.f73) [1, 1, 1, 0, 1, 0, 0]) (sum k) :=
  loop_sigX hm (fE k) (loopsOK_of [] (by kernel_rfl) trivial) S H 0 (fun (d : (Int × Unit × Unit × Bool × Unit × Bool × Int × Unit)) (e : ((List Int) × (List Int) × (List Int) × Unit)) => f k d.1 d.2.2.2.1 e.1 e.2.1 k d.2.2.2.2.2.1 d.2.2.2.2.2.2.1 e.2.2.1) KX (S.map (·.1)) (H.map (·.1)) [] [] k
    (fun d e => (it k k d e).trans (go_nat (fun v => some (Ex.exit 0, KX d e v)) (fun x7 x8 y1006 => some (x7, x8, y1006)) k d.1 d.2.2.2.1 e.1 e.2.1 k d.2.2.2.2.2.1 d.2.2.2.2.2.2.1 e.2.2.1).symm)
end l0
theorem run (k : Nat) (d : ((List Int) × Int × Unit)) (e : Unit) : runFn Try.prog (E k) 47 (bodyOf Try.f73) Try.f73.results.toList hi (mkL ps d) (mkH hs e) =
    tree (fun b0 b1 => leafFn hs hi e val wr (b0, b1)) k d.1 d.2.1 := by kernel_rfl
theorem run_f (k : Nat) (d : ((List Int) × Int × Unit)) (e : Unit) : runFn Try.prog (E k) 47 (bodyOf Try.f73) Try.f73.results.toList hi (mkL ps d) (mkH hs e) = (f k d.1 d.2.1).bind (leafFn hs hi e val wr) :=
  (run k d e).trans (tree_nat (leafFn hs hi e val wr) (fun b0 b1 => some (b0, b1)) k d.1 d.2.1).symm
theorem fnIs : FnIs Try.prog 73 Try.f73 (bodyOf Try.f73) 47 := ⟨by kernel_rfl, by kernel_rfl, by kernel_rfl, by kernel_rfl⟩
theorem ok (k : Nat) : CalleeOK Try.prog 73 (callee k) :=
  callee_sig (T := ((List Int) × Bool)) fnIs hm (fE k) (loopsOK_of [(0, subC (bodyOf Try.f73) [1, 1, 1, 0, 1, 0, 0])] (by kernel_rfl) ⟨of_loop (l0.sum k) rfl (l0.ok k), trivial⟩) ps hs (fun (d : ((List Int) × Int × Unit)) (e : Unit) => f k d.1 d.2.1) val wr rfl (fun _ => rfl) (run_f k)
end trailheadref02_Times
namespace math_bits_LeadingZeros64
def tree {X : Type} (K : Int → Option X) (k : Nat) (a0 : Int) : Option X :=
  (Option.bind (math_bits_Len64.f k a0) (fun r1 => (K (subI .i64 64 r1))))
def f (k : Nat) (a0 : Int) : Option Int := tree (fun b0 => some b0) k a0
theorem tree_nat {X Y : Type} (h : X → Option Y) (K : Int → Option X) (k : Nat) (a0 : Int) : Option.bind (tree K k a0) h = tree (fun b0 => Option.bind (K b0) h) k a0 := by
  simp only [tree, bif_bind, sel_bind', Option.bind_assoc, Option.bind_none, Option.bind_some]
abbrev ps : List Sh := [.data (.int .u64)]
abbrev hs : List (Nat × ESh) := []
abbrev hi : List Nat := hs.map (·.1)
def val (t : Int) : AV := Sh.mk (.data (.int .i64)) t
def wr (t : Int) : Heap := []
def callee (k : Nat) : Callee := sigCallee ps hs (fun (d : (Int × Unit)) (e : Unit) => f k d.1) val wr
def E (k : Nat) : Env := ⟨fnTab [(84, [math_bits_Len64.callee k])], loopTab []⟩
theorem fE (k : Nat) : ∀ f, ∀ c ∈ (E k).fn f, CalleeOK Try.prog f c := fnTab_ok ⟨⟨math_bits_Len64.ok k, trivial⟩, trivial⟩
theorem run (k : Nat) (d : (Int × Unit)) (e : Unit) : runFn Try.prog (E k) 6 (bodyOf Try.f94) Try.f94.results.toList hi (mkL ps d) (mkH hs e) =
    tree (fun b0 => leafFn hs hi e val wr b0) k d.1 := by kernel_rfl
theorem run_f (k : Nat) (d : (Int × Unit)) (e : Unit) : runFn Try.prog (E k) 6 (bodyOf Try.f94) Try.f94.results.toList hi (mkL ps d) (mkH hs e) = (f k d.1).bind (leafFn hs hi e val wr) :=
  (run k d e).trans (tree_nat (leafFn hs hi e val wr) (fun b0 => some b0) k d.1).symm
theorem fnIs : FnIs Try.prog 94 Try.f94 (bodyOf Try.f94) 6 := ⟨by kernel_rfl, by kernel_rfl, by kernel_rfl, by kernel_rfl⟩
theorem ok (k : Nat) : CalleeOK Try.prog 94 (callee k) :=
  callee_sig (T := Int) fnIs hm (fE k) (loopsOK_of [] (by kernel_rfl) trivial) ps hs (fun (d : (Int × Unit)) (e : Unit) => f k d.1) val wr rfl (fun _ => rfl) (run_f k)
end math_bits_LeadingZeros64
namespace math_bits_Div64
namespace l0
def step {X : Type} (K : Int → Int → Option X) (G : Int → Int → Option X) (k : Nat) (x2 : Int) (x6 : Int) (x7 : Int) (x8 : Int) (x9 : Int) (x10 : Int) (x11 : Int) (x13 : Int) (x14 : Int) (x15 : Int) (x16 : Int) : Option X :=
  (bif (decide (x15 ≥ (4294967296 : Int))) then (bif (decide ((addI .u64 x16 x9) ≥ (4294967296 : Int))) then (K (subI .u64 x15 1) (addI .u64 x16 x9)) else (G (subI .u64 x15 1) (addI .u64 x16 x9))) else (bif (decide ((mulI .u64 x15 x10) > (addI .u64 (mulI .u64 4294967296 x16) x13))) then (bif (decide ((addI .u64 x16 x9) ≥ (4294967296 : Int))) then (K (subI .u64 x15 1) (addI .u64 x16 x9)) else (G (subI .u64 x15 1) (addI .u64 x16 x9))) else (K x15 x16)))
def go {X : Type} (K : Int → Int → Option X) (k : Nat) (x2 : Int) (x6 : Int) (x7 : Int) (x8 : Int) (x9 : Int) (x10 : Int) (x11 : Int) (x13 : Int) (x14 : Int) : Nat → Int → Int → Option X
  | 0, _, _ => none
  | n + 1, x15, x16 => step K (go K k x2 x6 x7 x8 x9 x10 x11 x13 x14 n) k x2 x6 x7 x8 x9 x10 x11 x13 x14 x15 x16
def f (k : Nat) (x2 : Int) (x6 : Int) (x7 : Int) (x8 : Int) (x9 : Int) (x10 : Int) (x11 : Int) (x13 : Int) (x14 : Int) (n : Nat) (x15 : Int) (x16 : Int) : Option (Int × Int) := go (fun x15 x16 => some (x15, x16)) k x2 x6 x7 x8 x9 x10 x11 x13 x14 n x15 x16
theorem step_nat {X Y : Type} (h : X → Option Y) (K : Int → Int → Option X) (G : Int → Int → Option X) (k : Nat) (x2 : Int) (x6 : Int) (x7 : Int) (x8 : Int) (x9 : Int) (x10 : Int) (x11 : Int) (x13 : Int) (x14 : Int) (x15 : Int) (x16 : Int) : Option.bind (step K G k x2 x6 x7 x8 x9 x10 x11 x13 x14 x15 x16) h = step (fun x15 x16 => Option.bind (K x15 x16) h) (fun x15 x16 => Option.bind (G x15 x16) h) k x2 x6 x7 x8 x9 x10 x11 x13 x14 x15 x16 := by
  simp only [step, bif_bind, sel_bind', Option.bind_assoc, Option.bind_none, Option.bind_some]
theorem go_nat {X Y : Type} (h : X → Option Y) (K : Int → Int → Option X) (k : Nat) (x2 : Int) (x6 : Int) (x7 : Int) (x8 : Int) (x9 : Int) (x10 : Int) (x11 : Int) (x13 : Int) (x14 : Int) (n : Nat) : ∀ (x15 : Int) (x16 : Int), Option.bind (go K k x2 x6 x7 x8 x9 x10 x11 x13 x14 n x15 x16) h = go (fun x15 x16 => Option.bind (K x15 x16) h) k x2 x6 x7 x8 x9 x10 x11 x13 x14 n x15 x16 := by
  induction n with
  | zero => intros; rfl
  | succ n ih => intro x15 x16; show Option.bind (step K (go K k x2 x6 x7 x8 x9 x10 x11 x13 x14 n) k x2 x6 x7 x8 x9 x10 x11 x13 x14 x15 x16) h = step (fun x15 x16 => Option.bind (K x15 x16) h) (go (fun x15 x16 => Option.bind (K x15 x16) h) k x2 x6 x7 x8 x9 x10 x11 x13 x14 n) k x2 x6 x7 x8 x9 x10 x11 x13 x14 x15 x16; rw [step_nat h]; simp only [ih]
abbrev S : List (Nat × Sh) := [(2, .data (.int .u64)), (6, .data (.int .u64)), (7, .data (.int .u64)), (8, .data (.int .u64)), (9, .data (.int .u64)), (10, .data (.int .u64)), (11, .data (.int .u64)), (13, .data (.int .u64)), (14, .data (.int .u64)), (15, .data (.int .u64)), (16, .data (.int .u64))]
abbrev H : List (Nat × ESh) := []
def KX (d : (Int × Int × Int × Int × Int × Int × Int × Int × Int × Int × Int × Unit)) (e : Unit) (v : (Int × Int)) : St := ⟨mkS S (d.1, d.2.1, d.2.2.1, d.2.2.2.1, d.2.2.2.2.1, d.2.2.2.2.2.1, d.2.2.2.2.2.2.1, d.2.2.2.2.2.2.2.1, d.2.2.2.2.2.2.2.2.1, v.1, v.2, ()), mkH H (())⟩
def sum (k : Nat) : LoopSum := sigLoopX S H 0 (fun (d : (Int × Int × Int × Int × Int × Int × Int × Int × Int × Int × Int × Unit)) (e : Unit) => f k d.1 d.2.1 d.2.2.1 d.2.2.2.1 d.2.2.2.2.1 d.2.2.2.2.2.1 d.2.2.2.2.2.2.1 d.2.2.2.2.2.2.2.1 d.2.2.2.2.2.2.2.2.1 k d.2.2.2.2.2.2.2.2.2.1 d.2.2.2.2.2.2.2.2.2.2.1) KX
end l0
namespace l2
def step {X : Type} (K : Int → Int → Option X) (G : Int → Int → Option X) (k : Nat) (x2 : Int) (x6 : Int) (x7 : Int) (x8 : Int) (x9 : Int) (x10 : Int) (x14 : Int) (x15 : Int) (x17 : Int) (x16 : Int) (x18 : Int) : Option X :=
  (bif (decide (x18 ≥ (4294967296 : Int))) then (bif (decide ((addI .u64 x16 x9) ≥ (4294967296 : Int))) then (K (addI .u64 x16 x9) (subI .u64 x18 1)) else (G (addI .u64 x16 x9) (subI .u64 x18 1))) else (bif (decide ((mulI .u64 x18 x10) > (addI .u64 (mulI .u64 4294967296 x16) x14))) then (bif (decide ((addI .u64 x16 x9) ≥ (4294967296 : Int))) then (K (addI .u64 x16 x9) (subI .u64 x18 1)) else (G (addI .u64 x16 x9) (subI .u64 x18 1))) else (K x16 x18)))
def go {X : Type} (K : Int → Int → Option X) (k : Nat) (x2 : Int) (x6 : Int) (x7 : Int) (x8 : Int) (x9 : Int) (x10 : Int) (x14 : Int) (x15 : Int) (x17 : Int) : Nat → Int → Int → Option X
  | 0, _, _ => none
  | n + 1, x16, x18 => step K (go K k x2 x6 x7 x8 x9 x10 x14 x15 x17 n) k x2 x6 x7 x8 x9 x10 x14 x15 x17 x16 x18
def f (k : Nat) (x2 : Int) (x6 : Int) (x7 : Int) (x8 : Int) (x9 : Int) (x10 : Int) (x14 : Int) (x15 : Int) (x17 : Int) (n : Nat) (x16 : Int) (x18 : Int) : Option (Int × Int) := go (fun x16 x18 => some (x16, x18)) k x2 x6 x7 x8 x9 x10 x14 x15 x17 n x16 x18
theorem step_nat {X Y : Type} (h : X → Option Y) (K : Int → Int → Option X) (G : Int → Int → Option X) (k : Nat) (x2 : Int) (x6 : Int) (x7 : Int) (x8 : Int) (x9 : Int) (x10 : Int) (x14 : Int) (x15 : Int) (x17 : Int) (x16 : Int) (x18 : Int) : Option.bind (step K G k x2 x6 x7 x8 x9 x10 x14 x15 x17 x16 x18) h = step (fun x16 x18 => Option.bind (K x16 x18) h) (fun x16 x18 => Option.bind (G x16 x18) h) k x2 x6 x7 x8 x9 x10 x14 x15 x17 x16 x18 := by
  simp only [step, bif_bind, sel_bind', Option.bind_assoc, Option.bind_none, Option.bind_some]
theorem go_nat {X Y : Type} (h : X → Option Y) (K : Int → Int → Option X) (k : Nat) (x2 : Int) (x6 : Int) (x7 : Int) (x8 : Int) (x9 : Int) (x10 : Int) (x14 : Int) (x15 : Int) (x17 : Int) (n : Nat) : ∀ (x16 : Int) (x18 : Int), Option.bind (go K k x2 x6 x7 x8 x9 x10 x14 x15 x17 n x16 x18) h = go (fun x16 x18 => Option.bind (K x16 x18) h) k x2 x6 x7 x8 x9 x10 x14 x15 x17 n x16 x18 := by
  induction n with
  | zero => intros; rfl
  | succ n ih => intro x16 x18; show Option.bind (step K (go K k x2 x6 x7 x8 x9 x10 x14 x15 x17 n) k x2 x6 x7 x8 x9 x10 x14 x15 x17 x16 x18) h = step (fun x16 x18 => Option.bind (K x16 x18) h) (go (fun x16 x18 => Option.bind (K x16 x18) h) k x2 x6 x7 x8 x9 x10 x14 x15 x17 n) k x2 x6 x7 x8 x9 x10 x14 x15 x17 x16 x18; rw [step_nat h]; simp only [ih]
abbrev S : List (Nat × Sh) := [(2, .data (.int .u64)), (6, .data (.int .u64)), (7, .data (.int .u64)), (8, .data (.int .u64)), (9, .data (.int .u64)), (10, .data (.int .u64)), (14, .data (.int .u64)), (15, .data (.int .u64)), (16, .data (.int .u64)), (17, .data (.int .u64)), (18, .data (.int .u64))]
abbrev H : List (Nat × ESh) := []
def KX (d : (Int × Int × Int × Int × Int × Int × Int × Int × Int × Int × Int × Unit)) (e : Unit) (v : (Int × Int)) : St := ⟨mkS S (d.1, d.2.1, d.2.2.1, d.2.2.2.1, d.2.2.2.2.1, d.2.2.2.2.2.1, d.2.2.2.2.2.2.1, d.2.2.2.2.2.2.2.1, v.1, d.2.2.2.2.2.2.2.2.2.1, v.2, ()), mkH H (())⟩
def sum (k : Nat) : LoopSum := sigLoopX S H 2 (fun (d : (Int × Int × Int × Int × Int × Int × Int × Int × Int × Int × Int × Unit)) (e : Unit) => f k d.1 d.2.1 d.2.2.1 d.2.2.2.1 d.2.2.2.2.1 d.2.2.2.2.2.1 d.2.2.2.2.2.2.1 d.2.2.2.2.2.2.2.1 d.2.2.2.2.2.2.2.2.2.1 k d.2.2.2.2.2.2.2.2.1 d.2.2.2.2.2.2.2.2.2.2.1) KX
end l2
def tree {X : Type} (K : Int → Int → Option X) (k : Nat) (a0 : Int) (a1 : Int) (a2 : Int) : Option X :=
  (bif (a2 == (0 : Int)) then none else (bif (decide (a2 ≤ a0)) then none else (bif (a0 == (0 : Int)) then (bif (decide (a2 = 0)) then none else (bif (decide (a2 = 0)) then none else (K (quoI .u64 a1 a2) (remI a1 a2)))) else (Option.bind (math_bits_LeadingZeros64.f k a2) (fun r1 => (bif (decide ((IntKind.wrap .u64 r1) < 0)) then none else (bif (decide ((IntKind.wrap .u64 r1) < 0)) then none else (bif (decide ((subI .u64 64 (IntKind.wrap .u64 r1)) < 0)) then none else (bif (decide ((IntKind.wrap .u64 r1) < 0)) then none else (bif (decide ((shrI .u64 (shlI .u64 a2 (IntKind.wrap .u64 r1)) 32) = 0)) then none else (Option.bind (math_bits_Div64.l0.f k (shlI .u64 a2 (IntKind.wrap .u64 r1)) (0 : Int) (0 : Int) (IntKind.wrap .u64 r1) (shrI .u64 (shlI .u64 a2 (IntKind.wrap .u64 r1)) 32) (andI .u64 (shlI .u64 a2 (IntKind.wrap .u64 r1)) 4294967295) (orI .u64 (shlI .u64 a0 (IntKind.wrap .u64 r1)) (shrI .u64 a1 (subI .u64 64 (IntKind.wrap .u64 r1)))) (shrI .u64 (shlI .u64 a1 (IntKind.wrap .u64 r1)) 32) (andI .u64 (shlI .u64 a1 (IntKind.wrap .u64 r1)) 4294967295) k (quoI .u64 (orI .u64 (shlI .u64 a0 (IntKind.wrap .u64 r1)) (shrI .u64 a1 (subI .u64 64 (IntKind.wrap .u64 r1)))) (shrI .u64 (shlI .u64 a2 (IntKind.wrap .u64 r1)) 32)) (subI .u64 (orI .u64 (shlI .u64 a0 (IntKind.wrap .u64 r1)) (shrI .u64 a1 (subI .u64 64 (IntKind.wrap .u64 r1)))) (mulI .u64 (quoI .u64 (orI .u64 (shlI .u64 a0 (IntKind.wrap .u64 r1)) (shrI .u64 a1 (subI .u64 64 (IntKind.wrap .u64 r1)))) (shrI .u64 (shlI .u64 a2 (IntKind.wrap .u64 r1)) 32)) (shrI .u64 (shlI .u64 a2 (IntKind.wrap .u64 r1)) 32)))) (fun r2 => (bif (decide ((shrI .u64 (shlI .u64 a2 (IntKind.wrap .u64 r1)) 32) = 0)) then none else (Option.bind (math_bits_Div64.l2.f k (shlI .u64 a2 (IntKind.wrap .u64 r1)) (0 : Int) (0 : Int) (IntKind.wrap .u64 r1) (shrI .u64 (shlI .u64 a2 (IntKind.wrap .u64 r1)) 32) (andI .u64 (shlI .u64 a2 (IntKind.wrap .u64 r1)) 4294967295) (andI .u64 (shlI .u64 a1 (IntKind.wrap .u64 r1)) 4294967295) r2.1 (subI .u64 (addI .u64 (mulI .u64 (orI .u64 (shlI .u64 a0 (IntKind.wrap .u64 r1)) (shrI .u64 a1 (subI .u64 64 (IntKind.wrap .u64 r1)))) 4294967296) (shrI .u64 (shlI .u64 a1 (IntKind.wrap .u64 r1)) 32)) (mulI .u64 r2.1 (shlI .u64 a2 (IntKind.wrap .u64 r1)))) k (subI .u64 (subI .u64 (addI .u64 (mulI .u64 (orI .u64 (shlI .u64 a0 (IntKind.wrap .u64 r1)) (shrI .u64 a1 (subI .u64 64 (IntKind.wrap .u64 r1)))) 4294967296) (shrI .u64 (shlI .u64 a1 (IntKind.wrap .u64 r1)) 32)) (mulI .u64 r2.1 (shlI .u64 a2 (IntKind.wrap .u64 r1)))) (mulI .u64 (quoI .u64 (subI .u64 (addI .u64 (mulI .u64 (orI .u64 (shlI .u64 a0 (IntKind.wrap .u64 r1)) (shrI .u64 a1 (subI .u64 64 (IntKind.wrap .u64 r1)))) 4294967296) (shrI .u64 (shlI .u64 a1 (IntKind.wrap .u64 r1)) 32)) (mulI .u64 r2.1 (shlI .u64 a2 (IntKind.wrap .u64 r1)))) (shrI .u64 (shlI .u64 a2 (IntKind.wrap .u64 r1)) 32)) (shrI .u64 (shlI .u64 a2 (IntKind.wrap .u64 r1)) 32))) (quoI .u64 (subI .u64 (addI .u64 (mulI .u64 (orI .u64 (shlI .u64 a0 (IntKind.wrap .u64 r1)) (shrI .u64 a1 (subI .u64 64 (IntKind.wrap .u64 r1)))) 4294967296) (shrI .u64 (shlI .u64 a1 (IntKind.wrap .u64 r1)) 32)) (mulI .u64 r2.1 (shlI .u64 a2 (IntKind.wrap .u64 r1)))) (shrI .u64 (shlI .u64 a2 (IntKind.wrap .u64 r1)) 32))) (fun r3 => (bif (decide ((IntKind.wrap .u64 r1) < 0)) then none else (K (addI .u64 (mulI .u64 r2.1 4294967296) r3.2) (shrI .u64 (subI .u64 (addI .u64 (mulI .u64 (subI .u64 (addI .u64 (mulI .u64 (orI .u64 (shlI .u64 a0 (IntKind.wrap .u64 r1)) (shrI .u64 a1 (subI .u64 64 (IntKind.wrap .u64 r1)))) 4294967296) (shrI .u64 (shlI .u64 a1 (IntKind.wrap .u64 r1)) 32)) (mulI .u64 r2.1 (shlI .u64 a2 (IntKind.wrap .u64 r1)))) 4294967296) (andI .u64 (shlI .u64 a1 (IntKind.wrap .u64 r1)) 4294967295)) (mulI .u64 r3.2 (shlI .u64 a2 (IntKind.wrap .u64 r1)))) (IntKind.wrap .u64 r1)))))))))))))))))))
def f (k : Nat) (a0 : Int) (a1 : Int) (a2 : Int) : Option (Int × Int) := tree (fun b0 b1 => some (b0, b1)) k a0 a1 a2
theorem tree_nat {X Y : Type} (h : X → Option Y) (K : Int → Int → Option X) (k : Nat) (a0 : Int) (a1 : Int) (a2 : Int) : Option.bind (tree K k a0 a1 a2) h = tree (fun b0 b1 => Option.bind (K b0 b1) h) k a0 a1 a2 := by
  simp only [tree, bif_bind, sel_bind', Option.bind_assoc, Option.bind_none, Option.bind_some]
abbrev ps : List Sh := [.data (.int .u64), .data (.int .u64), .data (.int .u64)]
abbrev hs : List (Nat × ESh) := []
abbrev hi : List Nat := hs.map (·.1)
def val (t : (Int × Int)) : AV := .tcons (Sh.mk (.data (.int .u64)) t.1) (.tcons (Sh.mk (.data (.int .u64)) t.2) .tnil)
def wr (t : (Int × Int)) : Heap := []
def callee (k : Nat) : Callee := sigCallee ps hs (fun (d : (Int × Int × Int × Unit)) (e : Unit) => f k d.1 d.2.1 d.2.2.1) val wr
def E (k : Nat) : Env := ⟨fnTab [(94, [math_bits_LeadingZeros64.callee k])], loopTab [(0, l0.sum k), (2, l2.sum k)]⟩
theorem fE (k : Nat) : ∀ f, ∀ c ∈ (E k).fn f, CalleeOK Try.prog f c := fnTab_ok ⟨⟨math_bits_LeadingZeros64.ok k, trivial⟩, trivial⟩
namespace l0
theorem round (k : Nat) (d : (Int × Int × Int × Int × Int × Int × Int × Int × Int × Int × Int × Unit)) (e : Unit) (G : St → Option (Ex × St)) : roundK Try.prog (E k) 135 0 (subC (bodyOf Try.f89) [1, 1, 1, 1, 1, 1, 1, 1, 1, 1, 1, 1, 1, 1, 0, 0, 0]) (restrict (S.map (·.1)) (H.map (·.1))) (finBy (S.map (·.1)) (H.map (·.1)) [] []) G ⟨mkS S d, mkH H e⟩ =
    step (fun x15 x16 => some (.exit 0, KX d e (x15, x16))) (fun x15 x16 => G ⟨mkS S (d.1, d.2.1, d.2.2.1, d.2.2.2.1, d.2.2.2.2.1, d.2.2.2.2.2.1, d.2.2.2.2.2.2.1, d.2.2.2.2.2.2.2.1, d.2.2.2.2.2.2.2.2.1, x15, x16, ()), mkH H (())⟩) k d.1 d.2.1 d.2.2.1 d.2.2.2.1 d.2.2.2.2.1 d.2.2.2.2.2.1 d.2.2.2.2.2.2.1 d.2.2.2.2.2.2.2.1 d.2.2.2.2.2.2.2.2.1 d.2.2.2.2.2.2.2.2.2.1 d.2.2.2.2.2.2.2.2.2.2.1 := by kernel_rfl
theorem it (k n : Nat) (d : (Int × Int × Int × Int × Int × Int × Int × Int × Int × Int × Int × Unit)) (e : Unit) : loopIt Try.prog (E k) 135 0 (subC (bodyOf Try.f89) [1, 1, 1, 1, 1, 1, 1, 1, 1, 1, 1, 1, 1, 1, 0, 0, 0]) (restrict (S.map (·.1)) (H.map (·.1))) (finBy (S.map (·.1)) (H.map (·.1)) [] []) n ⟨mkS S d, mkH H e⟩ = go (fun x15 x16 => some (.exit 0, KX d e (x15, x16))) k d.1 d.2.1 d.2.2.1 d.2.2.2.1 d.2.2.2.2.1 d.2.2.2.2.2.1 d.2.2.2.2.2.2.1 d.2.2.2.2.2.2.2.1 d.2.2.2.2.2.2.2.2.1 n d.2.2.2.2.2.2.2.2.2.1 d.2.2.2.2.2.2.2.2.2.2.1 :=
  loopIt_eq (D := (Int × Int × Int × Int × Int × Int × Int × Int × Int × Int × Int × Unit) × Unit) (fun p => ⟨mkS S p.1, mkH H p.2⟩) (fun F p => step (fun x15 x16 => some (.exit 0, KX p.1 p.2 (x15, x16))) (fun x15 x16 => F ((p.1.1, p.1.2.1, p.1.2.2.1, p.1.2.2.2.1, p.1.2.2.2.2.1, p.1.2.2.2.2.2.1, p.1.2.2.2.2.2.2.1, p.1.2.2.2.2.2.2.2.1, p.1.2.2.2.2.2.2.2.2.1, x15, x16, ()), (()))) k p.1.1 p.1.2.1 p.1.2.2.1 p.1.2.2.2.1 p.1.2.2.2.2.1 p.1.2.2.2.2.2.1 p.1.2.2.2.2.2.2.1 p.1.2.2.2.2.2.2.2.1 p.1.2.2.2.2.2.2.2.2.1 p.1.2.2.2.2.2.2.2.2.2.1 p.1.2.2.2.2.2.2.2.2.2.2.1) (fun n p => go (fun x15 x16 => some (.exit 0, KX p.1 p.2 (x15, x16))) k p.1.1 p.1.2.1 p.1.2.2.1 p.1.2.2.2.1 p.1.2.2.2.2.1 p.1.2.2.2.2.2.1 p.1.2.2.2.2.2.2.1 p.1.2.2.2.2.2.2.2.1 p.1.2.2.2.2.2.2.2.2.1 n p.1.2.2.2.2.2.2.2.2.2.1 p.1.2.2.2.2.2.2.2.2.2.2.1) (fun _ => rfl) (fun _ _ => rfl) (fun G p => round k p.1 p.2 G) n (d, e)
theorem ok (k : Nat) : LoopOK Try.prog 135 (subC (bodyOf Try.f89) [1, 1, 1, 1, 1, 1, 1, 1, 1, 1, 1, 1, 1, 1, 0, 0, 0]) (sum k) :=
  loop_sigX hm (fE k) (loopsOK_of [] (by kernel_rfl) trivial) S H 0 (fun (d : (Int × Int × Int × Int × Int × Int × Int × Int × Int × Int × Int × Unit)) (e : Unit) => f k d.1 d.2.1 d.2.2.1 d.2.2.2.1 d.2.2.2.2.1 d.2.2.2.2.2.1 d.2.2.2.2.2.2.1 d.2.2.2.2.2.2.2.1 d.2.2.2.2.2.2.2.2.1 k d.2.2.2.2.2.2.2.2.2.1 d.2.2.2.2.2.2.2.2.2.2.1) KX (S.map (·.1)) (H.map (·.1)) [] [] k
    (fun d e => (it k k d e).trans (go_nat (fun v => some (Ex.exit 0, KX d e v)) (fun x15 x16 => some (x15, x16)) k d.1 d.2.1 d.2.2.1 d.2.2.2.1 d.2.2.2.2.1 d.2.2.2.2.2.1 d.2.2.2.2.2.2.1 d.2.2.2.2.2.2.2.1 d.2.2.2.2.2.2.2.2.1 k d.2.2.2.2.2.2.2.2.2.1 d.2.2.2.2.2.2.2.2.2.2.1).symm)
end l0
namespace l2
theorem round (k : Nat) (d : (Int × Int × Int × Int × Int × Int × Int × Int × Int × Int × Int × Unit)) (e : Unit) (G : St → Option (Ex × St)) : roundK Try.prog (E k) 135 2 (subC (bodyOf Try.f89) [1, 1, 1, 1, 1, 1, 1, 1, 1, 1, 1, 1, 1, 1, 1, 1, 1, 1, 0, 0, 0]) (restrict (S.map (·.1)) (H.map (·.1))) (finBy (S.map (·.1)) (H.map (·.1)) [] []) G ⟨mkS S d, mkH H e⟩ =
    step (fun x16 x18 => some (.exit 2, KX d e (x16, x18))) (fun x16 x18 => G ⟨mkS S (d.1, d.2.1, d.2.2.1, d.2.2.2.1, d.2.2.2.2.1, d.2.2.2.2.2.1, d.2.2.2.2.2.2.1, d.2.2.2.2.2.2.2.1, x16, d.2.2.2.2.2.2.2.2.2.1, x18, ()), mkH H (())⟩) k d.1 d.2.1 d.2.2.1 d.2.2.2.1 d.2.2.2.2.1 d.2.2.2.2.2.1 d.2.2.2.2.2.2.1 d.2.2.2.2.2.2.2.1 d.2.2.2.2.2.2.2.2.2.1 d.2.2.2.2.2.2.2.2.1 d.2.2.2.2.2.2.2.2.2.2.1 := by kernel_rfl
theorem it (k n : Nat) (d : (Int × Int × Int × Int × Int × Int × Int × Int × Int × Int × Int × Unit)) (e : Unit) : loopIt Try.prog (E k) 135 2 (subC (bodyOf Try.f89) [1, 1, 1, 1, 1, 1, 1, 1, 1, 1, 1, 1, 1, 1, 1, 1, 1, 1, 0, 0, 0]) (restrict (S.map (·.1)) (H.map (·.1))) (finBy (S.map (·.1)) (H.map (·.1)) [] []) n ⟨mkS S d, mkH H e⟩ = go (fun x16 x18 => some (.exit 2, KX d e (x16, x18))) k d.1 d.2.1 d.2.2.1 d.2.2.2.1 d.2.2.2.2.1 d.2.2.2.2.2.1 d.2.2.2.2.2.2.1 d.2.2.2.2.2.2.2.1 d.2.2.2.2.2.2.2.2.2.1 n d.2.2.2.2.2.2.2.2.1 d.2.2.2.2.2.2.2.2.2.2.1 :=
  loopIt_eq (D := (Int × Int × Int × Int × Int × Int × Int × Int × Int × Int × Int × Unit) × Unit) (fun p => ⟨mkS S p.1, mkH H p.2⟩) (fun F p => step (fun x16 x18 => some (.exit 2, KX p.1 p.2 (x16, x18))) (fun x16 x18 => F ((p.1.1, p.1.2.1, p.1.2.2.1, p.1.2.2.2.1, p.1.2.2.2.2.1, p.1.2.2.2.2.2.1, p.1.2.2.2.2.2.2.1, p.1.2.2.2.2.2.2.2.1, x16, p.1.2.2.2.2.2.2.2.2.2.1, x18, ()), (()))) k p.1.1 p.1.2.1 p.1.2.2.1 p.1.2.2.2.1 p.1.2.2.2.2.1 p.1.2.2.2.2.2.1 p.1.2.2.2.2.2.2.1 p.1.2.2.2.2.2.2.2.1 p.1.2.2.2.2.2.2.2.2.2.1 p.1.2.2.2.2.2.2.2.2.1 p.1.2.2.2.2.2.2.2.2.2.2.1) (fun n p => go (fun x16 x18 => some (.exit 2, KX p.1 p.2 (x16, x18))) k p.1.1 p.1.2.1 p.1.2.2.1 p.1.2.2.2.1 p.1.2.2.2.2.1 p.1.2.2.2.2.2.1 p.1.2.2.2.2.2.2.1 p.1.2.2.2.2.2.2.2.1 p.1.2.2.2.2.2.2.2.2.2.1 n p.1.2.2.2.2.2.2.2.2.1 p.1.2.2.2.2.2.2.2.2.2.2.1) (fun _ => rfl) (fun _ _ => rfl) (fun G p => round k p.1 p.2 G) n (d, e)
theorem ok (k : Nat) : LoopOK Try.prog 135 (subC (bodyOf Try.f89) [1, 1, 1, 1, 1, 1, 1, 1, 1, 1, 1, 1, 1, 1, 1, 1, 1, 1, 0, 0, 0]) (sum k) :=
  loop_sigX hm (fE k) (loopsOK_of [] (by kernel_rfl) trivial) S H 2 (fun (d : (Int × Int × Int × Int × Int × Int × Int × Int × Int × Int × Int × Unit)) (e : Unit) => f k d.1 d.2.1 d.2.2.1 d.2.2.2.1 d.2.2.2.2.1 d.2.2.2.2.2.1 d.2.2.2.2.2.2.1 d.2.2.2.2.2.2.2.1 d.2.2.2.2.2.2.2.2.2.1 k d.2.2.2.2.2.2.2.2.1 d.2.2.2.2.2.2.2.2.2.2.1) KX (S.map (·.1)) (H.map (·.1)) [] [] k
    (fun d e => (it k k d e).trans (go_nat (fun v => some (Ex.exit 2, KX d e v)) (fun x16 x18 => some (x16, x18)) k d.1 d.2.1 d.2.2.1 d.2.2.2.1 d.2.2.2.2.1 d.2.2.2.2.2.1 d.2.2.2.2.2.2.1 d.2.2.2.2.2.2.2.1 d.2.2.2.2.2.2.2.2.2.1 k d.2.2.2.2.2.2.2.2.1 d.2.2.2.2.2.2.2.2.2.2.1).symm)
end l2
theorem run (k : Nat) (d : (Int × Int × Int × Unit)) (e : Unit) : runFn Try.prog (E k) 135 (bodyOf Try.f89) Try.f89.results.toList hi (mkL ps d) (mkH hs e) =
    tree (fun b0 b1 => leafFn hs hi e val wr (b0, b1)) k d.1 d.2.1 d.2.2.1 := by kernel_rfl
theorem run_f (k : Nat) (d : (Int × Int × Int × Unit)) (e : Unit) : runFn Try.prog (E k) 135 (bodyOf Try.f89) Try.f89.results.toList hi (mkL ps d) (mkH hs e) = (f k d.1 d.2.1 d.2.2.1).bind (leafFn hs hi e val wr) :=
  (run k d e).trans (tree_nat (leafFn hs hi e val wr) (fun b0 b1 => some (b0, b1)) k d.1 d.2.1 d.2.2.1).symm
theorem fnIs : FnIs Try.prog 89 Try.f89 (bodyOf Try.f89) 135 := ⟨by kernel_rfl, by kernel_rfl, by kernel_rfl, by kernel_rfl⟩
theorem ok (k : Nat) : CalleeOK Try.prog 89 (callee k) :=
  callee_sig (T := (Int × Int)) fnIs hm (fE k) (loopsOK_of [(0, subC (bodyOf Try.f89) [1, 1, 1, 1, 1, 1, 1, 1, 1, 1, 1, 1, 1, 1, 0, 0, 0]), (2, subC (bodyOf Try.f89) [1, 1, 1, 1, 1, 1, 1, 1, 1, 1, 1, 1, 1, 1, 1, 1, 1, 1, 0, 0, 0])] (by kernel_rfl) ⟨of_loop (l0.sum k) rfl (l0.ok k), ⟨of_loop (l2.sum k) rfl (l2.ok k), trivial⟩⟩) ps hs (fun (d : (Int × Int × Int × Unit)) (e : Unit) => f k d.1 d.2.1 d.2.2.1) val wr rfl (fun _ => rfl) (run_f k)
end math_bits_Div64
namespace whole_Over
namespace l0
def step {X : Type} (K : Int → Int → (List Int) → Option X) (G : Int → Int → (List Int) → Option X) (k : Nat) (x1 : Int) (x5 : Int) (y1004 : (List Int)) (x6 : Int) (x7 : Int) (y1002 : (List Int)) : Option X :=
  (bif (decide (x7 ≥ (0 : Int))) then (bif (decide (0 ≤ x7)) then (bif (decide (x7 < 4)) then (bif (decide ((Int.toNat x7) < 4)) then (Option.bind (math_bits_Div64.f k x6 (List.getD y1002 (Int.toNat x7) 0) x1) (fun r1 => (bif (decide (0 ≤ x7)) then (bif (decide (x7 < 4)) then (bif (decide ((Int.toNat x7) < 4)) then (G r1.2 (subI .i64 x7 1) (List.set y1002 (Int.toNat x7) r1.1)) else none) else none) else none))) else none) else none) else none) else (K x6 x7 y1002))
def go {X : Type} (K : Int → Int → (List Int) → Option X) (k : Nat) (x1 : Int) (x5 : Int) (y1004 : (List Int)) : Nat → Int → Int → (List Int) → Option X
  | 0, _, _, _ => none
  | n + 1, x6, x7, y1002 => step K (go K k x1 x5 y1004 n) k x1 x5 y1004 x6 x7 y1002
def f (k : Nat) (x1 : Int) (x5 : Int) (y1004 : (List Int)) (n : Nat) (x6 : Int) (x7 : Int) (y1002 : (List Int)) : Option (Int × (Int × (List Int))) := go (fun x6 x7 y1002 => some (x6, x7, y1002)) k x1 x5 y1004 n x6 x7 y1002
theorem step_nat {X Y : Type} (h : X → Option Y) (K : Int → Int → (List Int) → Option X) (G : Int → Int → (List Int) → Option X) (k : Nat) (x1 : Int) (x5 : Int) (y1004 : (List Int)) (x6 : Int) (x7 : Int) (y1002 : (List Int)) : Option.bind (step K G k x1 x5 y1004 x6 x7 y1002) h = step (fun x6 x7 y1002 => Option.bind (K x6 x7 y1002) h) (fun x6 x7 y1002 => Option.bind (G x6 x7 y1002) h) k x1 x5 y1004 x6 x7 y1002 := by
  simp only [step, bif_bind, sel_bind', Option.bind_assoc, Option.bind_none, Option.bind_some]
theorem go_nat {X Y : Type} (h : X → Option Y) (K : Int → Int → (List Int) → Option X) (k : Nat) (x1 : Int) (x5 : Int) (y1004 : (List Int)) (n : Nat) : ∀ (x6 : Int) (x7 : Int) (y1002 : (List Int)), Option.bind (go K k x1 x5 y1004 n x6 x7 y1002) h = go (fun x6 x7 y1002 => Option.bind (K x6 x7 y1002) h) k x1 x5 y1004 n x6 x7 y1002 := by
  induction n with
  | zero => intros; rfl
  | succ n ih => intro x6 x7 y1002; show Option.bind (step K (go K k x1 x5 y1004 n) k x1 x5 y1004 x6 x7 y1002) h = step (fun x6 x7 y1002 => Option.bind (K x6 x7 y1002) h) (go (fun x6 x7 y1002 => Option.bind (K x6 x7 y1002) h) k x1 x5 y1004 n) k x1 x5 y1004 x6 x7 y1002; rw [step_nat h]; simp only [ih]
abbrev S : List (Nat × Sh) := [(1, .data (.int .u64)), (2, .ptr 1002), (4, .ptr 1004), (5, .data (.int .u64)), (6, .data (.int .u64)), (7, .data (.int .i64))]
abbrev H : List (Nat × ESh) := [(1002, .cell (.data (.arr .u64 4))), (1004, .cell (.data (.arr .u64 4)))]
def KX (d : (Int × Unit × Unit × Int × Int × Int × Unit)) (e : ((List Int) × (List Int) × Unit)) (v : (Int × (Int × (List Int)))) : St := ⟨mkS S (d.1, (), (), d.2.2.2.1, v.1, v.2.1, ()), mkH H (v.2.2, e.2.1, ())⟩
def sum (k : Nat) : LoopSum := sigLoopX S H 0 (fun (d : (Int × Unit × Unit × Int × Int × Int × Unit)) (e : ((List Int) × (List Int) × Unit)) => f k d.1 d.2.2.2.1 e.2.1 k d.2.2.2.2.1 d.2.2.2.2.2.1 e.1) KX
end l0
def tree {X : Type} (K : (List Int) → Int → Option X) (k : Nat) (a0 : (List Int)) (a1 : Int) : Option X :=
  (bif (a1 == (0 : Int)) then (K ([0, 0, 0, 0] : (List Int)) (0 : Int)) else (Option.bind (whole_Over.l0.f k a1 (0 : Int) ([0, 0, 0, 0] : (List Int)) k (0 : Int) (3 : Int) a0) (fun r2 => (K r2.2.2 r2.1))))
def f (k : Nat) (a0 : (List Int)) (a1 : Int) : Option ((List Int) × Int) := tree (fun b0 b1 => some (b0, b1)) k a0 a1
theorem tree_nat {X Y : Type} (h : X → Option Y) (K : (List Int) → Int → Option X) (k : Nat) (a0 : (List Int)) (a1 : Int) : Option.bind (tree K k a0 a1) h = tree (fun b0 b1 => Option.bind (K b0 b1) h) k a0 a1 := by
  simp only [tree, bif_bind, sel_bind', Option.bind_assoc, Option.bind_none, Option.bind_some]
abbrev ps : List Sh := [.data (.arr .u64 4), .data (.int .u64)]
abbrev hs : List (Nat × ESh) := []
abbrev hi : List Nat := hs.map (·.1)
def val (t : ((List Int) × Int)) : AV := .tcons (Sh.mk (.data (.arr .u64 4)) t.1) (.tcons (Sh.mk (.data (.int .u64)) t.2) .tnil)
def wr (t : ((List Int) × Int)) : Heap := []
def callee (k : Nat) : Callee := sigCallee ps hs (fun (d : ((List Int) × Int × Unit)) (e : Unit) => f k d.1 d.2.1) val wr
def E (k : Nat) : Env := ⟨fnTab [(89, [math_bits_Div64.callee k])], loopTab [(0, l0.sum k)]⟩
theorem fE (k : Nat) : ∀ f, ∀ c ∈ (E k).fn f, CalleeOK Try.prog f c := fnTab_ok ⟨⟨math_bits_Div64.ok k, trivial⟩, trivial⟩
namespace l0
theorem round (k : Nat) (d : (Int × Unit × Unit × Int × Int × Int × Unit)) (e : ((List Int) × (List Int) × Unit)) (G : St → Option (Ex × St)) : roundK Try.prog (E k) 28 0 (subC (bodyOf Try.f74) [1, 1, 1, 0, 1, 0, 0]) (restrict (S.map (·.1)) (H.map (·.1))) (finBy (S.map (·.1)) (H.map (·.1)) [] []) G ⟨mkS S d, mkH H e⟩ =
    step (fun x6 x7 y1002 => some (.exit 0, KX d e (x6, x7, y1002))) (fun x6 x7 y1002 => G ⟨mkS S (d.1, (), (), d.2.2.2.1, x6, x7, ()), mkH H (y1002, e.2.1, ())⟩) k d.1 d.2.2.2.1 e.2.1 d.2.2.2.2.1 d.2.2.2.2.2.1 e.1 := by kernel_rfl
theorem it (k n : Nat) (d : (Int × Unit × Unit × Int × Int × Int × Unit)) (e : ((List Int) × (List Int) × Unit)) : loopIt Try.prog (E k) 28 0 (subC (bodyOf Try.f74) [1, 1, 1, 0, 1, 0, 0]) (restrict (S.map (·.1)) (H.map (·.1))) (finBy (S.map (·.1)) (H.map (·.1)) [] []) n ⟨mkS S d, mkH H e⟩ = go (fun x6 x7 y1002 => some (.exit 0, KX d e (x6, x7, y1002))) k d.1 d.2.2.2.1 e.2.1 n d.2.2.2.2.1 d.2.2.2.2.2.1 e.1 :=
  loopIt_eq (D := (Int × Unit × Unit × Int × Int × Int × Unit) × ((List Int) × (List Int) × Unit)) (fun p => ⟨mkS S p.1, mkH H p.2⟩) (fun F p => step (fun x6 x7 y1002 => some (.exit 0, KX p.1 p.2 (x6, x7, y1002))) (fun x6 x7 y1002 => F ((p.1.1, (), (), p.1.2.2.2.1, x6, x7, ()), (y1002, p.2.2.1, ()))) k p.1.1 p.1.2.2.2.1 p.2.2.1 p.1.2.2.2.2.1 p.1.2.2.2.2.2.1 p.2.1) (fun n p => go (fun x6 x7 y1002 => some (.exit 0, KX p.1 p.2 (x6, x7, y1002))) k p.1.1 p.1.2.2.2.1 p.2.2.1 n p.1.2.2.2.2.1 p.1.2.2.2.2.2.1 p.2.1) (fun _ => rfl) (fun _ _ => rfl) (fun G p => round k p.1 p.2 G) n (d, e)
theorem ok (k : Nat) : LoopOK Try.prog 28 (subC (bodyOf Try.f74) [1, 1, 1, 0, 1, 0, 0]) (sum k) :=
  loop_sigX hm (fE k) (loopsOK_of [] (by kernel_rfl) trivial) S H 0 (fun (d : (Int × Unit × Unit × Int × Int × Int × Unit)) (e : ((List Int) × (List Int) × Unit)) => f k d.1 d.2.2.2.1 e.2.1 k d.2.2.2.2.1 d.2.2.2.2.2.1 e.1) KX (S.map (·.1)) (H.map (·.1)) [] [] k
    (fun d e => (it k k d e).trans (go_nat (fun v => some (Ex.exit 0, KX d e v)) (fun x6 x7 y1002 => some (x6, x7, y1002)) k d.1 d.2.2.2.1 e.2.1 k d.2.2.2.2.1 d.2.2.2.2.2.1 e.1).symm)
end l0
theorem run (k : Nat) (d : ((List Int) × Int × Unit)) (e : Unit) : runFn Try.prog (E k) 28 (bodyOf Try.f74) Try.f74.results.toList hi (mkL ps d) (mkH hs e) =
    tree (fun b0 b1 => leafFn hs hi e val wr (b0, b1)) k d.1 d.2.1 := by kernel_rfl
theorem run_f (k : Nat) (d : ((List Int) × Int × Unit)) (e : Unit) : runFn Try.prog (E k) 28 (bodyOf Try.f74) Try.f74.results.toList hi (mkL ps d) (mkH hs e) = (f k d.1 d.2.1).bind (leafFn hs hi e val wr) :=
  (run k d e).trans (tree_nat (leafFn hs hi e val wr) (fun b0 b1 => some (b0, b1)) k d.1 d.2.1).symm
theorem fnIs : FnIs Try.prog 74 Try.f74 (bodyOf Try.f74) 28 := ⟨by kernel_rfl, by kernel_rfl, by kernel_rfl, by kernel_rfl⟩
theorem ok (k : Nat) : CalleeOK Try.prog 74 (callee k) :=
  callee_sig (T := ((List Int) × Int)) fnIs hm (fE k) (loopsOK_of [(0, subC (bodyOf Try.f74) [1, 1, 1, 0, 1, 0, 0])] (by kernel_rfl) ⟨of_loop (l0.sum k) rfl (l0.ok k), trivial⟩) ps hs (fun (d : ((List Int) × Int × Unit)) (e : Unit) => f k d.1 d.2.1) val wr rfl (fun _ => rfl) (run_f k)
end whole_Over
namespace trailheadlaw02_WholeProducts
def tree {X : Type} (K : Bool → Option X) (k : Nat) (a0 : (List Int)) (a1 : Int) : Option X :=
  (Option.bind (trailheadlaw02_alive.f k) (fun r1 => (bif (!r1) then (K false) else (Option.bind (whole_Times.f k a0 a1) (fun r2 => (Option.bind (trailheadref02_Times.f k a0 a1) (fun r3 => (Option.bind (whole_Over.f k a0 a1) (fun r4 => (bif (!(decide (r2.1 = r3.1))) then (K false) else (bif (!(r2.2 == r3.2)) then (K false) else (bif (a1 == (0 : Int)) then (bif (decide (r4.1 = ([0, 0, 0, 0] : (List Int)))) then (K (r4.2 == (0 : Int))) else (K false)) else (Option.bind (whole_Times.f k r4.1 a1) (fun r5 => (Option.bind (whole_Of.f k r4.2) (fun r6 => (Option.bind (whole_Add.f k r5.1 r6) (fun r7 => (bif (!r5.2) then (bif (!r7.2) then (bif (decide (r7.1 = a0)) then (K (decide (r4.2 < a1))) else (K false)) else (K false)) else (K false))))))))))))))))))))
def f (k : Nat) (a0 : (List Int)) (a1 : Int) : Option Bool := tree (fun b0 => some b0) k a0 a1
theorem tree_nat {X Y : Type} (h : X → Option Y) (K : Bool → Option X) (k : Nat) (a0 : (List Int)) (a1 : Int) : Option.bind (tree K k a0 a1) h = tree (fun b0 => Option.bind (K b0) h) k a0 a1 := by
  simp only [tree, bif_bind, sel_bind', Option.bind_assoc, Option.bind_none, Option.bind_some]
abbrev ps : List Sh := [.data (.arr .u64 4), .data (.int .u64)]
abbrev hs : List (Nat × ESh) := []
abbrev hi : List Nat := hs.map (·.1)
def val (t : Bool) : AV := Sh.mk (.data .bool) t
def wr (t : Bool) : Heap := []
def callee (k : Nat) : Callee := sigCallee ps hs (fun (d : ((List Int) × Int × Unit)) (e : Unit) => f k d.1 d.2.1) val wr
def E (k : Nat) : Env := ⟨fnTab [(38, [trailheadlaw02_alive.callee k]), (72, [whole_Times.callee k]), (73, [trailheadref02_Times.callee k]), (74, [whole_Over.callee k]), (44, [whole_Of.callee k]), (51, [whole_Add.callee k])], loopTab []⟩
theorem fE (k : Nat) : ∀ f, ∀ c ∈ (E k).fn f, CalleeOK Try.prog f c := fnTab_ok ⟨⟨trailheadlaw02_alive.ok k, trivial⟩, ⟨whole_Times.ok k, trivial⟩, ⟨trailheadref02_Times.ok k, trivial⟩, ⟨whole_Over.ok k, trivial⟩, ⟨whole_Of.ok k, trivial⟩, ⟨whole_Add.ok k, trivial⟩, trivial⟩
theorem run (k : Nat) (d : ((List Int) × Int × Unit)) (e : Unit) : runFn Try.prog (E k) 81 (bodyOf Try.f19) Try.f19.results.toList hi (mkL ps d) (mkH hs e) =
    tree (fun b0 => leafFn hs hi e val wr b0) k d.1 d.2.1 := by kernel_rfl
theorem run_f (k : Nat) (d : ((List Int) × Int × Unit)) (e : Unit) : runFn Try.prog (E k) 81 (bodyOf Try.f19) Try.f19.results.toList hi (mkL ps d) (mkH hs e) = (f k d.1 d.2.1).bind (leafFn hs hi e val wr) :=
  (run k d e).trans (tree_nat (leafFn hs hi e val wr) (fun b0 => some b0) k d.1 d.2.1).symm
theorem fnIs : FnIs Try.prog 19 Try.f19 (bodyOf Try.f19) 81 := ⟨by kernel_rfl, by kernel_rfl, by kernel_rfl, by kernel_rfl⟩
theorem ok (k : Nat) : CalleeOK Try.prog 19 (callee k) :=
  callee_sig (T := Bool) fnIs hm (fE k) (loopsOK_of [] (by kernel_rfl) trivial) ps hs (fun (d : ((List Int) × Int × Unit)) (e : Unit) => f k d.1 d.2.1) val wr rfl (fun _ => rfl) (run_f k)
end trailheadlaw02_WholeProducts
end Go.Proofs.Ytjciljaojcekeaa.Sx
