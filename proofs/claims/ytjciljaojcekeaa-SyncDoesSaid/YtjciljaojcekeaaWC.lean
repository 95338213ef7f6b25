/- What the Go functions come to, on data: printed by pr.py. -/
import Derived.Test.YtjciljaojcekeaaSx18
import Derived.Test.YtjciljaojcekeaaProg
import Derived.Test.YtjciljaojcekeaaWB
namespace Go.Proofs.Ytjciljaojcekeaa.Sx
open Go Go.Proofs
set_option maxRecDepth 100000
set_option linter.unusedVariables false
set_option linter.unusedSimpArgs false
namespace sync_Watch_Asks
def tree {X : Type} (K : Bool → (Bool × (Int × (Int × (Bool × (Int × ((List Int) × (Bool × Int))))))) → Option X) (k : Nat) (a1 : Int) (m0 : (Bool × (Int × (Int × (Bool × (Int × ((List Int) × (Bool × Int)))))))) : Option X :=
  (bif m0.1 then (bif (decide ((subI .i64 a1 m0.2.1) ≤ (120 : Int))) then (K false m0) else (K true ((true, (a1, m0.2.2)) : (Bool × (Int × (Int × (Bool × (Int × ((List Int) × (Bool × Int)))))))))) else (K true ((true, (a1, m0.2.2)) : (Bool × (Int × (Int × (Bool × (Int × ((List Int) × (Bool × Int))))))))))
def f (k : Nat) (a1 : Int) (m0 : (Bool × (Int × (Int × (Bool × (Int × ((List Int) × (Bool × Int)))))))) : Option (Bool × (Bool × (Int × (Int × (Bool × (Int × ((List Int) × (Bool × Int)))))))) := tree (fun b0 b1 => some (b0, b1)) k a1 m0
theorem tree_nat {X Y : Type} (h : X → Option Y) (K : Bool → (Bool × (Int × (Int × (Bool × (Int × ((List Int) × (Bool × Int))))))) → Option X) (k : Nat) (a1 : Int) (m0 : (Bool × (Int × (Int × (Bool × (Int × ((List Int) × (Bool × Int)))))))) : Option.bind (tree K k a1 m0) h = tree (fun b0 b1 => Option.bind (K b0 b1) h) k a1 m0 := by
  simp only [tree, bif_bind, sel_bind', Option.bind_assoc, Option.bind_none, Option.bind_some]
abbrev ps : List Sh := [.ptr 0, .data (.int .i64)]
abbrev hs : List (Nat × ESh) := [(0, .cell (.data (.pair .bool (.pair (.int .i64) (.pair (.int .i64) (.pair .bool (.pair (.int .i64) (.pair (.arr .u64 4) (.pair .bool (.int .i64))))))))))]
abbrev hi : List Nat := hs.map (·.1)
def val (t : (Bool × (Bool × (Int × (Int × (Bool × (Int × ((List Int) × (Bool × Int))))))))) : AV := Sh.mk (.data .bool) t.1
def wr (t : (Bool × (Bool × (Int × (Int × (Bool × (Int × ((List Int) × (Bool × Int))))))))) : Heap := [(0, ESh.mk (.cell (.data (.pair .bool (.pair (.int .i64) (.pair (.int .i64) (.pair .bool (.pair (.int .i64) (.pair (.arr .u64 4) (.pair .bool (.int .i64)))))))))) t.2)]
def callee (k : Nat) : Callee := sigCallee ps hs (fun (d : (Unit × Int × Unit)) (e : ((Bool × (Int × (Int × (Bool × (Int × ((List Int) × (Bool × Int))))))) × Unit)) => f k d.2.1 e.1) val wr
def E (k : Nat) : Env := ⟨fnTab [], loopTab []⟩
theorem fE (k : Nat) : ∀ f, ∀ c ∈ (E k).fn f, CalleeOK Try.prog f c := fnTab_ok trivial
theorem run (k : Nat) (d : (Unit × Int × Unit)) (e : ((Bool × (Int × (Int × (Bool × (Int × ((List Int) × (Bool × Int))))))) × Unit)) : runFn Try.prog (E k) 29 (bodyOf Try.f30) Try.f30.results.toList hi (mkL ps d) (mkH hs e) =
    tree (fun b0 b1 => leafFn hs hi e val wr (b0, b1)) k d.2.1 e.1 := by kernel_rfl
theorem run_f (k : Nat) (d : (Unit × Int × Unit)) (e : ((Bool × (Int × (Int × (Bool × (Int × ((List Int) × (Bool × Int))))))) × Unit)) : runFn Try.prog (E k) 29 (bodyOf Try.f30) Try.f30.results.toList hi (mkL ps d) (mkH hs e) = (f k d.2.1 e.1).bind (leafFn hs hi e val wr) :=
  (run k d e).trans (tree_nat (leafFn hs hi e val wr) (fun b0 b1 => some (b0, b1)) k d.2.1 e.1).symm
theorem fnIs : FnIs Try.prog 30 Try.f30 (bodyOf Try.f30) 29 := ⟨by kernel_rfl, by kernel_rfl, by kernel_rfl, by kernel_rfl⟩
theorem ok (k : Nat) : CalleeOK Try.prog 30 (callee k) :=
  callee_sig (T := (Bool × (Bool × (Int × (Int × (Bool × (Int × ((List Int) × (Bool × Int))))))))) fnIs hm (fE k) (loopsOK_of [] (by kernel_rfl) trivial) ps hs (fun (d : (Unit × Int × Unit)) (e : ((Bool × (Int × (Int × (Bool × (Int × ((List Int) × (Bool × Int))))))) × Unit)) => f k d.2.1 e.1) val wr rfl (fun _ => rfl) (run_f k)
end sync_Watch_Asks
namespace sync_Watch_Got
def tree {X : Type} (K : Bool → (Bool × (Int × (Int × (Bool × (Int × ((List Int) × (Bool × Int))))))) → Option X) (k : Nat) (m0 : (Bool × (Int × (Int × (Bool × (Int × ((List Int) × (Bool × Int)))))))) : Option X :=
  (bif (!m0.1) then (K false m0) else (K true ((false, m0.2) : (Bool × (Int × (Int × (Bool × (Int × ((List Int) × (Bool × Int))))))))))
def f (k : Nat) (m0 : (Bool × (Int × (Int × (Bool × (Int × ((List Int) × (Bool × Int)))))))) : Option (Bool × (Bool × (Int × (Int × (Bool × (Int × ((List Int) × (Bool × Int)))))))) := tree (fun b0 b1 => some (b0, b1)) k m0
theorem tree_nat {X Y : Type} (h : X → Option Y) (K : Bool → (Bool × (Int × (Int × (Bool × (Int × ((List Int) × (Bool × Int))))))) → Option X) (k : Nat) (m0 : (Bool × (Int × (Int × (Bool × (Int × ((List Int) × (Bool × Int)))))))) : Option.bind (tree K k m0) h = tree (fun b0 b1 => Option.bind (K b0 b1) h) k m0 := by
  simp only [tree, bif_bind, sel_bind', Option.bind_assoc, Option.bind_none, Option.bind_some]
abbrev ps : List Sh := [.ptr 0]
abbrev hs : List (Nat × ESh) := [(0, .cell (.data (.pair .bool (.pair (.int .i64) (.pair (.int .i64) (.pair .bool (.pair (.int .i64) (.pair (.arr .u64 4) (.pair .bool (.int .i64))))))))))]
abbrev hi : List Nat := hs.map (·.1)
def val (t : (Bool × (Bool × (Int × (Int × (Bool × (Int × ((List Int) × (Bool × Int))))))))) : AV := Sh.mk (.data .bool) t.1
def wr (t : (Bool × (Bool × (Int × (Int × (Bool × (Int × ((List Int) × (Bool × Int))))))))) : Heap := [(0, ESh.mk (.cell (.data (.pair .bool (.pair (.int .i64) (.pair (.int .i64) (.pair .bool (.pair (.int .i64) (.pair (.arr .u64 4) (.pair .bool (.int .i64)))))))))) t.2)]
def callee (k : Nat) : Callee := sigCallee ps hs (fun (d : (Unit × Unit)) (e : ((Bool × (Int × (Int × (Bool × (Int × ((List Int) × (Bool × Int))))))) × Unit)) => f k e.1) val wr
def E (k : Nat) : Env := ⟨fnTab [], loopTab []⟩
theorem fE (k : Nat) : ∀ f, ∀ c ∈ (E k).fn f, CalleeOK Try.prog f c := fnTab_ok trivial
theorem run (k : Nat) (d : (Unit × Unit)) (e : ((Bool × (Int × (Int × (Bool × (Int × ((List Int) × (Bool × Int))))))) × Unit)) : runFn Try.prog (E k) 15 (bodyOf Try.f32) Try.f32.results.toList hi (mkL ps d) (mkH hs e) =
    tree (fun b0 b1 => leafFn hs hi e val wr (b0, b1)) k e.1 := by kernel_rfl
theorem run_f (k : Nat) (d : (Unit × Unit)) (e : ((Bool × (Int × (Int × (Bool × (Int × ((List Int) × (Bool × Int))))))) × Unit)) : runFn Try.prog (E k) 15 (bodyOf Try.f32) Try.f32.results.toList hi (mkL ps d) (mkH hs e) = (f k e.1).bind (leafFn hs hi e val wr) :=
  (run k d e).trans (tree_nat (leafFn hs hi e val wr) (fun b0 b1 => some (b0, b1)) k e.1).symm
theorem fnIs : FnIs Try.prog 32 Try.f32 (bodyOf Try.f32) 15 := ⟨by kernel_rfl, by kernel_rfl, by kernel_rfl, by kernel_rfl⟩
theorem ok (k : Nat) : CalleeOK Try.prog 32 (callee k) :=
  callee_sig (T := (Bool × (Bool × (Int × (Int × (Bool × (Int × ((List Int) × (Bool × Int))))))))) fnIs hm (fE k) (loopsOK_of [] (by kernel_rfl) trivial) ps hs (fun (d : (Unit × Unit)) (e : ((Bool × (Int × (Int × (Bool × (Int × ((List Int) × (Bool × Int))))))) × Unit)) => f k e.1) val wr rfl (fun _ => rfl) (run_f k)
end sync_Watch_Got
namespace sync_Watch_Waits
def tree {X : Type} (K : Bool → Option X) (k : Nat) (a1 : Int) (m0 : (Bool × (Int × (Int × (Bool × (Int × ((List Int) × (Bool × Int)))))))) : Option X :=
  (bif m0.1 then (K (decide ((subI .i64 a1 m0.2.1) ≤ (120 : Int)))) else (K false))
def f (k : Nat) (a1 : Int) (m0 : (Bool × (Int × (Int × (Bool × (Int × ((List Int) × (Bool × Int)))))))) : Option Bool := tree (fun b0 => some b0) k a1 m0
theorem tree_nat {X Y : Type} (h : X → Option Y) (K : Bool → Option X) (k : Nat) (a1 : Int) (m0 : (Bool × (Int × (Int × (Bool × (Int × ((List Int) × (Bool × Int)))))))) : Option.bind (tree K k a1 m0) h = tree (fun b0 => Option.bind (K b0) h) k a1 m0 := by
  simp only [tree, bif_bind, sel_bind', Option.bind_assoc, Option.bind_none, Option.bind_some]
abbrev ps : List Sh := [.ptr 0, .data (.int .i64)]
abbrev hs : List (Nat × ESh) := [(0, .cell (.data (.pair .bool (.pair (.int .i64) (.pair (.int .i64) (.pair .bool (.pair (.int .i64) (.pair (.arr .u64 4) (.pair .bool (.int .i64))))))))))]
abbrev hi : List Nat := hs.map (·.1)
def val (t : Bool) : AV := Sh.mk (.data .bool) t
def wr (t : Bool) : Heap := []
def callee (k : Nat) : Callee := sigCallee ps hs (fun (d : (Unit × Int × Unit)) (e : ((Bool × (Int × (Int × (Bool × (Int × ((List Int) × (Bool × Int))))))) × Unit)) => f k d.2.1 e.1) val wr
def E (k : Nat) : Env := ⟨fnTab [], loopTab []⟩
theorem fE (k : Nat) : ∀ f, ∀ c ∈ (E k).fn f, CalleeOK Try.prog f c := fnTab_ok trivial
theorem run (k : Nat) (d : (Unit × Int × Unit)) (e : ((Bool × (Int × (Int × (Bool × (Int × ((List Int) × (Bool × Int))))))) × Unit)) : runFn Try.prog (E k) 22 (bodyOf Try.f67) Try.f67.results.toList hi (mkL ps d) (mkH hs e) =
    tree (fun b0 => leafFn hs hi e val wr b0) k d.2.1 e.1 := by kernel_rfl
theorem run_f (k : Nat) (d : (Unit × Int × Unit)) (e : ((Bool × (Int × (Int × (Bool × (Int × ((List Int) × (Bool × Int))))))) × Unit)) : runFn Try.prog (E k) 22 (bodyOf Try.f67) Try.f67.results.toList hi (mkL ps d) (mkH hs e) = (f k d.2.1 e.1).bind (leafFn hs hi e val wr) :=
  (run k d e).trans (tree_nat (leafFn hs hi e val wr) (fun b0 => some b0) k d.2.1 e.1).symm
theorem fnIs : FnIs Try.prog 67 Try.f67 (bodyOf Try.f67) 22 := ⟨by kernel_rfl, by kernel_rfl, by kernel_rfl, by kernel_rfl⟩
theorem ok (k : Nat) : CalleeOK Try.prog 67 (callee k) :=
  callee_sig (T := Bool) fnIs hm (fE k) (loopsOK_of [] (by kernel_rfl) trivial) ps hs (fun (d : (Unit × Int × Unit)) (e : ((Bool × (Int × (Int × (Bool × (Int × ((List Int) × (Bool × Int))))))) × Unit)) => f k d.2.1 e.1) val wr rfl (fun _ => rfl) (run_f k)
end sync_Watch_Waits
namespace trailheadlaw22_alive
def tree {X : Type} (K : Bool → Option X) (k : Nat) : Option X :=
  (Option.bind (sync_Watch_Asks.f k (5 : Int) ((false, (0, (0, (false, (0, ([0, 0, 0, 0], (false, 0))))))) : (Bool × (Int × (Int × (Bool × (Int × ((List Int) × (Bool × Int))))))))) (fun r1 => (bif r1.1 then (Option.bind (sync_Watch_Asks.f k (6 : Int) r1.2) (fun r2 => (bif (!r2.1) then (Option.bind (sync_Watch_Got.f k r2.2) (fun r3 => (bif r3.1 then (Option.bind (sync_Watch_Got.f k r3.2) (fun r4 => (bif (!r4.1) then (Option.bind (sync_Watch_Asks.f k (7 : Int) r4.2) (fun r5 => (bif r5.1 then (Option.bind (sync_Watch_Waits.f k (8 : Int) r5.2) (fun r6 => (K r6))) else (K false)))) else (K false)))) else (K false)))) else (K false)))) else (K false))))
def f (k : Nat) : Option Bool := tree (fun b0 => some b0) k
theorem tree_nat {X Y : Type} (h : X → Option Y) (K : Bool → Option X) (k : Nat) : Option.bind (tree K k) h = tree (fun b0 => Option.bind (K b0) h) k := by
  simp only [tree, bif_bind, sel_bind', Option.bind_assoc, Option.bind_none, Option.bind_some]
abbrev ps : List Sh := []
abbrev hs : List (Nat × ESh) := []
abbrev hi : List Nat := hs.map (·.1)
def val (t : Bool) : AV := Sh.mk (.data .bool) t
def wr (t : Bool) : Heap := []
def callee (k : Nat) : Callee := sigCallee ps hs (fun (d : Unit) (e : Unit) => f k) val wr
def E (k : Nat) : Env := ⟨fnTab [(30, [sync_Watch_Asks.callee k]), (32, [sync_Watch_Got.callee k]), (67, [sync_Watch_Waits.callee k])], loopTab []⟩
theorem fE (k : Nat) : ∀ f, ∀ c ∈ (E k).fn f, CalleeOK Try.prog f c := fnTab_ok ⟨⟨sync_Watch_Asks.ok k, trivial⟩, ⟨sync_Watch_Got.ok k, trivial⟩, ⟨sync_Watch_Waits.ok k, trivial⟩, trivial⟩
theorem run (k : Nat) (d : Unit) (e : Unit) : runFn Try.prog (E k) 28 (bodyOf Try.f27) Try.f27.results.toList hi (mkL ps d) (mkH hs e) =
    tree (fun b0 => leafFn hs hi e val wr b0) k := by kernel_rfl
theorem run_f (k : Nat) (d : Unit) (e : Unit) : runFn Try.prog (E k) 28 (bodyOf Try.f27) Try.f27.results.toList hi (mkL ps d) (mkH hs e) = (f k).bind (leafFn hs hi e val wr) :=
  (run k d e).trans (tree_nat (leafFn hs hi e val wr) (fun b0 => some b0) k).symm
theorem fnIs : FnIs Try.prog 27 Try.f27 (bodyOf Try.f27) 28 := ⟨by kernel_rfl, by kernel_rfl, by kernel_rfl, by kernel_rfl⟩
theorem ok (k : Nat) : CalleeOK Try.prog 27 (callee k) :=
  callee_sig (T := Bool) fnIs hm (fE k) (loopsOK_of [] (by kernel_rfl) trivial) ps hs (fun (d : Unit) (e : Unit) => f k) val wr rfl (fun _ => rfl) (run_f k)
end trailheadlaw22_alive
namespace sync_Watch_Knows
namespace l0
def step {X : Type} (K : Int → (Bool × (Int × (Int × (Bool × (Int × ((List Int) × (Bool × Int))))))) → Option X) (G : Int → (Bool × (Int × (Int × (Bool × (Int × ((List Int) × (Bool × Int))))))) → Option X) (k : Nat) (x7 : Int) (y1 : (List (List Int))) (x8 : Int) (y0 : (Bool × (Int × (Int × (Bool × (Int × ((List Int) × (Bool × Int)))))))) : Option X :=
  (bif (decide (x8 < x7)) then (bif (decide (0 ≤ x8)) then (bif (decide (x8 < ((List.length y1) : Int))) then (bif (decide ((Int.toNat x8) < (List.length y1))) then (Option.bind (whole_Less.f k y0.2.2.2.2.2.1 (List.getD y1 (Int.toNat x8) (Ty.dflt (.arr .u64 4) : (List Int)))) (fun r1 => (bif r1 then (G (addI .i64 x8 1) ((y0.1, (y0.2.1, (y0.2.2.1, (y0.2.2.2.1, (y0.2.2.2.2.1, ((List.getD y1 (Int.toNat x8) (Ty.dflt (.arr .u64 4) : (List Int))), y0.2.2.2.2.2.2)))))) : (Bool × (Int × (Int × (Bool × (Int × ((List Int) × (Bool × Int))))))))) else (G (addI .i64 x8 1) y0)))) else none) else none) else none) else (K x8 y0))
def go {X : Type} (K : Int → (Bool × (Int × (Int × (Bool × (Int × ((List Int) × (Bool × Int))))))) → Option X) (k : Nat) (x7 : Int) (y1 : (List (List Int))) : Nat → Int → (Bool × (Int × (Int × (Bool × (Int × ((List Int) × (Bool × Int))))))) → Option X
  | 0, _, _ => none
  | n + 1, x8, y0 => step K (go K k x7 y1 n) k x7 y1 x8 y0
def f (k : Nat) (x7 : Int) (y1 : (List (List Int))) (n : Nat) (x8 : Int) (y0 : (Bool × (Int × (Int × (Bool × (Int × ((List Int) × (Bool × Int)))))))) : Option (Int × (Bool × (Int × (Int × (Bool × (Int × ((List Int) × (Bool × Int)))))))) := go (fun x8 y0 => some (x8, y0)) k x7 y1 n x8 y0
theorem step_nat {X Y : Type} (h : X → Option Y) (K : Int → (Bool × (Int × (Int × (Bool × (Int × ((List Int) × (Bool × Int))))))) → Option X) (G : Int → (Bool × (Int × (Int × (Bool × (Int × ((List Int) × (Bool × Int))))))) → Option X) (k : Nat) (x7 : Int) (y1 : (List (List Int))) (x8 : Int) (y0 : (Bool × (Int × (Int × (Bool × (Int × ((List Int) × (Bool × Int)))))))) : Option.bind (step K G k x7 y1 x8 y0) h = step (fun x8 y0 => Option.bind (K x8 y0) h) (fun x8 y0 => Option.bind (G x8 y0) h) k x7 y1 x8 y0 := by
  simp only [step, bif_bind, sel_bind', Option.bind_assoc, Option.bind_none, Option.bind_some]
theorem go_nat {X Y : Type} (h : X → Option Y) (K : Int → (Bool × (Int × (Int × (Bool × (Int × ((List Int) × (Bool × Int))))))) → Option X) (k : Nat) (x7 : Int) (y1 : (List (List Int))) (n : Nat) : ∀ (x8 : Int) (y0 : (Bool × (Int × (Int × (Bool × (Int × ((List Int) × (Bool × Int)))))))), Option.bind (go K k x7 y1 n x8 y0) h = go (fun x8 y0 => Option.bind (K x8 y0) h) k x7 y1 n x8 y0 := by
  induction n with
  | zero => intros; rfl
  | succ n ih => intro x8 y0; show Option.bind (step K (go K k x7 y1 n) k x7 y1 x8 y0) h = step (fun x8 y0 => Option.bind (K x8 y0) h) (go (fun x8 y0 => Option.bind (K x8 y0) h) k x7 y1 n) k x7 y1 x8 y0; rw [step_nat h]; simp only [ih]
abbrev S : List (Nat × Sh) := [(0, .ptr 0), (6, .vec 1), (7, .data (.int .i64)), (8, .data (.int .i64))]
abbrev H : List (Nat × ESh) := [(0, .cell (.data (.pair .bool (.pair (.int .i64) (.pair (.int .i64) (.pair .bool (.pair (.int .i64) (.pair (.arr .u64 4) (.pair .bool (.int .i64)))))))))), (1, .rows false 27 (.arr .u64 4))]
def KX (d : (Unit × Unit × Int × Int × Unit)) (e : ((Bool × (Int × (Int × (Bool × (Int × ((List Int) × (Bool × Int))))))) × (List (List Int)) × Unit)) (v : (Int × (Bool × (Int × (Int × (Bool × (Int × ((List Int) × (Bool × Int))))))))) : St := ⟨mkS S ((), (), d.2.2.1, v.1, ()), mkH H (v.2, e.2.1, ())⟩
def sum (k : Nat) : LoopSum := sigLoopX S H 0 (fun (d : (Unit × Unit × Int × Int × Unit)) (e : ((Bool × (Int × (Int × (Bool × (Int × ((List Int) × (Bool × Int))))))) × (List (List Int)) × Unit)) => f k d.2.2.1 e.2.1 k d.2.2.2.1 e.1) KX
end l0
def tree {X : Type} (K : (Bool × (Int × (Int × (Bool × (Int × ((List Int) × (Bool × Int))))))) → Option X) (k : Nat) (m0 : (Bool × (Int × (Int × (Bool × (Int × ((List Int) × (Bool × Int)))))))) (m1 : (List (List Int))) : Option X :=
  (Option.bind (sync_Watch_Knows.l0.f k ((List.length m1) : Int) m1 k (0 : Int) m0) (fun r2 => (K r2.2)))
def f (k : Nat) (m0 : (Bool × (Int × (Int × (Bool × (Int × ((List Int) × (Bool × Int)))))))) (m1 : (List (List Int))) : Option (Bool × (Int × (Int × (Bool × (Int × ((List Int) × (Bool × Int))))))) := tree (fun b0 => some b0) k m0 m1
theorem tree_nat {X Y : Type} (h : X → Option Y) (K : (Bool × (Int × (Int × (Bool × (Int × ((List Int) × (Bool × Int))))))) → Option X) (k : Nat) (m0 : (Bool × (Int × (Int × (Bool × (Int × ((List Int) × (Bool × Int)))))))) (m1 : (List (List Int))) : Option.bind (tree K k m0 m1) h = tree (fun b0 => Option.bind (K b0) h) k m0 m1 := by
  simp only [tree, bif_bind, sel_bind', Option.bind_assoc, Option.bind_none, Option.bind_some]
abbrev ps : List Sh := [.ptr 0, .vec 1]
abbrev hs : List (Nat × ESh) := [(0, .cell (.data (.pair .bool (.pair (.int .i64) (.pair (.int .i64) (.pair .bool (.pair (.int .i64) (.pair (.arr .u64 4) (.pair .bool (.int .i64)))))))))), (1, .rows false 27 (.arr .u64 4))]
abbrev hi : List Nat := hs.map (·.1)
def val (t : (Bool × (Int × (Int × (Bool × (Int × ((List Int) × (Bool × Int)))))))) : AV := .tnil
def wr (t : (Bool × (Int × (Int × (Bool × (Int × ((List Int) × (Bool × Int)))))))) : Heap := [(0, ESh.mk (.cell (.data (.pair .bool (.pair (.int .i64) (.pair (.int .i64) (.pair .bool (.pair (.int .i64) (.pair (.arr .u64 4) (.pair .bool (.int .i64)))))))))) t)]
def callee (k : Nat) : Callee := sigCallee ps hs (fun (d : (Unit × Unit × Unit)) (e : ((Bool × (Int × (Int × (Bool × (Int × ((List Int) × (Bool × Int))))))) × (List (List Int)) × Unit)) => f k e.1 e.2.1) val wr
def E (k : Nat) : Env := ⟨fnTab [(41, [whole_Less.callee k])], loopTab [(0, l0.sum k)]⟩
theorem fE (k : Nat) : ∀ f, ∀ c ∈ (E k).fn f, CalleeOK Try.prog f c := fnTab_ok ⟨⟨whole_Less.ok k, trivial⟩, trivial⟩
namespace l0
theorem round (k : Nat) (d : (Unit × Unit × Int × Int × Unit)) (e : ((Bool × (Int × (Int × (Bool × (Int × ((List Int) × (Bool × Int))))))) × (List (List Int)) × Unit)) (G : St → Option (Ex × St)) : roundK Try.prog (E k) 27 0 (subC (bodyOf Try.f28) [1, 0, 0]) (restrict (S.map (·.1)) (H.map (·.1))) (finBy (S.map (·.1)) (H.map (·.1)) [] []) G ⟨mkS S d, mkH H e⟩ =
    step (fun x8 y0 => some (.exit 0, KX d e (x8, y0))) (fun x8 y0 => G ⟨mkS S ((), (), d.2.2.1, x8, ()), mkH H (y0, e.2.1, ())⟩) k d.2.2.1 e.2.1 d.2.2.2.1 e.1 := by kernel_rfl
theorem it (k n : Nat) (d : (Unit × Unit × Int × Int × Unit)) (e : ((Bool × (Int × (Int × (Bool × (Int × ((List Int) × (Bool × Int))))))) × (List (List Int)) × Unit)) : loopIt Try.prog (E k) 27 0 (subC (bodyOf Try.f28) [1, 0, 0]) (restrict (S.map (·.1)) (H.map (·.1))) (finBy (S.map (·.1)) (H.map (·.1)) [] []) n ⟨mkS S d, mkH H e⟩ = go (fun x8 y0 => some (.exit 0, KX d e (x8, y0))) k d.2.2.1 e.2.1 n d.2.2.2.1 e.1 :=
  loopIt_eq (D := (Unit × Unit × Int × Int × Unit) × ((Bool × (Int × (Int × (Bool × (Int × ((List Int) × (Bool × Int))))))) × (List (List Int)) × Unit)) (fun p => ⟨mkS S p.1, mkH H p.2⟩) (fun F p => step (fun x8 y0 => some (.exit 0, KX p.1 p.2 (x8, y0))) (fun x8 y0 => F (((), (), p.1.2.2.1, x8, ()), (y0, p.2.2.1, ()))) k p.1.2.2.1 p.2.2.1 p.1.2.2.2.1 p.2.1) (fun n p => go (fun x8 y0 => some (.exit 0, KX p.1 p.2 (x8, y0))) k p.1.2.2.1 p.2.2.1 n p.1.2.2.2.1 p.2.1) (fun _ => rfl) (fun _ _ => rfl) (fun G p => round k p.1 p.2 G) n (d, e)
theorem ok (k : Nat) : LoopOK Try.prog 27 (subC (bodyOf Try.f28) [1, 0, 0]) (sum k) :=
  loop_sigX hm (fE k) (loopsOK_of [] (by kernel_rfl) trivial) S H 0 (fun (d : (Unit × Unit × Int × Int × Unit)) (e : ((Bool × (Int × (Int × (Bool × (Int × ((List Int) × (Bool × Int))))))) × (List (List Int)) × Unit)) => f k d.2.2.1 e.2.1 k d.2.2.2.1 e.1) KX (S.map (·.1)) (H.map (·.1)) [] [] k
    (fun d e => (it k k d e).trans (go_nat (fun v => some (Ex.exit 0, KX d e v)) (fun x8 y0 => some (x8, y0)) k d.2.2.1 e.2.1 k d.2.2.2.1 e.1).symm)
end l0
theorem run (k : Nat) (d : (Unit × Unit × Unit)) (e : ((Bool × (Int × (Int × (Bool × (Int × ((List Int) × (Bool × Int))))))) × (List (List Int)) × Unit)) : runFn Try.prog (E k) 27 (bodyOf Try.f28) Try.f28.results.toList hi (mkL ps d) (mkH hs e) =
    tree (fun b0 => leafFn hs hi e val wr b0) k e.1 e.2.1 := by kernel_rfl
theorem run_f (k : Nat) (d : (Unit × Unit × Unit)) (e : ((Bool × (Int × (Int × (Bool × (Int × ((List Int) × (Bool × Int))))))) × (List (List Int)) × Unit)) : runFn Try.prog (E k) 27 (bodyOf Try.f28) Try.f28.results.toList hi (mkL ps d) (mkH hs e) = (f k e.1 e.2.1).bind (leafFn hs hi e val wr) :=
  (run k d e).trans (tree_nat (leafFn hs hi e val wr) (fun b0 => some b0) k e.1 e.2.1).symm
theorem fnIs : FnIs Try.prog 28 Try.f28 (bodyOf Try.f28) 27 := ⟨by kernel_rfl, by kernel_rfl, by kernel_rfl, by kernel_rfl⟩
theorem ok (k : Nat) : CalleeOK Try.prog 28 (callee k) :=
  callee_sig (T := (Bool × (Int × (Int × (Bool × (Int × ((List Int) × (Bool × Int)))))))) fnIs hm (fE k) (loopsOK_of [(0, subC (bodyOf Try.f28) [1, 0, 0])] (by kernel_rfl) ⟨of_loop (l0.sum k) rfl (l0.ok k), trivial⟩) ps hs (fun (d : (Unit × Unit × Unit)) (e : ((Bool × (Int × (Int × (Bool × (Int × ((List Int) × (Bool × Int))))))) × (List (List Int)) × Unit)) => f k e.1 e.2.1) val wr rfl (fun _ => rfl) (run_f k)
end sync_Watch_Knows
namespace sync_Watch_Knows_v1
namespace l0
def step {X : Type} (K : Int → (Bool × (Int × (Int × (Bool × (Int × ((List Int) × (Bool × Int))))))) → Option X) (G : Int → (Bool × (Int × (Int × (Bool × (Int × ((List Int) × (Bool × Int))))))) → Option X) (k : Nat) (x7 : Int) (y1 : (List (List Int))) (x8 : Int) (y0 : (Bool × (Int × (Int × (Bool × (Int × ((List Int) × (Bool × Int)))))))) : Option X :=
  (bif (decide (x8 < x7)) then (bif (decide (0 ≤ x8)) then (bif (decide (x8 < ((List.length y1) : Int))) then (bif (decide ((Int.toNat x8) < (List.length y1))) then (Option.bind (whole_Less.f k y0.2.2.2.2.2.1 (List.getD y1 (Int.toNat x8) (Ty.dflt (.arr .u64 4) : (List Int)))) (fun r1 => (bif r1 then (G (addI .i64 x8 1) ((y0.1, (y0.2.1, (y0.2.2.1, (y0.2.2.2.1, (y0.2.2.2.2.1, ((List.getD y1 (Int.toNat x8) (Ty.dflt (.arr .u64 4) : (List Int))), y0.2.2.2.2.2.2)))))) : (Bool × (Int × (Int × (Bool × (Int × ((List Int) × (Bool × Int))))))))) else (G (addI .i64 x8 1) y0)))) else none) else none) else none) else (K x8 y0))
def go {X : Type} (K : Int → (Bool × (Int × (Int × (Bool × (Int × ((List Int) × (Bool × Int))))))) → Option X) (k : Nat) (x7 : Int) (y1 : (List (List Int))) : Nat → Int → (Bool × (Int × (Int × (Bool × (Int × ((List Int) × (Bool × Int))))))) → Option X
  | 0, _, _ => none
  | n + 1, x8, y0 => step K (go K k x7 y1 n) k x7 y1 x8 y0
def f (k : Nat) (x7 : Int) (y1 : (List (List Int))) (n : Nat) (x8 : Int) (y0 : (Bool × (Int × (Int × (Bool × (Int × ((List Int) × (Bool × Int)))))))) : Option (Int × (Bool × (Int × (Int × (Bool × (Int × ((List Int) × (Bool × Int)))))))) := go (fun x8 y0 => some (x8, y0)) k x7 y1 n x8 y0
theorem step_nat {X Y : Type} (h : X → Option Y) (K : Int → (Bool × (Int × (Int × (Bool × (Int × ((List Int) × (Bool × Int))))))) → Option X) (G : Int → (Bool × (Int × (Int × (Bool × (Int × ((List Int) × (Bool × Int))))))) → Option X) (k : Nat) (x7 : Int) (y1 : (List (List Int))) (x8 : Int) (y0 : (Bool × (Int × (Int × (Bool × (Int × ((List Int) × (Bool × Int)))))))) : Option.bind (step K G k x7 y1 x8 y0) h = step (fun x8 y0 => Option.bind (K x8 y0) h) (fun x8 y0 => Option.bind (G x8 y0) h) k x7 y1 x8 y0 := by
  simp only [step, bif_bind, sel_bind', Option.bind_assoc, Option.bind_none, Option.bind_some]
theorem go_nat {X Y : Type} (h : X → Option Y) (K : Int → (Bool × (Int × (Int × (Bool × (Int × ((List Int) × (Bool × Int))))))) → Option X) (k : Nat) (x7 : Int) (y1 : (List (List Int))) (n : Nat) : ∀ (x8 : Int) (y0 : (Bool × (Int × (Int × (Bool × (Int × ((List Int) × (Bool × Int)))))))), Option.bind (go K k x7 y1 n x8 y0) h = go (fun x8 y0 => Option.bind (K x8 y0) h) k x7 y1 n x8 y0 := by
  induction n with
  | zero => intros; rfl
  | succ n ih => intro x8 y0; show Option.bind (step K (go K k x7 y1 n) k x7 y1 x8 y0) h = step (fun x8 y0 => Option.bind (K x8 y0) h) (go (fun x8 y0 => Option.bind (K x8 y0) h) k x7 y1 n) k x7 y1 x8 y0; rw [step_nat h]; simp only [ih]
abbrev S : List (Nat × Sh) := [(0, .ptr 0), (6, .vec 1), (7, .data (.int .i64)), (8, .data (.int .i64))]
abbrev H : List (Nat × ESh) := [(0, .cell (.data (.pair .bool (.pair (.int .i64) (.pair (.int .i64) (.pair .bool (.pair (.int .i64) (.pair (.arr .u64 4) (.pair .bool (.int .i64)))))))))), (1, .rows true 27 (.arr .u64 4))]
def KX (d : (Unit × Unit × Int × Int × Unit)) (e : ((Bool × (Int × (Int × (Bool × (Int × ((List Int) × (Bool × Int))))))) × (List (List Int)) × Unit)) (v : (Int × (Bool × (Int × (Int × (Bool × (Int × ((List Int) × (Bool × Int))))))))) : St := ⟨mkS S ((), (), d.2.2.1, v.1, ()), mkH H (v.2, e.2.1, ())⟩
def sum (k : Nat) : LoopSum := sigLoopX S H 0 (fun (d : (Unit × Unit × Int × Int × Unit)) (e : ((Bool × (Int × (Int × (Bool × (Int × ((List Int) × (Bool × Int))))))) × (List (List Int)) × Unit)) => f k d.2.2.1 e.2.1 k d.2.2.2.1 e.1) KX
end l0
def tree {X : Type} (K : (Bool × (Int × (Int × (Bool × (Int × ((List Int) × (Bool × Int))))))) → Option X) (k : Nat) (m0 : (Bool × (Int × (Int × (Bool × (Int × ((List Int) × (Bool × Int)))))))) (m1 : (List (List Int))) : Option X :=
  (Option.bind (sync_Watch_Knows_v1.l0.f k ((List.length m1) : Int) m1 k (0 : Int) m0) (fun r2 => (K r2.2)))
def f (k : Nat) (m0 : (Bool × (Int × (Int × (Bool × (Int × ((List Int) × (Bool × Int)))))))) (m1 : (List (List Int))) : Option (Bool × (Int × (Int × (Bool × (Int × ((List Int) × (Bool × Int))))))) := tree (fun b0 => some b0) k m0 m1
theorem tree_nat {X Y : Type} (h : X → Option Y) (K : (Bool × (Int × (Int × (Bool × (Int × ((List Int) × (Bool × Int))))))) → Option X) (k : Nat) (m0 : (Bool × (Int × (Int × (Bool × (Int × ((List Int) × (Bool × Int)))))))) (m1 : (List (List Int))) : Option.bind (tree K k m0 m1) h = tree (fun b0 => Option.bind (K b0) h) k m0 m1 := by
  simp only [tree, bif_bind, sel_bind', Option.bind_assoc, Option.bind_none, Option.bind_some]
abbrev ps : List Sh := [.ptr 0, .vec 1]
abbrev hs : List (Nat × ESh) := [(0, .cell (.data (.pair .bool (.pair (.int .i64) (.pair (.int .i64) (.pair .bool (.pair (.int .i64) (.pair (.arr .u64 4) (.pair .bool (.int .i64)))))))))), (1, .rows true 27 (.arr .u64 4))]
abbrev hi : List Nat := hs.map (·.1)
def val (t : (Bool × (Int × (Int × (Bool × (Int × ((List Int) × (Bool × Int)))))))) : AV := .tnil
def wr (t : (Bool × (Int × (Int × (Bool × (Int × ((List Int) × (Bool × Int)))))))) : Heap := [(0, ESh.mk (.cell (.data (.pair .bool (.pair (.int .i64) (.pair (.int .i64) (.pair .bool (.pair (.int .i64) (.pair (.arr .u64 4) (.pair .bool (.int .i64)))))))))) t)]
def callee (k : Nat) : Callee := sigCallee ps hs (fun (d : (Unit × Unit × Unit)) (e : ((Bool × (Int × (Int × (Bool × (Int × ((List Int) × (Bool × Int))))))) × (List (List Int)) × Unit)) => f k e.1 e.2.1) val wr
def E (k : Nat) : Env := ⟨fnTab [(41, [whole_Less.callee k])], loopTab [(0, l0.sum k)]⟩
theorem fE (k : Nat) : ∀ f, ∀ c ∈ (E k).fn f, CalleeOK Try.prog f c := fnTab_ok ⟨⟨whole_Less.ok k, trivial⟩, trivial⟩
namespace l0
theorem round (k : Nat) (d : (Unit × Unit × Int × Int × Unit)) (e : ((Bool × (Int × (Int × (Bool × (Int × ((List Int) × (Bool × Int))))))) × (List (List Int)) × Unit)) (G : St → Option (Ex × St)) : roundK Try.prog (E k) 27 0 (subC (bodyOf Try.f28) [1, 0, 0]) (restrict (S.map (·.1)) (H.map (·.1))) (finBy (S.map (·.1)) (H.map (·.1)) [] []) G ⟨mkS S d, mkH H e⟩ =
    step (fun x8 y0 => some (.exit 0, KX d e (x8, y0))) (fun x8 y0 => G ⟨mkS S ((), (), d.2.2.1, x8, ()), mkH H (y0, e.2.1, ())⟩) k d.2.2.1 e.2.1 d.2.2.2.1 e.1 := by kernel_rfl
theorem it (k n : Nat) (d : (Unit × Unit × Int × Int × Unit)) (e : ((Bool × (Int × (Int × (Bool × (Int × ((List Int) × (Bool × Int))))))) × (List (List Int)) × Unit)) : loopIt Try.prog (E k) 27 0 (subC (bodyOf Try.f28) [1, 0, 0]) (restrict (S.map (·.1)) (H.map (·.1))) (finBy (S.map (·.1)) (H.map (·.1)) [] []) n ⟨mkS S d, mkH H e⟩ = go (fun x8 y0 => some (.exit 0, KX d e (x8, y0))) k d.2.2.1 e.2.1 n d.2.2.2.1 e.1 :=
  loopIt_eq (D := (Unit × Unit × Int × Int × Unit) × ((Bool × (Int × (Int × (Bool × (Int × ((List Int) × (Bool × Int))))))) × (List (List Int)) × Unit)) (fun p => ⟨mkS S p.1, mkH H p.2⟩) (fun F p => step (fun x8 y0 => some (.exit 0, KX p.1 p.2 (x8, y0))) (fun x8 y0 => F (((), (), p.1.2.2.1, x8, ()), (y0, p.2.2.1, ()))) k p.1.2.2.1 p.2.2.1 p.1.2.2.2.1 p.2.1) (fun n p => go (fun x8 y0 => some (.exit 0, KX p.1 p.2 (x8, y0))) k p.1.2.2.1 p.2.2.1 n p.1.2.2.2.1 p.2.1) (fun _ => rfl) (fun _ _ => rfl) (fun G p => round k p.1 p.2 G) n (d, e)
theorem ok (k : Nat) : LoopOK Try.prog 27 (subC (bodyOf Try.f28) [1, 0, 0]) (sum k) :=
  loop_sigX hm (fE k) (loopsOK_of [] (by kernel_rfl) trivial) S H 0 (fun (d : (Unit × Unit × Int × Int × Unit)) (e : ((Bool × (Int × (Int × (Bool × (Int × ((List Int) × (Bool × Int))))))) × (List (List Int)) × Unit)) => f k d.2.2.1 e.2.1 k d.2.2.2.1 e.1) KX (S.map (·.1)) (H.map (·.1)) [] [] k
    (fun d e => (it k k d e).trans (go_nat (fun v => some (Ex.exit 0, KX d e v)) (fun x8 y0 => some (x8, y0)) k d.2.2.1 e.2.1 k d.2.2.2.1 e.1).symm)
end l0
theorem run (k : Nat) (d : (Unit × Unit × Unit)) (e : ((Bool × (Int × (Int × (Bool × (Int × ((List Int) × (Bool × Int))))))) × (List (List Int)) × Unit)) : runFn Try.prog (E k) 27 (bodyOf Try.f28) Try.f28.results.toList hi (mkL ps d) (mkH hs e) =
    tree (fun b0 => leafFn hs hi e val wr b0) k e.1 e.2.1 := by kernel_rfl
theorem run_f (k : Nat) (d : (Unit × Unit × Unit)) (e : ((Bool × (Int × (Int × (Bool × (Int × ((List Int) × (Bool × Int))))))) × (List (List Int)) × Unit)) : runFn Try.prog (E k) 27 (bodyOf Try.f28) Try.f28.results.toList hi (mkL ps d) (mkH hs e) = (f k e.1 e.2.1).bind (leafFn hs hi e val wr) :=
  (run k d e).trans (tree_nat (leafFn hs hi e val wr) (fun b0 => some b0) k e.1 e.2.1).symm
theorem fnIs : FnIs Try.prog 28 Try.f28 (bodyOf Try.f28) 27 := ⟨by kernel_rfl, by kernel_rfl, by kernel_rfl, by kernel_rfl⟩
theorem ok (k : Nat) : CalleeOK Try.prog 28 (callee k) :=
  callee_sig (T := (Bool × (Int × (Int × (Bool × (Int × ((List Int) × (Bool × Int)))))))) fnIs hm (fE k) (loopsOK_of [(0, subC (bodyOf Try.f28) [1, 0, 0])] (by kernel_rfl) ⟨of_loop (l0.sum k) rfl (l0.ok k), trivial⟩) ps hs (fun (d : (Unit × Unit × Unit)) (e : ((Bool × (Int × (Int × (Bool × (Int × ((List Int) × (Bool × Int))))))) × (List (List Int)) × Unit)) => f k e.1 e.2.1) val wr rfl (fun _ => rfl) (run_f k)
end sync_Watch_Knows_v1
namespace sync_Watch_Work
def tree {X : Type} (K : (List Int) → Option X) (k : Nat) (m0 : (Bool × (Int × (Int × (Bool × (Int × ((List Int) × (Bool × Int)))))))) : Option X :=
  (K m0.2.2.2.2.2.1)
def f (k : Nat) (m0 : (Bool × (Int × (Int × (Bool × (Int × ((List Int) × (Bool × Int)))))))) : Option (List Int) := tree (fun b0 => some b0) k m0
theorem tree_nat {X Y : Type} (h : X → Option Y) (K : (List Int) → Option X) (k : Nat) (m0 : (Bool × (Int × (Int × (Bool × (Int × ((List Int) × (Bool × Int)))))))) : Option.bind (tree K k m0) h = tree (fun b0 => Option.bind (K b0) h) k m0 := by
  simp only [tree, bif_bind, sel_bind', Option.bind_assoc, Option.bind_none, Option.bind_some]
abbrev ps : List Sh := [.ptr 0]
abbrev hs : List (Nat × ESh) := [(0, .cell (.data (.pair .bool (.pair (.int .i64) (.pair (.int .i64) (.pair .bool (.pair (.int .i64) (.pair (.arr .u64 4) (.pair .bool (.int .i64))))))))))]
abbrev hi : List Nat := hs.map (·.1)
def val (t : (List Int)) : AV := Sh.mk (.data (.arr .u64 4)) t
def wr (t : (List Int)) : Heap := []
def callee (k : Nat) : Callee := sigCallee ps hs (fun (d : (Unit × Unit)) (e : ((Bool × (Int × (Int × (Bool × (Int × ((List Int) × (Bool × Int))))))) × Unit)) => f k e.1) val wr
def E (k : Nat) : Env := ⟨fnTab [], loopTab []⟩
theorem fE (k : Nat) : ∀ f, ∀ c ∈ (E k).fn f, CalleeOK Try.prog f c := fnTab_ok trivial
theorem run (k : Nat) (d : (Unit × Unit)) (e : ((Bool × (Int × (Int × (Bool × (Int × ((List Int) × (Bool × Int))))))) × Unit)) : runFn Try.prog (E k) 10 (bodyOf Try.f31) Try.f31.results.toList hi (mkL ps d) (mkH hs e) =
    tree (fun b0 => leafFn hs hi e val wr b0) k e.1 := by kernel_rfl
theorem run_f (k : Nat) (d : (Unit × Unit)) (e : ((Bool × (Int × (Int × (Bool × (Int × ((List Int) × (Bool × Int))))))) × Unit)) : runFn Try.prog (E k) 10 (bodyOf Try.f31) Try.f31.results.toList hi (mkL ps d) (mkH hs e) = (f k e.1).bind (leafFn hs hi e val wr) :=
  (run k d e).trans (tree_nat (leafFn hs hi e val wr) (fun b0 => some b0) k e.1).symm
theorem fnIs : FnIs Try.prog 31 Try.f31 (bodyOf Try.f31) 10 := ⟨by kernel_rfl, by kernel_rfl, by kernel_rfl, by kernel_rfl⟩
theorem ok (k : Nat) : CalleeOK Try.prog 31 (callee k) :=
  callee_sig (T := (List Int)) fnIs hm (fE k) (loopsOK_of [] (by kernel_rfl) trivial) ps hs (fun (d : (Unit × Unit)) (e : ((Bool × (Int × (Int × (Bool × (Int × ((List Int) × (Bool × Int))))))) × Unit)) => f k e.1) val wr rfl (fun _ => rfl) (run_f k)
end sync_Watch_Work
namespace trailheadlaw22_SyncWork
namespace l0
def step {X : Type} (K : Int → (List Int) → (Bool × (Int × (Int × (Bool × (Int × ((List Int) × (Bool × Int))))))) → Option X) (G : Int → (List Int) → (Bool × (Int × (Int × (Bool × (Int × ((List Int) × (Bool × Int))))))) → Option X) (k : Nat) (x1 : Int) (x2 : Int) (x6 : Bool) (x43 : Int) (y0 : (List (List Int))) (y1035 : (Bool × (Int × (Int × (Bool × (Int × ((List Int) × (Bool × Int)))))))) (x44 : Int) (y1009 : (List Int)) (y1037 : (Bool × (Int × (Int × (Bool × (Int × ((List Int) × (Bool × Int)))))))) : Option X :=
  (bif (decide (x44 < x43)) then (bif (decide (0 ≤ (subI .i64 (subI .i64 ((List.length y0) : Int) 1) x44))) then (bif (decide ((subI .i64 (subI .i64 ((List.length y0) : Int) 1) x44) < ((List.length y0) : Int))) then (bif (decide ((Int.toNat (subI .i64 (subI .i64 ((List.length y0) : Int) 1) x44)) < (List.length y0))) then (Option.bind (sync_Watch_Knows_v1.f k y1037 ([(List.getD y0 (Int.toNat (subI .i64 (subI .i64 ((List.length y0) : Int) 1) x44)) (Ty.dflt (.arr .u64 4) : (List Int)))] : (List (List Int)))) (fun r3 => (bif (decide (0 ≤ x44)) then (bif (decide (x44 < ((List.length y0) : Int))) then (bif (decide ((Int.toNat x44) < (List.length y0))) then (Option.bind (trailheadref02_Less.f k y1009 (List.getD y0 (Int.toNat x44) (Ty.dflt (.arr .u64 4) : (List Int)))) (fun r4 => (bif r4 then (bif (decide (0 ≤ x44)) then (bif (decide (x44 < ((List.length y0) : Int))) then (bif (decide ((Int.toNat x44) < (List.length y0))) then (G (addI .i64 x44 1) (List.getD y0 (Int.toNat x44) (Ty.dflt (.arr .u64 4) : (List Int))) r3) else none) else none) else none) else (G (addI .i64 x44 1) y1009 r3)))) else none) else none) else none))) else none) else none) else none) else (K x44 y1009 y1037))
def go {X : Type} (K : Int → (List Int) → (Bool × (Int × (Int × (Bool × (Int × ((List Int) × (Bool × Int))))))) → Option X) (k : Nat) (x1 : Int) (x2 : Int) (x6 : Bool) (x43 : Int) (y0 : (List (List Int))) (y1035 : (Bool × (Int × (Int × (Bool × (Int × ((List Int) × (Bool × Int)))))))) : Nat → Int → (List Int) → (Bool × (Int × (Int × (Bool × (Int × ((List Int) × (Bool × Int))))))) → Option X
  | 0, _, _, _ => none
  | n + 1, x44, y1009, y1037 => step K (go K k x1 x2 x6 x43 y0 y1035 n) k x1 x2 x6 x43 y0 y1035 x44 y1009 y1037
def f (k : Nat) (x1 : Int) (x2 : Int) (x6 : Bool) (x43 : Int) (y0 : (List (List Int))) (y1035 : (Bool × (Int × (Int × (Bool × (Int × ((List Int) × (Bool × Int)))))))) (n : Nat) (x44 : Int) (y1009 : (List Int)) (y1037 : (Bool × (Int × (Int × (Bool × (Int × ((List Int) × (Bool × Int)))))))) : Option (Int × ((List Int) × (Bool × (Int × (Int × (Bool × (Int × ((List Int) × (Bool × Int))))))))) := go (fun x44 y1009 y1037 => some (x44, y1009, y1037)) k x1 x2 x6 x43 y0 y1035 n x44 y1009 y1037
theorem step_nat {X Y : Type} (h : X → Option Y) (K : Int → (List Int) → (Bool × (Int × (Int × (Bool × (Int × ((List Int) × (Bool × Int))))))) → Option X) (G : Int → (List Int) → (Bool × (Int × (Int × (Bool × (Int × ((List Int) × (Bool × Int))))))) → Option X) (k : Nat) (x1 : Int) (x2 : Int) (x6 : Bool) (x43 : Int) (y0 : (List (List Int))) (y1035 : (Bool × (Int × (Int × (Bool × (Int × ((List Int) × (Bool × Int)))))))) (x44 : Int) (y1009 : (List Int)) (y1037 : (Bool × (Int × (Int × (Bool × (Int × ((List Int) × (Bool × Int)))))))) : Option.bind (step K G k x1 x2 x6 x43 y0 y1035 x44 y1009 y1037) h = step (fun x44 y1009 y1037 => Option.bind (K x44 y1009 y1037) h) (fun x44 y1009 y1037 => Option.bind (G x44 y1009 y1037) h) k x1 x2 x6 x43 y0 y1035 x44 y1009 y1037 := by
  simp only [step, bif_bind, sel_bind', Option.bind_assoc, Option.bind_none, Option.bind_some]
theorem go_nat {X Y : Type} (h : X → Option Y) (K : Int → (List Int) → (Bool × (Int × (Int × (Bool × (Int × ((List Int) × (Bool × Int))))))) → Option X) (k : Nat) (x1 : Int) (x2 : Int) (x6 : Bool) (x43 : Int) (y0 : (List (List Int))) (y1035 : (Bool × (Int × (Int × (Bool × (Int × ((List Int) × (Bool × Int)))))))) (n : Nat) : ∀ (x44 : Int) (y1009 : (List Int)) (y1037 : (Bool × (Int × (Int × (Bool × (Int × ((List Int) × (Bool × Int)))))))), Option.bind (go K k x1 x2 x6 x43 y0 y1035 n x44 y1009 y1037) h = go (fun x44 y1009 y1037 => Option.bind (K x44 y1009 y1037) h) k x1 x2 x6 x43 y0 y1035 n x44 y1009 y1037 := by
  induction n with
  | zero => intros; rfl
  | succ n ih => intro x44 y1009 y1037; show Option.bind (step K (go K k x1 x2 x6 x43 y0 y1035 n) k x1 x2 x6 x43 y0 y1035 x44 y1009 y1037) h = step (fun x44 y1009 y1037 => Option.bind (K x44 y1009 y1037) h) (go (fun x44 y1009 y1037 => Option.bind (K x44 y1009 y1037) h) k x1 x2 x6 x43 y0 y1035 n) k x1 x2 x6 x43 y0 y1035 x44 y1009 y1037; rw [step_nat h]; simp only [ih]
abbrev S : List (Nat × Sh) := [(0, .vec 0), (1, .data (.int .i64)), (2, .data (.int .i64)), (6, .data .bool), (7, .ptr 1035), (8, .ptr 1037), (9, .ptr 1009), (43, .data (.int .i64)), (44, .data (.int .i64))]
abbrev H : List (Nat × ESh) := [(0, .rows false 27 (.arr .u64 4)), (1009, .cell (.data (.arr .u64 4))), (1035, .cell (.data (.pair .bool (.pair (.int .i64) (.pair (.int .i64) (.pair .bool (.pair (.int .i64) (.pair (.arr .u64 4) (.pair .bool (.int .i64)))))))))), (1037, .cell (.data (.pair .bool (.pair (.int .i64) (.pair (.int .i64) (.pair .bool (.pair (.int .i64) (.pair (.arr .u64 4) (.pair .bool (.int .i64))))))))))]
def KX (d : (Unit × Int × Int × Bool × Unit × Unit × Unit × Int × Int × Unit)) (e : ((List (List Int)) × (List Int) × (Bool × (Int × (Int × (Bool × (Int × ((List Int) × (Bool × Int))))))) × (Bool × (Int × (Int × (Bool × (Int × ((List Int) × (Bool × Int))))))) × Unit)) (v : (Int × ((List Int) × (Bool × (Int × (Int × (Bool × (Int × ((List Int) × (Bool × Int)))))))))) : St := ⟨mkS S ((), d.2.1, d.2.2.1, d.2.2.2.1, (), (), (), d.2.2.2.2.2.2.2.1, v.1, ()), mkH H (e.1, v.2.1, e.2.2.1, v.2.2, ())⟩
def sum (k : Nat) : LoopSum := sigLoopX S H 0 (fun (d : (Unit × Int × Int × Bool × Unit × Unit × Unit × Int × Int × Unit)) (e : ((List (List Int)) × (List Int) × (Bool × (Int × (Int × (Bool × (Int × ((List Int) × (Bool × Int))))))) × (Bool × (Int × (Int × (Bool × (Int × ((List Int) × (Bool × Int))))))) × Unit)) => f k d.2.1 d.2.2.1 d.2.2.2.1 d.2.2.2.2.2.2.2.1 e.1 e.2.2.1 k d.2.2.2.2.2.2.2.2.1 e.2.1 e.2.2.2.1) KX
end l0
def tree {X : Type} (K : Bool → Option X) (k : Nat) (a1 : Int) (a2 : Int) (m0 : (List (List Int))) : Option X :=
  (Option.bind (trailheadlaw22_alive.f k) (fun r1 => (bif (!r1) then (K false) else (bif (decide (((List.length m0) : Int) > (40 : Int))) then (K true) else (bif (decide (a1 < (0 : Int))) then (K true) else (bif (decide (a1 > (1099511627776 : Int))) then (K true) else (bif (decide (a2 < (0 : Int))) then (K true) else (bif (decide (a2 > (1099511627776 : Int))) then (K true) else (Option.bind (sync_Watch_Knows.f k ((false, (0, (0, (false, (0, ([0, 0, 0, 0], (false, 0))))))) : (Bool × (Int × (Int × (Bool × (Int × ((List Int) × (Bool × Int)))))))) m0) (fun r2 => (Option.bind (trailheadlaw22_SyncWork.l0.f k a1 a2 false ((List.length m0) : Int) m0 r2 k (0 : Int) ([0, 0, 0, 0] : (List Int)) ((false, (0, (0, (false, (0, ([0, 0, 0, 0], (false, 0))))))) : (Bool × (Int × (Int × (Bool × (Int × ((List Int) × (Bool × Int))))))))) (fun r5 => (Option.bind (sync_Watch_Asks.f k a1 r2) (fun r6 => (Option.bind (sync_Watch_Asks.f k (addI .i64 a1 a2) r6.2) (fun r7 => (Option.bind (sync_Watch_Work.f k r7.2) (fun r8 => (bif (decide (r8 = r5.2.1)) then (Option.bind (sync_Watch_Work.f k r5.2.2) (fun r9 => (bif (decide (r9 = r5.2.1)) then (bif r6.1 then (bif (r7.1 == (decide (a2 > (120 : Int)))) then (Option.bind (sync_Watch_Got.f k r7.2) (fun r10 => (bif r10.1 then (Option.bind (sync_Watch_Asks.f k a1 r10.2) (fun r11 => (K r11.1))) else (K false)))) else (K false)) else (K false)) else (K false)))) else (K false))))))))))))))))))))
def f (k : Nat) (a1 : Int) (a2 : Int) (m0 : (List (List Int))) : Option Bool := tree (fun b0 => some b0) k a1 a2 m0
theorem tree_nat {X Y : Type} (h : X → Option Y) (K : Bool → Option X) (k : Nat) (a1 : Int) (a2 : Int) (m0 : (List (List Int))) : Option.bind (tree K k a1 a2 m0) h = tree (fun b0 => Option.bind (K b0) h) k a1 a2 m0 := by
  simp only [tree, bif_bind, sel_bind', Option.bind_assoc, Option.bind_none, Option.bind_some]
abbrev ps : List Sh := [.vec 0, .data (.int .i64), .data (.int .i64)]
abbrev hs : List (Nat × ESh) := [(0, .rows false 27 (.arr .u64 4))]
abbrev hi : List Nat := hs.map (·.1)
def val (t : Bool) : AV := Sh.mk (.data .bool) t
def wr (t : Bool) : Heap := []
def callee (k : Nat) : Callee := sigCallee ps hs (fun (d : (Unit × Int × Int × Unit)) (e : ((List (List Int)) × Unit)) => f k d.2.1 d.2.2.1 e.1) val wr
def E (k : Nat) : Env := ⟨fnTab [(27, [trailheadlaw22_alive.callee k]), (28, [sync_Watch_Knows.callee k, sync_Watch_Knows_v1.callee k]), (29, [trailheadref02_Less.callee k]), (30, [sync_Watch_Asks.callee k]), (31, [sync_Watch_Work.callee k]), (32, [sync_Watch_Got.callee k])], loopTab [(0, l0.sum k)]⟩
theorem fE (k : Nat) : ∀ f, ∀ c ∈ (E k).fn f, CalleeOK Try.prog f c := fnTab_ok ⟨⟨trailheadlaw22_alive.ok k, trivial⟩, ⟨sync_Watch_Knows.ok k, sync_Watch_Knows_v1.ok k, trivial⟩, ⟨trailheadref02_Less.ok k, trivial⟩, ⟨sync_Watch_Asks.ok k, trivial⟩, ⟨sync_Watch_Work.ok k, trivial⟩, ⟨sync_Watch_Got.ok k, trivial⟩, trivial⟩
namespace l0
theorem round (k : Nat) (d : (Unit × Int × Int × Bool × Unit × Unit × Unit × Int × Int × Unit)) (e : ((List (List Int)) × (List Int) × (Bool × (Int × (Int × (Bool × (Int × ((List Int) × (Bool × Int))))))) × (Bool × (Int × (Int × (Bool × (Int × ((List Int) × (Bool × Int))))))) × Unit)) (G : St → Option (Ex × St)) : roundK Try.prog (E k) 105 0 (subC (bodyOf Try.f3) [1, 1, 1, 1, 1, 1, 0, 1, 0, 0]) (restrict (S.map (·.1)) (H.map (·.1))) (finBy (S.map (·.1)) (H.map (·.1)) [] []) G ⟨mkS S d, mkH H e⟩ =
    step (fun x44 y1009 y1037 => some (.exit 0, KX d e (x44, y1009, y1037))) (fun x44 y1009 y1037 => G ⟨mkS S ((), d.2.1, d.2.2.1, d.2.2.2.1, (), (), (), d.2.2.2.2.2.2.2.1, x44, ()), mkH H (e.1, y1009, e.2.2.1, y1037, ())⟩) k d.2.1 d.2.2.1 d.2.2.2.1 d.2.2.2.2.2.2.2.1 e.1 e.2.2.1 d.2.2.2.2.2.2.2.2.1 e.2.1 e.2.2.2.1 := by kernel_rfl
theorem it (k n : Nat) (d : (Unit × Int × Int × Bool × Unit × Unit × Unit × Int × Int × Unit)) (e : ((List (List Int)) × (List Int) × (Bool × (Int × (Int × (Bool × (Int × ((List Int) × (Bool × Int))))))) × (Bool × (Int × (Int × (Bool × (Int × ((List Int) × (Bool × Int))))))) × Unit)) : loopIt Try.prog (E k) 105 0 (subC (bodyOf Try.f3) [1, 1, 1, 1, 1, 1, 0, 1, 0, 0]) (restrict (S.map (·.1)) (H.map (·.1))) (finBy (S.map (·.1)) (H.map (·.1)) [] []) n ⟨mkS S d, mkH H e⟩ = go (fun x44 y1009 y1037 => some (.exit 0, KX d e (x44, y1009, y1037))) k d.2.1 d.2.2.1 d.2.2.2.1 d.2.2.2.2.2.2.2.1 e.1 e.2.2.1 n d.2.2.2.2.2.2.2.2.1 e.2.1 e.2.2.2.1 :=
  loopIt_eq (D := (Unit × Int × Int × Bool × Unit × Unit × Unit × Int × Int × Unit) × ((List (List Int)) × (List Int) × (Bool × (Int × (Int × (Bool × (Int × ((List Int) × (Bool × Int))))))) × (Bool × (Int × (Int × (Bool × (Int × ((List Int) × (Bool × Int))))))) × Unit)) (fun p => ⟨mkS S p.1, mkH H p.2⟩) (fun F p => step (fun x44 y1009 y1037 => some (.exit 0, KX p.1 p.2 (x44, y1009, y1037))) (fun x44 y1009 y1037 => F (((), p.1.2.1, p.1.2.2.1, p.1.2.2.2.1, (), (), (), p.1.2.2.2.2.2.2.2.1, x44, ()), (p.2.1, y1009, p.2.2.2.1, y1037, ()))) k p.1.2.1 p.1.2.2.1 p.1.2.2.2.1 p.1.2.2.2.2.2.2.2.1 p.2.1 p.2.2.2.1 p.1.2.2.2.2.2.2.2.2.1 p.2.2.1 p.2.2.2.2.1) (fun n p => go (fun x44 y1009 y1037 => some (.exit 0, KX p.1 p.2 (x44, y1009, y1037))) k p.1.2.1 p.1.2.2.1 p.1.2.2.2.1 p.1.2.2.2.2.2.2.2.1 p.2.1 p.2.2.2.1 n p.1.2.2.2.2.2.2.2.2.1 p.2.2.1 p.2.2.2.2.1) (fun _ => rfl) (fun _ _ => rfl) (fun G p => round k p.1 p.2 G) n (d, e)
theorem ok (k : Nat) : LoopOK Try.prog 105 (subC (bodyOf Try.f3) [1, 1, 1, 1, 1, 1, 0, 1, 0, 0]) (sum k) :=
  loop_sigX hm (fE k) (loopsOK_of [] (by kernel_rfl) trivial) S H 0 (fun (d : (Unit × Int × Int × Bool × Unit × Unit × Unit × Int × Int × Unit)) (e : ((List (List Int)) × (List Int) × (Bool × (Int × (Int × (Bool × (Int × ((List Int) × (Bool × Int))))))) × (Bool × (Int × (Int × (Bool × (Int × ((List Int) × (Bool × Int))))))) × Unit)) => f k d.2.1 d.2.2.1 d.2.2.2.1 d.2.2.2.2.2.2.2.1 e.1 e.2.2.1 k d.2.2.2.2.2.2.2.2.1 e.2.1 e.2.2.2.1) KX (S.map (·.1)) (H.map (·.1)) [] [] k
    (fun d e => (it k k d e).trans (go_nat (fun v => some (Ex.exit 0, KX d e v)) (fun x44 y1009 y1037 => some (x44, y1009, y1037)) k d.2.1 d.2.2.1 d.2.2.2.1 d.2.2.2.2.2.2.2.1 e.1 e.2.2.1 k d.2.2.2.2.2.2.2.2.1 e.2.1 e.2.2.2.1).symm)
end l0
theorem run (k : Nat) (d : (Unit × Int × Int × Unit)) (e : ((List (List Int)) × Unit)) : runFn Try.prog (E k) 105 (bodyOf Try.f3) Try.f3.results.toList hi (mkL ps d) (mkH hs e) =
    tree (fun b0 => leafFn hs hi e val wr b0) k d.2.1 d.2.2.1 e.1 := by kernel_rfl
theorem run_f (k : Nat) (d : (Unit × Int × Int × Unit)) (e : ((List (List Int)) × Unit)) : runFn Try.prog (E k) 105 (bodyOf Try.f3) Try.f3.results.toList hi (mkL ps d) (mkH hs e) = (f k d.2.1 d.2.2.1 e.1).bind (leafFn hs hi e val wr) :=
  (run k d e).trans (tree_nat (leafFn hs hi e val wr) (fun b0 => some b0) k d.2.1 d.2.2.1 e.1).symm
theorem fnIs : FnIs Try.prog 3 Try.f3 (bodyOf Try.f3) 105 := ⟨by kernel_rfl, by kernel_rfl, by kernel_rfl, by kernel_rfl⟩
theorem ok (k : Nat) : CalleeOK Try.prog 3 (callee k) :=
  callee_sig (T := Bool) fnIs hm (fE k) (loopsOK_of [(0, subC (bodyOf Try.f3) [1, 1, 1, 1, 1, 1, 0, 1, 0, 0])] (by kernel_rfl) ⟨of_loop (l0.sum k) rfl (l0.ok k), trivial⟩) ps hs (fun (d : (Unit × Int × Int × Unit)) (e : ((List (List Int)) × Unit)) => f k d.2.1 d.2.2.1 e.1) val wr rfl (fun _ => rfl) (run_f k)
end trailheadlaw22_SyncWork
namespace sync_Watch_Tick
def tree {X : Type} (K : Int → (Bool × (Int × (Int × (Bool × (Int × ((List Int) × (Bool × Int))))))) → Option X) (k : Nat) (a1 : Int) (a2 : (List Int)) (a3 : Bool) (m0 : (Bool × (Int × (Int × (Bool × (Int × ((List Int) × (Bool × Int)))))))) : Option X :=
  (bif a3 then (bif m0.1 then (bif (decide ((subI .i64 a1 m0.2.1) > (120 : Int))) then (K (2 : Int) m0) else (Option.bind (whole_Less.f k m0.2.2.2.2.2.1 a2) (fun r1 => (bif (!r1) then (K (0 : Int) ((m0.1, (m0.2.1, (m0.2.2.1, (false, (m0.2.2.2.2.1, (m0.2.2.2.2.2.1, (false, m0.2.2.2.2.2.2.2))))))) : (Bool × (Int × (Int × (Bool × (Int × ((List Int) × (Bool × Int))))))))) else (bif (!m0.2.2.2.1) then (K (0 : Int) ((m0.1, (m0.2.1, (m0.2.2.1, (true, (a1, (m0.2.2.2.2.2.1, (false, m0.2.2.2.2.2.2.2))))))) : (Bool × (Int × (Int × (Bool × (Int × ((List Int) × (Bool × Int))))))))) else (bif (!m0.2.2.2.2.2.2.1) then (bif (decide ((subI .i64 a1 m0.2.2.2.2.1) > (1200 : Int))) then (K (1 : Int) ((m0.1, (m0.2.1, (m0.2.2.1, (m0.2.2.2.1, (m0.2.2.2.2.1, (m0.2.2.2.2.2.1, (true, a1))))))) : (Bool × (Int × (Int × (Bool × (Int × ((List Int) × (Bool × Int))))))))) else (bif m0.2.2.2.2.2.2.1 then (bif (decide ((subI .i64 a1 m0.2.2.2.2.2.2.2) > (120 : Int))) then (K (2 : Int) m0) else (K (0 : Int) m0)) else (K (0 : Int) m0))) else (bif m0.2.2.2.2.2.2.1 then (bif (decide ((subI .i64 a1 m0.2.2.2.2.2.2.2) > (120 : Int))) then (K (2 : Int) m0) else (K (0 : Int) m0)) else (K (0 : Int) m0)))))))) else (Option.bind (whole_Less.f k m0.2.2.2.2.2.1 a2) (fun r2 => (bif (!r2) then (K (0 : Int) ((m0.1, (m0.2.1, (m0.2.2.1, (false, (m0.2.2.2.2.1, (m0.2.2.2.2.2.1, (false, m0.2.2.2.2.2.2.2))))))) : (Bool × (Int × (Int × (Bool × (Int × ((List Int) × (Bool × Int))))))))) else (bif (!m0.2.2.2.1) then (K (0 : Int) ((m0.1, (m0.2.1, (m0.2.2.1, (true, (a1, (m0.2.2.2.2.2.1, (false, m0.2.2.2.2.2.2.2))))))) : (Bool × (Int × (Int × (Bool × (Int × ((List Int) × (Bool × Int))))))))) else (bif (!m0.2.2.2.2.2.2.1) then (bif (decide ((subI .i64 a1 m0.2.2.2.2.1) > (1200 : Int))) then (K (1 : Int) ((m0.1, (m0.2.1, (m0.2.2.1, (m0.2.2.2.1, (m0.2.2.2.2.1, (m0.2.2.2.2.2.1, (true, a1))))))) : (Bool × (Int × (Int × (Bool × (Int × ((List Int) × (Bool × Int))))))))) else (bif m0.2.2.2.2.2.2.1 then (bif (decide ((subI .i64 a1 m0.2.2.2.2.2.2.2) > (120 : Int))) then (K (2 : Int) m0) else (K (0 : Int) m0)) else (K (0 : Int) m0))) else (bif m0.2.2.2.2.2.2.1 then (bif (decide ((subI .i64 a1 m0.2.2.2.2.2.2.2) > (120 : Int))) then (K (2 : Int) m0) else (K (0 : Int) m0)) else (K (0 : Int) m0)))))))) else (Option.bind (whole_Less.f k m0.2.2.2.2.2.1 a2) (fun r3 => (bif (!r3) then (K (0 : Int) ((m0.1, (m0.2.1, (m0.2.2.1, (false, (m0.2.2.2.2.1, (m0.2.2.2.2.2.1, (false, m0.2.2.2.2.2.2.2))))))) : (Bool × (Int × (Int × (Bool × (Int × ((List Int) × (Bool × Int))))))))) else (bif (!m0.2.2.2.1) then (K (0 : Int) ((m0.1, (m0.2.1, (m0.2.2.1, (true, (a1, (m0.2.2.2.2.2.1, (false, m0.2.2.2.2.2.2.2))))))) : (Bool × (Int × (Int × (Bool × (Int × ((List Int) × (Bool × Int))))))))) else (bif (!m0.2.2.2.2.2.2.1) then (bif (decide ((subI .i64 a1 m0.2.2.2.2.1) > (1200 : Int))) then (K (1 : Int) ((m0.1, (m0.2.1, (m0.2.2.1, (m0.2.2.2.1, (m0.2.2.2.2.1, (m0.2.2.2.2.2.1, (true, a1))))))) : (Bool × (Int × (Int × (Bool × (Int × ((List Int) × (Bool × Int))))))))) else (bif m0.2.2.2.2.2.2.1 then (bif (decide ((subI .i64 a1 m0.2.2.2.2.2.2.2) > (120 : Int))) then (K (2 : Int) m0) else (K (0 : Int) m0)) else (K (0 : Int) m0))) else (bif m0.2.2.2.2.2.2.1 then (bif (decide ((subI .i64 a1 m0.2.2.2.2.2.2.2) > (120 : Int))) then (K (2 : Int) m0) else (K (0 : Int) m0)) else (K (0 : Int) m0))))))))
def f (k : Nat) (a1 : Int) (a2 : (List Int)) (a3 : Bool) (m0 : (Bool × (Int × (Int × (Bool × (Int × ((List Int) × (Bool × Int)))))))) : Option (Int × (Bool × (Int × (Int × (Bool × (Int × ((List Int) × (Bool × Int)))))))) := tree (fun b0 b1 => some (b0, b1)) k a1 a2 a3 m0
theorem tree_nat {X Y : Type} (h : X → Option Y) (K : Int → (Bool × (Int × (Int × (Bool × (Int × ((List Int) × (Bool × Int))))))) → Option X) (k : Nat) (a1 : Int) (a2 : (List Int)) (a3 : Bool) (m0 : (Bool × (Int × (Int × (Bool × (Int × ((List Int) × (Bool × Int)))))))) : Option.bind (tree K k a1 a2 a3 m0) h = tree (fun b0 b1 => Option.bind (K b0 b1) h) k a1 a2 a3 m0 := by
  simp only [tree, bif_bind, sel_bind', Option.bind_assoc, Option.bind_none, Option.bind_some]
abbrev ps : List Sh := [.ptr 0, .data (.int .i64), .data (.arr .u64 4), .data .bool]
abbrev hs : List (Nat × ESh) := [(0, .cell (.data (.pair .bool (.pair (.int .i64) (.pair (.int .i64) (.pair .bool (.pair (.int .i64) (.pair (.arr .u64 4) (.pair .bool (.int .i64))))))))))]
abbrev hi : List Nat := hs.map (·.1)
def val (t : (Int × (Bool × (Int × (Int × (Bool × (Int × ((List Int) × (Bool × Int))))))))) : AV := Sh.mk (.data (.int .i64)) t.1
def wr (t : (Int × (Bool × (Int × (Int × (Bool × (Int × ((List Int) × (Bool × Int))))))))) : Heap := [(0, ESh.mk (.cell (.data (.pair .bool (.pair (.int .i64) (.pair (.int .i64) (.pair .bool (.pair (.int .i64) (.pair (.arr .u64 4) (.pair .bool (.int .i64)))))))))) t.2)]
def callee (k : Nat) : Callee := sigCallee ps hs (fun (d : (Unit × Int × (List Int) × Bool × Unit)) (e : ((Bool × (Int × (Int × (Bool × (Int × ((List Int) × (Bool × Int))))))) × Unit)) => f k d.2.1 d.2.2.1 d.2.2.2.1 e.1) val wr
def E (k : Nat) : Env := ⟨fnTab [(41, [whole_Less.callee k])], loopTab []⟩
theorem fE (k : Nat) : ∀ f, ∀ c ∈ (E k).fn f, CalleeOK Try.prog f c := fnTab_ok ⟨⟨whole_Less.ok k, trivial⟩, trivial⟩
theorem run (k : Nat) (d : (Unit × Int × (List Int) × Bool × Unit)) (e : ((Bool × (Int × (Int × (Bool × (Int × ((List Int) × (Bool × Int))))))) × Unit)) : runFn Try.prog (E k) 95 (bodyOf Try.f37) Try.f37.results.toList hi (mkL ps d) (mkH hs e) =
    tree (fun b0 b1 => leafFn hs hi e val wr (b0, b1)) k d.2.1 d.2.2.1 d.2.2.2.1 e.1 := by kernel_rfl
theorem run_f (k : Nat) (d : (Unit × Int × (List Int) × Bool × Unit)) (e : ((Bool × (Int × (Int × (Bool × (Int × ((List Int) × (Bool × Int))))))) × Unit)) : runFn Try.prog (E k) 95 (bodyOf Try.f37) Try.f37.results.toList hi (mkL ps d) (mkH hs e) = (f k d.2.1 d.2.2.1 d.2.2.2.1 e.1).bind (leafFn hs hi e val wr) :=
  (run k d e).trans (tree_nat (leafFn hs hi e val wr) (fun b0 b1 => some (b0, b1)) k d.2.1 d.2.2.1 d.2.2.2.1 e.1).symm
theorem fnIs : FnIs Try.prog 37 Try.f37 (bodyOf Try.f37) 95 := ⟨by kernel_rfl, by kernel_rfl, by kernel_rfl, by kernel_rfl⟩
theorem ok (k : Nat) : CalleeOK Try.prog 37 (callee k) :=
  callee_sig (T := (Int × (Bool × (Int × (Int × (Bool × (Int × ((List Int) × (Bool × Int))))))))) fnIs hm (fE k) (loopsOK_of [] (by kernel_rfl) trivial) ps hs (fun (d : (Unit × Int × (List Int) × Bool × Unit)) (e : ((Bool × (Int × (Int × (Bool × (Int × ((List Int) × (Bool × Int))))))) × Unit)) => f k d.2.1 d.2.2.1 d.2.2.2.1 e.1) val wr rfl (fun _ => rfl) (run_f k)
end sync_Watch_Tick
namespace trailheadlaw22_SyncSlow
def tree {X : Type} (K : Bool → Option X) (k : Nat) (a0 : (List Int)) (a1 : Int) (a2 : Int) (a3 : Bool) : Option X :=
  (Option.bind (trailheadlaw22_alive.f k) (fun r1 => (bif (!r1) then (K false) else (bif (decide (a0 = ([0, 0, 0, 0] : (List Int)))) then (K true) else (bif (decide (a1 < (0 : Int))) then (K true) else (bif (decide (a1 > (1099511627776 : Int))) then (K true) else (bif (decide (a2 < (1 : Int))) then (K true) else (bif (decide (a2 > (1099511627776 : Int))) then (K true) else (Option.bind (sync_Watch_Tick.f k a1 a0 false ((false, (0, (0, (false, (0, ([0, 0, 0, 0], (false, 0))))))) : (Bool × (Int × (Int × (Bool × (Int × ((List Int) × (Bool × Int))))))))) (fun r2 => (bif (r2.1 != (0 : Int)) then (K false) else (Option.bind (sync_Watch_Tick.f k (addI .i64 a1 1200) a0 false r2.2) (fun r3 => (bif (r3.1 != (0 : Int)) then (K false) else (Option.bind (sync_Watch_Tick.f k (addI .i64 (addI .i64 a1 1200) a2) a0 false r3.2) (fun r4 => (bif (r4.1 != (1 : Int)) then (K false) else (Option.bind (sync_Watch_Tick.f k (addI .i64 (addI .i64 (addI .i64 a1 1200) a2) 120) a0 false r4.2) (fun r5 => (bif (r5.1 != (0 : Int)) then (K false) else (bif a3 then (Option.bind (sync_Watch_Knows_v1.f k r5.2 ([a0] : (List (List Int)))) (fun r6 => (Option.bind (sync_Watch_Tick.f k (addI .i64 (addI .i64 (addI .i64 (addI .i64 a1 1200) a2) 120) a2) a0 false r6) (fun r7 => (bif (r7.1 == (0 : Int)) then (Option.bind (sync_Watch_Tick.f k (addI .i64 (addI .i64 (addI .i64 (addI .i64 a1 1200) a2) 12000) a2) a0 false r7.2) (fun r8 => (K (r8.1 == (0 : Int))))) else (K false)))))) else (Option.bind (sync_Watch_Tick.f k (addI .i64 (addI .i64 (addI .i64 (addI .i64 a1 1200) a2) 120) a2) a0 false r5.2) (fun r9 => (K (r9.1 == (2 : Int))))))))))))))))))))))))))
def f (k : Nat) (a0 : (List Int)) (a1 : Int) (a2 : Int) (a3 : Bool) : Option Bool := tree (fun b0 => some b0) k a0 a1 a2 a3
theorem tree_nat {X Y : Type} (h : X → Option Y) (K : Bool → Option X) (k : Nat) (a0 : (List Int)) (a1 : Int) (a2 : Int) (a3 : Bool) : Option.bind (tree K k a0 a1 a2 a3) h = tree (fun b0 => Option.bind (K b0) h) k a0 a1 a2 a3 := by
  simp only [tree, bif_bind, sel_bind', Option.bind_assoc, Option.bind_none, Option.bind_some]
abbrev ps : List Sh := [.data (.arr .u64 4), .data (.int .i64), .data (.int .i64), .data .bool]
abbrev hs : List (Nat × ESh) := []
abbrev hi : List Nat := hs.map (·.1)
def val (t : Bool) : AV := Sh.mk (.data .bool) t
def wr (t : Bool) : Heap := []
def callee (k : Nat) : Callee := sigCallee ps hs (fun (d : ((List Int) × Int × Int × Bool × Unit)) (e : Unit) => f k d.1 d.2.1 d.2.2.1 d.2.2.2.1) val wr
def E (k : Nat) : Env := ⟨fnTab [(27, [trailheadlaw22_alive.callee k]), (37, [sync_Watch_Tick.callee k]), (28, [sync_Watch_Knows_v1.callee k])], loopTab []⟩
theorem fE (k : Nat) : ∀ f, ∀ c ∈ (E k).fn f, CalleeOK Try.prog f c := fnTab_ok ⟨⟨trailheadlaw22_alive.ok k, trivial⟩, ⟨sync_Watch_Tick.ok k, trivial⟩, ⟨sync_Watch_Knows_v1.ok k, trivial⟩, trivial⟩
theorem run (k : Nat) (d : ((List Int) × Int × Int × Bool × Unit)) (e : Unit) : runFn Try.prog (E k) 97 (bodyOf Try.f5) Try.f5.results.toList hi (mkL ps d) (mkH hs e) =
    tree (fun b0 => leafFn hs hi e val wr b0) k d.1 d.2.1 d.2.2.1 d.2.2.2.1 := by kernel_rfl
theorem run_f (k : Nat) (d : ((List Int) × Int × Int × Bool × Unit)) (e : Unit) : runFn Try.prog (E k) 97 (bodyOf Try.f5) Try.f5.results.toList hi (mkL ps d) (mkH hs e) = (f k d.1 d.2.1 d.2.2.1 d.2.2.2.1).bind (leafFn hs hi e val wr) :=
  (run k d e).trans (tree_nat (leafFn hs hi e val wr) (fun b0 => some b0) k d.1 d.2.1 d.2.2.1 d.2.2.2.1).symm
theorem fnIs : FnIs Try.prog 5 Try.f5 (bodyOf Try.f5) 97 := ⟨by kernel_rfl, by kernel_rfl, by kernel_rfl, by kernel_rfl⟩
theorem ok (k : Nat) : CalleeOK Try.prog 5 (callee k) :=
  callee_sig (T := Bool) fnIs hm (fE k) (loopsOK_of [] (by kernel_rfl) trivial) ps hs (fun (d : ((List Int) × Int × Int × Bool × Unit)) (e : Unit) => f k d.1 d.2.1 d.2.2.1 d.2.2.2.1) val wr rfl (fun _ => rfl) (run_f k)
end trailheadlaw22_SyncSlow
namespace trailheadlaw22_SyncFair
namespace l0
def step {X : Type} (K : Int → Int → (Bool × (Int × (Int × (Bool × (Int × ((List Int) × (Bool × Int))))))) → Option X) (Q : Bool → Option X) (G : Int → Int → (Bool × (Int × (Int × (Bool × (Int × ((List Int) × (Bool × Int))))))) → Option X) (k : Nat) (x2 : Bool) (x6 : Bool) (x25 : Int) (y0 : (List Int)) (y1 : (List (List Int))) (x8 : Int) (x26 : Int) (y1023 : (Bool × (Int × (Int × (Bool × (Int × ((List Int) × (Bool × Int)))))))) : Option X :=
  (bif (decide (x26 < x25)) then (bif (decide (0 ≤ x26)) then (bif (decide (x26 < ((List.length y0) : Int))) then (bif (decide ((Int.toNat x26) < (List.length y0))) then (bif (decide ((List.getD y0 (Int.toNat x26) (Ty.dflt (.int .i64) : Int)) < (0 : Int))) then (Q true) else (bif (decide ((List.getD y0 (Int.toNat x26) (Ty.dflt (.int .i64) : Int)) > (120 : Int))) then (Q true) else (Option.bind (sync_Watch_Asks.f k x8 y1023) (fun r2 => (bif (decide (((List.length y1) : Int) > (0 : Int))) then (bif (decide (((List.length y1) : Int) = 0)) then none else (bif (decide (0 ≤ (remI x26 ((List.length y1) : Int)))) then (bif (decide ((remI x26 ((List.length y1) : Int)) < ((List.length y1) : Int))) then (bif (decide ((Int.toNat (remI x26 ((List.length y1) : Int))) < (List.length y1))) then (Option.bind (sync_Watch_Tick.f k (addI .i64 x8 (List.getD y0 (Int.toNat x26) (Ty.dflt (.int .i64) : Int))) (List.getD y1 (Int.toNat (remI x26 ((List.length y1) : Int))) (Ty.dflt (.arr .u64 4) : (List Int))) x2 r2.2) (fun r3 => (bif (r3.1 != (0 : Int)) then (Q false) else (Option.bind (sync_Watch_Got.f k r3.2) (fun r4 => (Option.bind (sync_Watch_Knows_v1.f k r4.2 ([(List.getD y1 (Int.toNat (remI x26 ((List.length y1) : Int))) (Ty.dflt (.arr .u64 4) : (List Int)))] : (List (List Int)))) (fun r5 => (Option.bind (sync_Watch_Tick.f k (addI .i64 x8 (List.getD y0 (Int.toNat x26) (Ty.dflt (.int .i64) : Int))) (List.getD y1 (Int.toNat (remI x26 ((List.length y1) : Int))) (Ty.dflt (.arr .u64 4) : (List Int))) x2 r5) (fun r6 => (bif (r6.1 != (0 : Int)) then (Q false) else (Option.bind (sync_Watch_Work.f k r6.2) (fun r7 => (Option.bind (trailheadref02_Less.f k r7 (List.getD y1 (Int.toNat (remI x26 ((List.length y1) : Int))) (Ty.dflt (.arr .u64 4) : (List Int)))) (fun r8 => (bif r8 then (Q false) else (G (addI .i64 x8 (List.getD y0 (Int.toNat x26) (Ty.dflt (.int .i64) : Int))) (addI .i64 x26 1) r6.2)))))))))))))))) else none) else none) else none)) else (Option.bind (sync_Watch_Tick.f k (addI .i64 x8 (List.getD y0 (Int.toNat x26) (Ty.dflt (.int .i64) : Int))) ([0, 0, 0, 0] : (List Int)) x2 r2.2) (fun r9 => (bif (r9.1 != (0 : Int)) then (Q false) else (Option.bind (sync_Watch_Got.f k r9.2) (fun r10 => (Option.bind (sync_Watch_Knows_v1.f k r10.2 ([[0, 0, 0, 0]] : (List (List Int)))) (fun r11 => (Option.bind (sync_Watch_Tick.f k (addI .i64 x8 (List.getD y0 (Int.toNat x26) (Ty.dflt (.int .i64) : Int))) ([0, 0, 0, 0] : (List Int)) x2 r11) (fun r12 => (bif (r12.1 != (0 : Int)) then (Q false) else (Option.bind (sync_Watch_Work.f k r12.2) (fun r13 => (Option.bind (trailheadref02_Less.f k r13 ([0, 0, 0, 0] : (List Int))) (fun r14 => (bif r14 then (Q false) else (G (addI .i64 x8 (List.getD y0 (Int.toNat x26) (Ty.dflt (.int .i64) : Int))) (addI .i64 x26 1) r12.2))))))))))))))))))))) else none) else none) else none) else (K x8 x26 y1023))
def go {X : Type} (K : Int → Int → (Bool × (Int × (Int × (Bool × (Int × ((List Int) × (Bool × Int))))))) → Option X) (Q : Bool → Option X) (k : Nat) (x2 : Bool) (x6 : Bool) (x25 : Int) (y0 : (List Int)) (y1 : (List (List Int))) : Nat → Int → Int → (Bool × (Int × (Int × (Bool × (Int × ((List Int) × (Bool × Int))))))) → Option X
  | 0, _, _, _ => none
  | n + 1, x8, x26, y1023 => step K Q (go K Q k x2 x6 x25 y0 y1 n) k x2 x6 x25 y0 y1 x8 x26 y1023
def f (k : Nat) (x2 : Bool) (x6 : Bool) (x25 : Int) (y0 : (List Int)) (y1 : (List (List Int))) (n : Nat) (x8 : Int) (x26 : Int) (y1023 : (Bool × (Int × (Int × (Bool × (Int × ((List Int) × (Bool × Int)))))))) : Option ((Int × (Int × (Bool × (Int × (Int × (Bool × (Int × ((List Int) × (Bool × Int))))))))) ⊕ Bool) := go (fun x8 x26 y1023 => some (.inl (x8, x26, y1023))) (fun q0 => some (.inr q0)) k x2 x6 x25 y0 y1 n x8 x26 y1023
theorem step_nat {X Y : Type} (h : X → Option Y) (K : Int → Int → (Bool × (Int × (Int × (Bool × (Int × ((List Int) × (Bool × Int))))))) → Option X) (Q : Bool → Option X) (G : Int → Int → (Bool × (Int × (Int × (Bool × (Int × ((List Int) × (Bool × Int))))))) → Option X) (k : Nat) (x2 : Bool) (x6 : Bool) (x25 : Int) (y0 : (List Int)) (y1 : (List (List Int))) (x8 : Int) (x26 : Int) (y1023 : (Bool × (Int × (Int × (Bool × (Int × ((List Int) × (Bool × Int)))))))) : Option.bind (step K Q G k x2 x6 x25 y0 y1 x8 x26 y1023) h = step (fun x8 x26 y1023 => Option.bind (K x8 x26 y1023) h) (fun q0 => Option.bind (Q q0) h) (fun x8 x26 y1023 => Option.bind (G x8 x26 y1023) h) k x2 x6 x25 y0 y1 x8 x26 y1023 := by
  simp only [step, bif_bind, sel_bind', Option.bind_assoc, Option.bind_none, Option.bind_some]
theorem go_nat {X Y : Type} (h : X → Option Y) (K : Int → Int → (Bool × (Int × (Int × (Bool × (Int × ((List Int) × (Bool × Int))))))) → Option X) (Q : Bool → Option X) (k : Nat) (x2 : Bool) (x6 : Bool) (x25 : Int) (y0 : (List Int)) (y1 : (List (List Int))) (n : Nat) : ∀ (x8 : Int) (x26 : Int) (y1023 : (Bool × (Int × (Int × (Bool × (Int × ((List Int) × (Bool × Int)))))))), Option.bind (go K Q k x2 x6 x25 y0 y1 n x8 x26 y1023) h = go (fun x8 x26 y1023 => Option.bind (K x8 x26 y1023) h) (fun q0 => Option.bind (Q q0) h) k x2 x6 x25 y0 y1 n x8 x26 y1023 := by
  induction n with
  | zero => intros; rfl
  | succ n ih => intro x8 x26 y1023; show Option.bind (step K Q (go K Q k x2 x6 x25 y0 y1 n) k x2 x6 x25 y0 y1 x8 x26 y1023) h = step (fun x8 x26 y1023 => Option.bind (K x8 x26 y1023) h) (fun q0 => Option.bind (Q q0) h) (go (fun x8 x26 y1023 => Option.bind (K x8 x26 y1023) h) (fun q0 => Option.bind (Q q0) h) k x2 x6 x25 y0 y1 n) k x2 x6 x25 y0 y1 x8 x26 y1023; rw [step_nat h]; simp only [ih]
abbrev S : List (Nat × Sh) := [(1, .vec 1), (2, .data .bool), (6, .data .bool), (7, .ptr 1023), (8, .data (.int .i64)), (24, .vec 0), (25, .data (.int .i64)), (26, .data (.int .i64))]
abbrev H : List (Nat × ESh) := [(0, .rows false 3 (.int .i64)), (1, .rows false 27 (.arr .u64 4)), (1023, .cell (.data (.pair .bool (.pair (.int .i64) (.pair (.int .i64) (.pair .bool (.pair (.int .i64) (.pair (.arr .u64 4) (.pair .bool (.int .i64))))))))))]
def KX (d : (Unit × Bool × Bool × Unit × Int × Unit × Int × Int × Unit)) (e : ((List Int) × (List (List Int)) × (Bool × (Int × (Int × (Bool × (Int × ((List Int) × (Bool × Int))))))) × Unit)) (v : (Int × (Int × (Bool × (Int × (Int × (Bool × (Int × ((List Int) × (Bool × Int)))))))))) : St := ⟨mkS S ((), d.2.1, d.2.2.1, (), v.1, (), d.2.2.2.2.2.2.1, v.2.1, ()), mkH H (e.1, e.2.1, v.2.2, ())⟩
abbrev RS : List (Nat × Sh) := [(6, .data .bool)]
abbrev RH : List (Nat × ESh) := [(0, .rows false 3 (.int .i64)), (1, .rows false 27 (.arr .u64 4))]
def RX (d : (Unit × Bool × Bool × Unit × Int × Unit × Int × Int × Unit)) (e : ((List Int) × (List (List Int)) × (Bool × (Int × (Int × (Bool × (Int × ((List Int) × (Bool × Int))))))) × Unit)) (v : Bool) : St := ⟨mkS RS (v, ()), mkH RH (e.1, e.2.1, ())⟩
def sum (k : Nat) : LoopSum := sigLoop S H 0 (fun (d : (Unit × Bool × Bool × Unit × Int × Unit × Int × Int × Unit)) (e : ((List Int) × (List (List Int)) × (Bool × (Int × (Int × (Bool × (Int × ((List Int) × (Bool × Int))))))) × Unit)) => f k d.2.1 d.2.2.1 d.2.2.2.2.2.2.1 e.1 e.2.1 k d.2.2.2.2.1 d.2.2.2.2.2.2.2.1 e.2.2.1) KX RX
end l0
def tree {X : Type} (K : Bool → Option X) (k : Nat) (a2 : Bool) (m0 : (List Int)) (m1 : (List (List Int))) : Option X :=
  (Option.bind (trailheadlaw22_alive.f k) (fun r1 => (bif (!r1) then (K false) else (bif (decide (((List.length m0) : Int) > (100 : Int))) then (K true) else (bif (decide (((List.length m1) : Int) > (100 : Int))) then (K true) else (Option.bind (trailheadlaw22_SyncFair.l0.f k a2 false ((List.length m0) : Int) m0 m1 k (0 : Int) (0 : Int) ((false, (0, (0, (false, (0, ([0, 0, 0, 0], (false, 0))))))) : (Bool × (Int × (Int × (Bool × (Int × ((List Int) × (Bool × Int))))))))) (fun r15 => sel r15 (fun v16 => (K true)) (fun q17 => (K q17)))))))))
def f (k : Nat) (a2 : Bool) (m0 : (List Int)) (m1 : (List (List Int))) : Option Bool := tree (fun b0 => some b0) k a2 m0 m1
theorem tree_nat {X Y : Type} (h : X → Option Y) (K : Bool → Option X) (k : Nat) (a2 : Bool) (m0 : (List Int)) (m1 : (List (List Int))) : Option.bind (tree K k a2 m0 m1) h = tree (fun b0 => Option.bind (K b0) h) k a2 m0 m1 := by
  simp only [tree, bif_bind, sel_bind', Option.bind_assoc, Option.bind_none, Option.bind_some]
abbrev ps : List Sh := [.vec 0, .vec 1, .data .bool]
abbrev hs : List (Nat × ESh) := [(0, .rows false 3 (.int .i64)), (1, .rows false 27 (.arr .u64 4))]
abbrev hi : List Nat := hs.map (·.1)
def val (t : Bool) : AV := Sh.mk (.data .bool) t
def wr (t : Bool) : Heap := []
def callee (k : Nat) : Callee := sigCallee ps hs (fun (d : (Unit × Unit × Bool × Unit)) (e : ((List Int) × (List (List Int)) × Unit)) => f k d.2.2.1 e.1 e.2.1) val wr
def E (k : Nat) : Env := ⟨fnTab [(27, [trailheadlaw22_alive.callee k]), (30, [sync_Watch_Asks.callee k]), (37, [sync_Watch_Tick.callee k]), (32, [sync_Watch_Got.callee k]), (28, [sync_Watch_Knows_v1.callee k]), (31, [sync_Watch_Work.callee k]), (29, [trailheadref02_Less.callee k])], loopTab [(0, l0.sum k)]⟩
theorem fE (k : Nat) : ∀ f, ∀ c ∈ (E k).fn f, CalleeOK Try.prog f c := fnTab_ok ⟨⟨trailheadlaw22_alive.ok k, trivial⟩, ⟨sync_Watch_Asks.ok k, trivial⟩, ⟨sync_Watch_Tick.ok k, trivial⟩, ⟨sync_Watch_Got.ok k, trivial⟩, ⟨sync_Watch_Knows_v1.ok k, trivial⟩, ⟨sync_Watch_Work.ok k, trivial⟩, ⟨trailheadref02_Less.ok k, trivial⟩, trivial⟩
namespace l0
theorem round (k : Nat) (d : (Unit × Bool × Bool × Unit × Int × Unit × Int × Int × Unit)) (e : ((List Int) × (List (List Int)) × (Bool × (Int × (Int × (Bool × (Int × ((List Int) × (Bool × Int))))))) × Unit)) (G : St → Option (Ex × St)) : roundK Try.prog (E k) 79 0 (subC (bodyOf Try.f8) [1, 1, 1, 1, 1, 0, 1, 0, 0]) (restrict (S.map (·.1)) (H.map (·.1))) (finBy (S.map (·.1)) (H.map (·.1)) (RS.map (·.1)) (RH.map (·.1))) G ⟨mkS S d, mkH H e⟩ =
    step (fun x8 x26 y1023 => some (.exit 0, KX d e (x8, x26, y1023))) (fun q0 => some (.ret, RX d e q0)) (fun x8 x26 y1023 => G ⟨mkS S ((), d.2.1, d.2.2.1, (), x8, (), d.2.2.2.2.2.2.1, x26, ()), mkH H (e.1, e.2.1, y1023, ())⟩) k d.2.1 d.2.2.1 d.2.2.2.2.2.2.1 e.1 e.2.1 d.2.2.2.2.1 d.2.2.2.2.2.2.2.1 e.2.2.1 := by kernel_rfl
theorem it (k n : Nat) (d : (Unit × Bool × Bool × Unit × Int × Unit × Int × Int × Unit)) (e : ((List Int) × (List (List Int)) × (Bool × (Int × (Int × (Bool × (Int × ((List Int) × (Bool × Int))))))) × Unit)) : loopIt Try.prog (E k) 79 0 (subC (bodyOf Try.f8) [1, 1, 1, 1, 1, 0, 1, 0, 0]) (restrict (S.map (·.1)) (H.map (·.1))) (finBy (S.map (·.1)) (H.map (·.1)) (RS.map (·.1)) (RH.map (·.1))) n ⟨mkS S d, mkH H e⟩ = go (fun x8 x26 y1023 => some (.exit 0, KX d e (x8, x26, y1023))) (fun q0 => some (.ret, RX d e q0)) k d.2.1 d.2.2.1 d.2.2.2.2.2.2.1 e.1 e.2.1 n d.2.2.2.2.1 d.2.2.2.2.2.2.2.1 e.2.2.1 :=
  loopIt_eq (D := (Unit × Bool × Bool × Unit × Int × Unit × Int × Int × Unit) × ((List Int) × (List (List Int)) × (Bool × (Int × (Int × (Bool × (Int × ((List Int) × (Bool × Int))))))) × Unit)) (fun p => ⟨mkS S p.1, mkH H p.2⟩) (fun F p => step (fun x8 x26 y1023 => some (.exit 0, KX p.1 p.2 (x8, x26, y1023))) (fun q0 => some (.ret, RX p.1 p.2 q0)) (fun x8 x26 y1023 => F (((), p.1.2.1, p.1.2.2.1, (), x8, (), p.1.2.2.2.2.2.2.1, x26, ()), (p.2.1, p.2.2.1, y1023, ()))) k p.1.2.1 p.1.2.2.1 p.1.2.2.2.2.2.2.1 p.2.1 p.2.2.1 p.1.2.2.2.2.1 p.1.2.2.2.2.2.2.2.1 p.2.2.2.1) (fun n p => go (fun x8 x26 y1023 => some (.exit 0, KX p.1 p.2 (x8, x26, y1023))) (fun q0 => some (.ret, RX p.1 p.2 q0)) k p.1.2.1 p.1.2.2.1 p.1.2.2.2.2.2.2.1 p.2.1 p.2.2.1 n p.1.2.2.2.2.1 p.1.2.2.2.2.2.2.2.1 p.2.2.2.1) (fun _ => rfl) (fun _ _ => rfl) (fun G p => round k p.1 p.2 G) n (d, e)
theorem ok (k : Nat) : LoopOK Try.prog 79 (subC (bodyOf Try.f8) [1, 1, 1, 1, 1, 0, 1, 0, 0]) (sum k) :=
  loop_sig hm (fE k) (loopsOK_of [] (by kernel_rfl) trivial) S H 0 (fun (d : (Unit × Bool × Bool × Unit × Int × Unit × Int × Int × Unit)) (e : ((List Int) × (List (List Int)) × (Bool × (Int × (Int × (Bool × (Int × ((List Int) × (Bool × Int))))))) × Unit)) => f k d.2.1 d.2.2.1 d.2.2.2.2.2.2.1 e.1 e.2.1 k d.2.2.2.2.1 d.2.2.2.2.2.2.2.1 e.2.2.1) KX RX (S.map (·.1)) (H.map (·.1)) (RS.map (·.1)) (RH.map (·.1)) k
    (fun d e => (it k k d e).trans (go_nat (exitOf 0 (KX d e) (RX d e)) (fun x8 x26 y1023 => some (.inl (x8, x26, y1023))) (fun q0 => some (.inr q0)) k d.2.1 d.2.2.1 d.2.2.2.2.2.2.1 e.1 e.2.1 k d.2.2.2.2.1 d.2.2.2.2.2.2.2.1 e.2.2.1).symm)
end l0
theorem run (k : Nat) (d : (Unit × Unit × Bool × Unit)) (e : ((List Int) × (List (List Int)) × Unit)) : runFn Try.prog (E k) 79 (bodyOf Try.f8) Try.f8.results.toList hi (mkL ps d) (mkH hs e) =
    tree (fun b0 => leafFn hs hi e val wr b0) k d.2.2.1 e.1 e.2.1 := by kernel_rfl
theorem run_f (k : Nat) (d : (Unit × Unit × Bool × Unit)) (e : ((List Int) × (List (List Int)) × Unit)) : runFn Try.prog (E k) 79 (bodyOf Try.f8) Try.f8.results.toList hi (mkL ps d) (mkH hs e) = (f k d.2.2.1 e.1 e.2.1).bind (leafFn hs hi e val wr) :=
  (run k d e).trans (tree_nat (leafFn hs hi e val wr) (fun b0 => some b0) k d.2.2.1 e.1 e.2.1).symm
theorem fnIs : FnIs Try.prog 8 Try.f8 (bodyOf Try.f8) 79 := ⟨by kernel_rfl, by kernel_rfl, by kernel_rfl, by kernel_rfl⟩
theorem ok (k : Nat) : CalleeOK Try.prog 8 (callee k) :=
  callee_sig (T := Bool) fnIs hm (fE k) (loopsOK_of [(0, subC (bodyOf Try.f8) [1, 1, 1, 1, 1, 0, 1, 0, 0])] (by kernel_rfl) ⟨of_loop (l0.sum k) rfl (l0.ok k), trivial⟩) ps hs (fun (d : (Unit × Unit × Bool × Unit)) (e : ((List Int) × (List (List Int)) × Unit)) => f k d.2.2.1 e.1 e.2.1) val wr rfl (fun _ => rfl) (run_f k)
end trailheadlaw22_SyncFair
namespace trailheadref22_Watch_Asks
def tree {X : Type} (K : Bool → (Bool × (Int × (Int × ((List Int) × (Int × Int))))) → Option X) (k : Nat) (a1 : Int) (m0 : (Bool × (Int × (Int × ((List Int) × (Int × Int)))))) : Option X :=
  (bif m0.1 then (bif (decide ((subI .i64 a1 m0.2.1) ≤ (120 : Int))) then (K false m0) else (K true ((true, (a1, m0.2.2)) : (Bool × (Int × (Int × ((List Int) × (Int × Int)))))))) else (K true ((true, (a1, m0.2.2)) : (Bool × (Int × (Int × ((List Int) × (Int × Int))))))))
def f (k : Nat) (a1 : Int) (m0 : (Bool × (Int × (Int × ((List Int) × (Int × Int)))))) : Option (Bool × (Bool × (Int × (Int × ((List Int) × (Int × Int)))))) := tree (fun b0 b1 => some (b0, b1)) k a1 m0
theorem tree_nat {X Y : Type} (h : X → Option Y) (K : Bool → (Bool × (Int × (Int × ((List Int) × (Int × Int))))) → Option X) (k : Nat) (a1 : Int) (m0 : (Bool × (Int × (Int × ((List Int) × (Int × Int)))))) : Option.bind (tree K k a1 m0) h = tree (fun b0 b1 => Option.bind (K b0 b1) h) k a1 m0 := by
  simp only [tree, bif_bind, sel_bind', Option.bind_assoc, Option.bind_none, Option.bind_some]
abbrev ps : List Sh := [.ptr 0, .data (.int .i64)]
abbrev hs : List (Nat × ESh) := [(0, .cell (.data (.pair .bool (.pair (.int .i64) (.pair (.int .i64) (.pair (.arr .u64 4) (.pair (.int .i64) (.int .i64))))))))]
abbrev hi : List Nat := hs.map (·.1)
def val (t : (Bool × (Bool × (Int × (Int × ((List Int) × (Int × Int))))))) : AV := Sh.mk (.data .bool) t.1
def wr (t : (Bool × (Bool × (Int × (Int × ((List Int) × (Int × Int))))))) : Heap := [(0, ESh.mk (.cell (.data (.pair .bool (.pair (.int .i64) (.pair (.int .i64) (.pair (.arr .u64 4) (.pair (.int .i64) (.int .i64)))))))) t.2)]
def callee (k : Nat) : Callee := sigCallee ps hs (fun (d : (Unit × Int × Unit)) (e : ((Bool × (Int × (Int × ((List Int) × (Int × Int))))) × Unit)) => f k d.2.1 e.1) val wr
def E (k : Nat) : Env := ⟨fnTab [], loopTab []⟩
theorem fE (k : Nat) : ∀ f, ∀ c ∈ (E k).fn f, CalleeOK Try.prog f c := fnTab_ok trivial
theorem run (k : Nat) (d : (Unit × Int × Unit)) (e : ((Bool × (Int × (Int × ((List Int) × (Int × Int))))) × Unit)) : runFn Try.prog (E k) 25 (bodyOf Try.f61) Try.f61.results.toList hi (mkL ps d) (mkH hs e) =
    tree (fun b0 b1 => leafFn hs hi e val wr (b0, b1)) k d.2.1 e.1 := by kernel_rfl
theorem run_f (k : Nat) (d : (Unit × Int × Unit)) (e : ((Bool × (Int × (Int × ((List Int) × (Int × Int))))) × Unit)) : runFn Try.prog (E k) 25 (bodyOf Try.f61) Try.f61.results.toList hi (mkL ps d) (mkH hs e) = (f k d.2.1 e.1).bind (leafFn hs hi e val wr) :=
  (run k d e).trans (tree_nat (leafFn hs hi e val wr) (fun b0 b1 => some (b0, b1)) k d.2.1 e.1).symm
theorem fnIs : FnIs Try.prog 61 Try.f61 (bodyOf Try.f61) 25 := ⟨by kernel_rfl, by kernel_rfl, by kernel_rfl, by kernel_rfl⟩
theorem ok (k : Nat) : CalleeOK Try.prog 61 (callee k) :=
  callee_sig (T := (Bool × (Bool × (Int × (Int × ((List Int) × (Int × Int))))))) fnIs hm (fE k) (loopsOK_of [] (by kernel_rfl) trivial) ps hs (fun (d : (Unit × Int × Unit)) (e : ((Bool × (Int × (Int × ((List Int) × (Int × Int))))) × Unit)) => f k d.2.1 e.1) val wr rfl (fun _ => rfl) (run_f k)
end trailheadref22_Watch_Asks
namespace sync_Watch_Loose
def tree {X : Type} (K : Int → (Bool × (Int × (Int × (Bool × (Int × ((List Int) × (Bool × Int))))))) → Option X) (k : Nat) (m0 : (Bool × (Int × (Int × (Bool × (Int × ((List Int) × (Bool × Int)))))))) : Option X :=
  (bif ((remI (addI .i64 m0.2.2.1 1) 10) == (0 : Int)) then (K (4 : Int) ((m0.1, (m0.2.1, ((addI .i64 m0.2.2.1 1), m0.2.2.2))) : (Bool × (Int × (Int × (Bool × (Int × ((List Int) × (Bool × Int))))))))) else (K (0 : Int) ((m0.1, (m0.2.1, ((addI .i64 m0.2.2.1 1), m0.2.2.2))) : (Bool × (Int × (Int × (Bool × (Int × ((List Int) × (Bool × Int))))))))))
def f (k : Nat) (m0 : (Bool × (Int × (Int × (Bool × (Int × ((List Int) × (Bool × Int)))))))) : Option (Int × (Bool × (Int × (Int × (Bool × (Int × ((List Int) × (Bool × Int)))))))) := tree (fun b0 b1 => some (b0, b1)) k m0
theorem tree_nat {X Y : Type} (h : X → Option Y) (K : Int → (Bool × (Int × (Int × (Bool × (Int × ((List Int) × (Bool × Int))))))) → Option X) (k : Nat) (m0 : (Bool × (Int × (Int × (Bool × (Int × ((List Int) × (Bool × Int)))))))) : Option.bind (tree K k m0) h = tree (fun b0 b1 => Option.bind (K b0 b1) h) k m0 := by
  simp only [tree, bif_bind, sel_bind', Option.bind_assoc, Option.bind_none, Option.bind_some]
abbrev ps : List Sh := [.ptr 0]
abbrev hs : List (Nat × ESh) := [(0, .cell (.data (.pair .bool (.pair (.int .i64) (.pair (.int .i64) (.pair .bool (.pair (.int .i64) (.pair (.arr .u64 4) (.pair .bool (.int .i64))))))))))]
abbrev hi : List Nat := hs.map (·.1)
def val (t : (Int × (Bool × (Int × (Int × (Bool × (Int × ((List Int) × (Bool × Int))))))))) : AV := Sh.mk (.data (.int .i64)) t.1
def wr (t : (Int × (Bool × (Int × (Int × (Bool × (Int × ((List Int) × (Bool × Int))))))))) : Heap := [(0, ESh.mk (.cell (.data (.pair .bool (.pair (.int .i64) (.pair (.int .i64) (.pair .bool (.pair (.int .i64) (.pair (.arr .u64 4) (.pair .bool (.int .i64)))))))))) t.2)]
def callee (k : Nat) : Callee := sigCallee ps hs (fun (d : (Unit × Unit)) (e : ((Bool × (Int × (Int × (Bool × (Int × ((List Int) × (Bool × Int))))))) × Unit)) => f k e.1) val wr
def E (k : Nat) : Env := ⟨fnTab [], loopTab []⟩
theorem fE (k : Nat) : ∀ f, ∀ c ∈ (E k).fn f, CalleeOK Try.prog f c := fnTab_ok trivial
theorem run (k : Nat) (d : (Unit × Unit)) (e : ((Bool × (Int × (Int × (Bool × (Int × ((List Int) × (Bool × Int))))))) × Unit)) : runFn Try.prog (E k) 18 (bodyOf Try.f62) Try.f62.results.toList hi (mkL ps d) (mkH hs e) =
    tree (fun b0 b1 => leafFn hs hi e val wr (b0, b1)) k e.1 := by kernel_rfl
theorem run_f (k : Nat) (d : (Unit × Unit)) (e : ((Bool × (Int × (Int × (Bool × (Int × ((List Int) × (Bool × Int))))))) × Unit)) : runFn Try.prog (E k) 18 (bodyOf Try.f62) Try.f62.results.toList hi (mkL ps d) (mkH hs e) = (f k e.1).bind (leafFn hs hi e val wr) :=
  (run k d e).trans (tree_nat (leafFn hs hi e val wr) (fun b0 b1 => some (b0, b1)) k e.1).symm
theorem fnIs : FnIs Try.prog 62 Try.f62 (bodyOf Try.f62) 18 := ⟨by kernel_rfl, by kernel_rfl, by kernel_rfl, by kernel_rfl⟩
theorem ok (k : Nat) : CalleeOK Try.prog 62 (callee k) :=
  callee_sig (T := (Int × (Bool × (Int × (Int × (Bool × (Int × ((List Int) × (Bool × Int))))))))) fnIs hm (fE k) (loopsOK_of [] (by kernel_rfl) trivial) ps hs (fun (d : (Unit × Unit)) (e : ((Bool × (Int × (Int × (Bool × (Int × ((List Int) × (Bool × Int))))))) × Unit)) => f k e.1) val wr rfl (fun _ => rfl) (run_f k)
end sync_Watch_Loose
namespace trailheadref22_Watch_Loose
def tree {X : Type} (K : Int → (Bool × (Int × (Int × ((List Int) × (Int × Int))))) → Option X) (k : Nat) (m0 : (Bool × (Int × (Int × ((List Int) × (Int × Int)))))) : Option X :=
  (bif ((addI .i64 m0.2.2.1 1) == (10 : Int)) then (K (4 : Int) ((m0.1, (m0.2.1, (0, m0.2.2.2))) : (Bool × (Int × (Int × ((List Int) × (Int × Int))))))) else (K (0 : Int) ((m0.1, (m0.2.1, ((addI .i64 m0.2.2.1 1), m0.2.2.2))) : (Bool × (Int × (Int × ((List Int) × (Int × Int))))))))
def f (k : Nat) (m0 : (Bool × (Int × (Int × ((List Int) × (Int × Int)))))) : Option (Int × (Bool × (Int × (Int × ((List Int) × (Int × Int)))))) := tree (fun b0 b1 => some (b0, b1)) k m0
theorem tree_nat {X Y : Type} (h : X → Option Y) (K : Int → (Bool × (Int × (Int × ((List Int) × (Int × Int))))) → Option X) (k : Nat) (m0 : (Bool × (Int × (Int × ((List Int) × (Int × Int)))))) : Option.bind (tree K k m0) h = tree (fun b0 b1 => Option.bind (K b0 b1) h) k m0 := by
  simp only [tree, bif_bind, sel_bind', Option.bind_assoc, Option.bind_none, Option.bind_some]
abbrev ps : List Sh := [.ptr 0]
abbrev hs : List (Nat × ESh) := [(0, .cell (.data (.pair .bool (.pair (.int .i64) (.pair (.int .i64) (.pair (.arr .u64 4) (.pair (.int .i64) (.int .i64))))))))]
abbrev hi : List Nat := hs.map (·.1)
def val (t : (Int × (Bool × (Int × (Int × ((List Int) × (Int × Int))))))) : AV := Sh.mk (.data (.int .i64)) t.1
def wr (t : (Int × (Bool × (Int × (Int × ((List Int) × (Int × Int))))))) : Heap := [(0, ESh.mk (.cell (.data (.pair .bool (.pair (.int .i64) (.pair (.int .i64) (.pair (.arr .u64 4) (.pair (.int .i64) (.int .i64)))))))) t.2)]
def callee (k : Nat) : Callee := sigCallee ps hs (fun (d : (Unit × Unit)) (e : ((Bool × (Int × (Int × ((List Int) × (Int × Int))))) × Unit)) => f k e.1) val wr
def E (k : Nat) : Env := ⟨fnTab [], loopTab []⟩
theorem fE (k : Nat) : ∀ f, ∀ c ∈ (E k).fn f, CalleeOK Try.prog f c := fnTab_ok trivial
theorem run (k : Nat) (d : (Unit × Unit)) (e : ((Bool × (Int × (Int × ((List Int) × (Int × Int))))) × Unit)) : runFn Try.prog (E k) 18 (bodyOf Try.f63) Try.f63.results.toList hi (mkL ps d) (mkH hs e) =
    tree (fun b0 b1 => leafFn hs hi e val wr (b0, b1)) k e.1 := by kernel_rfl
theorem run_f (k : Nat) (d : (Unit × Unit)) (e : ((Bool × (Int × (Int × ((List Int) × (Int × Int))))) × Unit)) : runFn Try.prog (E k) 18 (bodyOf Try.f63) Try.f63.results.toList hi (mkL ps d) (mkH hs e) = (f k e.1).bind (leafFn hs hi e val wr) :=
  (run k d e).trans (tree_nat (leafFn hs hi e val wr) (fun b0 b1 => some (b0, b1)) k e.1).symm
theorem fnIs : FnIs Try.prog 63 Try.f63 (bodyOf Try.f63) 18 := ⟨by kernel_rfl, by kernel_rfl, by kernel_rfl, by kernel_rfl⟩
theorem ok (k : Nat) : CalleeOK Try.prog 63 (callee k) :=
  callee_sig (T := (Int × (Bool × (Int × (Int × ((List Int) × (Int × Int))))))) fnIs hm (fE k) (loopsOK_of [] (by kernel_rfl) trivial) ps hs (fun (d : (Unit × Unit)) (e : ((Bool × (Int × (Int × ((List Int) × (Int × Int))))) × Unit)) => f k e.1) val wr rfl (fun _ => rfl) (run_f k)
end trailheadref22_Watch_Loose
namespace sync_Watch_Tied
def tree {X : Type} (K : (Bool × (Int × (Int × (Bool × (Int × ((List Int) × (Bool × Int))))))) → Option X) (k : Nat) (m0 : (Bool × (Int × (Int × (Bool × (Int × ((List Int) × (Bool × Int)))))))) : Option X :=
  (K ((m0.1, (m0.2.1, (0, m0.2.2.2))) : (Bool × (Int × (Int × (Bool × (Int × ((List Int) × (Bool × Int)))))))))
def f (k : Nat) (m0 : (Bool × (Int × (Int × (Bool × (Int × ((List Int) × (Bool × Int)))))))) : Option (Bool × (Int × (Int × (Bool × (Int × ((List Int) × (Bool × Int))))))) := tree (fun b0 => some b0) k m0
theorem tree_nat {X Y : Type} (h : X → Option Y) (K : (Bool × (Int × (Int × (Bool × (Int × ((List Int) × (Bool × Int))))))) → Option X) (k : Nat) (m0 : (Bool × (Int × (Int × (Bool × (Int × ((List Int) × (Bool × Int)))))))) : Option.bind (tree K k m0) h = tree (fun b0 => Option.bind (K b0) h) k m0 := by
  simp only [tree, bif_bind, sel_bind', Option.bind_assoc, Option.bind_none, Option.bind_some]
abbrev ps : List Sh := [.ptr 0]
abbrev hs : List (Nat × ESh) := [(0, .cell (.data (.pair .bool (.pair (.int .i64) (.pair (.int .i64) (.pair .bool (.pair (.int .i64) (.pair (.arr .u64 4) (.pair .bool (.int .i64))))))))))]
abbrev hi : List Nat := hs.map (·.1)
def val (t : (Bool × (Int × (Int × (Bool × (Int × ((List Int) × (Bool × Int)))))))) : AV := .tnil
def wr (t : (Bool × (Int × (Int × (Bool × (Int × ((List Int) × (Bool × Int)))))))) : Heap := [(0, ESh.mk (.cell (.data (.pair .bool (.pair (.int .i64) (.pair (.int .i64) (.pair .bool (.pair (.int .i64) (.pair (.arr .u64 4) (.pair .bool (.int .i64)))))))))) t)]
def callee (k : Nat) : Callee := sigCallee ps hs (fun (d : (Unit × Unit)) (e : ((Bool × (Int × (Int × (Bool × (Int × ((List Int) × (Bool × Int))))))) × Unit)) => f k e.1) val wr
def E (k : Nat) : Env := ⟨fnTab [], loopTab []⟩
theorem fE (k : Nat) : ∀ f, ∀ c ∈ (E k).fn f, CalleeOK Try.prog f c := fnTab_ok trivial
theorem run (k : Nat) (d : (Unit × Unit)) (e : ((Bool × (Int × (Int × (Bool × (Int × ((List Int) × (Bool × Int))))))) × Unit)) : runFn Try.prog (E k) 7 (bodyOf Try.f64) Try.f64.results.toList hi (mkL ps d) (mkH hs e) =
    tree (fun b0 => leafFn hs hi e val wr b0) k e.1 := by kernel_rfl
theorem run_f (k : Nat) (d : (Unit × Unit)) (e : ((Bool × (Int × (Int × (Bool × (Int × ((List Int) × (Bool × Int))))))) × Unit)) : runFn Try.prog (E k) 7 (bodyOf Try.f64) Try.f64.results.toList hi (mkL ps d) (mkH hs e) = (f k e.1).bind (leafFn hs hi e val wr) :=
  (run k d e).trans (tree_nat (leafFn hs hi e val wr) (fun b0 => some b0) k e.1).symm
theorem fnIs : FnIs Try.prog 64 Try.f64 (bodyOf Try.f64) 7 := ⟨by kernel_rfl, by kernel_rfl, by kernel_rfl, by kernel_rfl⟩
theorem ok (k : Nat) : CalleeOK Try.prog 64 (callee k) :=
  callee_sig (T := (Bool × (Int × (Int × (Bool × (Int × ((List Int) × (Bool × Int)))))))) fnIs hm (fE k) (loopsOK_of [] (by kernel_rfl) trivial) ps hs (fun (d : (Unit × Unit)) (e : ((Bool × (Int × (Int × (Bool × (Int × ((List Int) × (Bool × Int))))))) × Unit)) => f k e.1) val wr rfl (fun _ => rfl) (run_f k)
end sync_Watch_Tied
namespace trailheadref22_Watch_Knows
def tree {X : Type} (K : (Bool × (Int × (Int × ((List Int) × (Int × Int))))) → Option X) (k : Nat) (a1 : (List Int)) (m0 : (Bool × (Int × (Int × ((List Int) × (Int × Int)))))) : Option X :=
  (Option.bind (trailheadref02_Less.f k m0.2.2.2.1 a1) (fun r1 => (bif r1 then (K ((m0.1, (m0.2.1, (m0.2.2.1, (a1, m0.2.2.2.2)))) : (Bool × (Int × (Int × ((List Int) × (Int × Int))))))) else (K m0))))
def f (k : Nat) (a1 : (List Int)) (m0 : (Bool × (Int × (Int × ((List Int) × (Int × Int)))))) : Option (Bool × (Int × (Int × ((List Int) × (Int × Int))))) := tree (fun b0 => some b0) k a1 m0
theorem tree_nat {X Y : Type} (h : X → Option Y) (K : (Bool × (Int × (Int × ((List Int) × (Int × Int))))) → Option X) (k : Nat) (a1 : (List Int)) (m0 : (Bool × (Int × (Int × ((List Int) × (Int × Int)))))) : Option.bind (tree K k a1 m0) h = tree (fun b0 => Option.bind (K b0) h) k a1 m0 := by
  simp only [tree, bif_bind, sel_bind', Option.bind_assoc, Option.bind_none, Option.bind_some]
abbrev ps : List Sh := [.ptr 0, .data (.arr .u64 4)]
abbrev hs : List (Nat × ESh) := [(0, .cell (.data (.pair .bool (.pair (.int .i64) (.pair (.int .i64) (.pair (.arr .u64 4) (.pair (.int .i64) (.int .i64))))))))]
abbrev hi : List Nat := hs.map (·.1)
def val (t : (Bool × (Int × (Int × ((List Int) × (Int × Int)))))) : AV := .tnil
def wr (t : (Bool × (Int × (Int × ((List Int) × (Int × Int)))))) : Heap := [(0, ESh.mk (.cell (.data (.pair .bool (.pair (.int .i64) (.pair (.int .i64) (.pair (.arr .u64 4) (.pair (.int .i64) (.int .i64)))))))) t)]
def callee (k : Nat) : Callee := sigCallee ps hs (fun (d : (Unit × (List Int) × Unit)) (e : ((Bool × (Int × (Int × ((List Int) × (Int × Int))))) × Unit)) => f k d.2.1 e.1) val wr
def E (k : Nat) : Env := ⟨fnTab [(29, [trailheadref02_Less.callee k])], loopTab []⟩
theorem fE (k : Nat) : ∀ f, ∀ c ∈ (E k).fn f, CalleeOK Try.prog f c := fnTab_ok ⟨⟨trailheadref02_Less.ok k, trivial⟩, trivial⟩
theorem run (k : Nat) (d : (Unit × (List Int) × Unit)) (e : ((Bool × (Int × (Int × ((List Int) × (Int × Int))))) × Unit)) : runFn Try.prog (E k) 14 (bodyOf Try.f65) Try.f65.results.toList hi (mkL ps d) (mkH hs e) =
    tree (fun b0 => leafFn hs hi e val wr b0) k d.2.1 e.1 := by kernel_rfl
theorem run_f (k : Nat) (d : (Unit × (List Int) × Unit)) (e : ((Bool × (Int × (Int × ((List Int) × (Int × Int))))) × Unit)) : runFn Try.prog (E k) 14 (bodyOf Try.f65) Try.f65.results.toList hi (mkL ps d) (mkH hs e) = (f k d.2.1 e.1).bind (leafFn hs hi e val wr) :=
  (run k d e).trans (tree_nat (leafFn hs hi e val wr) (fun b0 => some b0) k d.2.1 e.1).symm
theorem fnIs : FnIs Try.prog 65 Try.f65 (bodyOf Try.f65) 14 := ⟨by kernel_rfl, by kernel_rfl, by kernel_rfl, by kernel_rfl⟩
theorem ok (k : Nat) : CalleeOK Try.prog 65 (callee k) :=
  callee_sig (T := (Bool × (Int × (Int × ((List Int) × (Int × Int)))))) fnIs hm (fE k) (loopsOK_of [] (by kernel_rfl) trivial) ps hs (fun (d : (Unit × (List Int) × Unit)) (e : ((Bool × (Int × (Int × ((List Int) × (Int × Int))))) × Unit)) => f k d.2.1 e.1) val wr rfl (fun _ => rfl) (run_f k)
end trailheadref22_Watch_Knows
namespace trailheadref22_Watch_Tick
def tree {X : Type} (K : Int → (Bool × (Int × (Int × ((List Int) × (Int × Int))))) → Option X) (k : Nat) (a1 : Int) (a2 : (List Int)) (a3 : Bool) (m0 : (Bool × (Int × (Int × ((List Int) × (Int × Int)))))) : Option X :=
  (bif a3 then (bif m0.1 then (bif (decide ((subI .i64 a1 m0.2.1) > (120 : Int))) then (K (2 : Int) m0) else (Option.bind (trailheadref02_Less.f k m0.2.2.2.1 a2) (fun r1 => (bif (!r1) then (K (0 : Int) ((m0.1, (m0.2.1, (m0.2.2.1, (m0.2.2.2.1, (0, m0.2.2.2.2.2))))) : (Bool × (Int × (Int × ((List Int) × (Int × Int))))))) else (bif (m0.2.2.2.2.1 == (0 : Int)) then (K (0 : Int) ((m0.1, (m0.2.1, (m0.2.2.1, (m0.2.2.2.1, (1, a1))))) : (Bool × (Int × (Int × ((List Int) × (Int × Int))))))) else (bif (m0.2.2.2.2.1 == (1 : Int)) then (bif (decide ((subI .i64 a1 m0.2.2.2.2.2) > (1200 : Int))) then (K (1 : Int) ((m0.1, (m0.2.1, (m0.2.2.1, (m0.2.2.2.1, (2, a1))))) : (Bool × (Int × (Int × ((List Int) × (Int × Int))))))) else (bif (m0.2.2.2.2.1 == (2 : Int)) then (bif (decide ((subI .i64 a1 m0.2.2.2.2.2) > (120 : Int))) then (K (2 : Int) m0) else (K (0 : Int) m0)) else (K (0 : Int) m0))) else (bif (m0.2.2.2.2.1 == (2 : Int)) then (bif (decide ((subI .i64 a1 m0.2.2.2.2.2) > (120 : Int))) then (K (2 : Int) m0) else (K (0 : Int) m0)) else (K (0 : Int) m0)))))))) else (Option.bind (trailheadref02_Less.f k m0.2.2.2.1 a2) (fun r2 => (bif (!r2) then (K (0 : Int) ((m0.1, (m0.2.1, (m0.2.2.1, (m0.2.2.2.1, (0, m0.2.2.2.2.2))))) : (Bool × (Int × (Int × ((List Int) × (Int × Int))))))) else (bif (m0.2.2.2.2.1 == (0 : Int)) then (K (0 : Int) ((m0.1, (m0.2.1, (m0.2.2.1, (m0.2.2.2.1, (1, a1))))) : (Bool × (Int × (Int × ((List Int) × (Int × Int))))))) else (bif (m0.2.2.2.2.1 == (1 : Int)) then (bif (decide ((subI .i64 a1 m0.2.2.2.2.2) > (1200 : Int))) then (K (1 : Int) ((m0.1, (m0.2.1, (m0.2.2.1, (m0.2.2.2.1, (2, a1))))) : (Bool × (Int × (Int × ((List Int) × (Int × Int))))))) else (bif (m0.2.2.2.2.1 == (2 : Int)) then (bif (decide ((subI .i64 a1 m0.2.2.2.2.2) > (120 : Int))) then (K (2 : Int) m0) else (K (0 : Int) m0)) else (K (0 : Int) m0))) else (bif (m0.2.2.2.2.1 == (2 : Int)) then (bif (decide ((subI .i64 a1 m0.2.2.2.2.2) > (120 : Int))) then (K (2 : Int) m0) else (K (0 : Int) m0)) else (K (0 : Int) m0)))))))) else (Option.bind (trailheadref02_Less.f k m0.2.2.2.1 a2) (fun r3 => (bif (!r3) then (K (0 : Int) ((m0.1, (m0.2.1, (m0.2.2.1, (m0.2.2.2.1, (0, m0.2.2.2.2.2))))) : (Bool × (Int × (Int × ((List Int) × (Int × Int))))))) else (bif (m0.2.2.2.2.1 == (0 : Int)) then (K (0 : Int) ((m0.1, (m0.2.1, (m0.2.2.1, (m0.2.2.2.1, (1, a1))))) : (Bool × (Int × (Int × ((List Int) × (Int × Int))))))) else (bif (m0.2.2.2.2.1 == (1 : Int)) then (bif (decide ((subI .i64 a1 m0.2.2.2.2.2) > (1200 : Int))) then (K (1 : Int) ((m0.1, (m0.2.1, (m0.2.2.1, (m0.2.2.2.1, (2, a1))))) : (Bool × (Int × (Int × ((List Int) × (Int × Int))))))) else (bif (m0.2.2.2.2.1 == (2 : Int)) then (bif (decide ((subI .i64 a1 m0.2.2.2.2.2) > (120 : Int))) then (K (2 : Int) m0) else (K (0 : Int) m0)) else (K (0 : Int) m0))) else (bif (m0.2.2.2.2.1 == (2 : Int)) then (bif (decide ((subI .i64 a1 m0.2.2.2.2.2) > (120 : Int))) then (K (2 : Int) m0) else (K (0 : Int) m0)) else (K (0 : Int) m0))))))))
def f (k : Nat) (a1 : Int) (a2 : (List Int)) (a3 : Bool) (m0 : (Bool × (Int × (Int × ((List Int) × (Int × Int)))))) : Option (Int × (Bool × (Int × (Int × ((List Int) × (Int × Int)))))) := tree (fun b0 b1 => some (b0, b1)) k a1 a2 a3 m0
theorem tree_nat {X Y : Type} (h : X → Option Y) (K : Int → (Bool × (Int × (Int × ((List Int) × (Int × Int))))) → Option X) (k : Nat) (a1 : Int) (a2 : (List Int)) (a3 : Bool) (m0 : (Bool × (Int × (Int × ((List Int) × (Int × Int)))))) : Option.bind (tree K k a1 a2 a3 m0) h = tree (fun b0 b1 => Option.bind (K b0 b1) h) k a1 a2 a3 m0 := by
  simp only [tree, bif_bind, sel_bind', Option.bind_assoc, Option.bind_none, Option.bind_some]
abbrev ps : List Sh := [.ptr 0, .data (.int .i64), .data (.arr .u64 4), .data .bool]
abbrev hs : List (Nat × ESh) := [(0, .cell (.data (.pair .bool (.pair (.int .i64) (.pair (.int .i64) (.pair (.arr .u64 4) (.pair (.int .i64) (.int .i64))))))))]
abbrev hi : List Nat := hs.map (·.1)
def val (t : (Int × (Bool × (Int × (Int × ((List Int) × (Int × Int))))))) : AV := Sh.mk (.data (.int .i64)) t.1
def wr (t : (Int × (Bool × (Int × (Int × ((List Int) × (Int × Int))))))) : Heap := [(0, ESh.mk (.cell (.data (.pair .bool (.pair (.int .i64) (.pair (.int .i64) (.pair (.arr .u64 4) (.pair (.int .i64) (.int .i64)))))))) t.2)]
def callee (k : Nat) : Callee := sigCallee ps hs (fun (d : (Unit × Int × (List Int) × Bool × Unit)) (e : ((Bool × (Int × (Int × ((List Int) × (Int × Int))))) × Unit)) => f k d.2.1 d.2.2.1 d.2.2.2.1 e.1) val wr
def E (k : Nat) : Env := ⟨fnTab [(29, [trailheadref02_Less.callee k])], loopTab []⟩
theorem fE (k : Nat) : ∀ f, ∀ c ∈ (E k).fn f, CalleeOK Try.prog f c := fnTab_ok ⟨⟨trailheadref02_Less.ok k, trivial⟩, trivial⟩
theorem run (k : Nat) (d : (Unit × Int × (List Int) × Bool × Unit)) (e : ((Bool × (Int × (Int × ((List Int) × (Int × Int))))) × Unit)) : runFn Try.prog (E k) 82 (bodyOf Try.f66) Try.f66.results.toList hi (mkL ps d) (mkH hs e) =
    tree (fun b0 b1 => leafFn hs hi e val wr (b0, b1)) k d.2.1 d.2.2.1 d.2.2.2.1 e.1 := by kernel_rfl
theorem run_f (k : Nat) (d : (Unit × Int × (List Int) × Bool × Unit)) (e : ((Bool × (Int × (Int × ((List Int) × (Int × Int))))) × Unit)) : runFn Try.prog (E k) 82 (bodyOf Try.f66) Try.f66.results.toList hi (mkL ps d) (mkH hs e) = (f k d.2.1 d.2.2.1 d.2.2.2.1 e.1).bind (leafFn hs hi e val wr) :=
  (run k d e).trans (tree_nat (leafFn hs hi e val wr) (fun b0 b1 => some (b0, b1)) k d.2.1 d.2.2.1 d.2.2.2.1 e.1).symm
theorem fnIs : FnIs Try.prog 66 Try.f66 (bodyOf Try.f66) 82 := ⟨by kernel_rfl, by kernel_rfl, by kernel_rfl, by kernel_rfl⟩
theorem ok (k : Nat) : CalleeOK Try.prog 66 (callee k) :=
  callee_sig (T := (Int × (Bool × (Int × (Int × ((List Int) × (Int × Int))))))) fnIs hm (fE k) (loopsOK_of [] (by kernel_rfl) trivial) ps hs (fun (d : (Unit × Int × (List Int) × Bool × Unit)) (e : ((Bool × (Int × (Int × ((List Int) × (Int × Int))))) × Unit)) => f k d.2.1 d.2.2.1 d.2.2.2.1 e.1) val wr rfl (fun _ => rfl) (run_f k)
end trailheadref22_Watch_Tick
namespace sync_Watch_Tied_v1
def tree {X : Type} (K : Option X) (k : Nat) : Option X :=
  (K)
def f (k : Nat) : Option Unit := tree (some ()) k
theorem tree_nat {X Y : Type} (h : X → Option Y) (K : Option X) (k : Nat) : Option.bind (tree K k) h = tree (Option.bind (K) h) k := by
  simp only [tree, bif_bind, sel_bind', Option.bind_assoc, Option.bind_none, Option.bind_some]
abbrev ps : List Sh := [.nilp]
abbrev hs : List (Nat × ESh) := []
abbrev hi : List Nat := hs.map (·.1)
def val (t : Unit) : AV := .tnil
def wr (t : Unit) : Heap := []
def callee (k : Nat) : Callee := sigCallee ps hs (fun (d : (Unit × Unit)) (e : Unit) => f k) val wr
def E (k : Nat) : Env := ⟨fnTab [], loopTab []⟩
theorem fE (k : Nat) : ∀ f, ∀ c ∈ (E k).fn f, CalleeOK Try.prog f c := fnTab_ok trivial
theorem run (k : Nat) (d : (Unit × Unit)) (e : Unit) : runFn Try.prog (E k) 7 (bodyOf Try.f64) Try.f64.results.toList hi (mkL ps d) (mkH hs e) =
    tree (leafFn hs hi e val wr ()) k := by kernel_rfl
theorem run_f (k : Nat) (d : (Unit × Unit)) (e : Unit) : runFn Try.prog (E k) 7 (bodyOf Try.f64) Try.f64.results.toList hi (mkL ps d) (mkH hs e) = (f k).bind (leafFn hs hi e val wr) :=
  (run k d e).trans (tree_nat (leafFn hs hi e val wr) (some ()) k).symm
theorem fnIs : FnIs Try.prog 64 Try.f64 (bodyOf Try.f64) 7 := ⟨by kernel_rfl, by kernel_rfl, by kernel_rfl, by kernel_rfl⟩
theorem ok (k : Nat) : CalleeOK Try.prog 64 (callee k) :=
  callee_sig (T := Unit) fnIs hm (fE k) (loopsOK_of [] (by kernel_rfl) trivial) ps hs (fun (d : (Unit × Unit)) (e : Unit) => f k) val wr rfl (fun _ => rfl) (run_f k)
end sync_Watch_Tied_v1
namespace sync_Watch_Knows_v2
namespace l0
def step {X : Type} (K : Int → Option X) (G : Int → Option X) (k : Nat) (x7 : Int) (y0 : (List (List Int))) (x8 : Int) : Option X :=
  (bif (decide (x8 < x7)) then (bif (decide (0 ≤ x8)) then (bif (decide (x8 < ((List.length y0) : Int))) then (bif (decide ((Int.toNat x8) < (List.length y0))) then (G (addI .i64 x8 1)) else none) else none) else none) else (K x8))
def go {X : Type} (K : Int → Option X) (k : Nat) (x7 : Int) (y0 : (List (List Int))) : Nat → Int → Option X
  | 0, _ => none
  | n + 1, x8 => step K (go K k x7 y0 n) k x7 y0 x8
def f (k : Nat) (x7 : Int) (y0 : (List (List Int))) (n : Nat) (x8 : Int) : Option Int := go (fun x8 => some x8) k x7 y0 n x8
theorem step_nat {X Y : Type} (h : X → Option Y) (K : Int → Option X) (G : Int → Option X) (k : Nat) (x7 : Int) (y0 : (List (List Int))) (x8 : Int) : Option.bind (step K G k x7 y0 x8) h = step (fun x8 => Option.bind (K x8) h) (fun x8 => Option.bind (G x8) h) k x7 y0 x8 := by
  simp only [step, bif_bind, sel_bind', Option.bind_assoc, Option.bind_none, Option.bind_some]
theorem go_nat {X Y : Type} (h : X → Option Y) (K : Int → Option X) (k : Nat) (x7 : Int) (y0 : (List (List Int))) (n : Nat) : ∀ (x8 : Int), Option.bind (go K k x7 y0 n x8) h = go (fun x8 => Option.bind (K x8) h) k x7 y0 n x8 := by
  induction n with
  | zero => intros; rfl
  | succ n ih => intro x8; show Option.bind (step K (go K k x7 y0 n) k x7 y0 x8) h = step (fun x8 => Option.bind (K x8) h) (go (fun x8 => Option.bind (K x8) h) k x7 y0 n) k x7 y0 x8; rw [step_nat h]; simp only [ih]
abbrev S : List (Nat × Sh) := [(0, .nilp), (6, .vec 0), (7, .data (.int .i64)), (8, .data (.int .i64))]
abbrev H : List (Nat × ESh) := [(0, .rows true 27 (.arr .u64 4))]
def KX (d : (Unit × Unit × Int × Int × Unit)) (e : ((List (List Int)) × Unit)) (v : Int) : St := ⟨mkS S ((), (), d.2.2.1, v, ()), mkH H (e.1, ())⟩
def sum (k : Nat) : LoopSum := sigLoopX S H 0 (fun (d : (Unit × Unit × Int × Int × Unit)) (e : ((List (List Int)) × Unit)) => f k d.2.2.1 e.1 k d.2.2.2.1) KX
end l0
def tree {X : Type} (K : Option X) (k : Nat) (m0 : (List (List Int))) : Option X :=
  (Option.bind (sync_Watch_Knows_v2.l0.f k ((List.length m0) : Int) m0 k (0 : Int)) (fun r1 => (K)))
def f (k : Nat) (m0 : (List (List Int))) : Option Unit := tree (some ()) k m0
theorem tree_nat {X Y : Type} (h : X → Option Y) (K : Option X) (k : Nat) (m0 : (List (List Int))) : Option.bind (tree K k m0) h = tree (Option.bind (K) h) k m0 := by
  simp only [tree, bif_bind, sel_bind', Option.bind_assoc, Option.bind_none, Option.bind_some]
abbrev ps : List Sh := [.nilp, .vec 0]
abbrev hs : List (Nat × ESh) := [(0, .rows true 27 (.arr .u64 4))]
abbrev hi : List Nat := hs.map (·.1)
def val (t : Unit) : AV := .tnil
def wr (t : Unit) : Heap := []
def callee (k : Nat) : Callee := sigCallee ps hs (fun (d : (Unit × Unit × Unit)) (e : ((List (List Int)) × Unit)) => f k e.1) val wr
def E (k : Nat) : Env := ⟨fnTab [], loopTab [(0, l0.sum k)]⟩
theorem fE (k : Nat) : ∀ f, ∀ c ∈ (E k).fn f, CalleeOK Try.prog f c := fnTab_ok trivial
namespace l0
theorem round (k : Nat) (d : (Unit × Unit × Int × Int × Unit)) (e : ((List (List Int)) × Unit)) (G : St → Option (Ex × St)) : roundK Try.prog (E k) 27 0 (subC (bodyOf Try.f28) [1, 0, 0]) (restrict (S.map (·.1)) (H.map (·.1))) (finBy (S.map (·.1)) (H.map (·.1)) [] []) G ⟨mkS S d, mkH H e⟩ =
    step (fun x8 => some (.exit 0, KX d e x8)) (fun x8 => G ⟨mkS S ((), (), d.2.2.1, x8, ()), mkH H (e.1, ())⟩) k d.2.2.1 e.1 d.2.2.2.1 := by kernel_rfl
theorem it (k n : Nat) (d : (Unit × Unit × Int × Int × Unit)) (e : ((List (List Int)) × Unit)) : loopIt Try.prog (E k) 27 0 (subC (bodyOf Try.f28) [1, 0, 0]) (restrict (S.map (·.1)) (H.map (·.1))) (finBy (S.map (·.1)) (H.map (·.1)) [] []) n ⟨mkS S d, mkH H e⟩ = go (fun x8 => some (.exit 0, KX d e x8)) k d.2.2.1 e.1 n d.2.2.2.1 :=
  loopIt_eq (D := (Unit × Unit × Int × Int × Unit) × ((List (List Int)) × Unit)) (fun p => ⟨mkS S p.1, mkH H p.2⟩) (fun F p => step (fun x8 => some (.exit 0, KX p.1 p.2 x8)) (fun x8 => F (((), (), p.1.2.2.1, x8, ()), (p.2.1, ()))) k p.1.2.2.1 p.2.1 p.1.2.2.2.1) (fun n p => go (fun x8 => some (.exit 0, KX p.1 p.2 x8)) k p.1.2.2.1 p.2.1 n p.1.2.2.2.1) (fun _ => rfl) (fun _ _ => rfl) (fun G p => round k p.1 p.2 G) n (d, e)
theorem ok (k : Nat) : LoopOK Try.prog 27 (subC (bodyOf Try.f28) [1, 0, 0]) (sum k) :=
  loop_sigX hm (fE k) (loopsOK_of [] (by kernel_rfl) trivial) S H 0 (fun (d : (Unit × Unit × Int × Int × Unit)) (e : ((List (List Int)) × Unit)) => f k d.2.2.1 e.1 k d.2.2.2.1) KX (S.map (·.1)) (H.map (·.1)) [] [] k
    (fun d e => (it k k d e).trans (go_nat (fun v => some (Ex.exit 0, KX d e v)) (fun x8 => some x8) k d.2.2.1 e.1 k d.2.2.2.1).symm)
end l0
theorem run (k : Nat) (d : (Unit × Unit × Unit)) (e : ((List (List Int)) × Unit)) : runFn Try.prog (E k) 27 (bodyOf Try.f28) Try.f28.results.toList hi (mkL ps d) (mkH hs e) =
    tree (leafFn hs hi e val wr ()) k e.1 := by kernel_rfl
theorem run_f (k : Nat) (d : (Unit × Unit × Unit)) (e : ((List (List Int)) × Unit)) : runFn Try.prog (E k) 27 (bodyOf Try.f28) Try.f28.results.toList hi (mkL ps d) (mkH hs e) = (f k e.1).bind (leafFn hs hi e val wr) :=
  (run k d e).trans (tree_nat (leafFn hs hi e val wr) (some ()) k e.1).symm
theorem fnIs : FnIs Try.prog 28 Try.f28 (bodyOf Try.f28) 27 := ⟨by kernel_rfl, by kernel_rfl, by kernel_rfl, by kernel_rfl⟩
theorem ok (k : Nat) : CalleeOK Try.prog 28 (callee k) :=
  callee_sig (T := Unit) fnIs hm (fE k) (loopsOK_of [(0, subC (bodyOf Try.f28) [1, 0, 0])] (by kernel_rfl) ⟨of_loop (l0.sum k) rfl (l0.ok k), trivial⟩) ps hs (fun (d : (Unit × Unit × Unit)) (e : ((List (List Int)) × Unit)) => f k e.1) val wr rfl (fun _ => rfl) (run_f k)
end sync_Watch_Knows_v2
namespace sync_Watch_Asks_v1
def tree {X : Type} (K : Bool → Option X) (k : Nat) (a1 : Int) : Option X :=
  (K false)
def f (k : Nat) (a1 : Int) : Option Bool := tree (fun b0 => some b0) k a1
theorem tree_nat {X Y : Type} (h : X → Option Y) (K : Bool → Option X) (k : Nat) (a1 : Int) : Option.bind (tree K k a1) h = tree (fun b0 => Option.bind (K b0) h) k a1 := by
  simp only [tree, bif_bind, sel_bind', Option.bind_assoc, Option.bind_none, Option.bind_some]
abbrev ps : List Sh := [.nilp, .data (.int .i64)]
abbrev hs : List (Nat × ESh) := []
abbrev hi : List Nat := hs.map (·.1)
def val (t : Bool) : AV := Sh.mk (.data .bool) t
def wr (t : Bool) : Heap := []
def callee (k : Nat) : Callee := sigCallee ps hs (fun (d : (Unit × Int × Unit)) (e : Unit) => f k d.2.1) val wr
def E (k : Nat) : Env := ⟨fnTab [], loopTab []⟩
theorem fE (k : Nat) : ∀ f, ∀ c ∈ (E k).fn f, CalleeOK Try.prog f c := fnTab_ok trivial
theorem run (k : Nat) (d : (Unit × Int × Unit)) (e : Unit) : runFn Try.prog (E k) 29 (bodyOf Try.f30) Try.f30.results.toList hi (mkL ps d) (mkH hs e) =
    tree (fun b0 => leafFn hs hi e val wr b0) k d.2.1 := by kernel_rfl
theorem run_f (k : Nat) (d : (Unit × Int × Unit)) (e : Unit) : runFn Try.prog (E k) 29 (bodyOf Try.f30) Try.f30.results.toList hi (mkL ps d) (mkH hs e) = (f k d.2.1).bind (leafFn hs hi e val wr) :=
  (run k d e).trans (tree_nat (leafFn hs hi e val wr) (fun b0 => some b0) k d.2.1).symm
theorem fnIs : FnIs Try.prog 30 Try.f30 (bodyOf Try.f30) 29 := ⟨by kernel_rfl, by kernel_rfl, by kernel_rfl, by kernel_rfl⟩
theorem ok (k : Nat) : CalleeOK Try.prog 30 (callee k) :=
  callee_sig (T := Bool) fnIs hm (fE k) (loopsOK_of [] (by kernel_rfl) trivial) ps hs (fun (d : (Unit × Int × Unit)) (e : Unit) => f k d.2.1) val wr rfl (fun _ => rfl) (run_f k)
end sync_Watch_Asks_v1
namespace sync_Watch_Got_v1
def tree {X : Type} (K : Bool → Option X) (k : Nat) : Option X :=
  (K false)
def f (k : Nat) : Option Bool := tree (fun b0 => some b0) k
theorem tree_nat {X Y : Type} (h : X → Option Y) (K : Bool → Option X) (k : Nat) : Option.bind (tree K k) h = tree (fun b0 => Option.bind (K b0) h) k := by
  simp only [tree, bif_bind, sel_bind', Option.bind_assoc, Option.bind_none, Option.bind_some]
abbrev ps : List Sh := [.nilp]
abbrev hs : List (Nat × ESh) := []
abbrev hi : List Nat := hs.map (·.1)
def val (t : Bool) : AV := Sh.mk (.data .bool) t
def wr (t : Bool) : Heap := []
def callee (k : Nat) : Callee := sigCallee ps hs (fun (d : (Unit × Unit)) (e : Unit) => f k) val wr
def E (k : Nat) : Env := ⟨fnTab [], loopTab []⟩
theorem fE (k : Nat) : ∀ f, ∀ c ∈ (E k).fn f, CalleeOK Try.prog f c := fnTab_ok trivial
theorem run (k : Nat) (d : (Unit × Unit)) (e : Unit) : runFn Try.prog (E k) 15 (bodyOf Try.f32) Try.f32.results.toList hi (mkL ps d) (mkH hs e) =
    tree (fun b0 => leafFn hs hi e val wr b0) k := by kernel_rfl
theorem run_f (k : Nat) (d : (Unit × Unit)) (e : Unit) : runFn Try.prog (E k) 15 (bodyOf Try.f32) Try.f32.results.toList hi (mkL ps d) (mkH hs e) = (f k).bind (leafFn hs hi e val wr) :=
  (run k d e).trans (tree_nat (leafFn hs hi e val wr) (fun b0 => some b0) k).symm
theorem fnIs : FnIs Try.prog 32 Try.f32 (bodyOf Try.f32) 15 := ⟨by kernel_rfl, by kernel_rfl, by kernel_rfl, by kernel_rfl⟩
theorem ok (k : Nat) : CalleeOK Try.prog 32 (callee k) :=
  callee_sig (T := Bool) fnIs hm (fE k) (loopsOK_of [] (by kernel_rfl) trivial) ps hs (fun (d : (Unit × Unit)) (e : Unit) => f k) val wr rfl (fun _ => rfl) (run_f k)
end sync_Watch_Got_v1
namespace sync_Watch_Waits_v1
def tree {X : Type} (K : Bool → Option X) (k : Nat) (a1 : Int) : Option X :=
  (K false)
def f (k : Nat) (a1 : Int) : Option Bool := tree (fun b0 => some b0) k a1
theorem tree_nat {X Y : Type} (h : X → Option Y) (K : Bool → Option X) (k : Nat) (a1 : Int) : Option.bind (tree K k a1) h = tree (fun b0 => Option.bind (K b0) h) k a1 := by
  simp only [tree, bif_bind, sel_bind', Option.bind_assoc, Option.bind_none, Option.bind_some]
abbrev ps : List Sh := [.nilp, .data (.int .i64)]
abbrev hs : List (Nat × ESh) := []
abbrev hi : List Nat := hs.map (·.1)
def val (t : Bool) : AV := Sh.mk (.data .bool) t
def wr (t : Bool) : Heap := []
def callee (k : Nat) : Callee := sigCallee ps hs (fun (d : (Unit × Int × Unit)) (e : Unit) => f k d.2.1) val wr
def E (k : Nat) : Env := ⟨fnTab [], loopTab []⟩
theorem fE (k : Nat) : ∀ f, ∀ c ∈ (E k).fn f, CalleeOK Try.prog f c := fnTab_ok trivial
theorem run (k : Nat) (d : (Unit × Int × Unit)) (e : Unit) : runFn Try.prog (E k) 22 (bodyOf Try.f67) Try.f67.results.toList hi (mkL ps d) (mkH hs e) =
    tree (fun b0 => leafFn hs hi e val wr b0) k d.2.1 := by kernel_rfl
theorem run_f (k : Nat) (d : (Unit × Int × Unit)) (e : Unit) : runFn Try.prog (E k) 22 (bodyOf Try.f67) Try.f67.results.toList hi (mkL ps d) (mkH hs e) = (f k d.2.1).bind (leafFn hs hi e val wr) :=
  (run k d e).trans (tree_nat (leafFn hs hi e val wr) (fun b0 => some b0) k d.2.1).symm
theorem fnIs : FnIs Try.prog 67 Try.f67 (bodyOf Try.f67) 22 := ⟨by kernel_rfl, by kernel_rfl, by kernel_rfl, by kernel_rfl⟩
theorem ok (k : Nat) : CalleeOK Try.prog 67 (callee k) :=
  callee_sig (T := Bool) fnIs hm (fE k) (loopsOK_of [] (by kernel_rfl) trivial) ps hs (fun (d : (Unit × Int × Unit)) (e : Unit) => f k d.2.1) val wr rfl (fun _ => rfl) (run_f k)
end sync_Watch_Waits_v1
namespace sync_Watch_Loose_v1
def tree {X : Type} (K : Int → Option X) (k : Nat) : Option X :=
  (K (0 : Int))
def f (k : Nat) : Option Int := tree (fun b0 => some b0) k
theorem tree_nat {X Y : Type} (h : X → Option Y) (K : Int → Option X) (k : Nat) : Option.bind (tree K k) h = tree (fun b0 => Option.bind (K b0) h) k := by
  simp only [tree, bif_bind, sel_bind', Option.bind_assoc, Option.bind_none, Option.bind_some]
abbrev ps : List Sh := [.nilp]
abbrev hs : List (Nat × ESh) := []
abbrev hi : List Nat := hs.map (·.1)
def val (t : Int) : AV := Sh.mk (.data (.int .i64)) t
def wr (t : Int) : Heap := []
def callee (k : Nat) : Callee := sigCallee ps hs (fun (d : (Unit × Unit)) (e : Unit) => f k) val wr
def E (k : Nat) : Env := ⟨fnTab [], loopTab []⟩
theorem fE (k : Nat) : ∀ f, ∀ c ∈ (E k).fn f, CalleeOK Try.prog f c := fnTab_ok trivial
theorem run (k : Nat) (d : (Unit × Unit)) (e : Unit) : runFn Try.prog (E k) 18 (bodyOf Try.f62) Try.f62.results.toList hi (mkL ps d) (mkH hs e) =
    tree (fun b0 => leafFn hs hi e val wr b0) k := by kernel_rfl
theorem run_f (k : Nat) (d : (Unit × Unit)) (e : Unit) : runFn Try.prog (E k) 18 (bodyOf Try.f62) Try.f62.results.toList hi (mkL ps d) (mkH hs e) = (f k).bind (leafFn hs hi e val wr) :=
  (run k d e).trans (tree_nat (leafFn hs hi e val wr) (fun b0 => some b0) k).symm
theorem fnIs : FnIs Try.prog 62 Try.f62 (bodyOf Try.f62) 18 := ⟨by kernel_rfl, by kernel_rfl, by kernel_rfl, by kernel_rfl⟩
theorem ok (k : Nat) : CalleeOK Try.prog 62 (callee k) :=
  callee_sig (T := Int) fnIs hm (fE k) (loopsOK_of [] (by kernel_rfl) trivial) ps hs (fun (d : (Unit × Unit)) (e : Unit) => f k) val wr rfl (fun _ => rfl) (run_f k)
end sync_Watch_Loose_v1
namespace sync_Watch_Work_v1
def tree {X : Type} (K : (List Int) → Option X) (k : Nat) : Option X :=
  (K ([0, 0, 0, 0] : (List Int)))
def f (k : Nat) : Option (List Int) := tree (fun b0 => some b0) k
theorem tree_nat {X Y : Type} (h : X → Option Y) (K : (List Int) → Option X) (k : Nat) : Option.bind (tree K k) h = tree (fun b0 => Option.bind (K b0) h) k := by
  simp only [tree, bif_bind, sel_bind', Option.bind_assoc, Option.bind_none, Option.bind_some]
abbrev ps : List Sh := [.nilp]
abbrev hs : List (Nat × ESh) := []
abbrev hi : List Nat := hs.map (·.1)
def val (t : (List Int)) : AV := Sh.mk (.data (.arr .u64 4)) t
def wr (t : (List Int)) : Heap := []
def callee (k : Nat) : Callee := sigCallee ps hs (fun (d : (Unit × Unit)) (e : Unit) => f k) val wr
def E (k : Nat) : Env := ⟨fnTab [], loopTab []⟩
theorem fE (k : Nat) : ∀ f, ∀ c ∈ (E k).fn f, CalleeOK Try.prog f c := fnTab_ok trivial
theorem run (k : Nat) (d : (Unit × Unit)) (e : Unit) : runFn Try.prog (E k) 10 (bodyOf Try.f31) Try.f31.results.toList hi (mkL ps d) (mkH hs e) =
    tree (fun b0 => leafFn hs hi e val wr b0) k := by kernel_rfl
theorem run_f (k : Nat) (d : (Unit × Unit)) (e : Unit) : runFn Try.prog (E k) 10 (bodyOf Try.f31) Try.f31.results.toList hi (mkL ps d) (mkH hs e) = (f k).bind (leafFn hs hi e val wr) :=
  (run k d e).trans (tree_nat (leafFn hs hi e val wr) (fun b0 => some b0) k).symm
theorem fnIs : FnIs Try.prog 31 Try.f31 (bodyOf Try.f31) 10 := ⟨by kernel_rfl, by kernel_rfl, by kernel_rfl, by kernel_rfl⟩
theorem ok (k : Nat) : CalleeOK Try.prog 31 (callee k) :=
  callee_sig (T := (List Int)) fnIs hm (fE k) (loopsOK_of [] (by kernel_rfl) trivial) ps hs (fun (d : (Unit × Unit)) (e : Unit) => f k) val wr rfl (fun _ => rfl) (run_f k)
end sync_Watch_Work_v1
namespace sync_Watch_Tick_v1
def tree {X : Type} (K : Int → Option X) (k : Nat) (a1 : Int) (a2 : (List Int)) (a3 : Bool) : Option X :=
  (K (0 : Int))
def f (k : Nat) (a1 : Int) (a2 : (List Int)) (a3 : Bool) : Option Int := tree (fun b0 => some b0) k a1 a2 a3
theorem tree_nat {X Y : Type} (h : X → Option Y) (K : Int → Option X) (k : Nat) (a1 : Int) (a2 : (List Int)) (a3 : Bool) : Option.bind (tree K k a1 a2 a3) h = tree (fun b0 => Option.bind (K b0) h) k a1 a2 a3 := by
  simp only [tree, bif_bind, sel_bind', Option.bind_assoc, Option.bind_none, Option.bind_some]
abbrev ps : List Sh := [.nilp, .data (.int .i64), .data (.arr .u64 4), .data .bool]
abbrev hs : List (Nat × ESh) := []
abbrev hi : List Nat := hs.map (·.1)
def val (t : Int) : AV := Sh.mk (.data (.int .i64)) t
def wr (t : Int) : Heap := []
def callee (k : Nat) : Callee := sigCallee ps hs (fun (d : (Unit × Int × (List Int) × Bool × Unit)) (e : Unit) => f k d.2.1 d.2.2.1 d.2.2.2.1) val wr
def E (k : Nat) : Env := ⟨fnTab [], loopTab []⟩
theorem fE (k : Nat) : ∀ f, ∀ c ∈ (E k).fn f, CalleeOK Try.prog f c := fnTab_ok trivial
theorem run (k : Nat) (d : (Unit × Int × (List Int) × Bool × Unit)) (e : Unit) : runFn Try.prog (E k) 95 (bodyOf Try.f37) Try.f37.results.toList hi (mkL ps d) (mkH hs e) =
    tree (fun b0 => leafFn hs hi e val wr b0) k d.2.1 d.2.2.1 d.2.2.2.1 := by kernel_rfl
theorem run_f (k : Nat) (d : (Unit × Int × (List Int) × Bool × Unit)) (e : Unit) : runFn Try.prog (E k) 95 (bodyOf Try.f37) Try.f37.results.toList hi (mkL ps d) (mkH hs e) = (f k d.2.1 d.2.2.1 d.2.2.2.1).bind (leafFn hs hi e val wr) :=
  (run k d e).trans (tree_nat (leafFn hs hi e val wr) (fun b0 => some b0) k d.2.1 d.2.2.1 d.2.2.2.1).symm
theorem fnIs : FnIs Try.prog 37 Try.f37 (bodyOf Try.f37) 95 := ⟨by kernel_rfl, by kernel_rfl, by kernel_rfl, by kernel_rfl⟩
theorem ok (k : Nat) : CalleeOK Try.prog 37 (callee k) :=
  callee_sig (T := Int) fnIs hm (fE k) (loopsOK_of [] (by kernel_rfl) trivial) ps hs (fun (d : (Unit × Int × (List Int) × Bool × Unit)) (e : Unit) => f k d.2.1 d.2.2.1 d.2.2.2.1) val wr rfl (fun _ => rfl) (run_f k)
end sync_Watch_Tick_v1
namespace trailheadlaw22_SyncDoes
namespace l0
def step {X : Type} (K : Int → (Bool × (Int × (Int × (Bool × (Int × ((List Int) × (Bool × Int))))))) → (Bool × (Int × (Int × ((List Int) × (Int × Int))))) → Option X) (Q : Bool → Option X) (G : Int → (Bool × (Int × (Int × (Bool × (Int × ((List Int) × (Bool × Int))))))) → (Bool × (Int × (Int × ((List Int) × (Int × Int))))) → Option X) (k : Nat) (x1 : Int) (x4 : Bool) (x21 : Int) (y0 : (List (Int × (Int × ((List Int) × Bool))))) (x22 : Int) (y1017 : (Bool × (Int × (Int × (Bool × (Int × ((List Int) × (Bool × Int)))))))) (y1019 : (Bool × (Int × (Int × ((List Int) × (Int × Int)))))) : Option X :=
  (bif (decide (x22 < x21)) then (bif (decide (0 ≤ x22)) then (bif (decide (x22 < ((List.length y0) : Int))) then (bif (decide ((Int.toNat x22) < (List.length y0))) then (bif (((List.getD y0 (Int.toNat x22) (Ty.dflt (.pair (.int .i64) (.pair (.int .i64) (.pair (.arr .u64 4) .bool))) : (Int × (Int × ((List Int) × Bool)))))).1 == (0 : Int)) then (Option.bind (sync_Watch_Asks.f k (((List.getD y0 (Int.toNat x22) (Ty.dflt (.pair (.int .i64) (.pair (.int .i64) (.pair (.arr .u64 4) .bool))) : (Int × (Int × ((List Int) × Bool)))))).2).1 y1017) (fun r2 => (Option.bind (trailheadref22_Watch_Asks.f k (((List.getD y0 (Int.toNat x22) (Ty.dflt (.pair (.int .i64) (.pair (.int .i64) (.pair (.arr .u64 4) .bool))) : (Int × (Int × ((List Int) × Bool)))))).2).1 y1019) (fun r3 => (bif (!(r2.1 == r3.1)) then (Q false) else (Option.bind (sync_Watch_Work.f k r2.2) (fun r4 => (bif (!(decide (r4 = r3.2.2.2.2.1))) then (Q false) else (Option.bind (sync_Watch_Waits.f k x1 r2.2) (fun r5 => (bif r3.2.1 then (bif (!(r5 == (decide ((subI .i64 x1 r3.2.2.1) ≤ (120 : Int))))) then (Q false) else (G (addI .i64 x22 1) r2.2 r3.2)) else (bif (!(r5 == false)) then (Q false) else (G (addI .i64 x22 1) r2.2 r3.2))))))))))))) else (bif (((List.getD y0 (Int.toNat x22) (Ty.dflt (.pair (.int .i64) (.pair (.int .i64) (.pair (.arr .u64 4) .bool))) : (Int × (Int × ((List Int) × Bool)))))).1 == (1 : Int)) then (Option.bind (sync_Watch_Got.f k y1017) (fun r6 => (bif (!(r6.1 == y1019.1)) then (Q false) else (Option.bind (sync_Watch_Work.f k r6.2) (fun r7 => (bif (!(decide (r7 = y1019.2.2.2.1))) then (Q false) else (Option.bind (sync_Watch_Waits.f k x1 r6.2) (fun r8 => (bif (!(r8 == false)) then (Q false) else (G (addI .i64 x22 1) r6.2 ((false, y1019.2) : (Bool × (Int × (Int × ((List Int) × (Int × Int)))))))))))))))) else (bif (((List.getD y0 (Int.toNat x22) (Ty.dflt (.pair (.int .i64) (.pair (.int .i64) (.pair (.arr .u64 4) .bool))) : (Int × (Int × ((List Int) × Bool)))))).1 == (2 : Int)) then (Option.bind (sync_Watch_Loose.f k y1017) (fun r9 => (Option.bind (trailheadref22_Watch_Loose.f k y1019) (fun r10 => (bif (!(r9.1 == r10.1)) then (Q false) else (Option.bind (sync_Watch_Work.f k r9.2) (fun r11 => (bif (!(decide (r11 = r10.2.2.2.2.1))) then (Q false) else (Option.bind (sync_Watch_Waits.f k x1 r9.2) (fun r12 => (bif r10.2.1 then (bif (!(r12 == (decide ((subI .i64 x1 r10.2.2.1) ≤ (120 : Int))))) then (Q false) else (G (addI .i64 x22 1) r9.2 r10.2)) else (bif (!(r12 == false)) then (Q false) else (G (addI .i64 x22 1) r9.2 r10.2))))))))))))) else (bif (((List.getD y0 (Int.toNat x22) (Ty.dflt (.pair (.int .i64) (.pair (.int .i64) (.pair (.arr .u64 4) .bool))) : (Int × (Int × ((List Int) × Bool)))))).1 == (3 : Int)) then (Option.bind (sync_Watch_Tied.f k y1017) (fun r13 => (Option.bind (sync_Watch_Work.f k r13) (fun r14 => (bif (!(decide (r14 = y1019.2.2.2.1))) then (Q false) else (Option.bind (sync_Watch_Waits.f k x1 r13) (fun r15 => (bif y1019.1 then (bif (!(r15 == (decide ((subI .i64 x1 y1019.2.1) ≤ (120 : Int))))) then (Q false) else (G (addI .i64 x22 1) r13 ((y1019.1, (y1019.2.1, (0, y1019.2.2.2))) : (Bool × (Int × (Int × ((List Int) × (Int × Int)))))))) else (bif (!(r15 == false)) then (Q false) else (G (addI .i64 x22 1) r13 ((y1019.1, (y1019.2.1, (0, y1019.2.2.2))) : (Bool × (Int × (Int × ((List Int) × (Int × Int)))))))))))))))) else (bif (((List.getD y0 (Int.toNat x22) (Ty.dflt (.pair (.int .i64) (.pair (.int .i64) (.pair (.arr .u64 4) .bool))) : (Int × (Int × ((List Int) × Bool)))))).1 == (4 : Int)) then (Option.bind (sync_Watch_Knows_v1.f k y1017 ([((((List.getD y0 (Int.toNat x22) (Ty.dflt (.pair (.int .i64) (.pair (.int .i64) (.pair (.arr .u64 4) .bool))) : (Int × (Int × ((List Int) × Bool)))))).2).2).1, [0, 0, 0, 0]] : (List (List Int)))) (fun r16 => (Option.bind (trailheadref22_Watch_Knows.f k ((((List.getD y0 (Int.toNat x22) (Ty.dflt (.pair (.int .i64) (.pair (.int .i64) (.pair (.arr .u64 4) .bool))) : (Int × (Int × ((List Int) × Bool)))))).2).2).1 y1019) (fun r17 => (Option.bind (sync_Watch_Work.f k r16) (fun r18 => (bif (!(decide (r18 = r17.2.2.2.1))) then (Q false) else (Option.bind (sync_Watch_Waits.f k x1 r16) (fun r19 => (bif r17.1 then (bif (!(r19 == (decide ((subI .i64 x1 r17.2.1) ≤ (120 : Int))))) then (Q false) else (G (addI .i64 x22 1) r16 r17)) else (bif (!(r19 == false)) then (Q false) else (G (addI .i64 x22 1) r16 r17)))))))))))) else (bif (((List.getD y0 (Int.toNat x22) (Ty.dflt (.pair (.int .i64) (.pair (.int .i64) (.pair (.arr .u64 4) .bool))) : (Int × (Int × ((List Int) × Bool)))))).1 == (5 : Int)) then (Option.bind (sync_Watch_Tick.f k (((List.getD y0 (Int.toNat x22) (Ty.dflt (.pair (.int .i64) (.pair (.int .i64) (.pair (.arr .u64 4) .bool))) : (Int × (Int × ((List Int) × Bool)))))).2).1 ((((List.getD y0 (Int.toNat x22) (Ty.dflt (.pair (.int .i64) (.pair (.int .i64) (.pair (.arr .u64 4) .bool))) : (Int × (Int × ((List Int) × Bool)))))).2).2).1 ((((List.getD y0 (Int.toNat x22) (Ty.dflt (.pair (.int .i64) (.pair (.int .i64) (.pair (.arr .u64 4) .bool))) : (Int × (Int × ((List Int) × Bool)))))).2).2).2 y1017) (fun r20 => (Option.bind (trailheadref22_Watch_Tick.f k (((List.getD y0 (Int.toNat x22) (Ty.dflt (.pair (.int .i64) (.pair (.int .i64) (.pair (.arr .u64 4) .bool))) : (Int × (Int × ((List Int) × Bool)))))).2).1 ((((List.getD y0 (Int.toNat x22) (Ty.dflt (.pair (.int .i64) (.pair (.int .i64) (.pair (.arr .u64 4) .bool))) : (Int × (Int × ((List Int) × Bool)))))).2).2).1 ((((List.getD y0 (Int.toNat x22) (Ty.dflt (.pair (.int .i64) (.pair (.int .i64) (.pair (.arr .u64 4) .bool))) : (Int × (Int × ((List Int) × Bool)))))).2).2).2 y1019) (fun r21 => (bif (!(r20.1 == r21.1)) then (Q false) else (Option.bind (sync_Watch_Work.f k r20.2) (fun r22 => (bif (!(decide (r22 = r21.2.2.2.2.1))) then (Q false) else (Option.bind (sync_Watch_Waits.f k x1 r20.2) (fun r23 => (bif r21.2.1 then (bif (!(r23 == (decide ((subI .i64 x1 r21.2.2.1) ≤ (120 : Int))))) then (Q false) else (G (addI .i64 x22 1) r20.2 r21.2)) else (bif (!(r23 == false)) then (Q false) else (G (addI .i64 x22 1) r20.2 r21.2))))))))))))) else (Option.bind (sync_Watch_Work.f k y1017) (fun r24 => (bif (!(decide (r24 = y1019.2.2.2.1))) then (Q false) else (Option.bind (sync_Watch_Waits.f k x1 y1017) (fun r25 => (bif y1019.1 then (bif (!(r25 == (decide ((subI .i64 x1 y1019.2.1) ≤ (120 : Int))))) then (Q false) else (G (addI .i64 x22 1) y1017 y1019)) else (bif (!(r25 == false)) then (Q false) else (G (addI .i64 x22 1) y1017 y1019)))))))))))))) else none) else none) else none) else (K x22 y1017 y1019))
def go {X : Type} (K : Int → (Bool × (Int × (Int × (Bool × (Int × ((List Int) × (Bool × Int))))))) → (Bool × (Int × (Int × ((List Int) × (Int × Int))))) → Option X) (Q : Bool → Option X) (k : Nat) (x1 : Int) (x4 : Bool) (x21 : Int) (y0 : (List (Int × (Int × ((List Int) × Bool))))) : Nat → Int → (Bool × (Int × (Int × (Bool × (Int × ((List Int) × (Bool × Int))))))) → (Bool × (Int × (Int × ((List Int) × (Int × Int))))) → Option X
  | 0, _, _, _ => none
  | n + 1, x22, y1017, y1019 => step K Q (go K Q k x1 x4 x21 y0 n) k x1 x4 x21 y0 x22 y1017 y1019
def f (k : Nat) (x1 : Int) (x4 : Bool) (x21 : Int) (y0 : (List (Int × (Int × ((List Int) × Bool))))) (n : Nat) (x22 : Int) (y1017 : (Bool × (Int × (Int × (Bool × (Int × ((List Int) × (Bool × Int)))))))) (y1019 : (Bool × (Int × (Int × ((List Int) × (Int × Int)))))) : Option ((Int × ((Bool × (Int × (Int × (Bool × (Int × ((List Int) × (Bool × Int))))))) × (Bool × (Int × (Int × ((List Int) × (Int × Int))))))) ⊕ Bool) := go (fun x22 y1017 y1019 => some (.inl (x22, y1017, y1019))) (fun q0 => some (.inr q0)) k x1 x4 x21 y0 n x22 y1017 y1019
theorem step_nat {X Y : Type} (h : X → Option Y) (K : Int → (Bool × (Int × (Int × (Bool × (Int × ((List Int) × (Bool × Int))))))) → (Bool × (Int × (Int × ((List Int) × (Int × Int))))) → Option X) (Q : Bool → Option X) (G : Int → (Bool × (Int × (Int × (Bool × (Int × ((List Int) × (Bool × Int))))))) → (Bool × (Int × (Int × ((List Int) × (Int × Int))))) → Option X) (k : Nat) (x1 : Int) (x4 : Bool) (x21 : Int) (y0 : (List (Int × (Int × ((List Int) × Bool))))) (x22 : Int) (y1017 : (Bool × (Int × (Int × (Bool × (Int × ((List Int) × (Bool × Int)))))))) (y1019 : (Bool × (Int × (Int × ((List Int) × (Int × Int)))))) : Option.bind (step K Q G k x1 x4 x21 y0 x22 y1017 y1019) h = step (fun x22 y1017 y1019 => Option.bind (K x22 y1017 y1019) h) (fun q0 => Option.bind (Q q0) h) (fun x22 y1017 y1019 => Option.bind (G x22 y1017 y1019) h) k x1 x4 x21 y0 x22 y1017 y1019 := by
  simp only [step, bif_bind, sel_bind', Option.bind_assoc, Option.bind_none, Option.bind_some]
theorem go_nat {X Y : Type} (h : X → Option Y) (K : Int → (Bool × (Int × (Int × (Bool × (Int × ((List Int) × (Bool × Int))))))) → (Bool × (Int × (Int × ((List Int) × (Int × Int))))) → Option X) (Q : Bool → Option X) (k : Nat) (x1 : Int) (x4 : Bool) (x21 : Int) (y0 : (List (Int × (Int × ((List Int) × Bool))))) (n : Nat) : ∀ (x22 : Int) (y1017 : (Bool × (Int × (Int × (Bool × (Int × ((List Int) × (Bool × Int)))))))) (y1019 : (Bool × (Int × (Int × ((List Int) × (Int × Int)))))), Option.bind (go K Q k x1 x4 x21 y0 n x22 y1017 y1019) h = go (fun x22 y1017 y1019 => Option.bind (K x22 y1017 y1019) h) (fun q0 => Option.bind (Q q0) h) k x1 x4 x21 y0 n x22 y1017 y1019 := by
  induction n with
  | zero => intros; rfl
  | succ n ih => intro x22 y1017 y1019; show Option.bind (step K Q (go K Q k x1 x4 x21 y0 n) k x1 x4 x21 y0 x22 y1017 y1019) h = step (fun x22 y1017 y1019 => Option.bind (K x22 y1017 y1019) h) (fun q0 => Option.bind (Q q0) h) (go (fun x22 y1017 y1019 => Option.bind (K x22 y1017 y1019) h) (fun q0 => Option.bind (Q q0) h) k x1 x4 x21 y0 n) k x1 x4 x21 y0 x22 y1017 y1019; rw [step_nat h]; simp only [ih]
abbrev S : List (Nat × Sh) := [(1, .data (.int .i64)), (4, .data .bool), (5, .ptr 1017), (6, .ptr 1019), (20, .vec 0), (21, .data (.int .i64)), (22, .data (.int .i64))]
abbrev H : List (Nat × ESh) := [(0, .rows false 68 (.pair (.int .i64) (.pair (.int .i64) (.pair (.arr .u64 4) .bool)))), (1017, .cell (.data (.pair .bool (.pair (.int .i64) (.pair (.int .i64) (.pair .bool (.pair (.int .i64) (.pair (.arr .u64 4) (.pair .bool (.int .i64)))))))))), (1019, .cell (.data (.pair .bool (.pair (.int .i64) (.pair (.int .i64) (.pair (.arr .u64 4) (.pair (.int .i64) (.int .i64))))))))]
def KX (d : (Int × Bool × Unit × Unit × Unit × Int × Int × Unit)) (e : ((List (Int × (Int × ((List Int) × Bool)))) × (Bool × (Int × (Int × (Bool × (Int × ((List Int) × (Bool × Int))))))) × (Bool × (Int × (Int × ((List Int) × (Int × Int))))) × Unit)) (v : (Int × ((Bool × (Int × (Int × (Bool × (Int × ((List Int) × (Bool × Int))))))) × (Bool × (Int × (Int × ((List Int) × (Int × Int)))))))) : St := ⟨mkS S (d.1, d.2.1, (), (), (), d.2.2.2.2.2.1, v.1, ()), mkH H (e.1, v.2.1, v.2.2, ())⟩
abbrev RS : List (Nat × Sh) := [(4, .data .bool)]
abbrev RH : List (Nat × ESh) := [(0, .rows false 68 (.pair (.int .i64) (.pair (.int .i64) (.pair (.arr .u64 4) .bool))))]
def RX (d : (Int × Bool × Unit × Unit × Unit × Int × Int × Unit)) (e : ((List (Int × (Int × ((List Int) × Bool)))) × (Bool × (Int × (Int × (Bool × (Int × ((List Int) × (Bool × Int))))))) × (Bool × (Int × (Int × ((List Int) × (Int × Int))))) × Unit)) (v : Bool) : St := ⟨mkS RS (v, ()), mkH RH (e.1, ())⟩
def sum (k : Nat) : LoopSum := sigLoop S H 0 (fun (d : (Int × Bool × Unit × Unit × Unit × Int × Int × Unit)) (e : ((List (Int × (Int × ((List Int) × Bool)))) × (Bool × (Int × (Int × (Bool × (Int × ((List Int) × (Bool × Int))))))) × (Bool × (Int × (Int × ((List Int) × (Int × Int))))) × Unit)) => f k d.1 d.2.1 d.2.2.2.2.2.1 e.1 k d.2.2.2.2.2.2.1 e.2.1 e.2.2.1) KX RX
end l0
def tree {X : Type} (K : Bool → Option X) (k : Nat) (a1 : Int) (m0 : (List (Int × (Int × ((List Int) × Bool))))) : Option X :=
  (Option.bind (trailheadlaw22_alive.f k) (fun r1 => (bif (!r1) then (K false) else (bif (decide (((List.length m0) : Int) > (200 : Int))) then (K true) else (Option.bind (trailheadlaw22_SyncDoes.l0.f k a1 false ((List.length m0) : Int) m0 k (0 : Int) ((false, (0, (0, (false, (0, ([0, 0, 0, 0], (false, 0))))))) : (Bool × (Int × (Int × (Bool × (Int × ((List Int) × (Bool × Int)))))))) ((false, (0, (0, ([0, 0, 0, 0], (0, 0))))) : (Bool × (Int × (Int × ((List Int) × (Int × Int))))))) (fun r26 => sel r26 (fun v27 => (Option.bind (sync_Watch_Tied_v1.f k) (fun r29 => (Option.bind (sync_Watch_Knows_v2.f k ([[1, 0, 0, 0]] : (List (List Int)))) (fun r30 => (Option.bind (sync_Watch_Asks_v1.f k (1 : Int)) (fun r31 => (bif (!r31) then (Option.bind (sync_Watch_Got_v1.f k) (fun r32 => (bif (!r32) then (Option.bind (sync_Watch_Waits_v1.f k (1 : Int)) (fun r33 => (bif (!r33) then (Option.bind (sync_Watch_Loose_v1.f k) (fun r34 => (bif (r34 == (0 : Int)) then (Option.bind (sync_Watch_Work_v1.f k) (fun r35 => (bif (decide (r35 = ([0, 0, 0, 0] : (List Int)))) then (Option.bind (sync_Watch_Tick_v1.f k (1 : Int) ([1, 0, 0, 0] : (List Int)) true) (fun r36 => (K (r36 == (0 : Int))))) else (K false)))) else (K false)))) else (K false)))) else (K false)))) else (K false))))))))) (fun q28 => (K q28))))))))
def f (k : Nat) (a1 : Int) (m0 : (List (Int × (Int × ((List Int) × Bool))))) : Option Bool := tree (fun b0 => some b0) k a1 m0
theorem tree_nat {X Y : Type} (h : X → Option Y) (K : Bool → Option X) (k : Nat) (a1 : Int) (m0 : (List (Int × (Int × ((List Int) × Bool))))) : Option.bind (tree K k a1 m0) h = tree (fun b0 => Option.bind (K b0) h) k a1 m0 := by
  simp only [tree, bif_bind, sel_bind', Option.bind_assoc, Option.bind_none, Option.bind_some]
abbrev ps : List Sh := [.vec 0, .data (.int .i64)]
abbrev hs : List (Nat × ESh) := [(0, .rows false 68 (.pair (.int .i64) (.pair (.int .i64) (.pair (.arr .u64 4) .bool))))]
abbrev hi : List Nat := hs.map (·.1)
def val (t : Bool) : AV := Sh.mk (.data .bool) t
def wr (t : Bool) : Heap := []
def callee (k : Nat) : Callee := sigCallee ps hs (fun (d : (Unit × Int × Unit)) (e : ((List (Int × (Int × ((List Int) × Bool)))) × Unit)) => f k d.2.1 e.1) val wr
def E (k : Nat) : Env := ⟨fnTab [(27, [trailheadlaw22_alive.callee k]), (30, [sync_Watch_Asks.callee k, sync_Watch_Asks_v1.callee k]), (61, [trailheadref22_Watch_Asks.callee k]), (31, [sync_Watch_Work.callee k, sync_Watch_Work_v1.callee k]), (67, [sync_Watch_Waits.callee k, sync_Watch_Waits_v1.callee k]), (32, [sync_Watch_Got.callee k, sync_Watch_Got_v1.callee k]), (62, [sync_Watch_Loose.callee k, sync_Watch_Loose_v1.callee k]), (63, [trailheadref22_Watch_Loose.callee k]), (64, [sync_Watch_Tied.callee k, sync_Watch_Tied_v1.callee k]), (28, [sync_Watch_Knows_v1.callee k, sync_Watch_Knows_v2.callee k]), (65, [trailheadref22_Watch_Knows.callee k]), (37, [sync_Watch_Tick.callee k, sync_Watch_Tick_v1.callee k]), (66, [trailheadref22_Watch_Tick.callee k])], loopTab [(0, l0.sum k)]⟩
theorem fE (k : Nat) : ∀ f, ∀ c ∈ (E k).fn f, CalleeOK Try.prog f c := fnTab_ok ⟨⟨trailheadlaw22_alive.ok k, trivial⟩, ⟨sync_Watch_Asks.ok k, sync_Watch_Asks_v1.ok k, trivial⟩, ⟨trailheadref22_Watch_Asks.ok k, trivial⟩, ⟨sync_Watch_Work.ok k, sync_Watch_Work_v1.ok k, trivial⟩, ⟨sync_Watch_Waits.ok k, sync_Watch_Waits_v1.ok k, trivial⟩, ⟨sync_Watch_Got.ok k, sync_Watch_Got_v1.ok k, trivial⟩, ⟨sync_Watch_Loose.ok k, sync_Watch_Loose_v1.ok k, trivial⟩, ⟨trailheadref22_Watch_Loose.ok k, trivial⟩, ⟨sync_Watch_Tied.ok k, sync_Watch_Tied_v1.ok k, trivial⟩, ⟨sync_Watch_Knows_v1.ok k, sync_Watch_Knows_v2.ok k, trivial⟩, ⟨trailheadref22_Watch_Knows.ok k, trivial⟩, ⟨sync_Watch_Tick.ok k, sync_Watch_Tick_v1.ok k, trivial⟩, ⟨trailheadref22_Watch_Tick.ok k, trivial⟩, trivial⟩
namespace l0
theorem round (k : Nat) (d : (Int × Bool × Unit × Unit × Unit × Int × Int × Unit)) (e : ((List (Int × (Int × ((List Int) × Bool)))) × (Bool × (Int × (Int × (Bool × (Int × ((List Int) × (Bool × Int))))))) × (Bool × (Int × (Int × ((List Int) × (Int × Int))))) × Unit)) (G : St → Option (Ex × St)) : roundK Try.prog (E k) 163 0 (subC (bodyOf Try.f13) [1, 1, 1, 1, 0, 1, 0, 0]) (restrict (S.map (·.1)) (H.map (·.1))) (finBy (S.map (·.1)) (H.map (·.1)) (RS.map (·.1)) (RH.map (·.1))) G ⟨mkS S d, mkH H e⟩ =
    step (fun x22 y1017 y1019 => some (.exit 0, KX d e (x22, y1017, y1019))) (fun q0 => some (.ret, RX d e q0)) (fun x22 y1017 y1019 => G ⟨mkS S (d.1, d.2.1, (), (), (), d.2.2.2.2.2.1, x22, ()), mkH H (e.1, y1017, y1019, ())⟩) k d.1 d.2.1 d.2.2.2.2.2.1 e.1 d.2.2.2.2.2.2.1 e.2.1 e.2.2.1 := by kernel_rfl
theorem it (k n : Nat) (d : (Int × Bool × Unit × Unit × Unit × Int × Int × Unit)) (e : ((List (Int × (Int × ((List Int) × Bool)))) × (Bool × (Int × (Int × (Bool × (Int × ((List Int) × (Bool × Int))))))) × (Bool × (Int × (Int × ((List Int) × (Int × Int))))) × Unit)) : loopIt Try.prog (E k) 163 0 (subC (bodyOf Try.f13) [1, 1, 1, 1, 0, 1, 0, 0]) (restrict (S.map (·.1)) (H.map (·.1))) (finBy (S.map (·.1)) (H.map (·.1)) (RS.map (·.1)) (RH.map (·.1))) n ⟨mkS S d, mkH H e⟩ = go (fun x22 y1017 y1019 => some (.exit 0, KX d e (x22, y1017, y1019))) (fun q0 => some (.ret, RX d e q0)) k d.1 d.2.1 d.2.2.2.2.2.1 e.1 n d.2.2.2.2.2.2.1 e.2.1 e.2.2.1 :=
  loopIt_eq (D := (Int × Bool × Unit × Unit × Unit × Int × Int × Unit) × ((List (Int × (Int × ((List Int) × Bool)))) × (Bool × (Int × (Int × (Bool × (Int × ((List Int) × (Bool × Int))))))) × (Bool × (Int × (Int × ((List Int) × (Int × Int))))) × Unit)) (fun p => ⟨mkS S p.1, mkH H p.2⟩) (fun F p => step (fun x22 y1017 y1019 => some (.exit 0, KX p.1 p.2 (x22, y1017, y1019))) (fun q0 => some (.ret, RX p.1 p.2 q0)) (fun x22 y1017 y1019 => F ((p.1.1, p.1.2.1, (), (), (), p.1.2.2.2.2.2.1, x22, ()), (p.2.1, y1017, y1019, ()))) k p.1.1 p.1.2.1 p.1.2.2.2.2.2.1 p.2.1 p.1.2.2.2.2.2.2.1 p.2.2.1 p.2.2.2.1) (fun n p => go (fun x22 y1017 y1019 => some (.exit 0, KX p.1 p.2 (x22, y1017, y1019))) (fun q0 => some (.ret, RX p.1 p.2 q0)) k p.1.1 p.1.2.1 p.1.2.2.2.2.2.1 p.2.1 n p.1.2.2.2.2.2.2.1 p.2.2.1 p.2.2.2.1) (fun _ => rfl) (fun _ _ => rfl) (fun G p => round k p.1 p.2 G) n (d, e)
theorem ok (k : Nat) : LoopOK Try.prog 163 (subC (bodyOf Try.f13) [1, 1, 1, 1, 0, 1, 0, 0]) (sum k) :=
  loop_sig hm (fE k) (loopsOK_of [] (by kernel_rfl) trivial) S H 0 (fun (d : (Int × Bool × Unit × Unit × Unit × Int × Int × Unit)) (e : ((List (Int × (Int × ((List Int) × Bool)))) × (Bool × (Int × (Int × (Bool × (Int × ((List Int) × (Bool × Int))))))) × (Bool × (Int × (Int × ((List Int) × (Int × Int))))) × Unit)) => f k d.1 d.2.1 d.2.2.2.2.2.1 e.1 k d.2.2.2.2.2.2.1 e.2.1 e.2.2.1) KX RX (S.map (·.1)) (H.map (·.1)) (RS.map (·.1)) (RH.map (·.1)) k
    (fun d e => (it k k d e).trans (go_nat (exitOf 0 (KX d e) (RX d e)) (fun x22 y1017 y1019 => some (.inl (x22, y1017, y1019))) (fun q0 => some (.inr q0)) k d.1 d.2.1 d.2.2.2.2.2.1 e.1 k d.2.2.2.2.2.2.1 e.2.1 e.2.2.1).symm)
end l0
theorem run (k : Nat) (d : (Unit × Int × Unit)) (e : ((List (Int × (Int × ((List Int) × Bool)))) × Unit)) : runFn Try.prog (E k) 163 (bodyOf Try.f13) Try.f13.results.toList hi (mkL ps d) (mkH hs e) =
    tree (fun b0 => leafFn hs hi e val wr b0) k d.2.1 e.1 := by kernel_rfl
theorem run_f (k : Nat) (d : (Unit × Int × Unit)) (e : ((List (Int × (Int × ((List Int) × Bool)))) × Unit)) : runFn Try.prog (E k) 163 (bodyOf Try.f13) Try.f13.results.toList hi (mkL ps d) (mkH hs e) = (f k d.2.1 e.1).bind (leafFn hs hi e val wr) :=
  (run k d e).trans (tree_nat (leafFn hs hi e val wr) (fun b0 => some b0) k d.2.1 e.1).symm
theorem fnIs : FnIs Try.prog 13 Try.f13 (bodyOf Try.f13) 163 := ⟨by kernel_rfl, by kernel_rfl, by kernel_rfl, by kernel_rfl⟩
theorem ok (k : Nat) : CalleeOK Try.prog 13 (callee k) :=
  callee_sig (T := Bool) fnIs hm (fE k) (loopsOK_of [(0, subC (bodyOf Try.f13) [1, 1, 1, 1, 0, 1, 0, 0])] (by kernel_rfl) ⟨of_loop (l0.sum k) rfl (l0.ok k), trivial⟩) ps hs (fun (d : (Unit × Int × Unit)) (e : ((List (Int × (Int × ((List Int) × Bool)))) × Unit)) => f k d.2.1 e.1) val wr rfl (fun _ => rfl) (run_f k)
end trailheadlaw22_SyncDoes
end Go.Proofs.Ytjciljaojcekeaa.Sx
