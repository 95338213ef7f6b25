/- What the Go functions come to, on data: printed by pr.py. -/
import Derived.Test.YtjciljaojcekeaaSx18
import Derived.Test.YtjciljaojcekeaaProg
import Derived.Test.YtjciljaojcekeaaWC
namespace Go.Proofs.Ytjciljaojcekeaa.Sx
open Go Go.Proofs
set_option maxRecDepth 100000
set_option linter.unusedVariables false
set_option linter.unusedSimpArgs false
namespace work_Of
def tree {X : Type} (K : (List Int) → Option X) (k : Nat) (a0 : (List Int)) : Option X :=
  (Option.bind (whole_Of.f k (1 : Int)) (fun r1 => (Option.bind (whole_Add.f k a0 r1) (fun r2 => (bif r2.2 then (Option.bind (whole_Of.f k (1 : Int)) (fun r3 => (K r3))) else (Option.bind (whole_Not.f k a0) (fun r4 => (Option.bind (whole_Quo.f k r4 r2.1) (fun r5 => (Option.bind (whole_Of.f k (1 : Int)) (fun r6 => (Option.bind (whole_Add.f k r5.1 r6) (fun r7 => (bif r7.2 then (Option.bind (whole_Most.f k) (fun r8 => (K r8))) else (K r7.1)))))))))))))))
def f (k : Nat) (a0 : (List Int)) : Option (List Int) := tree (fun b0 => some b0) k a0
theorem tree_nat {X Y : Type} (h : X → Option Y) (K : (List Int) → Option X) (k : Nat) (a0 : (List Int)) : Option.bind (tree K k a0) h = tree (fun b0 => Option.bind (K b0) h) k a0 := by
  simp only [tree, bif_bind, sel_bind', Option.bind_assoc, Option.bind_none, Option.bind_some]
abbrev ps : List Sh := [.data (.arr .u64 4)]
abbrev hs : List (Nat × ESh) := []
abbrev hi : List Nat := hs.map (·.1)
def val (t : (List Int)) : AV := Sh.mk (.data (.arr .u64 4)) t
def wr (t : (List Int)) : Heap := []
def callee (k : Nat) : Callee := sigCallee ps hs (fun (d : ((List Int) × Unit)) (e : Unit) => f k d.1) val wr
def E (k : Nat) : Env := ⟨fnTab [(44, [whole_Of.callee k]), (51, [whole_Add.callee k]), (56, [whole_Not.callee k]), (70, [whole_Quo.callee k]), (83, [whole_Most.callee k])], loopTab []⟩
theorem fE (k : Nat) : ∀ f, ∀ c ∈ (E k).fn f, CalleeOK Try.prog f c := fnTab_ok ⟨⟨whole_Of.ok k, trivial⟩, ⟨whole_Add.ok k, trivial⟩, ⟨whole_Not.ok k, trivial⟩, ⟨whole_Quo.ok k, trivial⟩, ⟨whole_Most.ok k, trivial⟩, trivial⟩
theorem run (k : Nat) (d : ((List Int) × Unit)) (e : Unit) : runFn Try.prog (E k) 32 (bodyOf Try.f76) Try.f76.results.toList hi (mkL ps d) (mkH hs e) =
    tree (fun b0 => leafFn hs hi e val wr b0) k d.1 := by kernel_rfl
theorem run_f (k : Nat) (d : ((List Int) × Unit)) (e : Unit) : runFn Try.prog (E k) 32 (bodyOf Try.f76) Try.f76.results.toList hi (mkL ps d) (mkH hs e) = (f k d.1).bind (leafFn hs hi e val wr) :=
  (run k d e).trans (tree_nat (leafFn hs hi e val wr) (fun b0 => some b0) k d.1).symm
theorem fnIs : FnIs Try.prog 76 Try.f76 (bodyOf Try.f76) 32 := ⟨by kernel_rfl, by kernel_rfl, by kernel_rfl, by kernel_rfl⟩
theorem ok (k : Nat) : CalleeOK Try.prog 76 (callee k) :=
  callee_sig (T := (List Int)) fnIs hm (fE k) (loopsOK_of [] (by kernel_rfl) trivial) ps hs (fun (d : ((List Int) × Unit)) (e : Unit) => f k d.1) val wr rfl (fun _ => rfl) (run_f k)
end work_Of
namespace work_OfBits
def tree {X : Type} (K : (List Int) → Option X) (k : Nat) (a0 : Int) : Option X :=
  (Option.bind (compact_Decode.f k a0) (fun r1 => (bif r1.2.1 then (K ([0, 0, 0, 0] : (List Int))) else (bif r1.2.2 then (K ([0, 0, 0, 0] : (List Int))) else (Option.bind (whole_Zero.f k r1.1) (fun r2 => (bif r2 then (K ([0, 0, 0, 0] : (List Int))) else (Option.bind (work_Of.f k r1.1) (fun r3 => (K r3))))))))))
def f (k : Nat) (a0 : Int) : Option (List Int) := tree (fun b0 => some b0) k a0
theorem tree_nat {X Y : Type} (h : X → Option Y) (K : (List Int) → Option X) (k : Nat) (a0 : Int) : Option.bind (tree K k a0) h = tree (fun b0 => Option.bind (K b0) h) k a0 := by
  simp only [tree, bif_bind, sel_bind', Option.bind_assoc, Option.bind_none, Option.bind_some]
abbrev ps : List Sh := [.data (.int .i64)]
abbrev hs : List (Nat × ESh) := []
abbrev hi : List Nat := hs.map (·.1)
def val (t : (List Int)) : AV := Sh.mk (.data (.arr .u64 4)) t
def wr (t : (List Int)) : Heap := []
def callee (k : Nat) : Callee := sigCallee ps hs (fun (d : (Int × Unit)) (e : Unit) => f k d.1) val wr
def E (k : Nat) : Env := ⟨fnTab [(34, [compact_Decode.callee k]), (42, [whole_Zero.callee k]), (76, [work_Of.callee k])], loopTab []⟩
theorem fE (k : Nat) : ∀ f, ∀ c ∈ (E k).fn f, CalleeOK Try.prog f c := fnTab_ok ⟨⟨compact_Decode.ok k, trivial⟩, ⟨whole_Zero.ok k, trivial⟩, ⟨work_Of.ok k, trivial⟩, trivial⟩
theorem run (k : Nat) (d : (Int × Unit)) (e : Unit) : runFn Try.prog (E k) 23 (bodyOf Try.f90) Try.f90.results.toList hi (mkL ps d) (mkH hs e) =
    tree (fun b0 => leafFn hs hi e val wr b0) k d.1 := by kernel_rfl
theorem run_f (k : Nat) (d : (Int × Unit)) (e : Unit) : runFn Try.prog (E k) 23 (bodyOf Try.f90) Try.f90.results.toList hi (mkL ps d) (mkH hs e) = (f k d.1).bind (leafFn hs hi e val wr) :=
  (run k d e).trans (tree_nat (leafFn hs hi e val wr) (fun b0 => some b0) k d.1).symm
theorem fnIs : FnIs Try.prog 90 Try.f90 (bodyOf Try.f90) 23 := ⟨by kernel_rfl, by kernel_rfl, by kernel_rfl, by kernel_rfl⟩
theorem ok (k : Nat) : CalleeOK Try.prog 90 (callee k) :=
  callee_sig (T := (List Int)) fnIs hm (fE k) (loopsOK_of [] (by kernel_rfl) trivial) ps hs (fun (d : (Int × Unit)) (e : Unit) => f k d.1) val wr rfl (fun _ => rfl) (run_f k)
end work_OfBits
namespace work_Sum
def tree {X : Type} (K : (List Int) → Option X) (k : Nat) (m0 : (List (List Int))) : Option X :=
  (Option.bind (whole_Sum.f k m0) (fun r1 => (bif r1.2 then (Option.bind (whole_Most.f k) (fun r2 => (K r2))) else (K r1.1))))
def f (k : Nat) (m0 : (List (List Int))) : Option (List Int) := tree (fun b0 => some b0) k m0
theorem tree_nat {X Y : Type} (h : X → Option Y) (K : (List Int) → Option X) (k : Nat) (m0 : (List (List Int))) : Option.bind (tree K k m0) h = tree (fun b0 => Option.bind (K b0) h) k m0 := by
  simp only [tree, bif_bind, sel_bind', Option.bind_assoc, Option.bind_none, Option.bind_some]
abbrev ps : List Sh := [.vec 0]
abbrev hs : List (Nat × ESh) := [(0, .rows true 27 (.arr .u64 4))]
abbrev hi : List Nat := hs.map (·.1)
def val (t : (List Int)) : AV := Sh.mk (.data (.arr .u64 4)) t
def wr (t : (List Int)) : Heap := []
def callee (k : Nat) : Callee := sigCallee ps hs (fun (d : (Unit × Unit)) (e : ((List (List Int)) × Unit)) => f k e.1) val wr
def E (k : Nat) : Env := ⟨fnTab [(55, [whole_Sum.callee k]), (83, [whole_Most.callee k])], loopTab []⟩
theorem fE (k : Nat) : ∀ f, ∀ c ∈ (E k).fn f, CalleeOK Try.prog f c := fnTab_ok ⟨⟨whole_Sum.ok k, trivial⟩, ⟨whole_Most.ok k, trivial⟩, trivial⟩
theorem run (k : Nat) (d : (Unit × Unit)) (e : ((List (List Int)) × Unit)) : runFn Try.prog (E k) 13 (bodyOf Try.f95) Try.f95.results.toList hi (mkL ps d) (mkH hs e) =
    tree (fun b0 => leafFn hs hi e val wr b0) k e.1 := by kernel_rfl
theorem run_f (k : Nat) (d : (Unit × Unit)) (e : ((List (List Int)) × Unit)) : runFn Try.prog (E k) 13 (bodyOf Try.f95) Try.f95.results.toList hi (mkL ps d) (mkH hs e) = (f k e.1).bind (leafFn hs hi e val wr) :=
  (run k d e).trans (tree_nat (leafFn hs hi e val wr) (fun b0 => some b0) k e.1).symm
theorem fnIs : FnIs Try.prog 95 Try.f95 (bodyOf Try.f95) 13 := ⟨by kernel_rfl, by kernel_rfl, by kernel_rfl, by kernel_rfl⟩
theorem ok (k : Nat) : CalleeOK Try.prog 95 (callee k) :=
  callee_sig (T := (List Int)) fnIs hm (fE k) (loopsOK_of [] (by kernel_rfl) trivial) ps hs (fun (d : (Unit × Unit)) (e : ((List (List Int)) × Unit)) => f k e.1) val wr rfl (fun _ => rfl) (run_f k)
end work_Sum
namespace work_Chain
namespace l0
def step {X : Type} (K : Int → (List Int) → Option X) (G : Int → (List Int) → Option X) (k : Nat) (x7 : Int) (y0 : (List Int)) (y1002 : (List Int)) (x8 : Int) (y1003 : (List Int)) : Option X :=
  (bif (decide (x8 < x7)) then (bif (decide (0 ≤ x8)) then (bif (decide (x8 < ((List.length y0) : Int))) then (bif (decide ((Int.toNat x8) < (List.length y0))) then (Option.bind (work_OfBits.f k (List.getD y0 (Int.toNat x8) (Ty.dflt (.int .i64) : Int))) (fun r1 => (Option.bind (work_Sum.f k ([y1003, r1] : (List (List Int)))) (fun r2 => (G (addI .i64 x8 1) r2))))) else none) else none) else none) else (K x8 y1003))
def go {X : Type} (K : Int → (List Int) → Option X) (k : Nat) (x7 : Int) (y0 : (List Int)) (y1002 : (List Int)) : Nat → Int → (List Int) → Option X
  | 0, _, _ => none
  | n + 1, x8, y1003 => step K (go K k x7 y0 y1002 n) k x7 y0 y1002 x8 y1003
def f (k : Nat) (x7 : Int) (y0 : (List Int)) (y1002 : (List Int)) (n : Nat) (x8 : Int) (y1003 : (List Int)) : Option (Int × (List Int)) := go (fun x8 y1003 => some (x8, y1003)) k x7 y0 y1002 n x8 y1003
theorem step_nat {X Y : Type} (h : X → Option Y) (K : Int → (List Int) → Option X) (G : Int → (List Int) → Option X) (k : Nat) (x7 : Int) (y0 : (List Int)) (y1002 : (List Int)) (x8 : Int) (y1003 : (List Int)) : Option.bind (step K G k x7 y0 y1002 x8 y1003) h = step (fun x8 y1003 => Option.bind (K x8 y1003) h) (fun x8 y1003 => Option.bind (G x8 y1003) h) k x7 y0 y1002 x8 y1003 := by
  simp only [step, bif_bind, sel_bind', Option.bind_assoc, Option.bind_none, Option.bind_some]
theorem go_nat {X Y : Type} (h : X → Option Y) (K : Int → (List Int) → Option X) (k : Nat) (x7 : Int) (y0 : (List Int)) (y1002 : (List Int)) (n : Nat) : ∀ (x8 : Int) (y1003 : (List Int)), Option.bind (go K k x7 y0 y1002 n x8 y1003) h = go (fun x8 y1003 => Option.bind (K x8 y1003) h) k x7 y0 y1002 n x8 y1003 := by
  induction n with
  | zero => intros; rfl
  | succ n ih => intro x8 y1003; show Option.bind (step K (go K k x7 y0 y1002 n) k x7 y0 y1002 x8 y1003) h = step (fun x8 y1003 => Option.bind (K x8 y1003) h) (go (fun x8 y1003 => Option.bind (K x8 y1003) h) k x7 y0 y1002 n) k x7 y0 y1002 x8 y1003; rw [step_nat h]; simp only [ih]
abbrev S : List (Nat × Sh) := [(2, .ptr 1002), (3, .ptr 1003), (6, .vec 0), (7, .data (.int .i64)), (8, .data (.int .i64))]
abbrev H : List (Nat × ESh) := [(0, .rows true 3 (.int .i64)), (1002, .cell (.data (.arr .u64 4))), (1003, .cell (.data (.arr .u64 4)))]
def KX (d : (Unit × Unit × Unit × Int × Int × Unit)) (e : ((List Int) × (List Int) × (List Int) × Unit)) (v : (Int × (List Int))) : St := ⟨mkS S ((), (), (), d.2.2.2.1, v.1, ()), mkH H (e.1, e.2.1, v.2, ())⟩
def sum (k : Nat) : LoopSum := sigLoopX S H 0 (fun (d : (Unit × Unit × Unit × Int × Int × Unit)) (e : ((List Int) × (List Int) × (List Int) × Unit)) => f k d.2.2.2.1 e.1 e.2.1 k d.2.2.2.2.1 e.2.2.1) KX
end l0
def tree {X : Type} (K : (List Int) → Option X) (k : Nat) (m0 : (List Int)) : Option X :=
  (Option.bind (work_Chain.l0.f k ((List.length m0) : Int) m0 ([0, 0, 0, 0] : (List Int)) k (0 : Int) ([0, 0, 0, 0] : (List Int))) (fun r3 => (K r3.2)))
def f (k : Nat) (m0 : (List Int)) : Option (List Int) := tree (fun b0 => some b0) k m0
theorem tree_nat {X Y : Type} (h : X → Option Y) (K : (List Int) → Option X) (k : Nat) (m0 : (List Int)) : Option.bind (tree K k m0) h = tree (fun b0 => Option.bind (K b0) h) k m0 := by
  simp only [tree, bif_bind, sel_bind', Option.bind_assoc, Option.bind_none, Option.bind_some]
abbrev ps : List Sh := [.vec 0]
abbrev hs : List (Nat × ESh) := [(0, .rows true 3 (.int .i64))]
abbrev hi : List Nat := hs.map (·.1)
def val (t : (List Int)) : AV := Sh.mk (.data (.arr .u64 4)) t
def wr (t : (List Int)) : Heap := []
def callee (k : Nat) : Callee := sigCallee ps hs (fun (d : (Unit × Unit)) (e : ((List Int) × Unit)) => f k e.1) val wr
def E (k : Nat) : Env := ⟨fnTab [(90, [work_OfBits.callee k]), (95, [work_Sum.callee k])], loopTab [(0, l0.sum k)]⟩
theorem fE (k : Nat) : ∀ f, ∀ c ∈ (E k).fn f, CalleeOK Try.prog f c := fnTab_ok ⟨⟨work_OfBits.ok k, trivial⟩, ⟨work_Sum.ok k, trivial⟩, trivial⟩
namespace l0
theorem round (k : Nat) (d : (Unit × Unit × Unit × Int × Int × Unit)) (e : ((List Int) × (List Int) × (List Int) × Unit)) (G : St → Option (Ex × St)) : roundK Try.prog (E k) 19 0 (subC (bodyOf Try.f91) [1, 1, 0, 1, 0, 0]) (restrict (S.map (·.1)) (H.map (·.1))) (finBy (S.map (·.1)) (H.map (·.1)) [] []) G ⟨mkS S d, mkH H e⟩ =
    step (fun x8 y1003 => some (.exit 0, KX d e (x8, y1003))) (fun x8 y1003 => G ⟨mkS S ((), (), (), d.2.2.2.1, x8, ()), mkH H (e.1, e.2.1, y1003, ())⟩) k d.2.2.2.1 e.1 e.2.1 d.2.2.2.2.1 e.2.2.1 := by kernel_rfl
theorem it (k n : Nat) (d : (Unit × Unit × Unit × Int × Int × Unit)) (e : ((List Int) × (List Int) × (List Int) × Unit)) : loopIt Try.prog (E k) 19 0 (subC (bodyOf Try.f91) [1, 1, 0, 1, 0, 0]) (restrict (S.map (·.1)) (H.map (·.1))) (finBy (S.map (·.1)) (H.map (·.1)) [] []) n ⟨mkS S d, mkH H e⟩ = go (fun x8 y1003 => some (.exit 0, KX d e (x8, y1003))) k d.2.2.2.1 e.1 e.2.1 n d.2.2.2.2.1 e.2.2.1 :=
  loopIt_eq (D := (Unit × Unit × Unit × Int × Int × Unit) × ((List Int) × (List Int) × (List Int) × Unit)) (fun p => ⟨mkS S p.1, mkH H p.2⟩) (fun F p => step (fun x8 y1003 => some (.exit 0, KX p.1 p.2 (x8, y1003))) (fun x8 y1003 => F (((), (), (), p.1.2.2.2.1, x8, ()), (p.2.1, p.2.2.1, y1003, ()))) k p.1.2.2.2.1 p.2.1 p.2.2.1 p.1.2.2.2.2.1 p.2.2.2.1) (fun n p => go (fun x8 y1003 => some (.exit 0, KX p.1 p.2 (x8, y1003))) k p.1.2.2.2.1 p.2.1 p.2.2.1 n p.1.2.2.2.2.1 p.2.2.2.1) (fun _ => rfl) (fun _ _ => rfl) (fun G p => round k p.1 p.2 G) n (d, e)
theorem ok (k : Nat) : LoopOK Try.prog 19 (subC (bodyOf Try.f91) [1, 1, 0, 1, 0, 0]) (sum k) :=
  loop_sigX hm (fE k) (loopsOK_of [] (by kernel_rfl) trivial) S H 0 (fun (d : (Unit × Unit × Unit × Int × Int × Unit)) (e : ((List Int) × (List Int) × (List Int) × Unit)) => f k d.2.2.2.1 e.1 e.2.1 k d.2.2.2.2.1 e.2.2.1) KX (S.map (·.1)) (H.map (·.1)) [] [] k
    (fun d e => (it k k d e).trans (go_nat (fun v => some (Ex.exit 0, KX d e v)) (fun x8 y1003 => some (x8, y1003)) k d.2.2.2.1 e.1 e.2.1 k d.2.2.2.2.1 e.2.2.1).symm)
end l0
theorem run (k : Nat) (d : (Unit × Unit)) (e : ((List Int) × Unit)) : runFn Try.prog (E k) 19 (bodyOf Try.f91) Try.f91.results.toList hi (mkL ps d) (mkH hs e) =
    tree (fun b0 => leafFn hs hi e val wr b0) k e.1 := by kernel_rfl
theorem run_f (k : Nat) (d : (Unit × Unit)) (e : ((List Int) × Unit)) : runFn Try.prog (E k) 19 (bodyOf Try.f91) Try.f91.results.toList hi (mkL ps d) (mkH hs e) = (f k e.1).bind (leafFn hs hi e val wr) :=
  (run k d e).trans (tree_nat (leafFn hs hi e val wr) (fun b0 => some b0) k e.1).symm
theorem fnIs : FnIs Try.prog 91 Try.f91 (bodyOf Try.f91) 19 := ⟨by kernel_rfl, by kernel_rfl, by kernel_rfl, by kernel_rfl⟩
theorem ok (k : Nat) : CalleeOK Try.prog 91 (callee k) :=
  callee_sig (T := (List Int)) fnIs hm (fE k) (loopsOK_of [(0, subC (bodyOf Try.f91) [1, 1, 0, 1, 0, 0])] (by kernel_rfl) ⟨of_loop (l0.sum k) rfl (l0.ok k), trivial⟩) ps hs (fun (d : (Unit × Unit)) (e : ((List Int) × Unit)) => f k e.1) val wr rfl (fun _ => rfl) (run_f k)
end work_Chain
namespace trailheadlaw04_alive
def tree {X : Type} (K : Bool → Option X) (k : Nat) : Option X :=
  (Option.bind (work_OfBits.f k (545259519 : Int)) (fun r1 => (bif (decide (r1 = ([2, 0, 0, 0] : (List Int)))) then (Option.bind (work_Chain.f k ([545259519, 545259519] : (List Int))) (fun r2 => (K (decide (r2 = ([4, 0, 0, 0] : (List Int))))))) else (K false))))
def f (k : Nat) : Option Bool := tree (fun b0 => some b0) k
theorem tree_nat {X Y : Type} (h : X → Option Y) (K : Bool → Option X) (k : Nat) : Option.bind (tree K k) h = tree (fun b0 => Option.bind (K b0) h) k := by
  simp only [tree, bif_bind, sel_bind', Option.bind_assoc, Option.bind_none, Option.bind_some]
abbrev ps : List Sh := []
abbrev hs : List (Nat × ESh) := []
abbrev hi : List Nat := hs.map (·.1)
def val (t : Bool) : AV := Sh.mk (.data .bool) t
def wr (t : Bool) : Heap := []
def callee (k : Nat) : Callee := sigCallee ps hs (fun (d : Unit) (e : Unit) => f k) val wr
def E (k : Nat) : Env := ⟨fnTab [(90, [work_OfBits.callee k]), (91, [work_Chain.callee k])], loopTab []⟩
theorem fE (k : Nat) : ∀ f, ∀ c ∈ (E k).fn f, CalleeOK Try.prog f c := fnTab_ok ⟨⟨work_OfBits.ok k, trivial⟩, ⟨work_Chain.ok k, trivial⟩, trivial⟩
theorem run (k : Nat) (d : Unit) (e : Unit) : runFn Try.prog (E k) 10 (bodyOf Try.f75) Try.f75.results.toList hi (mkL ps d) (mkH hs e) =
    tree (fun b0 => leafFn hs hi e val wr b0) k := by kernel_rfl
theorem run_f (k : Nat) (d : Unit) (e : Unit) : runFn Try.prog (E k) 10 (bodyOf Try.f75) Try.f75.results.toList hi (mkL ps d) (mkH hs e) = (f k).bind (leafFn hs hi e val wr) :=
  (run k d e).trans (tree_nat (leafFn hs hi e val wr) (fun b0 => some b0) k).symm
theorem fnIs : FnIs Try.prog 75 Try.f75 (bodyOf Try.f75) 10 := ⟨by kernel_rfl, by kernel_rfl, by kernel_rfl, by kernel_rfl⟩
theorem ok (k : Nat) : CalleeOK Try.prog 75 (callee k) :=
  callee_sig (T := Bool) fnIs hm (fE k) (loopsOK_of [] (by kernel_rfl) trivial) ps hs (fun (d : Unit) (e : Unit) => f k) val wr rfl (fun _ => rfl) (run_f k)
end trailheadlaw04_alive
namespace trailheadlaw04_WorkFalls
def tree {X : Type} (K : Bool → Option X) (k : Nat) (a0 : (List Int)) (a1 : (List Int)) : Option X :=
  (Option.bind (trailheadlaw04_alive.f k) (fun r1 => (bif (!r1) then (K false) else (Option.bind (trailheadref02_Less.f k a1 a0) (fun r2 => (bif r2 then (K true) else (Option.bind (work_Of.f k a0) (fun r3 => (Option.bind (work_Of.f k a1) (fun r4 => (Option.bind (trailheadref02_Less.f k r3 r4) (fun r5 => (bif (!r5) then (bif (!(decide (r4 = ([0, 0, 0, 0] : (List Int))))) then (K (!(decide (r3 = ([0, 0, 0, 0] : (List Int)))))) else (K false)) else (K false))))))))))))))
def f (k : Nat) (a0 : (List Int)) (a1 : (List Int)) : Option Bool := tree (fun b0 => some b0) k a0 a1
theorem tree_nat {X Y : Type} (h : X → Option Y) (K : Bool → Option X) (k : Nat) (a0 : (List Int)) (a1 : (List Int)) : Option.bind (tree K k a0 a1) h = tree (fun b0 => Option.bind (K b0) h) k a0 a1 := by
  simp only [tree, bif_bind, sel_bind', Option.bind_assoc, Option.bind_none, Option.bind_some]
abbrev ps : List Sh := [.data (.arr .u64 4), .data (.arr .u64 4)]
abbrev hs : List (Nat × ESh) := []
abbrev hi : List Nat := hs.map (·.1)
def val (t : Bool) : AV := Sh.mk (.data .bool) t
def wr (t : Bool) : Heap := []
def callee (k : Nat) : Callee := sigCallee ps hs (fun (d : ((List Int) × (List Int) × Unit)) (e : Unit) => f k d.1 d.2.1) val wr
def E (k : Nat) : Env := ⟨fnTab [(75, [trailheadlaw04_alive.callee k]), (29, [trailheadref02_Less.callee k]), (76, [work_Of.callee k])], loopTab []⟩
theorem fE (k : Nat) : ∀ f, ∀ c ∈ (E k).fn f, CalleeOK Try.prog f c := fnTab_ok ⟨⟨trailheadlaw04_alive.ok k, trivial⟩, ⟨trailheadref02_Less.ok k, trivial⟩, ⟨work_Of.ok k, trivial⟩, trivial⟩
theorem run (k : Nat) (d : ((List Int) × (List Int) × Unit)) (e : Unit) : runFn Try.prog (E k) 30 (bodyOf Try.f20) Try.f20.results.toList hi (mkL ps d) (mkH hs e) =
    tree (fun b0 => leafFn hs hi e val wr b0) k d.1 d.2.1 := by kernel_rfl
theorem run_f (k : Nat) (d : ((List Int) × (List Int) × Unit)) (e : Unit) : runFn Try.prog (E k) 30 (bodyOf Try.f20) Try.f20.results.toList hi (mkL ps d) (mkH hs e) = (f k d.1 d.2.1).bind (leafFn hs hi e val wr) :=
  (run k d e).trans (tree_nat (leafFn hs hi e val wr) (fun b0 => some b0) k d.1 d.2.1).symm
theorem fnIs : FnIs Try.prog 20 Try.f20 (bodyOf Try.f20) 30 := ⟨by kernel_rfl, by kernel_rfl, by kernel_rfl, by kernel_rfl⟩
theorem ok (k : Nat) : CalleeOK Try.prog 20 (callee k) :=
  callee_sig (T := Bool) fnIs hm (fE k) (loopsOK_of [] (by kernel_rfl) trivial) ps hs (fun (d : ((List Int) × (List Int) × Unit)) (e : Unit) => f k d.1 d.2.1) val wr rfl (fun _ => rfl) (run_f k)
end trailheadlaw04_WorkFalls
namespace work_Near
def tree {X : Type} (K : Bool → Option X) (k : Nat) (a0 : (List Int)) (a1 : (List Int)) (a2 : (List Int)) : Option X :=
  (Option.bind (whole_Sub.f k a1 a0) (fun r1 => (bif r1.2 then (K true) else (Option.bind (whole_Less.f k a2 r1.1) (fun r2 => (K (!r2)))))))
def f (k : Nat) (a0 : (List Int)) (a1 : (List Int)) (a2 : (List Int)) : Option Bool := tree (fun b0 => some b0) k a0 a1 a2
theorem tree_nat {X Y : Type} (h : X → Option Y) (K : Bool → Option X) (k : Nat) (a0 : (List Int)) (a1 : (List Int)) (a2 : (List Int)) : Option.bind (tree K k a0 a1 a2) h = tree (fun b0 => Option.bind (K b0) h) k a0 a1 a2 := by
  simp only [tree, bif_bind, sel_bind', Option.bind_assoc, Option.bind_none, Option.bind_some]
abbrev ps : List Sh := [.data (.arr .u64 4), .data (.arr .u64 4), .data (.arr .u64 4)]
abbrev hs : List (Nat × ESh) := []
abbrev hi : List Nat := hs.map (·.1)
def val (t : Bool) : AV := Sh.mk (.data .bool) t
def wr (t : Bool) : Heap := []
def callee (k : Nat) : Callee := sigCallee ps hs (fun (d : ((List Int) × (List Int) × (List Int) × Unit)) (e : Unit) => f k d.1 d.2.1 d.2.2.1) val wr
def E (k : Nat) : Env := ⟨fnTab [(53, [whole_Sub.callee k]), (41, [whole_Less.callee k])], loopTab []⟩
theorem fE (k : Nat) : ∀ f, ∀ c ∈ (E k).fn f, CalleeOK Try.prog f c := fnTab_ok ⟨⟨whole_Sub.ok k, trivial⟩, ⟨whole_Less.ok k, trivial⟩, trivial⟩
theorem run (k : Nat) (d : ((List Int) × (List Int) × (List Int) × Unit)) (e : Unit) : runFn Try.prog (E k) 22 (bodyOf Try.f77) Try.f77.results.toList hi (mkL ps d) (mkH hs e) =
    tree (fun b0 => leafFn hs hi e val wr b0) k d.1 d.2.1 d.2.2.1 := by kernel_rfl
theorem run_f (k : Nat) (d : ((List Int) × (List Int) × (List Int) × Unit)) (e : Unit) : runFn Try.prog (E k) 22 (bodyOf Try.f77) Try.f77.results.toList hi (mkL ps d) (mkH hs e) = (f k d.1 d.2.1 d.2.2.1).bind (leafFn hs hi e val wr) :=
  (run k d e).trans (tree_nat (leafFn hs hi e val wr) (fun b0 => some b0) k d.1 d.2.1 d.2.2.1).symm
theorem fnIs : FnIs Try.prog 77 Try.f77 (bodyOf Try.f77) 22 := ⟨by kernel_rfl, by kernel_rfl, by kernel_rfl, by kernel_rfl⟩
theorem ok (k : Nat) : CalleeOK Try.prog 77 (callee k) :=
  callee_sig (T := Bool) fnIs hm (fE k) (loopsOK_of [] (by kernel_rfl) trivial) ps hs (fun (d : ((List Int) × (List Int) × (List Int) × Unit)) (e : Unit) => f k d.1 d.2.1 d.2.2.1) val wr rfl (fun _ => rfl) (run_f k)
end work_Near
namespace trailheadlaw04_WorkNear
def tree {X : Type} (K : Bool → Option X) (k : Nat) (a0 : (List Int)) (a1 : (List Int)) (a2 : (List Int)) : Option X :=
  (Option.bind (trailheadlaw04_alive.f k) (fun r1 => (bif (!r1) then (K false) else (Option.bind (trailheadref02_Add.f k a0 a2) (fun r2 => (Option.bind (work_Near.f k a0 a1 a2) (fun r3 => (bif r2.2 then (K (r3 == true)) else (Option.bind (trailheadref02_Less.f k r2.1 a1) (fun r4 => (K (r3 == (!r4)))))))))))))
def f (k : Nat) (a0 : (List Int)) (a1 : (List Int)) (a2 : (List Int)) : Option Bool := tree (fun b0 => some b0) k a0 a1 a2
theorem tree_nat {X Y : Type} (h : X → Option Y) (K : Bool → Option X) (k : Nat) (a0 : (List Int)) (a1 : (List Int)) (a2 : (List Int)) : Option.bind (tree K k a0 a1 a2) h = tree (fun b0 => Option.bind (K b0) h) k a0 a1 a2 := by
  simp only [tree, bif_bind, sel_bind', Option.bind_assoc, Option.bind_none, Option.bind_some]
abbrev ps : List Sh := [.data (.arr .u64 4), .data (.arr .u64 4), .data (.arr .u64 4)]
abbrev hs : List (Nat × ESh) := []
abbrev hi : List Nat := hs.map (·.1)
def val (t : Bool) : AV := Sh.mk (.data .bool) t
def wr (t : Bool) : Heap := []
def callee (k : Nat) : Callee := sigCallee ps hs (fun (d : ((List Int) × (List Int) × (List Int) × Unit)) (e : Unit) => f k d.1 d.2.1 d.2.2.1) val wr
def E (k : Nat) : Env := ⟨fnTab [(75, [trailheadlaw04_alive.callee k]), (52, [trailheadref02_Add.callee k]), (77, [work_Near.callee k]), (29, [trailheadref02_Less.callee k])], loopTab []⟩
theorem fE (k : Nat) : ∀ f, ∀ c ∈ (E k).fn f, CalleeOK Try.prog f c := fnTab_ok ⟨⟨trailheadlaw04_alive.ok k, trivial⟩, ⟨trailheadref02_Add.ok k, trivial⟩, ⟨work_Near.ok k, trivial⟩, ⟨trailheadref02_Less.ok k, trivial⟩, trivial⟩
theorem run (k : Nat) (d : ((List Int) × (List Int) × (List Int) × Unit)) (e : Unit) : runFn Try.prog (E k) 29 (bodyOf Try.f21) Try.f21.results.toList hi (mkL ps d) (mkH hs e) =
    tree (fun b0 => leafFn hs hi e val wr b0) k d.1 d.2.1 d.2.2.1 := by kernel_rfl
theorem run_f (k : Nat) (d : ((List Int) × (List Int) × (List Int) × Unit)) (e : Unit) : runFn Try.prog (E k) 29 (bodyOf Try.f21) Try.f21.results.toList hi (mkL ps d) (mkH hs e) = (f k d.1 d.2.1 d.2.2.1).bind (leafFn hs hi e val wr) :=
  (run k d e).trans (tree_nat (leafFn hs hi e val wr) (fun b0 => some b0) k d.1 d.2.1 d.2.2.1).symm
theorem fnIs : FnIs Try.prog 21 Try.f21 (bodyOf Try.f21) 29 := ⟨by kernel_rfl, by kernel_rfl, by kernel_rfl, by kernel_rfl⟩
theorem ok (k : Nat) : CalleeOK Try.prog 21 (callee k) :=
  callee_sig (T := Bool) fnIs hm (fE k) (loopsOK_of [] (by kernel_rfl) trivial) ps hs (fun (d : ((List Int) × (List Int) × (List Int) × Unit)) (e : Unit) => f k d.1 d.2.1 d.2.2.1) val wr rfl (fun _ => rfl) (run_f k)
end trailheadlaw04_WorkNear
end Go.Proofs.Ytjciljaojcekeaa.Sx
