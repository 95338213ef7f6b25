/- What the Go functions come to, on data: printed by pr.py. -/
import Derived.Test.YtjciljaojcekeaaSx18
import Derived.Test.YtjciljaojcekeaaProg
import Derived.Test.YtjciljaojcekeaaWA
namespace Go.Proofs.Ytjciljaojcekeaa.Sx
open Go Go.Proofs
set_option maxRecDepth 100000
set_option linter.unusedVariables false
set_option linter.unusedSimpArgs false
namespace compact_Good
def tree {X : Type} (K : Bool → Option X) (k : Nat) (a0 : Int) : Option X :=
  (bif (decide (a0 ≥ (0 : Int))) then (K (decide (a0 ≤ (4294967295 : Int)))) else (K false))
def f (k : Nat) (a0 : Int) : Option Bool := tree (fun b0 => some b0) k a0
theorem tree_nat {X Y : Type} (h : X → Option Y) (K : Bool → Option X) (k : Nat) (a0 : Int) : Option.bind (tree K k a0) h = tree (fun b0 => Option.bind (K b0) h) k a0 := by
  simp only [tree, bif_bind, sel_bind', Option.bind_assoc, Option.bind_none, Option.bind_some]
abbrev ps : List Sh := [.data (.int .i64)]
abbrev hs : List (Nat × ESh) := []
abbrev hi : List Nat := hs.map (·.1)
def val (t : Bool) : AV := Sh.mk (.data .bool) t
def wr (t : Bool) : Heap := []
def callee (k : Nat) : Callee := sigCallee ps hs (fun (d : (Int × Unit)) (e : Unit) => f k d.1) val wr
def E (k : Nat) : Env := ⟨fnTab [], loopTab []⟩
theorem fE (k : Nat) : ∀ f, ∀ c ∈ (E k).fn f, CalleeOK Try.prog f c := fnTab_ok trivial
theorem run (k : Nat) (d : (Int × Unit)) (e : Unit) : runFn Try.prog (E k) 9 (bodyOf Try.f36) Try.f36.results.toList hi (mkL ps d) (mkH hs e) =
    tree (fun b0 => leafFn hs hi e val wr b0) k d.1 := by kernel_rfl
theorem run_f (k : Nat) (d : (Int × Unit)) (e : Unit) : runFn Try.prog (E k) 9 (bodyOf Try.f36) Try.f36.results.toList hi (mkL ps d) (mkH hs e) = (f k d.1).bind (leafFn hs hi e val wr) :=
  (run k d e).trans (tree_nat (leafFn hs hi e val wr) (fun b0 => some b0) k d.1).symm
theorem fnIs : FnIs Try.prog 36 Try.f36 (bodyOf Try.f36) 9 := ⟨by kernel_rfl, by kernel_rfl, by kernel_rfl, by kernel_rfl⟩
theorem ok (k : Nat) : CalleeOK Try.prog 36 (callee k) :=
  callee_sig (T := Bool) fnIs hm (fE k) (loopsOK_of [] (by kernel_rfl) trivial) ps hs (fun (d : (Int × Unit)) (e : Unit) => f k d.1) val wr rfl (fun _ => rfl) (run_f k)
end compact_Good
namespace compact_Decode
def tree {X : Type} (K : (List Int) → Bool → Bool → Option X) (k : Nat) (a0 : Int) : Option X :=
  (Option.bind (compact_Good.f k a0) (fun r1 => (bif (!r1) then (K ([0, 0, 0, 0] : (List Int)) false false) else (Option.bind (whole_Of.f k (IntKind.wrap .u64 (andI .i64 a0 8388607))) (fun r2 => (bif (decide ((shrI .i64 a0 24) ≤ (3 : Int))) then (Option.bind (whole_Down.f k r2 (mulI .i64 8 (subI .i64 3 (shrI .i64 a0 24)))) (fun r3 => (bif ((andI .i64 a0 8388607) != (0 : Int)) then (bif ((andI .i64 a0 8388607) != (0 : Int)) then (bif (decide ((shrI .i64 a0 24) > (34 : Int))) then (K r3 ((andI .i64 a0 8388608) != (0 : Int)) true) else (bif (decide ((andI .i64 a0 8388607) > (255 : Int))) then (bif (decide ((shrI .i64 a0 24) > (33 : Int))) then (K r3 ((andI .i64 a0 8388608) != (0 : Int)) true) else (bif (decide ((andI .i64 a0 8388607) > (65535 : Int))) then (K r3 ((andI .i64 a0 8388608) != (0 : Int)) (decide ((shrI .i64 a0 24) > (32 : Int)))) else (K r3 ((andI .i64 a0 8388608) != (0 : Int)) false))) else (bif (decide ((andI .i64 a0 8388607) > (65535 : Int))) then (K r3 ((andI .i64 a0 8388608) != (0 : Int)) (decide ((shrI .i64 a0 24) > (32 : Int)))) else (K r3 ((andI .i64 a0 8388608) != (0 : Int)) false)))) else (K r3 ((andI .i64 a0 8388608) != (0 : Int)) false)) else (bif ((andI .i64 a0 8388607) != (0 : Int)) then (bif (decide ((shrI .i64 a0 24) > (34 : Int))) then (K r3 false true) else (bif (decide ((andI .i64 a0 8388607) > (255 : Int))) then (bif (decide ((shrI .i64 a0 24) > (33 : Int))) then (K r3 false true) else (bif (decide ((andI .i64 a0 8388607) > (65535 : Int))) then (K r3 false (decide ((shrI .i64 a0 24) > (32 : Int)))) else (K r3 false false))) else (bif (decide ((andI .i64 a0 8388607) > (65535 : Int))) then (K r3 false (decide ((shrI .i64 a0 24) > (32 : Int)))) else (K r3 false false)))) else (K r3 false false))))) else (Option.bind (whole_Up.f k r2 (mulI .i64 8 (subI .i64 (shrI .i64 a0 24) 3))) (fun r4 => (bif ((andI .i64 a0 8388607) != (0 : Int)) then (bif ((andI .i64 a0 8388607) != (0 : Int)) then (bif (decide ((shrI .i64 a0 24) > (34 : Int))) then (K r4 ((andI .i64 a0 8388608) != (0 : Int)) true) else (bif (decide ((andI .i64 a0 8388607) > (255 : Int))) then (bif (decide ((shrI .i64 a0 24) > (33 : Int))) then (K r4 ((andI .i64 a0 8388608) != (0 : Int)) true) else (bif (decide ((andI .i64 a0 8388607) > (65535 : Int))) then (K r4 ((andI .i64 a0 8388608) != (0 : Int)) (decide ((shrI .i64 a0 24) > (32 : Int)))) else (K r4 ((andI .i64 a0 8388608) != (0 : Int)) false))) else (bif (decide ((andI .i64 a0 8388607) > (65535 : Int))) then (K r4 ((andI .i64 a0 8388608) != (0 : Int)) (decide ((shrI .i64 a0 24) > (32 : Int)))) else (K r4 ((andI .i64 a0 8388608) != (0 : Int)) false)))) else (K r4 ((andI .i64 a0 8388608) != (0 : Int)) false)) else (bif ((andI .i64 a0 8388607) != (0 : Int)) then (bif (decide ((shrI .i64 a0 24) > (34 : Int))) then (K r4 false true) else (bif (decide ((andI .i64 a0 8388607) > (255 : Int))) then (bif (decide ((shrI .i64 a0 24) > (33 : Int))) then (K r4 false true) else (bif (decide ((andI .i64 a0 8388607) > (65535 : Int))) then (K r4 false (decide ((shrI .i64 a0 24) > (32 : Int)))) else (K r4 false false))) else (bif (decide ((andI .i64 a0 8388607) > (65535 : Int))) then (K r4 false (decide ((shrI .i64 a0 24) > (32 : Int)))) else (K r4 false false)))) else (K r4 false false)))))))))))
def f (k : Nat) (a0 : Int) : Option ((List Int) × (Bool × Bool)) := tree (fun b0 b1 b2 => some (b0, b1, b2)) k a0
theorem tree_nat {X Y : Type} (h : X → Option Y) (K : (List Int) → Bool → Bool → Option X) (k : Nat) (a0 : Int) : Option.bind (tree K k a0) h = tree (fun b0 b1 b2 => Option.bind (K b0 b1 b2) h) k a0 := by
  simp only [tree, bif_bind, sel_bind', Option.bind_assoc, Option.bind_none, Option.bind_some]
abbrev ps : List Sh := [.data (.int .i64)]
abbrev hs : List (Nat × ESh) := []
abbrev hi : List Nat := hs.map (·.1)
def val (t : ((List Int) × (Bool × Bool))) : AV := .tcons (Sh.mk (.data (.arr .u64 4)) t.1) (.tcons (Sh.mk (.data .bool) t.2.1) (.tcons (Sh.mk (.data .bool) t.2.2) .tnil))
def wr (t : ((List Int) × (Bool × Bool))) : Heap := []
def callee (k : Nat) : Callee := sigCallee ps hs (fun (d : (Int × Unit)) (e : Unit) => f k d.1) val wr
def E (k : Nat) : Env := ⟨fnTab [(36, [compact_Good.callee k]), (44, [whole_Of.callee k]), (60, [whole_Down.callee k]), (58, [whole_Up.callee k])], loopTab []⟩
theorem fE (k : Nat) : ∀ f, ∀ c ∈ (E k).fn f, CalleeOK Try.prog f c := fnTab_ok ⟨⟨compact_Good.ok k, trivial⟩, ⟨whole_Of.ok k, trivial⟩, ⟨whole_Down.ok k, trivial⟩, ⟨whole_Up.ok k, trivial⟩, trivial⟩
theorem run (k : Nat) (d : (Int × Unit)) (e : Unit) : runFn Try.prog (E k) 65 (bodyOf Try.f34) Try.f34.results.toList hi (mkL ps d) (mkH hs e) =
    tree (fun b0 b1 b2 => leafFn hs hi e val wr (b0, b1, b2)) k d.1 := by kernel_rfl
theorem run_f (k : Nat) (d : (Int × Unit)) (e : Unit) : runFn Try.prog (E k) 65 (bodyOf Try.f34) Try.f34.results.toList hi (mkL ps d) (mkH hs e) = (f k d.1).bind (leafFn hs hi e val wr) :=
  (run k d e).trans (tree_nat (leafFn hs hi e val wr) (fun b0 b1 b2 => some (b0, b1, b2)) k d.1).symm
theorem fnIs : FnIs Try.prog 34 Try.f34 (bodyOf Try.f34) 65 := ⟨by kernel_rfl, by kernel_rfl, by kernel_rfl, by kernel_rfl⟩
theorem ok (k : Nat) : CalleeOK Try.prog 34 (callee k) :=
  callee_sig (T := ((List Int) × (Bool × Bool))) fnIs hm (fE k) (loopsOK_of [] (by kernel_rfl) trivial) ps hs (fun (d : (Int × Unit)) (e : Unit) => f k d.1) val wr rfl (fun _ => rfl) (run_f k)
end compact_Decode
namespace trailheadlaw03_alive
def tree {X : Type} (K : Bool → Option X) (k : Nat) : Option X :=
  (Option.bind (compact_Decode.f k (486604799 : Int)) (fun r1 => (Option.bind (trailheadref02_Move.f k ([65535, 0, 0, 0] : (List Int)) (208 : Int)) (fun r2 => (bif (decide (r1.1 = r2)) then (bif (!r1.2.1) then (bif (!r1.2.2) then (Option.bind (compact_Good.f k (1 : Int)) (fun r3 => (K r3))) else (K false)) else (K false)) else (K false))))))
def f (k : Nat) : Option Bool := tree (fun b0 => some b0) k
theorem tree_nat {X Y : Type} (h : X → Option Y) (K : Bool → Option X) (k : Nat) : Option.bind (tree K k) h = tree (fun b0 => Option.bind (K b0) h) k := by
  simp only [tree, bif_bind, sel_bind', Option.bind_assoc, Option.bind_none, Option.bind_some]
abbrev ps : List Sh := []
abbrev hs : List (Nat × ESh) := []
abbrev hi : List Nat := hs.map (·.1)
def val (t : Bool) : AV := Sh.mk (.data .bool) t
def wr (t : Bool) : Heap := []
def callee (k : Nat) : Callee := sigCallee ps hs (fun (d : Unit) (e : Unit) => f k) val wr
def E (k : Nat) : Env := ⟨fnTab [(34, [compact_Decode.callee k]), (59, [trailheadref02_Move.callee k]), (36, [compact_Good.callee k])], loopTab []⟩
theorem fE (k : Nat) : ∀ f, ∀ c ∈ (E k).fn f, CalleeOK Try.prog f c := fnTab_ok ⟨⟨compact_Decode.ok k, trivial⟩, ⟨trailheadref02_Move.ok k, trivial⟩, ⟨compact_Good.ok k, trivial⟩, trivial⟩
theorem run (k : Nat) (d : Unit) (e : Unit) : runFn Try.prog (E k) 24 (bodyOf Try.f33) Try.f33.results.toList hi (mkL ps d) (mkH hs e) =
    tree (fun b0 => leafFn hs hi e val wr b0) k := by kernel_rfl
theorem run_f (k : Nat) (d : Unit) (e : Unit) : runFn Try.prog (E k) 24 (bodyOf Try.f33) Try.f33.results.toList hi (mkL ps d) (mkH hs e) = (f k).bind (leafFn hs hi e val wr) :=
  (run k d e).trans (tree_nat (leafFn hs hi e val wr) (fun b0 => some b0) k).symm
theorem fnIs : FnIs Try.prog 33 Try.f33 (bodyOf Try.f33) 24 := ⟨by kernel_rfl, by kernel_rfl, by kernel_rfl, by kernel_rfl⟩
theorem ok (k : Nat) : CalleeOK Try.prog 33 (callee k) :=
  callee_sig (T := Bool) fnIs hm (fE k) (loopsOK_of [] (by kernel_rfl) trivial) ps hs (fun (d : Unit) (e : Unit) => f k) val wr rfl (fun _ => rfl) (run_f k)
end trailheadlaw03_alive
namespace trailheadref03_Decode
def tree {X : Type} (K : (List Int) → Bool → Bool → Option X) (k : Nat) (a0 : Int) : Option X :=
  (bif (decide (a0 < (0 : Int))) then (K ([0, 0, 0, 0] : (List Int)) false false) else (bif (decide (a0 > (4294967295 : Int))) then (K ([0, 0, 0, 0] : (List Int)) false false) else (Option.bind (trailheadref02_Move.f k ([(IntKind.wrap .u64 (remI a0 8388608)), 0, 0, 0] : (List Int)) (mulI .i64 8 (subI .i64 (quoI .i64 a0 16777216) 3))) (fun r1 => (bif (decide ((remI a0 8388608) > (0 : Int))) then (bif (decide ((quoI .i64 a0 16777216) > (34 : Int))) then (bif (decide ((remI a0 8388608) > (0 : Int))) then (K r1 ((remI (quoI .i64 a0 8388608) 2) == (1 : Int)) true) else (K r1 false true)) else (bif (decide ((remI a0 8388608) > (255 : Int))) then (bif (decide ((quoI .i64 a0 16777216) > (33 : Int))) then (bif (decide ((remI a0 8388608) > (0 : Int))) then (K r1 ((remI (quoI .i64 a0 8388608) 2) == (1 : Int)) true) else (K r1 false true)) else (bif (decide ((remI a0 8388608) > (65535 : Int))) then (bif (decide ((remI a0 8388608) > (0 : Int))) then (K r1 ((remI (quoI .i64 a0 8388608) 2) == (1 : Int)) (decide ((quoI .i64 a0 16777216) > (32 : Int)))) else (K r1 false (decide ((quoI .i64 a0 16777216) > (32 : Int))))) else (bif (decide ((remI a0 8388608) > (0 : Int))) then (K r1 ((remI (quoI .i64 a0 8388608) 2) == (1 : Int)) false) else (K r1 false false)))) else (bif (decide ((remI a0 8388608) > (65535 : Int))) then (bif (decide ((remI a0 8388608) > (0 : Int))) then (K r1 ((remI (quoI .i64 a0 8388608) 2) == (1 : Int)) (decide ((quoI .i64 a0 16777216) > (32 : Int)))) else (K r1 false (decide ((quoI .i64 a0 16777216) > (32 : Int))))) else (bif (decide ((remI a0 8388608) > (0 : Int))) then (K r1 ((remI (quoI .i64 a0 8388608) 2) == (1 : Int)) false) else (K r1 false false))))) else (bif (decide ((remI a0 8388608) > (255 : Int))) then (bif (decide ((quoI .i64 a0 16777216) > (33 : Int))) then (bif (decide ((remI a0 8388608) > (0 : Int))) then (K r1 ((remI (quoI .i64 a0 8388608) 2) == (1 : Int)) true) else (K r1 false true)) else (bif (decide ((remI a0 8388608) > (65535 : Int))) then (bif (decide ((remI a0 8388608) > (0 : Int))) then (K r1 ((remI (quoI .i64 a0 8388608) 2) == (1 : Int)) (decide ((quoI .i64 a0 16777216) > (32 : Int)))) else (K r1 false (decide ((quoI .i64 a0 16777216) > (32 : Int))))) else (bif (decide ((remI a0 8388608) > (0 : Int))) then (K r1 ((remI (quoI .i64 a0 8388608) 2) == (1 : Int)) false) else (K r1 false false)))) else (bif (decide ((remI a0 8388608) > (65535 : Int))) then (bif (decide ((remI a0 8388608) > (0 : Int))) then (K r1 ((remI (quoI .i64 a0 8388608) 2) == (1 : Int)) (decide ((quoI .i64 a0 16777216) > (32 : Int)))) else (K r1 false (decide ((quoI .i64 a0 16777216) > (32 : Int))))) else (bif (decide ((remI a0 8388608) > (0 : Int))) then (K r1 ((remI (quoI .i64 a0 8388608) 2) == (1 : Int)) false) else (K r1 false false)))))))))
def f (k : Nat) (a0 : Int) : Option ((List Int) × (Bool × Bool)) := tree (fun b0 b1 b2 => some (b0, b1, b2)) k a0
theorem tree_nat {X Y : Type} (h : X → Option Y) (K : (List Int) → Bool → Bool → Option X) (k : Nat) (a0 : Int) : Option.bind (tree K k a0) h = tree (fun b0 b1 b2 => Option.bind (K b0 b1 b2) h) k a0 := by
  simp only [tree, bif_bind, sel_bind', Option.bind_assoc, Option.bind_none, Option.bind_some]
abbrev ps : List Sh := [.data (.int .i64)]
abbrev hs : List (Nat × ESh) := []
abbrev hi : List Nat := hs.map (·.1)
def val (t : ((List Int) × (Bool × Bool))) : AV := .tcons (Sh.mk (.data (.arr .u64 4)) t.1) (.tcons (Sh.mk (.data .bool) t.2.1) (.tcons (Sh.mk (.data .bool) t.2.2) .tnil))
def wr (t : ((List Int) × (Bool × Bool))) : Heap := []
def callee (k : Nat) : Callee := sigCallee ps hs (fun (d : (Int × Unit)) (e : Unit) => f k d.1) val wr
def E (k : Nat) : Env := ⟨fnTab [(59, [trailheadref02_Move.callee k])], loopTab []⟩
theorem fE (k : Nat) : ∀ f, ∀ c ∈ (E k).fn f, CalleeOK Try.prog f c := fnTab_ok ⟨⟨trailheadref02_Move.ok k, trivial⟩, trivial⟩
theorem run (k : Nat) (d : (Int × Unit)) (e : Unit) : runFn Try.prog (E k) 61 (bodyOf Try.f35) Try.f35.results.toList hi (mkL ps d) (mkH hs e) =
    tree (fun b0 b1 b2 => leafFn hs hi e val wr (b0, b1, b2)) k d.1 := by kernel_rfl
theorem run_f (k : Nat) (d : (Int × Unit)) (e : Unit) : runFn Try.prog (E k) 61 (bodyOf Try.f35) Try.f35.results.toList hi (mkL ps d) (mkH hs e) = (f k d.1).bind (leafFn hs hi e val wr) :=
  (run k d e).trans (tree_nat (leafFn hs hi e val wr) (fun b0 b1 b2 => some (b0, b1, b2)) k d.1).symm
theorem fnIs : FnIs Try.prog 35 Try.f35 (bodyOf Try.f35) 61 := ⟨by kernel_rfl, by kernel_rfl, by kernel_rfl, by kernel_rfl⟩
theorem ok (k : Nat) : CalleeOK Try.prog 35 (callee k) :=
  callee_sig (T := ((List Int) × (Bool × Bool))) fnIs hm (fE k) (loopsOK_of [] (by kernel_rfl) trivial) ps hs (fun (d : (Int × Unit)) (e : Unit) => f k d.1) val wr rfl (fun _ => rfl) (run_f k)
end trailheadref03_Decode
namespace trailheadlaw03_CompactDecodes
def tree {X : Type} (K : Bool → Option X) (k : Nat) (a0 : Int) : Option X :=
  (Option.bind (trailheadlaw03_alive.f k) (fun r1 => (bif (!r1) then (K false) else (Option.bind (compact_Decode.f k a0) (fun r2 => (Option.bind (trailheadref03_Decode.f k a0) (fun r3 => (bif (decide (r2.1 = r3.1)) then (bif (r2.2.1 == r3.2.1) then (bif (r2.2.2 == r3.2.2) then (Option.bind (compact_Good.f k a0) (fun r4 => (bif (decide (a0 ≥ (0 : Int))) then (K (r4 == (decide (a0 < (4294967296 : Int))))) else (K (r4 == false))))) else (K false)) else (K false)) else (K false)))))))))
def f (k : Nat) (a0 : Int) : Option Bool := tree (fun b0 => some b0) k a0
theorem tree_nat {X Y : Type} (h : X → Option Y) (K : Bool → Option X) (k : Nat) (a0 : Int) : Option.bind (tree K k a0) h = tree (fun b0 => Option.bind (K b0) h) k a0 := by
  simp only [tree, bif_bind, sel_bind', Option.bind_assoc, Option.bind_none, Option.bind_some]
abbrev ps : List Sh := [.data (.int .i64)]
abbrev hs : List (Nat × ESh) := []
abbrev hi : List Nat := hs.map (·.1)
def val (t : Bool) : AV := Sh.mk (.data .bool) t
def wr (t : Bool) : Heap := []
def callee (k : Nat) : Callee := sigCallee ps hs (fun (d : (Int × Unit)) (e : Unit) => f k d.1) val wr
def E (k : Nat) : Env := ⟨fnTab [(33, [trailheadlaw03_alive.callee k]), (34, [compact_Decode.callee k]), (35, [trailheadref03_Decode.callee k]), (36, [compact_Good.callee k])], loopTab []⟩
theorem fE (k : Nat) : ∀ f, ∀ c ∈ (E k).fn f, CalleeOK Try.prog f c := fnTab_ok ⟨⟨trailheadlaw03_alive.ok k, trivial⟩, ⟨compact_Decode.ok k, trivial⟩, ⟨trailheadref03_Decode.ok k, trivial⟩, ⟨compact_Good.ok k, trivial⟩, trivial⟩
theorem run (k : Nat) (d : (Int × Unit)) (e : Unit) : runFn Try.prog (E k) 47 (bodyOf Try.f4) Try.f4.results.toList hi (mkL ps d) (mkH hs e) =
    tree (fun b0 => leafFn hs hi e val wr b0) k d.1 := by kernel_rfl
theorem run_f (k : Nat) (d : (Int × Unit)) (e : Unit) : runFn Try.prog (E k) 47 (bodyOf Try.f4) Try.f4.results.toList hi (mkL ps d) (mkH hs e) = (f k d.1).bind (leafFn hs hi e val wr) :=
  (run k d e).trans (tree_nat (leafFn hs hi e val wr) (fun b0 => some b0) k d.1).symm
theorem fnIs : FnIs Try.prog 4 Try.f4 (bodyOf Try.f4) 47 := ⟨by kernel_rfl, by kernel_rfl, by kernel_rfl, by kernel_rfl⟩
theorem ok (k : Nat) : CalleeOK Try.prog 4 (callee k) :=
  callee_sig (T := Bool) fnIs hm (fE k) (loopsOK_of [] (by kernel_rfl) trivial) ps hs (fun (d : (Int × Unit)) (e : Unit) => f k d.1) val wr rfl (fun _ => rfl) (run_f k)
end trailheadlaw03_CompactDecodes
namespace trailheadref03_Number
namespace l0
def step {X : Type} (K : Int → (List Int) → Option X) (G : Int → (List Int) → Option X) (k : Nat) (y1001 : (List Int)) (y1002 : (List Int)) (x4 : Int) (y1003 : (List Int)) : Option X :=
  (bif (decide (x4 ≥ (0 : Int))) then (Option.bind (trailheadref02_Move.f k y1003 (8 : Int)) (fun r1 => (bif (decide (0 ≤ x4)) then (bif (decide (x4 < 32)) then (bif (decide ((Int.toNat x4) < 32)) then (G (subI .i64 x4 1) (List.set r1 0 (addI .u64 (List.getD r1 0 0) (IntKind.wrap .u64 (List.getD y1001 (Int.toNat x4) 0))))) else none) else none) else none))) else (K x4 y1003))
def go {X : Type} (K : Int → (List Int) → Option X) (k : Nat) (y1001 : (List Int)) (y1002 : (List Int)) : Nat → Int → (List Int) → Option X
  | 0, _, _ => none
  | n + 1, x4, y1003 => step K (go K k y1001 y1002 n) k y1001 y1002 x4 y1003
def f (k : Nat) (y1001 : (List Int)) (y1002 : (List Int)) (n : Nat) (x4 : Int) (y1003 : (List Int)) : Option (Int × (List Int)) := go (fun x4 y1003 => some (x4, y1003)) k y1001 y1002 n x4 y1003
theorem step_nat {X Y : Type} (h : X → Option Y) (K : Int → (List Int) → Option X) (G : Int → (List Int) → Option X) (k : Nat) (y1001 : (List Int)) (y1002 : (List Int)) (x4 : Int) (y1003 : (List Int)) : Option.bind (step K G k y1001 y1002 x4 y1003) h = step (fun x4 y1003 => Option.bind (K x4 y1003) h) (fun x4 y1003 => Option.bind (G x4 y1003) h) k y1001 y1002 x4 y1003 := by
  simp only [step, bif_bind, sel_bind', Option.bind_assoc, Option.bind_none, Option.bind_some]
theorem go_nat {X Y : Type} (h : X → Option Y) (K : Int → (List Int) → Option X) (k : Nat) (y1001 : (List Int)) (y1002 : (List Int)) (n : Nat) : ∀ (x4 : Int) (y1003 : (List Int)), Option.bind (go K k y1001 y1002 n x4 y1003) h = go (fun x4 y1003 => Option.bind (K x4 y1003) h) k y1001 y1002 n x4 y1003 := by
  induction n with
  | zero => intros; rfl
  | succ n ih => intro x4 y1003; show Option.bind (step K (go K k y1001 y1002 n) k y1001 y1002 x4 y1003) h = step (fun x4 y1003 => Option.bind (K x4 y1003) h) (go (fun x4 y1003 => Option.bind (K x4 y1003) h) k y1001 y1002 n) k y1001 y1002 x4 y1003; rw [step_nat h]; simp only [ih]
abbrev S : List (Nat × Sh) := [(1, .ptr 1001), (2, .ptr 1002), (3, .ptr 1003), (4, .data (.int .i64))]
abbrev H : List (Nat × ESh) := [(1001, .cell (.data (.arr .u8 32))), (1002, .cell (.data (.arr .u64 4))), (1003, .cell (.data (.arr .u64 4)))]
def KX (d : (Unit × Unit × Unit × Int × Unit)) (e : ((List Int) × (List Int) × (List Int) × Unit)) (v : (Int × (List Int))) : St := ⟨mkS S ((), (), (), v.1, ()), mkH H (e.1, e.2.1, v.2, ())⟩
def sum (k : Nat) : LoopSum := sigLoopX S H 0 (fun (d : (Unit × Unit × Unit × Int × Unit)) (e : ((List Int) × (List Int) × (List Int) × Unit)) => f k e.1 e.2.1 k d.2.2.2.1 e.2.2.1) KX
end l0
def tree {X : Type} (K : (List Int) → Option X) (k : Nat) (a0 : (List Int)) : Option X :=
  (Option.bind (trailheadref03_Number.l0.f k a0 ([0, 0, 0, 0] : (List Int)) k (31 : Int) ([0, 0, 0, 0] : (List Int))) (fun r2 => (K r2.2)))
def f (k : Nat) (a0 : (List Int)) : Option (List Int) := tree (fun b0 => some b0) k a0
theorem tree_nat {X Y : Type} (h : X → Option Y) (K : (List Int) → Option X) (k : Nat) (a0 : (List Int)) : Option.bind (tree K k a0) h = tree (fun b0 => Option.bind (K b0) h) k a0 := by
  simp only [tree, bif_bind, sel_bind', Option.bind_assoc, Option.bind_none, Option.bind_some]
abbrev ps : List Sh := [.data (.arr .u8 32)]
abbrev hs : List (Nat × ESh) := []
abbrev hi : List Nat := hs.map (·.1)
def val (t : (List Int)) : AV := Sh.mk (.data (.arr .u64 4)) t
def wr (t : (List Int)) : Heap := []
def callee (k : Nat) : Callee := sigCallee ps hs (fun (d : ((List Int) × Unit)) (e : Unit) => f k d.1) val wr
def E (k : Nat) : Env := ⟨fnTab [(59, [trailheadref02_Move.callee k])], loopTab [(0, l0.sum k)]⟩
theorem fE (k : Nat) : ∀ f, ∀ c ∈ (E k).fn f, CalleeOK Try.prog f c := fnTab_ok ⟨⟨trailheadref02_Move.ok k, trivial⟩, trivial⟩
namespace l0
theorem round (k : Nat) (d : (Unit × Unit × Unit × Int × Unit)) (e : ((List Int) × (List Int) × (List Int) × Unit)) (G : St → Option (Ex × St)) : roundK Try.prog (E k) 21 0 (subC (bodyOf Try.f47) [1, 1, 0, 1, 0, 0]) (restrict (S.map (·.1)) (H.map (·.1))) (finBy (S.map (·.1)) (H.map (·.1)) [] []) G ⟨mkS S d, mkH H e⟩ =
    step (fun x4 y1003 => some (.exit 0, KX d e (x4, y1003))) (fun x4 y1003 => G ⟨mkS S ((), (), (), x4, ()), mkH H (e.1, e.2.1, y1003, ())⟩) k e.1 e.2.1 d.2.2.2.1 e.2.2.1 := by kernel_rfl
theorem it (k n : Nat) (d : (Unit × Unit × Unit × Int × Unit)) (e : ((List Int) × (List Int) × (List Int) × Unit)) : loopIt Try.prog (E k) 21 0 (subC (bodyOf Try.f47) [1, 1, 0, 1, 0, 0]) (restrict (S.map (·.1)) (H.map (·.1))) (finBy (S.map (·.1)) (H.map (·.1)) [] []) n ⟨mkS S d, mkH H e⟩ = go (fun x4 y1003 => some (.exit 0, KX d e (x4, y1003))) k e.1 e.2.1 n d.2.2.2.1 e.2.2.1 :=
  loopIt_eq (D := (Unit × Unit × Unit × Int × Unit) × ((List Int) × (List Int) × (List Int) × Unit)) (fun p => ⟨mkS S p.1, mkH H p.2⟩) (fun F p => step (fun x4 y1003 => some (.exit 0, KX p.1 p.2 (x4, y1003))) (fun x4 y1003 => F (((), (), (), x4, ()), (p.2.1, p.2.2.1, y1003, ()))) k p.2.1 p.2.2.1 p.1.2.2.2.1 p.2.2.2.1) (fun n p => go (fun x4 y1003 => some (.exit 0, KX p.1 p.2 (x4, y1003))) k p.2.1 p.2.2.1 n p.1.2.2.2.1 p.2.2.2.1) (fun _ => rfl) (fun _ _ => rfl) (fun G p => round k p.1 p.2 G) n (d, e)
theorem ok (k : Nat) : LoopOK Try.prog 21 (subC (bodyOf Try.f47) [1, 1, 0, 1, 0, 0]) (sum k) :=
  loop_sigX hm (fE k) (loopsOK_of [] (by kernel_rfl) trivial) S H 0 (fun (d : (Unit × Unit × Unit × Int × Unit)) (e : ((List Int) × (List Int) × (List Int) × Unit)) => f k e.1 e.2.1 k d.2.2.2.1 e.2.2.1) KX (S.map (·.1)) (H.map (·.1)) [] [] k
    (fun d e => (it k k d e).trans (go_nat (fun v => some (Ex.exit 0, KX d e v)) (fun x4 y1003 => some (x4, y1003)) k e.1 e.2.1 k d.2.2.2.1 e.2.2.1).symm)
end l0
theorem run (k : Nat) (d : ((List Int) × Unit)) (e : Unit) : runFn Try.prog (E k) 21 (bodyOf Try.f47) Try.f47.results.toList hi (mkL ps d) (mkH hs e) =
    tree (fun b0 => leafFn hs hi e val wr b0) k d.1 := by kernel_rfl
theorem run_f (k : Nat) (d : ((List Int) × Unit)) (e : Unit) : runFn Try.prog (E k) 21 (bodyOf Try.f47) Try.f47.results.toList hi (mkL ps d) (mkH hs e) = (f k d.1).bind (leafFn hs hi e val wr) :=
  (run k d e).trans (tree_nat (leafFn hs hi e val wr) (fun b0 => some b0) k d.1).symm
theorem fnIs : FnIs Try.prog 47 Try.f47 (bodyOf Try.f47) 21 := ⟨by kernel_rfl, by kernel_rfl, by kernel_rfl, by kernel_rfl⟩
theorem ok (k : Nat) : CalleeOK Try.prog 47 (callee k) :=
  callee_sig (T := (List Int)) fnIs hm (fE k) (loopsOK_of [(0, subC (bodyOf Try.f47) [1, 1, 0, 1, 0, 0])] (by kernel_rfl) ⟨of_loop (l0.sum k) rfl (l0.ok k), trivial⟩) ps hs (fun (d : ((List Int) × Unit)) (e : Unit) => f k d.1) val wr rfl (fun _ => rfl) (run_f k)
end trailheadref03_Number
namespace compact_Meets
def tree {X : Type} (K : Bool → Option X) (k : Nat) (a0 : (List Int)) (a1 : (List Int)) : Option X :=
  (Option.bind (whole_FromHash.f k a0) (fun r1 => (Option.bind (whole_Less.f k a1 r1) (fun r2 => (K (!r2))))))
def f (k : Nat) (a0 : (List Int)) (a1 : (List Int)) : Option Bool := tree (fun b0 => some b0) k a0 a1
theorem tree_nat {X Y : Type} (h : X → Option Y) (K : Bool → Option X) (k : Nat) (a0 : (List Int)) (a1 : (List Int)) : Option.bind (tree K k a0 a1) h = tree (fun b0 => Option.bind (K b0) h) k a0 a1 := by
  simp only [tree, bif_bind, sel_bind', Option.bind_assoc, Option.bind_none, Option.bind_some]
abbrev ps : List Sh := [.data (.arr .u8 32), .data (.arr .u64 4)]
abbrev hs : List (Nat × ESh) := []
abbrev hi : List Nat := hs.map (·.1)
def val (t : Bool) : AV := Sh.mk (.data .bool) t
def wr (t : Bool) : Heap := []
def callee (k : Nat) : Callee := sigCallee ps hs (fun (d : ((List Int) × (List Int) × Unit)) (e : Unit) => f k d.1 d.2.1) val wr
def E (k : Nat) : Env := ⟨fnTab [(45, [whole_FromHash.callee k]), (41, [whole_Less.callee k])], loopTab []⟩
theorem fE (k : Nat) : ∀ f, ∀ c ∈ (E k).fn f, CalleeOK Try.prog f c := fnTab_ok ⟨⟨whole_FromHash.ok k, trivial⟩, ⟨whole_Less.ok k, trivial⟩, trivial⟩
theorem run (k : Nat) (d : ((List Int) × (List Int) × Unit)) (e : Unit) : runFn Try.prog (E k) 10 (bodyOf Try.f48) Try.f48.results.toList hi (mkL ps d) (mkH hs e) =
    tree (fun b0 => leafFn hs hi e val wr b0) k d.1 d.2.1 := by kernel_rfl
theorem run_f (k : Nat) (d : ((List Int) × (List Int) × Unit)) (e : Unit) : runFn Try.prog (E k) 10 (bodyOf Try.f48) Try.f48.results.toList hi (mkL ps d) (mkH hs e) = (f k d.1 d.2.1).bind (leafFn hs hi e val wr) :=
  (run k d e).trans (tree_nat (leafFn hs hi e val wr) (fun b0 => some b0) k d.1 d.2.1).symm
theorem fnIs : FnIs Try.prog 48 Try.f48 (bodyOf Try.f48) 10 := ⟨by kernel_rfl, by kernel_rfl, by kernel_rfl, by kernel_rfl⟩
theorem ok (k : Nat) : CalleeOK Try.prog 48 (callee k) :=
  callee_sig (T := Bool) fnIs hm (fE k) (loopsOK_of [] (by kernel_rfl) trivial) ps hs (fun (d : ((List Int) × (List Int) × Unit)) (e : Unit) => f k d.1 d.2.1) val wr rfl (fun _ => rfl) (run_f k)
end compact_Meets
namespace trailheadlaw03_CompactMeets
def tree {X : Type} (K : Bool → Option X) (k : Nat) (a0 : (List Int)) (a1 : (List Int)) (a2 : (List Int)) : Option X :=
  (Option.bind (trailheadlaw03_alive.f k) (fun r1 => (bif (!r1) then (K false) else (Option.bind (trailheadref03_Number.f k a0) (fun r2 => (Option.bind (compact_Meets.f k a0 a1) (fun r3 => (Option.bind (trailheadref02_Less.f k a1 r2) (fun r4 => (bif (r3 == (!r4)) then (bif (!r3) then (K true) else (Option.bind (trailheadref02_Less.f k a2 a1) (fun r5 => (bif r5 then (K true) else (Option.bind (compact_Meets.f k a0 a2) (fun r6 => (K r6))))))) else (K false)))))))))))
def f (k : Nat) (a0 : (List Int)) (a1 : (List Int)) (a2 : (List Int)) : Option Bool := tree (fun b0 => some b0) k a0 a1 a2
theorem tree_nat {X Y : Type} (h : X → Option Y) (K : Bool → Option X) (k : Nat) (a0 : (List Int)) (a1 : (List Int)) (a2 : (List Int)) : Option.bind (tree K k a0 a1 a2) h = tree (fun b0 => Option.bind (K b0) h) k a0 a1 a2 := by
  simp only [tree, bif_bind, sel_bind', Option.bind_assoc, Option.bind_none, Option.bind_some]
abbrev ps : List Sh := [.data (.arr .u8 32), .data (.arr .u64 4), .data (.arr .u64 4)]
abbrev hs : List (Nat × ESh) := []
abbrev hi : List Nat := hs.map (·.1)
def val (t : Bool) : AV := Sh.mk (.data .bool) t
def wr (t : Bool) : Heap := []
def callee (k : Nat) : Callee := sigCallee ps hs (fun (d : ((List Int) × (List Int) × (List Int) × Unit)) (e : Unit) => f k d.1 d.2.1 d.2.2.1) val wr
def E (k : Nat) : Env := ⟨fnTab [(33, [trailheadlaw03_alive.callee k]), (47, [trailheadref03_Number.callee k]), (48, [compact_Meets.callee k]), (29, [trailheadref02_Less.callee k])], loopTab []⟩
theorem fE (k : Nat) : ∀ f, ∀ c ∈ (E k).fn f, CalleeOK Try.prog f c := fnTab_ok ⟨⟨trailheadlaw03_alive.ok k, trivial⟩, ⟨trailheadref03_Number.ok k, trivial⟩, ⟨compact_Meets.ok k, trivial⟩, ⟨trailheadref02_Less.ok k, trivial⟩, trivial⟩
theorem run (k : Nat) (d : ((List Int) × (List Int) × (List Int) × Unit)) (e : Unit) : runFn Try.prog (E k) 36 (bodyOf Try.f9) Try.f9.results.toList hi (mkL ps d) (mkH hs e) =
    tree (fun b0 => leafFn hs hi e val wr b0) k d.1 d.2.1 d.2.2.1 := by kernel_rfl
theorem run_f (k : Nat) (d : ((List Int) × (List Int) × (List Int) × Unit)) (e : Unit) : runFn Try.prog (E k) 36 (bodyOf Try.f9) Try.f9.results.toList hi (mkL ps d) (mkH hs e) = (f k d.1 d.2.1 d.2.2.1).bind (leafFn hs hi e val wr) :=
  (run k d e).trans (tree_nat (leafFn hs hi e val wr) (fun b0 => some b0) k d.1 d.2.1 d.2.2.1).symm
theorem fnIs : FnIs Try.prog 9 Try.f9 (bodyOf Try.f9) 36 := ⟨by kernel_rfl, by kernel_rfl, by kernel_rfl, by kernel_rfl⟩
theorem ok (k : Nat) : CalleeOK Try.prog 9 (callee k) :=
  callee_sig (T := Bool) fnIs hm (fE k) (loopsOK_of [] (by kernel_rfl) trivial) ps hs (fun (d : ((List Int) × (List Int) × (List Int) × Unit)) (e : Unit) => f k d.1 d.2.1 d.2.2.1) val wr rfl (fun _ => rfl) (run_f k)
end trailheadlaw03_CompactMeets
namespace compact_Target
def tree {X : Type} (K : (List Int) → Bool → Option X) (k : Nat) (a0 : Int) (a1 : Int) : Option X :=
  (Option.bind (compact_Decode.f k a0) (fun r1 => (Option.bind (compact_Decode.f k a1) (fun r2 => (bif r1.2.1 then (K ([0, 0, 0, 0] : (List Int)) false) else (bif r1.2.2 then (K ([0, 0, 0, 0] : (List Int)) false) else (bif r2.2.1 then (K ([0, 0, 0, 0] : (List Int)) false) else (bif r2.2.2 then (K ([0, 0, 0, 0] : (List Int)) false) else (Option.bind (whole_Zero.f k r1.1) (fun r3 => (bif r3 then (K ([0, 0, 0, 0] : (List Int)) false) else (Option.bind (whole_Less.f k r2.1 r1.1) (fun r4 => (bif r4 then (K ([0, 0, 0, 0] : (List Int)) false) else (K r1.1 true)))))))))))))))
def f (k : Nat) (a0 : Int) (a1 : Int) : Option ((List Int) × Bool) := tree (fun b0 b1 => some (b0, b1)) k a0 a1
theorem tree_nat {X Y : Type} (h : X → Option Y) (K : (List Int) → Bool → Option X) (k : Nat) (a0 : Int) (a1 : Int) : Option.bind (tree K k a0 a1) h = tree (fun b0 b1 => Option.bind (K b0 b1) h) k a0 a1 := by
  simp only [tree, bif_bind, sel_bind', Option.bind_assoc, Option.bind_none, Option.bind_some]
abbrev ps : List Sh := [.data (.int .i64), .data (.int .i64)]
abbrev hs : List (Nat × ESh) := []
abbrev hi : List Nat := hs.map (·.1)
def val (t : ((List Int) × Bool)) : AV := .tcons (Sh.mk (.data (.arr .u64 4)) t.1) (.tcons (Sh.mk (.data .bool) t.2) .tnil)
def wr (t : ((List Int) × Bool)) : Heap := []
def callee (k : Nat) : Callee := sigCallee ps hs (fun (d : (Int × Int × Unit)) (e : Unit) => f k d.1 d.2.1) val wr
def E (k : Nat) : Env := ⟨fnTab [(34, [compact_Decode.callee k]), (42, [whole_Zero.callee k]), (41, [whole_Less.callee k])], loopTab []⟩
theorem fE (k : Nat) : ∀ f, ∀ c ∈ (E k).fn f, CalleeOK Try.prog f c := fnTab_ok ⟨⟨compact_Decode.ok k, trivial⟩, ⟨whole_Zero.ok k, trivial⟩, ⟨whole_Less.ok k, trivial⟩, trivial⟩
theorem run (k : Nat) (d : (Int × Int × Unit)) (e : Unit) : runFn Try.prog (E k) 45 (bodyOf Try.f49) Try.f49.results.toList hi (mkL ps d) (mkH hs e) =
    tree (fun b0 b1 => leafFn hs hi e val wr (b0, b1)) k d.1 d.2.1 := by kernel_rfl
theorem run_f (k : Nat) (d : (Int × Int × Unit)) (e : Unit) : runFn Try.prog (E k) 45 (bodyOf Try.f49) Try.f49.results.toList hi (mkL ps d) (mkH hs e) = (f k d.1 d.2.1).bind (leafFn hs hi e val wr) :=
  (run k d e).trans (tree_nat (leafFn hs hi e val wr) (fun b0 b1 => some (b0, b1)) k d.1 d.2.1).symm
theorem fnIs : FnIs Try.prog 49 Try.f49 (bodyOf Try.f49) 45 := ⟨by kernel_rfl, by kernel_rfl, by kernel_rfl, by kernel_rfl⟩
theorem ok (k : Nat) : CalleeOK Try.prog 49 (callee k) :=
  callee_sig (T := ((List Int) × Bool)) fnIs hm (fE k) (loopsOK_of [] (by kernel_rfl) trivial) ps hs (fun (d : (Int × Int × Unit)) (e : Unit) => f k d.1 d.2.1) val wr rfl (fun _ => rfl) (run_f k)
end compact_Target
namespace trailheadref03_Target
def tree {X : Type} (K : (List Int) → Bool → Option X) (k : Nat) (a0 : Int) (a1 : Int) : Option X :=
  (Option.bind (trailheadref03_Decode.f k a0) (fun r1 => (Option.bind (trailheadref03_Decode.f k a1) (fun r2 => (bif r1.2.1 then (K ([0, 0, 0, 0] : (List Int)) false) else (bif r1.2.2 then (K ([0, 0, 0, 0] : (List Int)) false) else (bif r2.2.1 then (K ([0, 0, 0, 0] : (List Int)) false) else (bif r2.2.2 then (K ([0, 0, 0, 0] : (List Int)) false) else (bif (decide (r1.1 = ([0, 0, 0, 0] : (List Int)))) then (K ([0, 0, 0, 0] : (List Int)) false) else (Option.bind (trailheadref02_Less.f k r2.1 r1.1) (fun r3 => (bif r3 then (K ([0, 0, 0, 0] : (List Int)) false) else (K r1.1 true)))))))))))))
def f (k : Nat) (a0 : Int) (a1 : Int) : Option ((List Int) × Bool) := tree (fun b0 b1 => some (b0, b1)) k a0 a1
theorem tree_nat {X Y : Type} (h : X → Option Y) (K : (List Int) → Bool → Option X) (k : Nat) (a0 : Int) (a1 : Int) : Option.bind (tree K k a0 a1) h = tree (fun b0 b1 => Option.bind (K b0 b1) h) k a0 a1 := by
  simp only [tree, bif_bind, sel_bind', Option.bind_assoc, Option.bind_none, Option.bind_some]
abbrev ps : List Sh := [.data (.int .i64), .data (.int .i64)]
abbrev hs : List (Nat × ESh) := []
abbrev hi : List Nat := hs.map (·.1)
def val (t : ((List Int) × Bool)) : AV := .tcons (Sh.mk (.data (.arr .u64 4)) t.1) (.tcons (Sh.mk (.data .bool) t.2) .tnil)
def wr (t : ((List Int) × Bool)) : Heap := []
def callee (k : Nat) : Callee := sigCallee ps hs (fun (d : (Int × Int × Unit)) (e : Unit) => f k d.1 d.2.1) val wr
def E (k : Nat) : Env := ⟨fnTab [(35, [trailheadref03_Decode.callee k]), (29, [trailheadref02_Less.callee k])], loopTab []⟩
theorem fE (k : Nat) : ∀ f, ∀ c ∈ (E k).fn f, CalleeOK Try.prog f c := fnTab_ok ⟨⟨trailheadref03_Decode.ok k, trivial⟩, ⟨trailheadref02_Less.ok k, trivial⟩, trivial⟩
theorem run (k : Nat) (d : (Int × Int × Unit)) (e : Unit) : runFn Try.prog (E k) 46 (bodyOf Try.f50) Try.f50.results.toList hi (mkL ps d) (mkH hs e) =
    tree (fun b0 b1 => leafFn hs hi e val wr (b0, b1)) k d.1 d.2.1 := by kernel_rfl
theorem run_f (k : Nat) (d : (Int × Int × Unit)) (e : Unit) : runFn Try.prog (E k) 46 (bodyOf Try.f50) Try.f50.results.toList hi (mkL ps d) (mkH hs e) = (f k d.1 d.2.1).bind (leafFn hs hi e val wr) :=
  (run k d e).trans (tree_nat (leafFn hs hi e val wr) (fun b0 b1 => some (b0, b1)) k d.1 d.2.1).symm
theorem fnIs : FnIs Try.prog 50 Try.f50 (bodyOf Try.f50) 46 := ⟨by kernel_rfl, by kernel_rfl, by kernel_rfl, by kernel_rfl⟩
theorem ok (k : Nat) : CalleeOK Try.prog 50 (callee k) :=
  callee_sig (T := ((List Int) × Bool)) fnIs hm (fE k) (loopsOK_of [] (by kernel_rfl) trivial) ps hs (fun (d : (Int × Int × Unit)) (e : Unit) => f k d.1 d.2.1) val wr rfl (fun _ => rfl) (run_f k)
end trailheadref03_Target
namespace trailheadlaw03_CompactTargets
def tree {X : Type} (K : Bool → Option X) (k : Nat) (a0 : Int) (a1 : Int) : Option X :=
  (Option.bind (trailheadlaw03_alive.f k) (fun r1 => (bif (!r1) then (K false) else (Option.bind (compact_Target.f k a0 a1) (fun r2 => (Option.bind (trailheadref03_Target.f k a0 a1) (fun r3 => (Option.bind (compact_Target.f k a1 a1) (fun r4 => (Option.bind (trailheadref03_Decode.f k a1) (fun r5 => (bif (decide (r2.1 = r3.1)) then (bif (r2.2 == r3.2) then (bif (!r5.2.1) then (bif (!r5.2.2) then (bif (r4.2 == (!(decide (r5.1 = ([0, 0, 0, 0] : (List Int)))))) then (bif (!r4.2) then (K true) else (K (decide (r4.1 = r5.1)))) else (K false)) else (bif (r4.2 == false) then (bif (!r4.2) then (K true) else (K (decide (r4.1 = r5.1)))) else (K false))) else (bif (r4.2 == false) then (bif (!r4.2) then (K true) else (K (decide (r4.1 = r5.1)))) else (K false))) else (K false)) else (K false)))))))))))))
def f (k : Nat) (a0 : Int) (a1 : Int) : Option Bool := tree (fun b0 => some b0) k a0 a1
theorem tree_nat {X Y : Type} (h : X → Option Y) (K : Bool → Option X) (k : Nat) (a0 : Int) (a1 : Int) : Option.bind (tree K k a0 a1) h = tree (fun b0 => Option.bind (K b0) h) k a0 a1 := by
  simp only [tree, bif_bind, sel_bind', Option.bind_assoc, Option.bind_none, Option.bind_some]
abbrev ps : List Sh := [.data (.int .i64), .data (.int .i64)]
abbrev hs : List (Nat × ESh) := []
abbrev hi : List Nat := hs.map (·.1)
def val (t : Bool) : AV := Sh.mk (.data .bool) t
def wr (t : Bool) : Heap := []
def callee (k : Nat) : Callee := sigCallee ps hs (fun (d : (Int × Int × Unit)) (e : Unit) => f k d.1 d.2.1) val wr
def E (k : Nat) : Env := ⟨fnTab [(33, [trailheadlaw03_alive.callee k]), (49, [compact_Target.callee k]), (50, [trailheadref03_Target.callee k]), (35, [trailheadref03_Decode.callee k])], loopTab []⟩
theorem fE (k : Nat) : ∀ f, ∀ c ∈ (E k).fn f, CalleeOK Try.prog f c := fnTab_ok ⟨⟨trailheadlaw03_alive.ok k, trivial⟩, ⟨compact_Target.ok k, trivial⟩, ⟨trailheadref03_Target.ok k, trivial⟩, ⟨trailheadref03_Decode.ok k, trivial⟩, trivial⟩
theorem run (k : Nat) (d : (Int × Int × Unit)) (e : Unit) : runFn Try.prog (E k) 72 (bodyOf Try.f10) Try.f10.results.toList hi (mkL ps d) (mkH hs e) =
    tree (fun b0 => leafFn hs hi e val wr b0) k d.1 d.2.1 := by kernel_rfl
theorem run_f (k : Nat) (d : (Int × Int × Unit)) (e : Unit) : runFn Try.prog (E k) 72 (bodyOf Try.f10) Try.f10.results.toList hi (mkL ps d) (mkH hs e) = (f k d.1 d.2.1).bind (leafFn hs hi e val wr) :=
  (run k d e).trans (tree_nat (leafFn hs hi e val wr) (fun b0 => some b0) k d.1 d.2.1).symm
theorem fnIs : FnIs Try.prog 10 Try.f10 (bodyOf Try.f10) 72 := ⟨by kernel_rfl, by kernel_rfl, by kernel_rfl, by kernel_rfl⟩
theorem ok (k : Nat) : CalleeOK Try.prog 10 (callee k) :=
  callee_sig (T := Bool) fnIs hm (fE k) (loopsOK_of [] (by kernel_rfl) trivial) ps hs (fun (d : (Int × Int × Unit)) (e : Unit) => f k d.1 d.2.1) val wr rfl (fun _ => rfl) (run_f k)
end trailheadlaw03_CompactTargets
namespace compact_Encode
def tree {X : Type} (K : Int → Option X) (k : Nat) (a0 : (List Int)) : Option X :=
  (Option.bind (whole_Len.f k a0) (fun r1 => (bif (decide ((quoI .i64 (addI .i64 r1 7) 8) ≤ (3 : Int))) then (Option.bind (whole_Up.f k a0 (mulI .i64 8 (subI .i64 3 (quoI .i64 (addI .i64 r1 7) 8)))) (fun r2 => (bif ((andI .i64 (IntKind.wrap .i64 (List.getD r2 0 0)) 8388608) != (0 : Int)) then (K (orI .i64 (shlI .i64 (addI .i64 (quoI .i64 (addI .i64 r1 7) 8) 1) 24) (shrI .i64 (IntKind.wrap .i64 (List.getD r2 0 0)) 8))) else (K (orI .i64 (shlI .i64 (quoI .i64 (addI .i64 r1 7) 8) 24) (IntKind.wrap .i64 (List.getD r2 0 0))))))) else (Option.bind (whole_Down.f k a0 (mulI .i64 8 (subI .i64 (quoI .i64 (addI .i64 r1 7) 8) 3))) (fun r3 => (bif ((andI .i64 (IntKind.wrap .i64 (List.getD r3 0 0)) 8388608) != (0 : Int)) then (K (orI .i64 (shlI .i64 (addI .i64 (quoI .i64 (addI .i64 r1 7) 8) 1) 24) (shrI .i64 (IntKind.wrap .i64 (List.getD r3 0 0)) 8))) else (K (orI .i64 (shlI .i64 (quoI .i64 (addI .i64 r1 7) 8) 24) (IntKind.wrap .i64 (List.getD r3 0 0))))))))))
def f (k : Nat) (a0 : (List Int)) : Option Int := tree (fun b0 => some b0) k a0
theorem tree_nat {X Y : Type} (h : X → Option Y) (K : Int → Option X) (k : Nat) (a0 : (List Int)) : Option.bind (tree K k a0) h = tree (fun b0 => Option.bind (K b0) h) k a0 := by
  simp only [tree, bif_bind, sel_bind', Option.bind_assoc, Option.bind_none, Option.bind_some]
abbrev ps : List Sh := [.data (.arr .u64 4)]
abbrev hs : List (Nat × ESh) := []
abbrev hi : List Nat := hs.map (·.1)
def val (t : Int) : AV := Sh.mk (.data (.int .i64)) t
def wr (t : Int) : Heap := []
def callee (k : Nat) : Callee := sigCallee ps hs (fun (d : ((List Int) × Unit)) (e : Unit) => f k d.1) val wr
def E (k : Nat) : Env := ⟨fnTab [(43, [whole_Len.callee k]), (58, [whole_Up.callee k]), (60, [whole_Down.callee k])], loopTab []⟩
theorem fE (k : Nat) : ∀ f, ∀ c ∈ (E k).fn f, CalleeOK Try.prog f c := fnTab_ok ⟨⟨whole_Len.ok k, trivial⟩, ⟨whole_Up.ok k, trivial⟩, ⟨whole_Down.ok k, trivial⟩, trivial⟩
theorem run (k : Nat) (d : ((List Int) × Unit)) (e : Unit) : runFn Try.prog (E k) 36 (bodyOf Try.f68) Try.f68.results.toList hi (mkL ps d) (mkH hs e) =
    tree (fun b0 => leafFn hs hi e val wr b0) k d.1 := by kernel_rfl
theorem run_f (k : Nat) (d : ((List Int) × Unit)) (e : Unit) : runFn Try.prog (E k) 36 (bodyOf Try.f68) Try.f68.results.toList hi (mkL ps d) (mkH hs e) = (f k d.1).bind (leafFn hs hi e val wr) :=
  (run k d e).trans (tree_nat (leafFn hs hi e val wr) (fun b0 => some b0) k d.1).symm
theorem fnIs : FnIs Try.prog 68 Try.f68 (bodyOf Try.f68) 36 := ⟨by kernel_rfl, by kernel_rfl, by kernel_rfl, by kernel_rfl⟩
theorem ok (k : Nat) : CalleeOK Try.prog 68 (callee k) :=
  callee_sig (T := Int) fnIs hm (fE k) (loopsOK_of [] (by kernel_rfl) trivial) ps hs (fun (d : ((List Int) × Unit)) (e : Unit) => f k d.1) val wr rfl (fun _ => rfl) (run_f k)
end compact_Encode
namespace trailheadref03_Encode
namespace l0
def step {X : Type} (K : Int → Int → Option X) (G : Int → Int → Option X) (k : Nat) (x2 : Int) (y1001 : (List Int)) (x3 : Int) (x4 : Int) : Option X :=
  (bif (decide (x4 < (32 : Int))) then (Option.bind (trailheadref02_Move.f k y1001 (mulI .i64 (-8) x4)) (fun r1 => (bif (decide ((remI (List.getD r1 0 0) 256) > (0 : Int))) then (G (addI .i64 x4 1) (addI .i64 x4 1)) else (G x3 (addI .i64 x4 1))))) else (K x3 x4))
def go {X : Type} (K : Int → Int → Option X) (k : Nat) (x2 : Int) (y1001 : (List Int)) : Nat → Int → Int → Option X
  | 0, _, _ => none
  | n + 1, x3, x4 => step K (go K k x2 y1001 n) k x2 y1001 x3 x4
def f (k : Nat) (x2 : Int) (y1001 : (List Int)) (n : Nat) (x3 : Int) (x4 : Int) : Option (Int × Int) := go (fun x3 x4 => some (x3, x4)) k x2 y1001 n x3 x4
theorem step_nat {X Y : Type} (h : X → Option Y) (K : Int → Int → Option X) (G : Int → Int → Option X) (k : Nat) (x2 : Int) (y1001 : (List Int)) (x3 : Int) (x4 : Int) : Option.bind (step K G k x2 y1001 x3 x4) h = step (fun x3 x4 => Option.bind (K x3 x4) h) (fun x3 x4 => Option.bind (G x3 x4) h) k x2 y1001 x3 x4 := by
  simp only [step, bif_bind, sel_bind', Option.bind_assoc, Option.bind_none, Option.bind_some]
theorem go_nat {X Y : Type} (h : X → Option Y) (K : Int → Int → Option X) (k : Nat) (x2 : Int) (y1001 : (List Int)) (n : Nat) : ∀ (x3 : Int) (x4 : Int), Option.bind (go K k x2 y1001 n x3 x4) h = go (fun x3 x4 => Option.bind (K x3 x4) h) k x2 y1001 n x3 x4 := by
  induction n with
  | zero => intros; rfl
  | succ n ih => intro x3 x4; show Option.bind (step K (go K k x2 y1001 n) k x2 y1001 x3 x4) h = step (fun x3 x4 => Option.bind (K x3 x4) h) (go (fun x3 x4 => Option.bind (K x3 x4) h) k x2 y1001 n) k x2 y1001 x3 x4; rw [step_nat h]; simp only [ih]
abbrev S : List (Nat × Sh) := [(1, .ptr 1001), (2, .data (.int .i64)), (3, .data (.int .i64)), (4, .data (.int .i64))]
abbrev H : List (Nat × ESh) := [(1001, .cell (.data (.arr .u64 4)))]
def KX (d : (Unit × Int × Int × Int × Unit)) (e : ((List Int) × Unit)) (v : (Int × Int)) : St := ⟨mkS S ((), d.2.1, v.1, v.2, ()), mkH H (e.1, ())⟩
def sum (k : Nat) : LoopSum := sigLoopX S H 0 (fun (d : (Unit × Int × Int × Int × Unit)) (e : ((List Int) × Unit)) => f k d.2.1 e.1 k d.2.2.1 d.2.2.2.1) KX
end l0
def tree {X : Type} (K : Int → Option X) (k : Nat) (a0 : (List Int)) : Option X :=
  (Option.bind (trailheadref03_Encode.l0.f k (0 : Int) a0 k (0 : Int) (0 : Int)) (fun r2 => (Option.bind (trailheadref02_Move.f k a0 (mulI .i64 8 (subI .i64 3 r2.1))) (fun r3 => (bif (decide (r2.1 > (3 : Int))) then (Option.bind (trailheadref02_Move.f k a0 (mulI .i64 (-8) (subI .i64 r2.1 3))) (fun r4 => (bif (decide ((IntKind.wrap .i64 (remI (List.getD r4 0 0) 16777216)) ≥ (8388608 : Int))) then (K (addI .i64 (mulI .i64 (addI .i64 r2.1 1) 16777216) (quoI .i64 (IntKind.wrap .i64 (remI (List.getD r4 0 0) 16777216)) 256))) else (K (addI .i64 (mulI .i64 r2.1 16777216) (IntKind.wrap .i64 (remI (List.getD r4 0 0) 16777216))))))) else (bif (decide ((IntKind.wrap .i64 (remI (List.getD r3 0 0) 16777216)) ≥ (8388608 : Int))) then (K (addI .i64 (mulI .i64 (addI .i64 r2.1 1) 16777216) (quoI .i64 (IntKind.wrap .i64 (remI (List.getD r3 0 0) 16777216)) 256))) else (K (addI .i64 (mulI .i64 r2.1 16777216) (IntKind.wrap .i64 (remI (List.getD r3 0 0) 16777216))))))))))
def f (k : Nat) (a0 : (List Int)) : Option Int := tree (fun b0 => some b0) k a0
theorem tree_nat {X Y : Type} (h : X → Option Y) (K : Int → Option X) (k : Nat) (a0 : (List Int)) : Option.bind (tree K k a0) h = tree (fun b0 => Option.bind (K b0) h) k a0 := by
  simp only [tree, bif_bind, sel_bind', Option.bind_assoc, Option.bind_none, Option.bind_some]
abbrev ps : List Sh := [.data (.arr .u64 4)]
abbrev hs : List (Nat × ESh) := []
abbrev hi : List Nat := hs.map (·.1)
def val (t : Int) : AV := Sh.mk (.data (.int .i64)) t
def wr (t : Int) : Heap := []
def callee (k : Nat) : Callee := sigCallee ps hs (fun (d : ((List Int) × Unit)) (e : Unit) => f k d.1) val wr
def E (k : Nat) : Env := ⟨fnTab [(59, [trailheadref02_Move.callee k])], loopTab [(0, l0.sum k)]⟩
theorem fE (k : Nat) : ∀ f, ∀ c ∈ (E k).fn f, CalleeOK Try.prog f c := fnTab_ok ⟨⟨trailheadref02_Move.ok k, trivial⟩, trivial⟩
namespace l0
theorem round (k : Nat) (d : (Unit × Int × Int × Int × Unit)) (e : ((List Int) × Unit)) (G : St → Option (Ex × St)) : roundK Try.prog (E k) 49 0 (subC (bodyOf Try.f69) [1, 1, 0, 1, 0, 0]) (restrict (S.map (·.1)) (H.map (·.1))) (finBy (S.map (·.1)) (H.map (·.1)) [] []) G ⟨mkS S d, mkH H e⟩ =
    step (fun x3 x4 => some (.exit 0, KX d e (x3, x4))) (fun x3 x4 => G ⟨mkS S ((), d.2.1, x3, x4, ()), mkH H (e.1, ())⟩) k d.2.1 e.1 d.2.2.1 d.2.2.2.1 := by kernel_rfl
theorem it (k n : Nat) (d : (Unit × Int × Int × Int × Unit)) (e : ((List Int) × Unit)) : loopIt Try.prog (E k) 49 0 (subC (bodyOf Try.f69) [1, 1, 0, 1, 0, 0]) (restrict (S.map (·.1)) (H.map (·.1))) (finBy (S.map (·.1)) (H.map (·.1)) [] []) n ⟨mkS S d, mkH H e⟩ = go (fun x3 x4 => some (.exit 0, KX d e (x3, x4))) k d.2.1 e.1 n d.2.2.1 d.2.2.2.1 :=
  loopIt_eq (D := (Unit × Int × Int × Int × Unit) × ((List Int) × Unit)) (fun p => ⟨mkS S p.1, mkH H p.2⟩) (fun F p => step (fun x3 x4 => some (.exit 0, KX p.1 p.2 (x3, x4))) (fun x3 x4 => F (((), p.1.2.1, x3, x4, ()), (p.2.1, ()))) k p.1.2.1 p.2.1 p.1.2.2.1 p.1.2.2.2.1) (fun n p => go (fun x3 x4 => some (.exit 0, KX p.1 p.2 (x3, x4))) k p.1.2.1 p.2.1 n p.1.2.2.1 p.1.2.2.2.1) (fun _ => rfl) (fun _ _ => rfl) (fun G p => round k p.1 p.2 G) n (d, e)
theorem ok (k : Nat) : LoopOK Try.prog 49 (subC (bodyOf Try.f69) [1, 1, 0, 1, 0, 0]) (sum k) :=
  loop_sigX hm (fE k) (loopsOK_of [] (by kernel_rfl) trivial) S H 0 (fun (d : (Unit × Int × Int × Int × Unit)) (e : ((List Int) × Unit)) => f k d.2.1 e.1 k d.2.2.1 d.2.2.2.1) KX (S.map (·.1)) (H.map (·.1)) [] [] k
    (fun d e => (it k k d e).trans (go_nat (fun v => some (Ex.exit 0, KX d e v)) (fun x3 x4 => some (x3, x4)) k d.2.1 e.1 k d.2.2.1 d.2.2.2.1).symm)
end l0
theorem run (k : Nat) (d : ((List Int) × Unit)) (e : Unit) : runFn Try.prog (E k) 49 (bodyOf Try.f69) Try.f69.results.toList hi (mkL ps d) (mkH hs e) =
    tree (fun b0 => leafFn hs hi e val wr b0) k d.1 := by kernel_rfl
theorem run_f (k : Nat) (d : ((List Int) × Unit)) (e : Unit) : runFn Try.prog (E k) 49 (bodyOf Try.f69) Try.f69.results.toList hi (mkL ps d) (mkH hs e) = (f k d.1).bind (leafFn hs hi e val wr) :=
  (run k d e).trans (tree_nat (leafFn hs hi e val wr) (fun b0 => some b0) k d.1).symm
theorem fnIs : FnIs Try.prog 69 Try.f69 (bodyOf Try.f69) 49 := ⟨by kernel_rfl, by kernel_rfl, by kernel_rfl, by kernel_rfl⟩
theorem ok (k : Nat) : CalleeOK Try.prog 69 (callee k) :=
  callee_sig (T := Int) fnIs hm (fE k) (loopsOK_of [(0, subC (bodyOf Try.f69) [1, 1, 0, 1, 0, 0])] (by kernel_rfl) ⟨of_loop (l0.sum k) rfl (l0.ok k), trivial⟩) ps hs (fun (d : ((List Int) × Unit)) (e : Unit) => f k d.1) val wr rfl (fun _ => rfl) (run_f k)
end trailheadref03_Encode
namespace trailheadlaw03_CompactEncodes
def tree {X : Type} (K : Bool → Option X) (k : Nat) (a0 : (List Int)) : Option X :=
  (Option.bind (trailheadlaw03_alive.f k) (fun r1 => (bif (!r1) then (K false) else (Option.bind (compact_Encode.f k a0) (fun r2 => (Option.bind (compact_Decode.f k r2) (fun r3 => (Option.bind (trailheadref03_Encode.f k a0) (fun r4 => (bif (r2 != r4) then (K false) else (bif r3.2.1 then (K false) else (bif r3.2.2 then (K false) else (Option.bind (compact_Encode.f k r3.1) (fun r5 => (bif (r5 != r2) then (K false) else (Option.bind (trailheadref02_Less.f k a0 r3.1) (fun r6 => (bif r6 then (K false) else (Option.bind (trailheadref02_Sub.f k a0 r3.1) (fun r7 => (bif (decide (a0 = r3.1)) then (K true) else (Option.bind (trailheadref02_Move.f k r7.1 (15 : Int)) (fun r8 => (Option.bind (trailheadref02_Less.f k r8 a0) (fun r9 => (bif r9 then (Option.bind (trailheadref02_Move.f k r7.1 (15 : Int)) (fun r10 => (Option.bind (trailheadref02_Move.f k r10 ((-15) : Int)) (fun r11 => (K (decide (r11 = r7.1))))))) else (K false)))))))))))))))))))))))))))
def f (k : Nat) (a0 : (List Int)) : Option Bool := tree (fun b0 => some b0) k a0
theorem tree_nat {X Y : Type} (h : X → Option Y) (K : Bool → Option X) (k : Nat) (a0 : (List Int)) : Option.bind (tree K k a0) h = tree (fun b0 => Option.bind (K b0) h) k a0 := by
  simp only [tree, bif_bind, sel_bind', Option.bind_assoc, Option.bind_none, Option.bind_some]
abbrev ps : List Sh := [.data (.arr .u64 4)]
abbrev hs : List (Nat × ESh) := []
abbrev hi : List Nat := hs.map (·.1)
def val (t : Bool) : AV := Sh.mk (.data .bool) t
def wr (t : Bool) : Heap := []
def callee (k : Nat) : Callee := sigCallee ps hs (fun (d : ((List Int) × Unit)) (e : Unit) => f k d.1) val wr
def E (k : Nat) : Env := ⟨fnTab [(33, [trailheadlaw03_alive.callee k]), (68, [compact_Encode.callee k]), (34, [compact_Decode.callee k]), (69, [trailheadref03_Encode.callee k]), (29, [trailheadref02_Less.callee k]), (54, [trailheadref02_Sub.callee k]), (59, [trailheadref02_Move.callee k])], loopTab []⟩
theorem fE (k : Nat) : ∀ f, ∀ c ∈ (E k).fn f, CalleeOK Try.prog f c := fnTab_ok ⟨⟨trailheadlaw03_alive.ok k, trivial⟩, ⟨compact_Encode.ok k, trivial⟩, ⟨compact_Decode.ok k, trivial⟩, ⟨trailheadref03_Encode.ok k, trivial⟩, ⟨trailheadref02_Less.ok k, trivial⟩, ⟨trailheadref02_Sub.ok k, trivial⟩, ⟨trailheadref02_Move.ok k, trivial⟩, trivial⟩
theorem run (k : Nat) (d : ((List Int) × Unit)) (e : Unit) : runFn Try.prog (E k) 62 (bodyOf Try.f14) Try.f14.results.toList hi (mkL ps d) (mkH hs e) =
    tree (fun b0 => leafFn hs hi e val wr b0) k d.1 := by kernel_rfl
theorem run_f (k : Nat) (d : ((List Int) × Unit)) (e : Unit) : runFn Try.prog (E k) 62 (bodyOf Try.f14) Try.f14.results.toList hi (mkL ps d) (mkH hs e) = (f k d.1).bind (leafFn hs hi e val wr) :=
  (run k d e).trans (tree_nat (leafFn hs hi e val wr) (fun b0 => some b0) k d.1).symm
theorem fnIs : FnIs Try.prog 14 Try.f14 (bodyOf Try.f14) 62 := ⟨by kernel_rfl, by kernel_rfl, by kernel_rfl, by kernel_rfl⟩
theorem ok (k : Nat) : CalleeOK Try.prog 14 (callee k) :=
  callee_sig (T := Bool) fnIs hm (fE k) (loopsOK_of [] (by kernel_rfl) trivial) ps hs (fun (d : ((List Int) × Unit)) (e : Unit) => f k d.1) val wr rfl (fun _ => rfl) (run_f k)
end trailheadlaw03_CompactEncodes
namespace trailheadlaw03_CompactOrder
def tree {X : Type} (K : Bool → Option X) (k : Nat) (a0 : (List Int)) (a1 : (List Int)) : Option X :=
  (Option.bind (trailheadlaw03_alive.f k) (fun r1 => (bif (!r1) then (K false) else (Option.bind (trailheadref02_Less.f k a1 a0) (fun r2 => (bif r2 then (K true) else (Option.bind (compact_Encode.f k a0) (fun r3 => (Option.bind (compact_Decode.f k r3) (fun r4 => (Option.bind (compact_Encode.f k a1) (fun r5 => (Option.bind (compact_Decode.f k r5) (fun r6 => (Option.bind (trailheadref02_Less.f k r6.1 r4.1) (fun r7 => (K (!r7))))))))))))))))))
def f (k : Nat) (a0 : (List Int)) (a1 : (List Int)) : Option Bool := tree (fun b0 => some b0) k a0 a1
theorem tree_nat {X Y : Type} (h : X → Option Y) (K : Bool → Option X) (k : Nat) (a0 : (List Int)) (a1 : (List Int)) : Option.bind (tree K k a0 a1) h = tree (fun b0 => Option.bind (K b0) h) k a0 a1 := by
  simp only [tree, bif_bind, sel_bind', Option.bind_assoc, Option.bind_none, Option.bind_some]
abbrev ps : List Sh := [.data (.arr .u64 4), .data (.arr .u64 4)]
abbrev hs : List (Nat × ESh) := []
abbrev hi : List Nat := hs.map (·.1)
def val (t : Bool) : AV := Sh.mk (.data .bool) t
def wr (t : Bool) : Heap := []
def callee (k : Nat) : Callee := sigCallee ps hs (fun (d : ((List Int) × (List Int) × Unit)) (e : Unit) => f k d.1 d.2.1) val wr
def E (k : Nat) : Env := ⟨fnTab [(33, [trailheadlaw03_alive.callee k]), (29, [trailheadref02_Less.callee k]), (68, [compact_Encode.callee k]), (34, [compact_Decode.callee k])], loopTab []⟩
theorem fE (k : Nat) : ∀ f, ∀ c ∈ (E k).fn f, CalleeOK Try.prog f c := fnTab_ok ⟨⟨trailheadlaw03_alive.ok k, trivial⟩, ⟨trailheadref02_Less.ok k, trivial⟩, ⟨compact_Encode.ok k, trivial⟩, ⟨compact_Decode.ok k, trivial⟩, trivial⟩
theorem run (k : Nat) (d : ((List Int) × (List Int) × Unit)) (e : Unit) : runFn Try.prog (E k) 34 (bodyOf Try.f15) Try.f15.results.toList hi (mkL ps d) (mkH hs e) =
    tree (fun b0 => leafFn hs hi e val wr b0) k d.1 d.2.1 := by kernel_rfl
theorem run_f (k : Nat) (d : ((List Int) × (List Int) × Unit)) (e : Unit) : runFn Try.prog (E k) 34 (bodyOf Try.f15) Try.f15.results.toList hi (mkL ps d) (mkH hs e) = (f k d.1 d.2.1).bind (leafFn hs hi e val wr) :=
  (run k d e).trans (tree_nat (leafFn hs hi e val wr) (fun b0 => some b0) k d.1 d.2.1).symm
theorem fnIs : FnIs Try.prog 15 Try.f15 (bodyOf Try.f15) 34 := ⟨by kernel_rfl, by kernel_rfl, by kernel_rfl, by kernel_rfl⟩
theorem ok (k : Nat) : CalleeOK Try.prog 15 (callee k) :=
  callee_sig (T := Bool) fnIs hm (fE k) (loopsOK_of [] (by kernel_rfl) trivial) ps hs (fun (d : ((List Int) × (List Int) × Unit)) (e : Unit) => f k d.1 d.2.1) val wr rfl (fun _ => rfl) (run_f k)
end trailheadlaw03_CompactOrder
namespace trailheadlaw03_CompactSmall
def tree {X : Type} (K : Bool → Option X) (k : Nat) (a0 : Int) (a1 : Int) : Option X :=
  (Option.bind (trailheadlaw03_alive.f k) (fun r1 => (bif (!r1) then (K false) else (bif (decide (a0 < (0 : Int))) then (K true) else (bif (decide (a0 > (8388607 : Int))) then (K true) else (bif (decide (a1 < (0 : Int))) then (K true) else (bif (decide (a1 > (28 : Int))) then (K true) else (Option.bind (trailheadref02_Move.f k ([(IntKind.wrap .u64 a0), 0, 0, 0] : (List Int)) (mulI .i64 8 a1)) (fun r2 => (Option.bind (compact_Encode.f k r2) (fun r3 => (Option.bind (compact_Decode.f k r3) (fun r4 => (bif (decide (r4.1 = r2)) then (bif (!r4.2.1) then (K (!r4.2.2)) else (K false)) else (K false)))))))))))))))
def f (k : Nat) (a0 : Int) (a1 : Int) : Option Bool := tree (fun b0 => some b0) k a0 a1
theorem tree_nat {X Y : Type} (h : X → Option Y) (K : Bool → Option X) (k : Nat) (a0 : Int) (a1 : Int) : Option.bind (tree K k a0 a1) h = tree (fun b0 => Option.bind (K b0) h) k a0 a1 := by
  simp only [tree, bif_bind, sel_bind', Option.bind_assoc, Option.bind_none, Option.bind_some]
abbrev ps : List Sh := [.data (.int .i64), .data (.int .i64)]
abbrev hs : List (Nat × ESh) := []
abbrev hi : List Nat := hs.map (·.1)
def val (t : Bool) : AV := Sh.mk (.data .bool) t
def wr (t : Bool) : Heap := []
def callee (k : Nat) : Callee := sigCallee ps hs (fun (d : (Int × Int × Unit)) (e : Unit) => f k d.1 d.2.1) val wr
def E (k : Nat) : Env := ⟨fnTab [(33, [trailheadlaw03_alive.callee k]), (59, [trailheadref02_Move.callee k]), (68, [compact_Encode.callee k]), (34, [compact_Decode.callee k])], loopTab []⟩
theorem fE (k : Nat) : ∀ f, ∀ c ∈ (E k).fn f, CalleeOK Try.prog f c := fnTab_ok ⟨⟨trailheadlaw03_alive.ok k, trivial⟩, ⟨trailheadref02_Move.ok k, trivial⟩, ⟨compact_Encode.ok k, trivial⟩, ⟨compact_Decode.ok k, trivial⟩, trivial⟩
theorem run (k : Nat) (d : (Int × Int × Unit)) (e : Unit) : runFn Try.prog (E k) 49 (bodyOf Try.f16) Try.f16.results.toList hi (mkL ps d) (mkH hs e) =
    tree (fun b0 => leafFn hs hi e val wr b0) k d.1 d.2.1 := by kernel_rfl
theorem run_f (k : Nat) (d : (Int × Int × Unit)) (e : Unit) : runFn Try.prog (E k) 49 (bodyOf Try.f16) Try.f16.results.toList hi (mkL ps d) (mkH hs e) = (f k d.1 d.2.1).bind (leafFn hs hi e val wr) :=
  (run k d e).trans (tree_nat (leafFn hs hi e val wr) (fun b0 => some b0) k d.1 d.2.1).symm
theorem fnIs : FnIs Try.prog 16 Try.f16 (bodyOf Try.f16) 49 := ⟨by kernel_rfl, by kernel_rfl, by kernel_rfl, by kernel_rfl⟩
theorem ok (k : Nat) : CalleeOK Try.prog 16 (callee k) :=
  callee_sig (T := Bool) fnIs hm (fE k) (loopsOK_of [] (by kernel_rfl) trivial) ps hs (fun (d : (Int × Int × Unit)) (e : Unit) => f k d.1 d.2.1) val wr rfl (fun _ => rfl) (run_f k)
end trailheadlaw03_CompactSmall
end Go.Proofs.Ytjciljaojcekeaa.Sx
