/- What the Go functions come to, on data: printed by sypr.py. -/
import Derived.Test.YtnnajeoeeefjaaaDoorSy18
import Derived.Test.YtnnajeoeeefjaaaDoorProg
import Derived.Test.YtnnajeoeeefjaaaDoorWB
namespace Go.Proofs.YtnnajeoeeefjaaaDoor.Sy
open Go Go.Proofs
set_option maxRecDepth 100000
set_option linter.unusedVariables false
set_option linter.unusedSimpArgs false
namespace pledge_Good
def tree {X : Type} (K : Bool → Option X) (k : Nat) (a0 : (Int × (Int × Int))) : Option X :=
  (bif (decide (a0.2.1 ≥ (1 : Int))) then (bif (decide (a0.2.1 ≤ (64 : Int))) then (bif (decide (a0.2.2 ≥ (0 : Int))) then (K (decide (a0.2.2 < a0.2.1))) else (K false)) else (K false)) else (K false))
def f (k : Nat) (a0 : (Int × (Int × Int))) : Option Bool := tree (fun b0 => some b0) k a0
theorem tree_nat {X Y : Type} (h : X → Option Y) (K : Bool → Option X) (k : Nat) (a0 : (Int × (Int × Int))) : Option.bind (tree K k a0) h = tree (fun b0 => Option.bind (K b0) h) k a0 := by
  simp only [tree, bif_bind, sel_bind', Option.bind_assoc, Option.bind_none, Option.bind_some]
abbrev ps : List Sh := [.data (.pair (.int .i64) (.pair (.int .i64) (.int .i64)))]
abbrev hs : List (Nat × ESh) := []
abbrev hi : List Nat := hs.map (·.1)
abbrev fi : List Nat := []
abbrev cl : List (Place × Nat × Hint) := []
abbrev hn : List Hint := [.any]
def val (t : Bool) : AV := Sh.mk (.data .bool) t
def wr (t : Bool) : Heap := []
def callee (k : Nat) : Callee := sigCallee ps hs (fun (d : ((Int × (Int × Int)) × Unit)) (e : Unit) => f k d.1) val wr
def E (k : Nat) : Env := ⟨fnTab [], loopTab [], natsTab [], natTab []⟩
theorem fE (k : Nat) : ∀ f, ∀ c ∈ (E k).fn f, CalleeOK Tryd.prog f c := fnTab_ok trivial
theorem run (k : Nat) (d : ((Int × (Int × Int)) × Unit)) (e : Unit) : runFn Tryd.prog (E k) 23 (bodyOf Tryd.f37) Tryd.f37.results.toList cl hn hi (mkL ps d) (mkH hs e) =
    tree (fun b0 => leafFn hs fi e val wr b0) k d.1 := by kernel_rfl
theorem run_f (k : Nat) (d : ((Int × (Int × Int)) × Unit)) (e : Unit) : runFn Tryd.prog (E k) 23 (bodyOf Tryd.f37) Tryd.f37.results.toList cl hn hi (mkL ps d) (mkH hs e) = (f k d.1).bind (leafFn hs fi e val wr) :=
  (run k d e).trans (tree_nat (leafFn hs fi e val wr) (fun b0 => some b0) k d.1).symm
theorem fnIs : FnIs Tryd.prog 37 Tryd.f37 (bodyOf Tryd.f37) 23 := ⟨by kernel_rfl, by kernel_rfl, by kernel_rfl, by kernel_rfl⟩
theorem ok (k : Nat) : CalleeOK Tryd.prog 37 (callee k) :=
  callee_sig (T := Bool) fnIs hm (fE k) (loopsOK_of [] (by kernel_rfl) trivial) ps hs cl hn fi (fun (d : ((Int × (Int × Int)) × Unit)) (e : Unit) => f k d.1) val wr rfl (fun _ => rfl) (run_f k)
end pledge_Good
namespace pledge_New
def tree {X : Type} (K1 : Option X) (K2 : (Int × (Int × Int)) → (Int × Int) → Option X) (k : Nat) (a0 : (Int × (Int × Int))) : Option X :=
  (Option.bind (pledge_Good.f k a0) (fun r1 => (bif (!r1) then (K1) else (K2 a0 ((0, 0) : (Int × Int))))))
def f (k : Nat) (a0 : (Int × (Int × Int))) : Option (Unit ⊕ ((Int × (Int × Int)) × (Int × Int))) := tree (some (.inl ())) (fun b0 b1 => some (.inr (b0, b1))) k a0
theorem tree_nat {X Y : Type} (h : X → Option Y) (K1 : Option X) (K2 : (Int × (Int × Int)) → (Int × Int) → Option X) (k : Nat) (a0 : (Int × (Int × Int))) : Option.bind (tree K1 K2 k a0) h = tree (Option.bind (K1) h) (fun b0 b1 => Option.bind (K2 b0 b1) h) k a0 := by
  simp only [tree, bif_bind, sel_bind', Option.bind_assoc, Option.bind_none, Option.bind_some]
abbrev ps : List Sh := [.data (.pair (.int .i64) (.pair (.int .i64) (.int .i64)))]
abbrev hs : List (Nat × ESh) := []
abbrev hi : List Nat := hs.map (·.1)
abbrev fi1 : List Nat := []
abbrev fi2 : List Nat := [900000]
abbrev cl : List (Place × Nat × Hint) := []
abbrev hn : List Hint := [.any, .any]
def val1 (t : Unit) : AV := .tcons (Sh.mk .nilp ()) (.tcons (Sh.mk (.data (.int .i64)) (1 : Int)) .tnil)
def wr1 (t : Unit) : Heap := []
def val2 (t : ((Int × (Int × Int)) × (Int × Int))) : AV := .tcons (Sh.mk (.ptr 900000) ()) (.tcons (Sh.mk (.data (.int .i64)) (0 : Int)) .tnil)
def wr2 (t : ((Int × (Int × Int)) × (Int × Int))) : Heap := [(900000, ESh.mk (.cell (.pair (.data (.pair (.int .i64) (.pair (.int .i64) (.int .i64)))) (.pair .nils (.data (.pair (.int .i64) (.int .i64)))))) (t.1, ((), t.2)))]
def callee (k : Nat) : Callee := sigAlt ps hs (fun (d : ((Int × (Int × Int)) × Unit)) (e : Unit) => f k d.1) val1 wr1 val2 wr2
def E (k : Nat) : Env := ⟨fnTab [(37, [pledge_Good.callee k])], loopTab [], natsTab [], natTab []⟩
theorem fE (k : Nat) : ∀ f, ∀ c ∈ (E k).fn f, CalleeOK Tryd.prog f c := fnTab_ok ⟨⟨pledge_Good.ok k, trivial⟩, trivial⟩
theorem run (k : Nat) (d : ((Int × (Int × Int)) × Unit)) (e : Unit) : runFn Tryd.prog (E k) 10 (bodyOf Tryd.f36) Tryd.f36.results.toList cl hn hi (mkL ps d) (mkH hs e) =
    tree (leafFn hs fi1 e val1 wr1 ()) (fun b0 b1 => leafFn hs fi2 e val2 wr2 (b0, b1)) k d.1 := by kernel_rfl
theorem run_f (k : Nat) (d : ((Int × (Int × Int)) × Unit)) (e : Unit) : runFn Tryd.prog (E k) 10 (bodyOf Tryd.f36) Tryd.f36.results.toList cl hn hi (mkL ps d) (mkH hs e) = (f k d.1).bind (fun s => sel s (leafFn hs fi1 e val1 wr1) (leafFn hs fi2 e val2 wr2)) :=
  (run k d e).trans (tree_nat (fun s => sel s (leafFn hs fi1 e val1 wr1) (leafFn hs fi2 e val2 wr2)) (some (.inl ())) (fun b0 b1 => some (.inr (b0, b1))) k d.1).symm
theorem fnIs : FnIs Tryd.prog 36 Tryd.f36 (bodyOf Tryd.f36) 10 := ⟨by kernel_rfl, by kernel_rfl, by kernel_rfl, by kernel_rfl⟩
theorem ok (k : Nat) : CalleeOK Tryd.prog 36 (callee k) :=
  callee_alt (T := Unit) (U := ((Int × (Int × Int)) × (Int × Int))) fnIs hm (fE k) (loopsOK_of [] (by kernel_rfl) trivial) ps hs cl hn fi1 fi2 (fun (d : ((Int × (Int × Int)) × Unit)) (e : Unit) => f k d.1) val1 wr1 val2 wr2 rfl (fun _ => rfl) (fun _ => rfl) (run_f k)
end pledge_New
namespace pledge_Plan_Due
def tree {X : Type} (K : Bool → Option X) (k : Nat) (a0 : (Int × (Int × Int))) (a1 : Int) : Option X :=
  (Option.bind (pledge_Good.f k a0) (fun r1 => (bif r1 then (bif (decide (a1 ≥ (0 : Int))) then (bif (decide (a0.2.1 = 0)) then none else (K ((remI a1 a0.2.1) == a0.2.2))) else (K false)) else (K false))))
def f (k : Nat) (a0 : (Int × (Int × Int))) (a1 : Int) : Option Bool := tree (fun b0 => some b0) k a0 a1
theorem tree_nat {X Y : Type} (h : X → Option Y) (K : Bool → Option X) (k : Nat) (a0 : (Int × (Int × Int))) (a1 : Int) : Option.bind (tree K k a0 a1) h = tree (fun b0 => Option.bind (K b0) h) k a0 a1 := by
  simp only [tree, bif_bind, sel_bind', Option.bind_assoc, Option.bind_none, Option.bind_some]
abbrev ps : List Sh := [.data (.pair (.int .i64) (.pair (.int .i64) (.int .i64))), .data (.int .i64)]
abbrev hs : List (Nat × ESh) := []
abbrev hi : List Nat := hs.map (·.1)
abbrev fi : List Nat := []
abbrev cl : List (Place × Nat × Hint) := []
abbrev hn : List Hint := [.any]
def val (t : Bool) : AV := Sh.mk (.data .bool) t
def wr (t : Bool) : Heap := []
def callee (k : Nat) : Callee := sigCallee ps hs (fun (d : ((Int × (Int × Int)) × Int × Unit)) (e : Unit) => f k d.1 d.2.1) val wr
def E (k : Nat) : Env := ⟨fnTab [(37, [pledge_Good.callee k])], loopTab [], natsTab [], natTab []⟩
theorem fE (k : Nat) : ∀ f, ∀ c ∈ (E k).fn f, CalleeOK Tryd.prog f c := fnTab_ok ⟨⟨pledge_Good.ok k, trivial⟩, trivial⟩
theorem run (k : Nat) (d : ((Int × (Int × Int)) × Int × Unit)) (e : Unit) : runFn Tryd.prog (E k) 20 (bodyOf Tryd.f38) Tryd.f38.results.toList cl hn hi (mkL ps d) (mkH hs e) =
    tree (fun b0 => leafFn hs fi e val wr b0) k d.1 d.2.1 := by kernel_rfl
theorem run_f (k : Nat) (d : ((Int × (Int × Int)) × Int × Unit)) (e : Unit) : runFn Tryd.prog (E k) 20 (bodyOf Tryd.f38) Tryd.f38.results.toList cl hn hi (mkL ps d) (mkH hs e) = (f k d.1 d.2.1).bind (leafFn hs fi e val wr) :=
  (run k d e).trans (tree_nat (leafFn hs fi e val wr) (fun b0 => some b0) k d.1 d.2.1).symm
theorem fnIs : FnIs Tryd.prog 38 Tryd.f38 (bodyOf Tryd.f38) 20 := ⟨by kernel_rfl, by kernel_rfl, by kernel_rfl, by kernel_rfl⟩
theorem ok (k : Nat) : CalleeOK Tryd.prog 38 (callee k) :=
  callee_sig (T := Bool) fnIs hm (fE k) (loopsOK_of [] (by kernel_rfl) trivial) ps hs cl hn fi (fun (d : ((Int × (Int × Int)) × Int × Unit)) (e : Unit) => f k d.1 d.2.1) val wr rfl (fun _ => rfl) (run_f k)
end pledge_Plan_Due
namespace pledge_Plan_Bit
def tree {X : Type} (K : Bool → Option X) (k : Nat) (a0 : (Int × (Int × Int))) (a1 : (List Int)) (m0 : (List Int)) (m1 : (List Int)) : Option X :=
  (Option.bind (scroll_Pen_Put.f k (8 : Int) ([a0.1] : (List Int))) (fun r1 => (Option.bind (scroll_Pen_Names.f k ([a1] : (List (List Int))) r1) (fun r2 => (Option.bind (scroll_Pen_Text.f k r2) (fun r3 => (Option.bind (digest_Double.f k ([r3] : (List (List Int))) m0 m1) (fun r4 => (K ((andI .u8 (List.getD r4 0 0) 1) == (1 : Int)))))))))))
def f (k : Nat) (a0 : (Int × (Int × Int))) (a1 : (List Int)) (m0 : (List Int)) (m1 : (List Int)) : Option Bool := tree (fun b0 => some b0) k a0 a1 m0 m1
theorem tree_nat {X Y : Type} (h : X → Option Y) (K : Bool → Option X) (k : Nat) (a0 : (Int × (Int × Int))) (a1 : (List Int)) (m0 : (List Int)) (m1 : (List Int)) : Option.bind (tree K k a0 a1 m0 m1) h = tree (fun b0 => Option.bind (K b0) h) k a0 a1 m0 m1 := by
  simp only [tree, bif_bind, sel_bind', Option.bind_assoc, Option.bind_none, Option.bind_some]
abbrev ps : List Sh := [.data (.pair (.int .i64) (.pair (.int .i64) (.int .i64))), .data (.arr .u8 32)]
abbrev hs : List (Nat × ESh) := [(0, .glob 0 (.arr .u32 8)), (1, .glob 1 (.arr .u32 64))]
abbrev hi : List Nat := hs.map (·.1)
abbrev fi : List Nat := [0, 1]
abbrev cl : List (Place × Nat × Hint) := []
abbrev hn : List Hint := [.any]
def val (t : Bool) : AV := Sh.mk (.data .bool) t
def wr (t : Bool) : Heap := []
def callee (k : Nat) : Callee := sigCallee ps hs (fun (d : ((Int × (Int × Int)) × (List Int) × Unit)) (e : ((List Int) × (List Int) × Unit)) => f k d.1 d.2.1 e.1 e.2.1) val wr
def E (k : Nat) : Env := ⟨fnTab [(63, [scroll_Pen_Put.callee k]), (64, [scroll_Pen_Names.callee k]), (51, [scroll_Pen_Text.callee k]), (21, [digest_Double.callee k])], loopTab [], natsTab [(21, [0, 1])], natTab [(0, 0), (1, 1)]⟩
theorem fE (k : Nat) : ∀ f, ∀ c ∈ (E k).fn f, CalleeOK Tryd.prog f c := fnTab_ok ⟨⟨scroll_Pen_Put.ok k, trivial⟩, ⟨scroll_Pen_Names.ok k, trivial⟩, ⟨scroll_Pen_Text.ok k, trivial⟩, ⟨digest_Double.ok k, trivial⟩, trivial⟩
theorem run (k : Nat) (d : ((Int × (Int × Int)) × (List Int) × Unit)) (e : ((List Int) × (List Int) × Unit)) : runFn Tryd.prog (E k) 26 (bodyOf Tryd.f40) Tryd.f40.results.toList cl hn hi (mkL ps d) (mkH hs e) =
    tree (fun b0 => leafFn hs fi e val wr b0) k d.1 d.2.1 e.1 e.2.1 := by kernel_rfl
theorem run_f (k : Nat) (d : ((Int × (Int × Int)) × (List Int) × Unit)) (e : ((List Int) × (List Int) × Unit)) : runFn Tryd.prog (E k) 26 (bodyOf Tryd.f40) Tryd.f40.results.toList cl hn hi (mkL ps d) (mkH hs e) = (f k d.1 d.2.1 e.1 e.2.1).bind (leafFn hs fi e val wr) :=
  (run k d e).trans (tree_nat (leafFn hs fi e val wr) (fun b0 => some b0) k d.1 d.2.1 e.1 e.2.1).symm
theorem fnIs : FnIs Tryd.prog 40 Tryd.f40 (bodyOf Tryd.f40) 26 := ⟨by kernel_rfl, by kernel_rfl, by kernel_rfl, by kernel_rfl⟩
theorem ok (k : Nat) : CalleeOK Tryd.prog 40 (callee k) :=
  callee_sig (T := Bool) fnIs hm (fE k) (loopsOK_of [] (by kernel_rfl) trivial) ps hs cl hn fi (fun (d : ((Int × (Int × Int)) × (List Int) × Unit)) (e : ((List Int) × (List Int) × Unit)) => f k d.1 d.2.1 e.1 e.2.1) val wr rfl (fun _ => rfl) (run_f k)
end pledge_Plan_Bit
namespace pledge_Book_Give
namespace l0
def step {X : Type} (K : Int → Int → (Int × Int) → (List Int) → Option X) (G : Int → Int → (Int × Int) → (List Int) → Option X) (k : Nat) (x1 : Int) (x13 : Int) (y0_0 : (Int × (Int × Int))) (y1 : (List (List Int))) (y2 : (List Int)) (y3 : (List Int)) (x7 : Int) (x14 : Int) (y0_1 : (Int × Int)) (y800004 : (List Int)) : Option X :=
  (bif (decide (x14 < x13)) then (bif (decide (0 ≤ x14)) then (bif (decide (x14 < ((List.length y1) : Int))) then (bif (decide ((Int.toNat x14) < (List.length y1))) then (Option.bind (pledge_Plan_Due.f k y0_0 (addI .i64 x1 x14)) (fun r1 => (bif (!r1) then (G x7 (addI .i64 x14 1) y0_1 y800004) else (bif ((remI y0_1.1 64) == (0 : Int)) then (bif (fits (((List.length y800004) + 1) * 8)) then (Option.bind (pledge_Plan_Bit.f k y0_0 (List.getD y1 (Int.toNat x14) (List.replicate 32 0 : (List Int))) y2 y3) (fun r2 => (bif r2 then (bif (decide (0 ≤ (quoI .i64 y0_1.1 64))) then (bif (decide ((quoI .i64 y0_1.1 64) < ((List.length (y800004 ++ ([0] : (List Int)))) : Int))) then (bif (decide ((Int.toNat (quoI .i64 y0_1.1 64)) < (List.length (y800004 ++ ([0] : (List Int)))))) then (bif (decide ((remI y0_1.1 64) < 0)) then none else (bif (decide (0 ≤ (quoI .i64 y0_1.1 64))) then (bif (decide ((quoI .i64 y0_1.1 64) < ((List.length (y800004 ++ ([0] : (List Int)))) : Int))) then (bif (decide ((Int.toNat (quoI .i64 y0_1.1 64)) < (List.length (y800004 ++ ([0] : (List Int)))))) then (G (addI .i64 x7 1) (addI .i64 x14 1) (((addI .i64 y0_1.1 1), y0_1.2) : (Int × Int)) (List.set (y800004 ++ ([0] : (List Int))) (Int.toNat (quoI .i64 y0_1.1 64)) (orI .u64 (List.getD (y800004 ++ ([0] : (List Int))) (Int.toNat (quoI .i64 y0_1.1 64)) (0 : Int)) (shlI .u64 1 (remI y0_1.1 64))))) else none) else none) else none)) else none) else none) else none) else (G (addI .i64 x7 1) (addI .i64 x14 1) (((addI .i64 y0_1.1 1), y0_1.2) : (Int × Int)) (y800004 ++ ([0] : (List Int))))))) else none) else (Option.bind (pledge_Plan_Bit.f k y0_0 (List.getD y1 (Int.toNat x14) (List.replicate 32 0 : (List Int))) y2 y3) (fun r3 => (bif r3 then (bif (decide (0 ≤ (quoI .i64 y0_1.1 64))) then (bif (decide ((quoI .i64 y0_1.1 64) < ((List.length y800004) : Int))) then (bif (decide ((Int.toNat (quoI .i64 y0_1.1 64)) < (List.length y800004))) then (bif (decide ((remI y0_1.1 64) < 0)) then none else (bif (decide (0 ≤ (quoI .i64 y0_1.1 64))) then (bif (decide ((quoI .i64 y0_1.1 64) < ((List.length y800004) : Int))) then (bif (decide ((Int.toNat (quoI .i64 y0_1.1 64)) < (List.length y800004))) then (G (addI .i64 x7 1) (addI .i64 x14 1) (((addI .i64 y0_1.1 1), y0_1.2) : (Int × Int)) (List.set y800004 (Int.toNat (quoI .i64 y0_1.1 64)) (orI .u64 (List.getD y800004 (Int.toNat (quoI .i64 y0_1.1 64)) (0 : Int)) (shlI .u64 1 (remI y0_1.1 64))))) else none) else none) else none)) else none) else none) else none) else (G (addI .i64 x7 1) (addI .i64 x14 1) (((addI .i64 y0_1.1 1), y0_1.2) : (Int × Int)) y800004)))))))) else none) else none) else none) else (K x7 x14 y0_1 y800004))
def go {X : Type} (K : Int → Int → (Int × Int) → (List Int) → Option X) (k : Nat) (x1 : Int) (x13 : Int) (y0_0 : (Int × (Int × Int))) (y1 : (List (List Int))) (y2 : (List Int)) (y3 : (List Int)) : Nat → Int → Int → (Int × Int) → (List Int) → Option X
  | 0, _, _, _, _ => none
  | n + 1, x7, x14, y0_1, y800004 => step K (go K k x1 x13 y0_0 y1 y2 y3 n) k x1 x13 y0_0 y1 y2 y3 x7 x14 y0_1 y800004
def f (k : Nat) (x1 : Int) (x13 : Int) (y0_0 : (Int × (Int × Int))) (y1 : (List (List Int))) (y2 : (List Int)) (y3 : (List Int)) (n : Nat) (x7 : Int) (x14 : Int) (y0_1 : (Int × Int)) (y800004 : (List Int)) : Option (Int × (Int × ((Int × Int) × (List Int)))) := go (fun x7 x14 y0_1 y800004 => some (x7, x14, y0_1, y800004)) k x1 x13 y0_0 y1 y2 y3 n x7 x14 y0_1 y800004
theorem step_nat {X Y : Type} (h : X → Option Y) (K : Int → Int → (Int × Int) → (List Int) → Option X) (G : Int → Int → (Int × Int) → (List Int) → Option X) (k : Nat) (x1 : Int) (x13 : Int) (y0_0 : (Int × (Int × Int))) (y1 : (List (List Int))) (y2 : (List Int)) (y3 : (List Int)) (x7 : Int) (x14 : Int) (y0_1 : (Int × Int)) (y800004 : (List Int)) : Option.bind (step K G k x1 x13 y0_0 y1 y2 y3 x7 x14 y0_1 y800004) h = step (fun x7 x14 y0_1 y800004 => Option.bind (K x7 x14 y0_1 y800004) h) (fun x7 x14 y0_1 y800004 => Option.bind (G x7 x14 y0_1 y800004) h) k x1 x13 y0_0 y1 y2 y3 x7 x14 y0_1 y800004 := by
  simp only [step, bif_bind, sel_bind', Option.bind_assoc, Option.bind_none, Option.bind_some]
theorem go_nat {X Y : Type} (h : X → Option Y) (K : Int → Int → (Int × Int) → (List Int) → Option X) (k : Nat) (x1 : Int) (x13 : Int) (y0_0 : (Int × (Int × Int))) (y1 : (List (List Int))) (y2 : (List Int)) (y3 : (List Int)) (n : Nat) : ∀ (x7 : Int) (x14 : Int) (y0_1 : (Int × Int)) (y800004 : (List Int)), Option.bind (go K k x1 x13 y0_0 y1 y2 y3 n x7 x14 y0_1 y800004) h = go (fun x7 x14 y0_1 y800004 => Option.bind (K x7 x14 y0_1 y800004) h) k x1 x13 y0_0 y1 y2 y3 n x7 x14 y0_1 y800004 := by
  induction n with
  | zero => intros; rfl
  | succ n ih => intro x7 x14 y0_1 y800004; show Option.bind (step K (go K k x1 x13 y0_0 y1 y2 y3 n) k x1 x13 y0_0 y1 y2 y3 x7 x14 y0_1 y800004) h = step (fun x7 x14 y0_1 y800004 => Option.bind (K x7 x14 y0_1 y800004) h) (go (fun x7 x14 y0_1 y800004 => Option.bind (K x7 x14 y0_1 y800004) h) k x1 x13 y0_0 y1 y2 y3 n) k x1 x13 y0_0 y1 y2 y3 x7 x14 y0_1 y800004; rw [step_nat h]; simp only [ih]
abbrev S : List (Nat × Sh) := [(0, .ptr 0), (1, .data (.int .i64)), (7, .data (.int .i64)), (12, .vec 1), (13, .data (.int .i64)), (14, .data (.int .i64))]
abbrev H : List (Nat × ESh) := [(0, .cell (.pair (.data (.pair (.int .i64) (.pair (.int .i64) (.int .i64)))) (.pair (.vec 800004) (.data (.pair (.int .i64) (.int .i64)))))), (1, .rows 2 24 (.arr .u8 32)), (2, .glob 0 (.arr .u32 8)), (3, .glob 1 (.arr .u32 64)), (800004, .rows 2 85 (.int .u64))]
abbrev cl : List (Place × Nat × Hint) := [(.id 0, 3, (.row 2 85 (.int .u64)))]
abbrev hn : List (Nat × Hint) := [(0, .any), (1, .any), (7, .any), (12, .any), (13, .any), (14, .any)]
abbrev kp : List Nat := [0, 1, 2, 3]
abbrev rc : List (Place × Nat × Hint) := []
abbrev rs : List (Nat × Hint) := []
abbrev ri : List Nat := [0, 1, 2, 3]
def KX (d : (Unit × Int × Int × Unit × Int × Int × Unit)) (e : (((Int × (Int × Int)) × (Unit × (Int × Int))) × (List (List Int)) × (List Int) × (List Int) × (List Int) × Unit)) (v : (Int × (Int × ((Int × Int) × (List Int))))) : St := ⟨mkS S ((), d.2.1, v.1, (), d.2.2.2.2.1, v.2.1, ()), mkH H ((e.1.1, ((), v.2.2.1)), e.2.1, e.2.2.1, e.2.2.2.1, v.2.2.2, ())⟩
def sum (k : Nat) : LoopSum := sigLoopX S cl hn kp H 0 (fun (d : (Unit × Int × Int × Unit × Int × Int × Unit)) (e : (((Int × (Int × Int)) × (Unit × (Int × Int))) × (List (List Int)) × (List Int) × (List Int) × (List Int) × Unit)) => f k d.2.1 d.2.2.2.2.1 e.1.1 e.2.1 e.2.2.1 e.2.2.2.1 k d.2.2.1 d.2.2.2.2.2.1 e.1.2.2 e.2.2.2.2.1) KX
end l0
def tree {X : Type} (K : Int → (Int × (Int × Int)) → (Int × Int) → (List Int) → Option X) (k : Nat) (a1 : Int) (m0_0 : (Int × (Int × Int))) (m0_1 : (Int × Int)) (m1 : (List (List Int))) (m2 : (List Int)) (m3 : (List Int)) : Option X :=
  (Option.bind (pledge_Book_Give.l0.f k a1 ((List.length m1) : Int) m0_0 m1 m2 m3 k (0 : Int) (0 : Int) m0_1 ([] : (List Int))) (fun r4 => (K r4.1 m0_0 r4.2.2.1 r4.2.2.2)))
def f (k : Nat) (a1 : Int) (m0_0 : (Int × (Int × Int))) (m0_1 : (Int × Int)) (m1 : (List (List Int))) (m2 : (List Int)) (m3 : (List Int)) : Option (Int × ((Int × (Int × Int)) × ((Int × Int) × (List Int)))) := tree (fun b0 b1 b2 b3 => some (b0, b1, b2, b3)) k a1 m0_0 m0_1 m1 m2 m3
theorem tree_nat {X Y : Type} (h : X → Option Y) (K : Int → (Int × (Int × Int)) → (Int × Int) → (List Int) → Option X) (k : Nat) (a1 : Int) (m0_0 : (Int × (Int × Int))) (m0_1 : (Int × Int)) (m1 : (List (List Int))) (m2 : (List Int)) (m3 : (List Int)) : Option.bind (tree K k a1 m0_0 m0_1 m1 m2 m3) h = tree (fun b0 b1 b2 b3 => Option.bind (K b0 b1 b2 b3) h) k a1 m0_0 m0_1 m1 m2 m3 := by
  simp only [tree, bif_bind, sel_bind', Option.bind_assoc, Option.bind_none, Option.bind_some]
abbrev ps : List Sh := [.ptr 0, .data (.int .i64), .vec 1]
abbrev hs : List (Nat × ESh) := [(0, .cell (.pair (.data (.pair (.int .i64) (.pair (.int .i64) (.int .i64)))) (.pair .nils (.data (.pair (.int .i64) (.int .i64)))))), (1, .rows 2 24 (.arr .u8 32)), (2, .glob 0 (.arr .u32 8)), (3, .glob 1 (.arr .u32 64))]
abbrev hi : List Nat := hs.map (·.1)
abbrev fi : List Nat := [0, 1, 2, 3, 900004]
abbrev cl : List (Place × Nat × Hint) := []
abbrev hn : List Hint := [.any]
def val (t : (Int × ((Int × (Int × Int)) × ((Int × Int) × (List Int))))) : AV := Sh.mk (.data (.int .i64)) t.1
def wr (t : (Int × ((Int × (Int × Int)) × ((Int × Int) × (List Int))))) : Heap := [(0, ESh.mk (.cell (.pair (.data (.pair (.int .i64) (.pair (.int .i64) (.int .i64)))) (.pair (.vec 900004) (.data (.pair (.int .i64) (.int .i64)))))) (t.2.1, ((), t.2.2.1))), (900004, ESh.mk (.rows 2 85 (.int .u64)) t.2.2.2)]
def callee (k : Nat) : Callee := sigCallee ps hs (fun (d : (Unit × Int × Unit × Unit)) (e : (((Int × (Int × Int)) × (Unit × (Int × Int))) × (List (List Int)) × (List Int) × (List Int) × Unit)) => f k d.2.1 e.1.1 e.1.2.2 e.2.1 e.2.2.1 e.2.2.2.1) val wr
def E (k : Nat) : Env := ⟨fnTab [(38, [pledge_Plan_Due.callee k]), (40, [pledge_Plan_Bit.callee k])], loopTab [(0, l0.sum k)], natsTab [(40, [2, 3])], natTab [(0, 2), (1, 3)]⟩
theorem fE (k : Nat) : ∀ f, ∀ c ∈ (E k).fn f, CalleeOK Tryd.prog f c := fnTab_ok ⟨⟨pledge_Plan_Due.ok k, trivial⟩, ⟨pledge_Plan_Bit.ok k, trivial⟩, trivial⟩
namespace l0
theorem round (k : Nat) (d : (Unit × Int × Int × Unit × Int × Int × Unit)) (e : (((Int × (Int × Int)) × (Unit × (Int × Int))) × (List (List Int)) × (List Int) × (List Int) × (List Int) × Unit)) (G : St → Option (Ex × St)) : roundK Tryd.prog (E k) 79 0 (subC (bodyOf Tryd.f42) [1, 1, 1, 0, 1, 0, 0]) (recast cl hn kp) (finBy cl hn kp rc rs ri) G ⟨mkS S d, mkH H e⟩ =
    step (fun x7 x14 y0_1 y800004 => some (.exit 0, KX d e (x7, x14, y0_1, y800004))) (fun x7 x14 y0_1 y800004 => G ⟨mkS S ((), d.2.1, x7, (), d.2.2.2.2.1, x14, ()), mkH H ((e.1.1, ((), y0_1)), e.2.1, e.2.2.1, e.2.2.2.1, y800004, ())⟩) k d.2.1 d.2.2.2.2.1 e.1.1 e.2.1 e.2.2.1 e.2.2.2.1 d.2.2.1 d.2.2.2.2.2.1 e.1.2.2 e.2.2.2.2.1 := by kernel_rfl
theorem it (k n : Nat) (d : (Unit × Int × Int × Unit × Int × Int × Unit)) (e : (((Int × (Int × Int)) × (Unit × (Int × Int))) × (List (List Int)) × (List Int) × (List Int) × (List Int) × Unit)) : loopIt Tryd.prog (E k) 79 0 (subC (bodyOf Tryd.f42) [1, 1, 1, 0, 1, 0, 0]) (recast cl hn kp) (finBy cl hn kp rc rs ri) n ⟨mkS S d, mkH H e⟩ = go (fun x7 x14 y0_1 y800004 => some (.exit 0, KX d e (x7, x14, y0_1, y800004))) k d.2.1 d.2.2.2.2.1 e.1.1 e.2.1 e.2.2.1 e.2.2.2.1 n d.2.2.1 d.2.2.2.2.2.1 e.1.2.2 e.2.2.2.2.1 :=
  loopIt_eq (D := (Unit × Int × Int × Unit × Int × Int × Unit) × (((Int × (Int × Int)) × (Unit × (Int × Int))) × (List (List Int)) × (List Int) × (List Int) × (List Int) × Unit)) (fun p => ⟨mkS S p.1, mkH H p.2⟩) (fun F p => step (fun x7 x14 y0_1 y800004 => some (.exit 0, KX p.1 p.2 (x7, x14, y0_1, y800004))) (fun x7 x14 y0_1 y800004 => F (((), p.1.2.1, x7, (), p.1.2.2.2.2.1, x14, ()), ((p.2.1.1, ((), y0_1)), p.2.2.1, p.2.2.2.1, p.2.2.2.2.1, y800004, ()))) k p.1.2.1 p.1.2.2.2.2.1 p.2.1.1 p.2.2.1 p.2.2.2.1 p.2.2.2.2.1 p.1.2.2.1 p.1.2.2.2.2.2.1 p.2.1.2.2 p.2.2.2.2.2.1) (fun n p => go (fun x7 x14 y0_1 y800004 => some (.exit 0, KX p.1 p.2 (x7, x14, y0_1, y800004))) k p.1.2.1 p.1.2.2.2.2.1 p.2.1.1 p.2.2.1 p.2.2.2.1 p.2.2.2.2.1 n p.1.2.2.1 p.1.2.2.2.2.2.1 p.2.1.2.2 p.2.2.2.2.2.1) (fun _ => rfl) (fun _ _ => rfl) (fun G p => round k p.1 p.2 G) n (d, e)
theorem ok (k : Nat) : LoopOK Tryd.prog 79 (subC (bodyOf Tryd.f42) [1, 1, 1, 0, 1, 0, 0]) (sum k) :=
  loop_sigX hm (fE k) (loopsOK_of [] (by kernel_rfl) trivial) S cl hn kp H 0 (fun (d : (Unit × Int × Int × Unit × Int × Int × Unit)) (e : (((Int × (Int × Int)) × (Unit × (Int × Int))) × (List (List Int)) × (List Int) × (List Int) × (List Int) × Unit)) => f k d.2.1 d.2.2.2.2.1 e.1.1 e.2.1 e.2.2.1 e.2.2.2.1 k d.2.2.1 d.2.2.2.2.2.1 e.1.2.2 e.2.2.2.2.1) KX cl hn kp rc rs ri k
    (fun d e => (it k k d e).trans (go_nat (fun v => some (Ex.exit 0, KX d e v)) (fun x7 x14 y0_1 y800004 => some (x7, x14, y0_1, y800004)) k d.2.1 d.2.2.2.2.1 e.1.1 e.2.1 e.2.2.1 e.2.2.2.1 k d.2.2.1 d.2.2.2.2.2.1 e.1.2.2 e.2.2.2.2.1).symm)
end l0
theorem run (k : Nat) (d : (Unit × Int × Unit × Unit)) (e : (((Int × (Int × Int)) × (Unit × (Int × Int))) × (List (List Int)) × (List Int) × (List Int) × Unit)) : runFn Tryd.prog (E k) 79 (bodyOf Tryd.f42) Tryd.f42.results.toList cl hn hi (mkL ps d) (mkH hs e) =
    tree (fun b0 b1 b2 b3 => leafFn hs fi e val wr (b0, b1, b2, b3)) k d.2.1 e.1.1 e.1.2.2 e.2.1 e.2.2.1 e.2.2.2.1 := by kernel_rfl
theorem run_f (k : Nat) (d : (Unit × Int × Unit × Unit)) (e : (((Int × (Int × Int)) × (Unit × (Int × Int))) × (List (List Int)) × (List Int) × (List Int) × Unit)) : runFn Tryd.prog (E k) 79 (bodyOf Tryd.f42) Tryd.f42.results.toList cl hn hi (mkL ps d) (mkH hs e) = (f k d.2.1 e.1.1 e.1.2.2 e.2.1 e.2.2.1 e.2.2.2.1).bind (leafFn hs fi e val wr) :=
  (run k d e).trans (tree_nat (leafFn hs fi e val wr) (fun b0 b1 b2 b3 => some (b0, b1, b2, b3)) k d.2.1 e.1.1 e.1.2.2 e.2.1 e.2.2.1 e.2.2.2.1).symm
theorem fnIs : FnIs Tryd.prog 42 Tryd.f42 (bodyOf Tryd.f42) 79 := ⟨by kernel_rfl, by kernel_rfl, by kernel_rfl, by kernel_rfl⟩
theorem ok (k : Nat) : CalleeOK Tryd.prog 42 (callee k) :=
  callee_sig (T := (Int × ((Int × (Int × Int)) × ((Int × Int) × (List Int))))) fnIs hm (fE k) (loopsOK_of [(0, subC (bodyOf Tryd.f42) [1, 1, 1, 0, 1, 0, 0])] (by kernel_rfl) ⟨of_loop (l0.sum k) rfl (l0.ok k), trivial⟩) ps hs cl hn fi (fun (d : (Unit × Int × Unit × Unit)) (e : (((Int × (Int × Int)) × (Unit × (Int × Int))) × (List (List Int)) × (List Int) × (List Int) × Unit)) => f k d.2.1 e.1.1 e.1.2.2 e.2.1 e.2.2.1 e.2.2.2.1) val wr rfl (fun _ => rfl) (run_f k)
end pledge_Book_Give
namespace pledge_Book_Given
def tree {X : Type} (K : Int → Option X) (k : Nat) (m0_0 : (Int × (Int × Int))) (m0_1 : (Int × Int)) (m1 : (List Int)) : Option X :=
  (K m0_1.1)
def f (k : Nat) (m0_0 : (Int × (Int × Int))) (m0_1 : (Int × Int)) (m1 : (List Int)) : Option Int := tree (fun b0 => some b0) k m0_0 m0_1 m1
theorem tree_nat {X Y : Type} (h : X → Option Y) (K : Int → Option X) (k : Nat) (m0_0 : (Int × (Int × Int))) (m0_1 : (Int × Int)) (m1 : (List Int)) : Option.bind (tree K k m0_0 m0_1 m1) h = tree (fun b0 => Option.bind (K b0) h) k m0_0 m0_1 m1 := by
  simp only [tree, bif_bind, sel_bind', Option.bind_assoc, Option.bind_none, Option.bind_some]
abbrev ps : List Sh := [.ptr 0]
abbrev hs : List (Nat × ESh) := [(0, .cell (.pair (.data (.pair (.int .i64) (.pair (.int .i64) (.int .i64)))) (.pair (.vec 1) (.data (.pair (.int .i64) (.int .i64)))))), (1, .rows 2 85 (.int .u64))]
abbrev hi : List Nat := hs.map (·.1)
abbrev fi : List Nat := [0, 1]
abbrev cl : List (Place × Nat × Hint) := []
abbrev hn : List Hint := [.any]
def val (t : Int) : AV := Sh.mk (.data (.int .i64)) t
def wr (t : Int) : Heap := []
def callee (k : Nat) : Callee := sigCallee ps hs (fun (d : (Unit × Unit)) (e : (((Int × (Int × Int)) × (Unit × (Int × Int))) × (List Int) × Unit)) => f k e.1.1 e.1.2.2 e.2.1) val wr
def E (k : Nat) : Env := ⟨fnTab [], loopTab [], natsTab [], natTab []⟩
theorem fE (k : Nat) : ∀ f, ∀ c ∈ (E k).fn f, CalleeOK Tryd.prog f c := fnTab_ok trivial
theorem run (k : Nat) (d : (Unit × Unit)) (e : (((Int × (Int × Int)) × (Unit × (Int × Int))) × (List Int) × Unit)) : runFn Tryd.prog (E k) 9 (bodyOf Tryd.f46) Tryd.f46.results.toList cl hn hi (mkL ps d) (mkH hs e) =
    tree (fun b0 => leafFn hs fi e val wr b0) k e.1.1 e.1.2.2 e.2.1 := by kernel_rfl
theorem run_f (k : Nat) (d : (Unit × Unit)) (e : (((Int × (Int × Int)) × (Unit × (Int × Int))) × (List Int) × Unit)) : runFn Tryd.prog (E k) 9 (bodyOf Tryd.f46) Tryd.f46.results.toList cl hn hi (mkL ps d) (mkH hs e) = (f k e.1.1 e.1.2.2 e.2.1).bind (leafFn hs fi e val wr) :=
  (run k d e).trans (tree_nat (leafFn hs fi e val wr) (fun b0 => some b0) k e.1.1 e.1.2.2 e.2.1).symm
theorem fnIs : FnIs Tryd.prog 46 Tryd.f46 (bodyOf Tryd.f46) 9 := ⟨by kernel_rfl, by kernel_rfl, by kernel_rfl, by kernel_rfl⟩
theorem ok (k : Nat) : CalleeOK Tryd.prog 46 (callee k) :=
  callee_sig (T := Int) fnIs hm (fE k) (loopsOK_of [] (by kernel_rfl) trivial) ps hs cl hn fi (fun (d : (Unit × Unit)) (e : (((Int × (Int × Int)) × (Unit × (Int × Int))) × (List Int) × Unit)) => f k e.1.1 e.1.2.2 e.2.1) val wr rfl (fun _ => rfl) (run_f k)
end pledge_Book_Given
namespace pledge_Book_Left
def tree {X : Type} (K : Int → Option X) (k : Nat) (m0_0 : (Int × (Int × Int))) (m0_1 : (Int × Int)) (m1 : (List Int)) : Option X :=
  (K (subI .i64 m0_1.1 m0_1.2))
def f (k : Nat) (m0_0 : (Int × (Int × Int))) (m0_1 : (Int × Int)) (m1 : (List Int)) : Option Int := tree (fun b0 => some b0) k m0_0 m0_1 m1
theorem tree_nat {X Y : Type} (h : X → Option Y) (K : Int → Option X) (k : Nat) (m0_0 : (Int × (Int × Int))) (m0_1 : (Int × Int)) (m1 : (List Int)) : Option.bind (tree K k m0_0 m0_1 m1) h = tree (fun b0 => Option.bind (K b0) h) k m0_0 m0_1 m1 := by
  simp only [tree, bif_bind, sel_bind', Option.bind_assoc, Option.bind_none, Option.bind_some]
abbrev ps : List Sh := [.ptr 0]
abbrev hs : List (Nat × ESh) := [(0, .cell (.pair (.data (.pair (.int .i64) (.pair (.int .i64) (.int .i64)))) (.pair (.vec 1) (.data (.pair (.int .i64) (.int .i64)))))), (1, .rows 2 85 (.int .u64))]
abbrev hi : List Nat := hs.map (·.1)
abbrev fi : List Nat := [0, 1]
abbrev cl : List (Place × Nat × Hint) := []
abbrev hn : List Hint := [.any]
def val (t : Int) : AV := Sh.mk (.data (.int .i64)) t
def wr (t : Int) : Heap := []
def callee (k : Nat) : Callee := sigCallee ps hs (fun (d : (Unit × Unit)) (e : (((Int × (Int × Int)) × (Unit × (Int × Int))) × (List Int) × Unit)) => f k e.1.1 e.1.2.2 e.2.1) val wr
def E (k : Nat) : Env := ⟨fnTab [], loopTab [], natsTab [], natTab []⟩
theorem fE (k : Nat) : ∀ f, ∀ c ∈ (E k).fn f, CalleeOK Tryd.prog f c := fnTab_ok trivial
theorem run (k : Nat) (d : (Unit × Unit)) (e : (((Int × (Int × Int)) × (Unit × (Int × Int))) × (List Int) × Unit)) : runFn Tryd.prog (E k) 14 (bodyOf Tryd.f44) Tryd.f44.results.toList cl hn hi (mkL ps d) (mkH hs e) =
    tree (fun b0 => leafFn hs fi e val wr b0) k e.1.1 e.1.2.2 e.2.1 := by kernel_rfl
theorem run_f (k : Nat) (d : (Unit × Unit)) (e : (((Int × (Int × Int)) × (Unit × (Int × Int))) × (List Int) × Unit)) : runFn Tryd.prog (E k) 14 (bodyOf Tryd.f44) Tryd.f44.results.toList cl hn hi (mkL ps d) (mkH hs e) = (f k e.1.1 e.1.2.2 e.2.1).bind (leafFn hs fi e val wr) :=
  (run k d e).trans (tree_nat (leafFn hs fi e val wr) (fun b0 => some b0) k e.1.1 e.1.2.2 e.2.1).symm
theorem fnIs : FnIs Tryd.prog 44 Tryd.f44 (bodyOf Tryd.f44) 14 := ⟨by kernel_rfl, by kernel_rfl, by kernel_rfl, by kernel_rfl⟩
theorem ok (k : Nat) : CalleeOK Tryd.prog 44 (callee k) :=
  callee_sig (T := Int) fnIs hm (fE k) (loopsOK_of [] (by kernel_rfl) trivial) ps hs cl hn fi (fun (d : (Unit × Unit)) (e : (((Int × (Int × Int)) × (Unit × (Int × Int))) × (List Int) × Unit)) => f k e.1.1 e.1.2.2 e.2.1) val wr rfl (fun _ => rfl) (run_f k)
end pledge_Book_Left
namespace trailheadlaw18_alive
def tree {X : Type} (K : Bool → Option X) (k : Nat) (m0 : (List Int)) (m1 : (List Int)) : Option X :=
  (Option.bind (pledge_New.f k ((0, (4, 1)) : (Int × (Int × Int)))) (fun r1 => sel r1 (fun v2 => (K false)) (fun w3 => (Option.bind (pledge_Book_Give.f k (0 : Int) w3.1 w3.2 ([[0, 0, 0, 0, 0, 0, 0, 0, 0, 0, 0, 0, 0, 0, 0, 0, 0, 0, 0, 0, 0, 0, 0, 0, 0, 0, 0, 0, 0, 0, 0, 0], [0, 0, 0, 0, 0, 0, 0, 0, 0, 0, 0, 0, 0, 0, 0, 0, 0, 0, 0, 0, 0, 0, 0, 0, 0, 0, 0, 0, 0, 0, 0, 0]] : (List (List Int))) m0 m1) (fun r4 => (bif (r4.1 == (1 : Int)) then (Option.bind (pledge_Book_Given.f k r4.2.1 r4.2.2.1 r4.2.2.2) (fun r5 => (bif (r5 == (1 : Int)) then (Option.bind (pledge_Book_Left.f k r4.2.1 r4.2.2.1 r4.2.2.2) (fun r6 => (K (r6 == (1 : Int))))) else (K false)))) else (K false)))))))
def f (k : Nat) (m0 : (List Int)) (m1 : (List Int)) : Option Bool := tree (fun b0 => some b0) k m0 m1
theorem tree_nat {X Y : Type} (h : X → Option Y) (K : Bool → Option X) (k : Nat) (m0 : (List Int)) (m1 : (List Int)) : Option.bind (tree K k m0 m1) h = tree (fun b0 => Option.bind (K b0) h) k m0 m1 := by
  simp only [tree, bif_bind, sel_bind', Option.bind_assoc, Option.bind_none, Option.bind_some]
abbrev ps : List Sh := []
abbrev hs : List (Nat × ESh) := [(0, .glob 0 (.arr .u32 8)), (1, .glob 1 (.arr .u32 64))]
abbrev hi : List Nat := hs.map (·.1)
abbrev fi : List Nat := [0, 1]
abbrev cl : List (Place × Nat × Hint) := []
abbrev hn : List Hint := [.any]
def val (t : Bool) : AV := Sh.mk (.data .bool) t
def wr (t : Bool) : Heap := []
def callee (k : Nat) : Callee := sigCallee ps hs (fun (d : Unit) (e : ((List Int) × (List Int) × Unit)) => f k e.1 e.2.1) val wr
def E (k : Nat) : Env := ⟨fnTab [(36, [pledge_New.callee k]), (42, [pledge_Book_Give.callee k]), (46, [pledge_Book_Given.callee k]), (44, [pledge_Book_Left.callee k])], loopTab [], natsTab [(42, [0, 1])], natTab [(0, 0), (1, 1)]⟩
theorem fE (k : Nat) : ∀ f, ∀ c ∈ (E k).fn f, CalleeOK Tryd.prog f c := fnTab_ok ⟨⟨pledge_New.ok k, trivial⟩, ⟨pledge_Book_Give.ok k, trivial⟩, ⟨pledge_Book_Given.ok k, trivial⟩, ⟨pledge_Book_Left.ok k, trivial⟩, trivial⟩
theorem run (k : Nat) (d : Unit) (e : ((List Int) × (List Int) × Unit)) : runFn Tryd.prog (E k) 28 (bodyOf Tryd.f35) Tryd.f35.results.toList cl hn hi (mkL ps d) (mkH hs e) =
    tree (fun b0 => leafFn hs fi e val wr b0) k e.1 e.2.1 := by kernel_rfl
theorem run_f (k : Nat) (d : Unit) (e : ((List Int) × (List Int) × Unit)) : runFn Tryd.prog (E k) 28 (bodyOf Tryd.f35) Tryd.f35.results.toList cl hn hi (mkL ps d) (mkH hs e) = (f k e.1 e.2.1).bind (leafFn hs fi e val wr) :=
  (run k d e).trans (tree_nat (leafFn hs fi e val wr) (fun b0 => some b0) k e.1 e.2.1).symm
theorem fnIs : FnIs Tryd.prog 35 Tryd.f35 (bodyOf Tryd.f35) 28 := ⟨by kernel_rfl, by kernel_rfl, by kernel_rfl, by kernel_rfl⟩
theorem ok (k : Nat) : CalleeOK Tryd.prog 35 (callee k) :=
  callee_sig (T := Bool) fnIs hm (fE k) (loopsOK_of [] (by kernel_rfl) trivial) ps hs cl hn fi (fun (d : Unit) (e : ((List Int) × (List Int) × Unit)) => f k e.1 e.2.1) val wr rfl (fun _ => rfl) (run_f k)
end trailheadlaw18_alive
namespace trailheadref18_Due
def tree {X : Type} (K : Bool → Option X) (k : Nat) (a0 : Int) (a1 : Int) (a2 : Int) : Option X :=
  (bif (decide (a0 ≥ (1 : Int))) then (bif (decide (a0 ≤ (64 : Int))) then (bif (decide (a1 ≥ (0 : Int))) then (bif (decide (a1 < a0)) then (bif (decide (a2 ≥ (0 : Int))) then (bif (decide (a0 = 0)) then none else (K ((remI a2 a0) == a1))) else (K false)) else (K false)) else (K false)) else (K false)) else (K false))
def f (k : Nat) (a0 : Int) (a1 : Int) (a2 : Int) : Option Bool := tree (fun b0 => some b0) k a0 a1 a2
theorem tree_nat {X Y : Type} (h : X → Option Y) (K : Bool → Option X) (k : Nat) (a0 : Int) (a1 : Int) (a2 : Int) : Option.bind (tree K k a0 a1 a2) h = tree (fun b0 => Option.bind (K b0) h) k a0 a1 a2 := by
  simp only [tree, bif_bind, sel_bind', Option.bind_assoc, Option.bind_none, Option.bind_some]
abbrev ps : List Sh := [.data (.int .i64), .data (.int .i64), .data (.int .i64)]
abbrev hs : List (Nat × ESh) := []
abbrev hi : List Nat := hs.map (·.1)
abbrev fi : List Nat := []
abbrev cl : List (Place × Nat × Hint) := []
abbrev hn : List Hint := [.any]
def val (t : Bool) : AV := Sh.mk (.data .bool) t
def wr (t : Bool) : Heap := []
def callee (k : Nat) : Callee := sigCallee ps hs (fun (d : (Int × Int × Int × Unit)) (e : Unit) => f k d.1 d.2.1 d.2.2.1) val wr
def E (k : Nat) : Env := ⟨fnTab [], loopTab [], natsTab [], natTab []⟩
theorem fE (k : Nat) : ∀ f, ∀ c ∈ (E k).fn f, CalleeOK Tryd.prog f c := fnTab_ok trivial
theorem run (k : Nat) (d : (Int × Int × Int × Unit)) (e : Unit) : runFn Tryd.prog (E k) 33 (bodyOf Tryd.f39) Tryd.f39.results.toList cl hn hi (mkL ps d) (mkH hs e) =
    tree (fun b0 => leafFn hs fi e val wr b0) k d.1 d.2.1 d.2.2.1 := by kernel_rfl
theorem run_f (k : Nat) (d : (Int × Int × Int × Unit)) (e : Unit) : runFn Tryd.prog (E k) 33 (bodyOf Tryd.f39) Tryd.f39.results.toList cl hn hi (mkL ps d) (mkH hs e) = (f k d.1 d.2.1 d.2.2.1).bind (leafFn hs fi e val wr) :=
  (run k d e).trans (tree_nat (leafFn hs fi e val wr) (fun b0 => some b0) k d.1 d.2.1 d.2.2.1).symm
theorem fnIs : FnIs Tryd.prog 39 Tryd.f39 (bodyOf Tryd.f39) 33 := ⟨by kernel_rfl, by kernel_rfl, by kernel_rfl, by kernel_rfl⟩
theorem ok (k : Nat) : CalleeOK Tryd.prog 39 (callee k) :=
  callee_sig (T := Bool) fnIs hm (fE k) (loopsOK_of [] (by kernel_rfl) trivial) ps hs cl hn fi (fun (d : (Int × Int × Int × Unit)) (e : Unit) => f k d.1 d.2.1 d.2.2.1) val wr rfl (fun _ => rfl) (run_f k)
end trailheadref18_Due
namespace trailheadref18_Bit
def tree {X : Type} (K : Bool → Option X) (k : Nat) (a0 : Int) (a1 : (List Int)) : Option X :=
  (Option.bind (trailheadref05_Number.f k (8 : Int) a0) (fun r1 => (Option.bind (trailheadref05_Name.f k a1) (fun r2 => (bif (fits ((List.length r1) + (List.length r2))) then (Option.bind (trailheadref01_Double.f k (r1 ++ r2)) (fun r3 => (K ((remI (List.getD r3 0 0) 2) == (1 : Int))))) else none)))))
def f (k : Nat) (a0 : Int) (a1 : (List Int)) : Option Bool := tree (fun b0 => some b0) k a0 a1
theorem tree_nat {X Y : Type} (h : X → Option Y) (K : Bool → Option X) (k : Nat) (a0 : Int) (a1 : (List Int)) : Option.bind (tree K k a0 a1) h = tree (fun b0 => Option.bind (K b0) h) k a0 a1 := by
  simp only [tree, bif_bind, sel_bind', Option.bind_assoc, Option.bind_none, Option.bind_some]
abbrev ps : List Sh := [.data (.int .i64), .data (.arr .u8 32)]
abbrev hs : List (Nat × ESh) := []
abbrev hi : List Nat := hs.map (·.1)
abbrev fi : List Nat := []
abbrev cl : List (Place × Nat × Hint) := []
abbrev hn : List Hint := [.any]
def val (t : Bool) : AV := Sh.mk (.data .bool) t
def wr (t : Bool) : Heap := []
def callee (k : Nat) : Callee := sigCallee ps hs (fun (d : (Int × (List Int) × Unit)) (e : Unit) => f k d.1 d.2.1) val wr
def E (k : Nat) : Env := ⟨fnTab [(65, [trailheadref05_Number.callee k]), (66, [trailheadref05_Name.callee k]), (22, [trailheadref01_Double.callee k])], loopTab [], natsTab [], natTab []⟩
theorem fE (k : Nat) : ∀ f, ∀ c ∈ (E k).fn f, CalleeOK Tryd.prog f c := fnTab_ok ⟨⟨trailheadref05_Number.ok k, trivial⟩, ⟨trailheadref05_Name.ok k, trivial⟩, ⟨trailheadref01_Double.ok k, trivial⟩, trivial⟩
theorem run (k : Nat) (d : (Int × (List Int) × Unit)) (e : Unit) : runFn Tryd.prog (E k) 16 (bodyOf Tryd.f41) Tryd.f41.results.toList cl hn hi (mkL ps d) (mkH hs e) =
    tree (fun b0 => leafFn hs fi e val wr b0) k d.1 d.2.1 := by kernel_rfl
theorem run_f (k : Nat) (d : (Int × (List Int) × Unit)) (e : Unit) : runFn Tryd.prog (E k) 16 (bodyOf Tryd.f41) Tryd.f41.results.toList cl hn hi (mkL ps d) (mkH hs e) = (f k d.1 d.2.1).bind (leafFn hs fi e val wr) :=
  (run k d e).trans (tree_nat (leafFn hs fi e val wr) (fun b0 => some b0) k d.1 d.2.1).symm
theorem fnIs : FnIs Tryd.prog 41 Tryd.f41 (bodyOf Tryd.f41) 16 := ⟨by kernel_rfl, by kernel_rfl, by kernel_rfl, by kernel_rfl⟩
theorem ok (k : Nat) : CalleeOK Tryd.prog 41 (callee k) :=
  callee_sig (T := Bool) fnIs hm (fE k) (loopsOK_of [] (by kernel_rfl) trivial) ps hs cl hn fi (fun (d : (Int × (List Int) × Unit)) (e : Unit) => f k d.1 d.2.1) val wr rfl (fun _ => rfl) (run_f k)
end trailheadref18_Bit
namespace trailheadlaw18_PledgePlans
def tree {X : Type} (K : Bool → Option X) (k : Nat) (a0 : (Int × (Int × Int))) (a1 : Int) (a2 : (List Int)) (m0 : (List Int)) (m1 : (List Int)) : Option X :=
  (Option.bind (trailheadlaw18_alive.f k m0 m1) (fun r1 => (bif (!r1) then (K false) else (Option.bind (pledge_New.f k a0) (fun r2 => sel r2 (fun v3 => (bif (decide (a0.2.1 ≥ (1 : Int))) then (bif (decide (a0.2.1 ≤ (64 : Int))) then (bif (decide (a0.2.2 ≥ (0 : Int))) then (Option.bind (pledge_Good.f k a0) (fun r5 => (bif (r5 == (decide (a0.2.2 < a0.2.1))) then (bif (false == (decide (a0.2.2 < a0.2.1))) then (bif (false == (decide (a0.2.2 < a0.2.1))) then (bif (decide (a0.2.2 < a0.2.1)) then (Option.bind (pledge_Plan_Due.f k a0 a1) (fun r6 => (Option.bind (trailheadref18_Due.f k a0.2.1 a0.2.2 a1) (fun r7 => (bif (r6 == r7) then (Option.bind (pledge_Plan_Bit.f k a0 a2 m0 m1) (fun r8 => (Option.bind (trailheadref18_Bit.f k a0.1 a2) (fun r9 => (K (r8 == r9)))))) else (K false)))))) else (Option.bind (pledge_Plan_Due.f k a0 a1) (fun r10 => (Option.bind (trailheadref18_Due.f k a0.2.1 a0.2.2 a1) (fun r11 => (bif (r10 == r11) then (Option.bind (pledge_Plan_Bit.f k a0 a2 m0 m1) (fun r12 => (Option.bind (trailheadref18_Bit.f k a0.1 a2) (fun r13 => (K (r12 == r13)))))) else (K false))))))) else (K false)) else (K false)) else (K false)))) else (Option.bind (pledge_Good.f k a0) (fun r14 => (bif (r14 == false) then (Option.bind (pledge_Plan_Due.f k a0 a1) (fun r15 => (Option.bind (trailheadref18_Due.f k a0.2.1 a0.2.2 a1) (fun r16 => (bif (r15 == r16) then (Option.bind (pledge_Plan_Bit.f k a0 a2 m0 m1) (fun r17 => (Option.bind (trailheadref18_Bit.f k a0.1 a2) (fun r18 => (K (r17 == r18)))))) else (K false)))))) else (K false))))) else (Option.bind (pledge_Good.f k a0) (fun r19 => (bif (r19 == false) then (Option.bind (pledge_Plan_Due.f k a0 a1) (fun r20 => (Option.bind (trailheadref18_Due.f k a0.2.1 a0.2.2 a1) (fun r21 => (bif (r20 == r21) then (Option.bind (pledge_Plan_Bit.f k a0 a2 m0 m1) (fun r22 => (Option.bind (trailheadref18_Bit.f k a0.1 a2) (fun r23 => (K (r22 == r23)))))) else (K false)))))) else (K false))))) else (Option.bind (pledge_Good.f k a0) (fun r24 => (bif (r24 == false) then (Option.bind (pledge_Plan_Due.f k a0 a1) (fun r25 => (Option.bind (trailheadref18_Due.f k a0.2.1 a0.2.2 a1) (fun r26 => (bif (r25 == r26) then (Option.bind (pledge_Plan_Bit.f k a0 a2 m0 m1) (fun r27 => (Option.bind (trailheadref18_Bit.f k a0.1 a2) (fun r28 => (K (r27 == r28)))))) else (K false)))))) else (K false)))))) (fun w4 => (bif (decide (a0.2.1 ≥ (1 : Int))) then (bif (decide (a0.2.1 ≤ (64 : Int))) then (bif (decide (a0.2.2 ≥ (0 : Int))) then (Option.bind (pledge_Good.f k a0) (fun r29 => (bif (r29 == (decide (a0.2.2 < a0.2.1))) then (bif (true == (decide (a0.2.2 < a0.2.1))) then (bif (true == (decide (a0.2.2 < a0.2.1))) then (bif (decide (a0.2.2 < a0.2.1)) then (Option.bind (pledge_Plan_Due.f k a0 a1) (fun r30 => (Option.bind (trailheadref18_Due.f k a0.2.1 a0.2.2 a1) (fun r31 => (bif (r30 == r31) then (Option.bind (pledge_Plan_Bit.f k a0 a2 m0 m1) (fun r32 => (Option.bind (trailheadref18_Bit.f k a0.1 a2) (fun r33 => (K (r32 == r33)))))) else (K false)))))) else (K false)) else (K false)) else (K false)) else (K false)))) else (Option.bind (pledge_Good.f k a0) (fun r34 => (bif (r34 == false) then (K false) else (K false))))) else (Option.bind (pledge_Good.f k a0) (fun r35 => (bif (r35 == false) then (K false) else (K false))))) else (Option.bind (pledge_Good.f k a0) (fun r36 => (bif (r36 == false) then (K false) else (K false)))))))))))
def f (k : Nat) (a0 : (Int × (Int × Int))) (a1 : Int) (a2 : (List Int)) (m0 : (List Int)) (m1 : (List Int)) : Option Bool := tree (fun b0 => some b0) k a0 a1 a2 m0 m1
theorem tree_nat {X Y : Type} (h : X → Option Y) (K : Bool → Option X) (k : Nat) (a0 : (Int × (Int × Int))) (a1 : Int) (a2 : (List Int)) (m0 : (List Int)) (m1 : (List Int)) : Option.bind (tree K k a0 a1 a2 m0 m1) h = tree (fun b0 => Option.bind (K b0) h) k a0 a1 a2 m0 m1 := by
  simp only [tree, bif_bind, sel_bind', Option.bind_assoc, Option.bind_none, Option.bind_some]
abbrev ps : List Sh := [.data (.pair (.int .i64) (.pair (.int .i64) (.int .i64))), .data (.int .i64), .data (.arr .u8 32)]
abbrev hs : List (Nat × ESh) := [(0, .glob 0 (.arr .u32 8)), (1, .glob 1 (.arr .u32 64))]
abbrev hi : List Nat := hs.map (·.1)
abbrev fi : List Nat := [0, 1]
abbrev cl : List (Place × Nat × Hint) := []
abbrev hn : List Hint := [.any]
def val (t : Bool) : AV := Sh.mk (.data .bool) t
def wr (t : Bool) : Heap := []
def callee (k : Nat) : Callee := sigCallee ps hs (fun (d : ((Int × (Int × Int)) × Int × (List Int) × Unit)) (e : ((List Int) × (List Int) × Unit)) => f k d.1 d.2.1 d.2.2.1 e.1 e.2.1) val wr
def E (k : Nat) : Env := ⟨fnTab [(35, [trailheadlaw18_alive.callee k]), (36, [pledge_New.callee k]), (37, [pledge_Good.callee k]), (38, [pledge_Plan_Due.callee k]), (39, [trailheadref18_Due.callee k]), (40, [pledge_Plan_Bit.callee k]), (41, [trailheadref18_Bit.callee k])], loopTab [], natsTab [(35, [0, 1]), (40, [0, 1])], natTab [(0, 0), (1, 1)]⟩
theorem fE (k : Nat) : ∀ f, ∀ c ∈ (E k).fn f, CalleeOK Tryd.prog f c := fnTab_ok ⟨⟨trailheadlaw18_alive.ok k, trivial⟩, ⟨pledge_New.ok k, trivial⟩, ⟨pledge_Good.ok k, trivial⟩, ⟨pledge_Plan_Due.ok k, trivial⟩, ⟨trailheadref18_Due.ok k, trivial⟩, ⟨pledge_Plan_Bit.ok k, trivial⟩, ⟨trailheadref18_Bit.ok k, trivial⟩, trivial⟩
theorem run (k : Nat) (d : ((Int × (Int × Int)) × Int × (List Int) × Unit)) (e : ((List Int) × (List Int) × Unit)) : runFn Tryd.prog (E k) 82 (bodyOf Tryd.f10) Tryd.f10.results.toList cl hn hi (mkL ps d) (mkH hs e) =
    tree (fun b0 => leafFn hs fi e val wr b0) k d.1 d.2.1 d.2.2.1 e.1 e.2.1 := by kernel_rfl
theorem run_f (k : Nat) (d : ((Int × (Int × Int)) × Int × (List Int) × Unit)) (e : ((List Int) × (List Int) × Unit)) : runFn Tryd.prog (E k) 82 (bodyOf Tryd.f10) Tryd.f10.results.toList cl hn hi (mkL ps d) (mkH hs e) = (f k d.1 d.2.1 d.2.2.1 e.1 e.2.1).bind (leafFn hs fi e val wr) :=
  (run k d e).trans (tree_nat (leafFn hs fi e val wr) (fun b0 => some b0) k d.1 d.2.1 d.2.2.1 e.1 e.2.1).symm
theorem fnIs : FnIs Tryd.prog 10 Tryd.f10 (bodyOf Tryd.f10) 82 := ⟨by kernel_rfl, by kernel_rfl, by kernel_rfl, by kernel_rfl⟩
theorem ok (k : Nat) : CalleeOK Tryd.prog 10 (callee k) :=
  callee_sig (T := Bool) fnIs hm (fE k) (loopsOK_of [] (by kernel_rfl) trivial) ps hs cl hn fi (fun (d : ((Int × (Int × Int)) × Int × (List Int) × Unit)) (e : ((List Int) × (List Int) × Unit)) => f k d.1 d.2.1 d.2.2.1 e.1 e.2.1) val wr rfl (fun _ => rfl) (run_f k)
end trailheadlaw18_PledgePlans
namespace pledge_Book_Give_v1
def tree {X : Type} (K : Int → Option X) (k : Nat) (a1 : Int) (m0 : (List (List Int))) (m1 : (List Int)) (m2 : (List Int)) : Option X :=
  (K (0 : Int))
def f (k : Nat) (a1 : Int) (m0 : (List (List Int))) (m1 : (List Int)) (m2 : (List Int)) : Option Int := tree (fun b0 => some b0) k a1 m0 m1 m2
theorem tree_nat {X Y : Type} (h : X → Option Y) (K : Int → Option X) (k : Nat) (a1 : Int) (m0 : (List (List Int))) (m1 : (List Int)) (m2 : (List Int)) : Option.bind (tree K k a1 m0 m1 m2) h = tree (fun b0 => Option.bind (K b0) h) k a1 m0 m1 m2 := by
  simp only [tree, bif_bind, sel_bind', Option.bind_assoc, Option.bind_none, Option.bind_some]
abbrev ps : List Sh := [.nilp, .data (.int .i64), .vec 0]
abbrev hs : List (Nat × ESh) := [(0, .rows 0 24 (.arr .u8 32)), (1, .glob 0 (.arr .u32 8)), (2, .glob 1 (.arr .u32 64))]
abbrev hi : List Nat := hs.map (·.1)
abbrev fi : List Nat := [0, 1, 2]
abbrev cl : List (Place × Nat × Hint) := []
abbrev hn : List Hint := [.any]
def val (t : Int) : AV := Sh.mk (.data (.int .i64)) t
def wr (t : Int) : Heap := []
def callee (k : Nat) : Callee := sigCallee ps hs (fun (d : (Unit × Int × Unit × Unit)) (e : ((List (List Int)) × (List Int) × (List Int) × Unit)) => f k d.2.1 e.1 e.2.1 e.2.2.1) val wr
def E (k : Nat) : Env := ⟨fnTab [], loopTab [], natsTab [], natTab [(0, 1), (1, 2)]⟩
theorem fE (k : Nat) : ∀ f, ∀ c ∈ (E k).fn f, CalleeOK Tryd.prog f c := fnTab_ok trivial
theorem run (k : Nat) (d : (Unit × Int × Unit × Unit)) (e : ((List (List Int)) × (List Int) × (List Int) × Unit)) : runFn Tryd.prog (E k) 79 (bodyOf Tryd.f42) Tryd.f42.results.toList cl hn hi (mkL ps d) (mkH hs e) =
    tree (fun b0 => leafFn hs fi e val wr b0) k d.2.1 e.1 e.2.1 e.2.2.1 := by kernel_rfl
theorem run_f (k : Nat) (d : (Unit × Int × Unit × Unit)) (e : ((List (List Int)) × (List Int) × (List Int) × Unit)) : runFn Tryd.prog (E k) 79 (bodyOf Tryd.f42) Tryd.f42.results.toList cl hn hi (mkL ps d) (mkH hs e) = (f k d.2.1 e.1 e.2.1 e.2.2.1).bind (leafFn hs fi e val wr) :=
  (run k d e).trans (tree_nat (leafFn hs fi e val wr) (fun b0 => some b0) k d.2.1 e.1 e.2.1 e.2.2.1).symm
theorem fnIs : FnIs Tryd.prog 42 Tryd.f42 (bodyOf Tryd.f42) 79 := ⟨by kernel_rfl, by kernel_rfl, by kernel_rfl, by kernel_rfl⟩
theorem ok (k : Nat) : CalleeOK Tryd.prog 42 (callee k) :=
  callee_sig (T := Int) fnIs hm (fE k) (loopsOK_of [(0, subC (bodyOf Tryd.f42) [1, 1, 1, 0, 1, 0, 0])] (by kernel_rfl) ⟨no_loop rfl, trivial⟩) ps hs cl hn fi (fun (d : (Unit × Int × Unit × Unit)) (e : ((List (List Int)) × (List Int) × (List Int) × Unit)) => f k d.2.1 e.1 e.2.1 e.2.2.1) val wr rfl (fun _ => rfl) (run_f k)
end pledge_Book_Give_v1
namespace pledge_Book_Bits
def tree {X : Type} (K : Option X) (k : Nat) : Option X :=
  (K)
def f (k : Nat) : Option Unit := tree (some ()) k
theorem tree_nat {X Y : Type} (h : X → Option Y) (K : Option X) (k : Nat) : Option.bind (tree K k) h = tree (Option.bind (K) h) k := by
  simp only [tree, bif_bind, sel_bind', Option.bind_assoc, Option.bind_none, Option.bind_some]
abbrev ps : List Sh := [.nilp]
abbrev hs : List (Nat × ESh) := []
abbrev hi : List Nat := hs.map (·.1)
abbrev fi : List Nat := []
abbrev cl : List (Place × Nat × Hint) := []
abbrev hn : List Hint := [.any]
def val (t : Unit) : AV := Sh.mk .nils ()
def wr (t : Unit) : Heap := []
def callee (k : Nat) : Callee := sigCallee ps hs (fun (d : (Unit × Unit)) (e : Unit) => f k) val wr
def E (k : Nat) : Env := ⟨fnTab [], loopTab [], natsTab [], natTab []⟩
theorem fE (k : Nat) : ∀ f, ∀ c ∈ (E k).fn f, CalleeOK Tryd.prog f c := fnTab_ok trivial
theorem run (k : Nat) (d : (Unit × Unit)) (e : Unit) : runFn Tryd.prog (E k) 22 (bodyOf Tryd.f43) Tryd.f43.results.toList cl hn hi (mkL ps d) (mkH hs e) =
    tree (leafFn hs fi e val wr ()) k := by kernel_rfl
theorem run_f (k : Nat) (d : (Unit × Unit)) (e : Unit) : runFn Tryd.prog (E k) 22 (bodyOf Tryd.f43) Tryd.f43.results.toList cl hn hi (mkL ps d) (mkH hs e) = (f k).bind (leafFn hs fi e val wr) :=
  (run k d e).trans (tree_nat (leafFn hs fi e val wr) (some ()) k).symm
theorem fnIs : FnIs Tryd.prog 43 Tryd.f43 (bodyOf Tryd.f43) 22 := ⟨by kernel_rfl, by kernel_rfl, by kernel_rfl, by kernel_rfl⟩
theorem ok (k : Nat) : CalleeOK Tryd.prog 43 (callee k) :=
  callee_sig (T := Unit) fnIs hm (fE k) (loopsOK_of [(0, subC (bodyOf Tryd.f43) [1, 1, 1, 0, 1, 0, 0])] (by kernel_rfl) ⟨no_loop rfl, trivial⟩) ps hs cl hn fi (fun (d : (Unit × Unit)) (e : Unit) => f k) val wr rfl (fun _ => rfl) (run_f k)
end pledge_Book_Bits
namespace pledge_Book_Give_v2
namespace l0
def step {X : Type} (K : Int → Int → (Int × Int) → (List Int) → Option X) (G : Int → Int → (Int × Int) → (List Int) → Option X) (k : Nat) (x1 : Int) (x13 : Int) (y0_0 : (Int × (Int × Int))) (y1 : (List (List Int))) (y2 : (List Int)) (y3 : (List Int)) (x7 : Int) (x14 : Int) (y0_1 : (Int × Int)) (y800004 : (List Int)) : Option X :=
  (bif (decide (x14 < x13)) then (bif (decide (0 ≤ x14)) then (bif (decide (x14 < ((List.length y1) : Int))) then (bif (decide ((Int.toNat x14) < (List.length y1))) then (Option.bind (pledge_Plan_Due.f k y0_0 (addI .i64 x1 x14)) (fun r1 => (bif (!r1) then (G x7 (addI .i64 x14 1) y0_1 y800004) else (bif ((remI y0_1.1 64) == (0 : Int)) then (bif (fits (((List.length y800004) + 1) * 8)) then (Option.bind (pledge_Plan_Bit.f k y0_0 (List.getD y1 (Int.toNat x14) (List.replicate 32 0 : (List Int))) y2 y3) (fun r2 => (bif r2 then (bif (decide (0 ≤ (quoI .i64 y0_1.1 64))) then (bif (decide ((quoI .i64 y0_1.1 64) < ((List.length (y800004 ++ ([0] : (List Int)))) : Int))) then (bif (decide ((Int.toNat (quoI .i64 y0_1.1 64)) < (List.length (y800004 ++ ([0] : (List Int)))))) then (bif (decide ((remI y0_1.1 64) < 0)) then none else (bif (decide (0 ≤ (quoI .i64 y0_1.1 64))) then (bif (decide ((quoI .i64 y0_1.1 64) < ((List.length (y800004 ++ ([0] : (List Int)))) : Int))) then (bif (decide ((Int.toNat (quoI .i64 y0_1.1 64)) < (List.length (y800004 ++ ([0] : (List Int)))))) then (G (addI .i64 x7 1) (addI .i64 x14 1) (((addI .i64 y0_1.1 1), y0_1.2) : (Int × Int)) (List.set (y800004 ++ ([0] : (List Int))) (Int.toNat (quoI .i64 y0_1.1 64)) (orI .u64 (List.getD (y800004 ++ ([0] : (List Int))) (Int.toNat (quoI .i64 y0_1.1 64)) (0 : Int)) (shlI .u64 1 (remI y0_1.1 64))))) else none) else none) else none)) else none) else none) else none) else (G (addI .i64 x7 1) (addI .i64 x14 1) (((addI .i64 y0_1.1 1), y0_1.2) : (Int × Int)) (y800004 ++ ([0] : (List Int))))))) else none) else (Option.bind (pledge_Plan_Bit.f k y0_0 (List.getD y1 (Int.toNat x14) (List.replicate 32 0 : (List Int))) y2 y3) (fun r3 => (bif r3 then (bif (decide (0 ≤ (quoI .i64 y0_1.1 64))) then (bif (decide ((quoI .i64 y0_1.1 64) < ((List.length y800004) : Int))) then (bif (decide ((Int.toNat (quoI .i64 y0_1.1 64)) < (List.length y800004))) then (bif (decide ((remI y0_1.1 64) < 0)) then none else (bif (decide (0 ≤ (quoI .i64 y0_1.1 64))) then (bif (decide ((quoI .i64 y0_1.1 64) < ((List.length y800004) : Int))) then (bif (decide ((Int.toNat (quoI .i64 y0_1.1 64)) < (List.length y800004))) then (G (addI .i64 x7 1) (addI .i64 x14 1) (((addI .i64 y0_1.1 1), y0_1.2) : (Int × Int)) (List.set y800004 (Int.toNat (quoI .i64 y0_1.1 64)) (orI .u64 (List.getD y800004 (Int.toNat (quoI .i64 y0_1.1 64)) (0 : Int)) (shlI .u64 1 (remI y0_1.1 64))))) else none) else none) else none)) else none) else none) else none) else (G (addI .i64 x7 1) (addI .i64 x14 1) (((addI .i64 y0_1.1 1), y0_1.2) : (Int × Int)) y800004)))))))) else none) else none) else none) else (K x7 x14 y0_1 y800004))
def go {X : Type} (K : Int → Int → (Int × Int) → (List Int) → Option X) (k : Nat) (x1 : Int) (x13 : Int) (y0_0 : (Int × (Int × Int))) (y1 : (List (List Int))) (y2 : (List Int)) (y3 : (List Int)) : Nat → Int → Int → (Int × Int) → (List Int) → Option X
  | 0, _, _, _, _ => none
  | n + 1, x7, x14, y0_1, y800004 => step K (go K k x1 x13 y0_0 y1 y2 y3 n) k x1 x13 y0_0 y1 y2 y3 x7 x14 y0_1 y800004
def f (k : Nat) (x1 : Int) (x13 : Int) (y0_0 : (Int × (Int × Int))) (y1 : (List (List Int))) (y2 : (List Int)) (y3 : (List Int)) (n : Nat) (x7 : Int) (x14 : Int) (y0_1 : (Int × Int)) (y800004 : (List Int)) : Option (Int × (Int × ((Int × Int) × (List Int)))) := go (fun x7 x14 y0_1 y800004 => some (x7, x14, y0_1, y800004)) k x1 x13 y0_0 y1 y2 y3 n x7 x14 y0_1 y800004
theorem step_nat {X Y : Type} (h : X → Option Y) (K : Int → Int → (Int × Int) → (List Int) → Option X) (G : Int → Int → (Int × Int) → (List Int) → Option X) (k : Nat) (x1 : Int) (x13 : Int) (y0_0 : (Int × (Int × Int))) (y1 : (List (List Int))) (y2 : (List Int)) (y3 : (List Int)) (x7 : Int) (x14 : Int) (y0_1 : (Int × Int)) (y800004 : (List Int)) : Option.bind (step K G k x1 x13 y0_0 y1 y2 y3 x7 x14 y0_1 y800004) h = step (fun x7 x14 y0_1 y800004 => Option.bind (K x7 x14 y0_1 y800004) h) (fun x7 x14 y0_1 y800004 => Option.bind (G x7 x14 y0_1 y800004) h) k x1 x13 y0_0 y1 y2 y3 x7 x14 y0_1 y800004 := by
  simp only [step, bif_bind, sel_bind', Option.bind_assoc, Option.bind_none, Option.bind_some]
theorem go_nat {X Y : Type} (h : X → Option Y) (K : Int → Int → (Int × Int) → (List Int) → Option X) (k : Nat) (x1 : Int) (x13 : Int) (y0_0 : (Int × (Int × Int))) (y1 : (List (List Int))) (y2 : (List Int)) (y3 : (List Int)) (n : Nat) : ∀ (x7 : Int) (x14 : Int) (y0_1 : (Int × Int)) (y800004 : (List Int)), Option.bind (go K k x1 x13 y0_0 y1 y2 y3 n x7 x14 y0_1 y800004) h = go (fun x7 x14 y0_1 y800004 => Option.bind (K x7 x14 y0_1 y800004) h) k x1 x13 y0_0 y1 y2 y3 n x7 x14 y0_1 y800004 := by
  induction n with
  | zero => intros; rfl
  | succ n ih => intro x7 x14 y0_1 y800004; show Option.bind (step K (go K k x1 x13 y0_0 y1 y2 y3 n) k x1 x13 y0_0 y1 y2 y3 x7 x14 y0_1 y800004) h = step (fun x7 x14 y0_1 y800004 => Option.bind (K x7 x14 y0_1 y800004) h) (go (fun x7 x14 y0_1 y800004 => Option.bind (K x7 x14 y0_1 y800004) h) k x1 x13 y0_0 y1 y2 y3 n) k x1 x13 y0_0 y1 y2 y3 x7 x14 y0_1 y800004; rw [step_nat h]; simp only [ih]
abbrev S : List (Nat × Sh) := [(0, .ptr 0), (1, .data (.int .i64)), (7, .data (.int .i64)), (12, .vec 1), (13, .data (.int .i64)), (14, .data (.int .i64))]
abbrev H : List (Nat × ESh) := [(0, .cell (.pair (.data (.pair (.int .i64) (.pair (.int .i64) (.int .i64)))) (.pair (.vec 800004) (.data (.pair (.int .i64) (.int .i64)))))), (1, .rows 0 24 (.arr .u8 32)), (2, .glob 0 (.arr .u32 8)), (3, .glob 1 (.arr .u32 64)), (800004, .rows 2 85 (.int .u64))]
abbrev cl : List (Place × Nat × Hint) := [(.id 0, 3, (.row 2 85 (.int .u64)))]
abbrev hn : List (Nat × Hint) := [(0, .any), (1, .any), (7, .any), (12, .any), (13, .any), (14, .any)]
abbrev kp : List Nat := [0, 1, 2, 3]
abbrev rc : List (Place × Nat × Hint) := []
abbrev rs : List (Nat × Hint) := []
abbrev ri : List Nat := [0, 1, 2, 3]
def KX (d : (Unit × Int × Int × Unit × Int × Int × Unit)) (e : (((Int × (Int × Int)) × (Unit × (Int × Int))) × (List (List Int)) × (List Int) × (List Int) × (List Int) × Unit)) (v : (Int × (Int × ((Int × Int) × (List Int))))) : St := ⟨mkS S ((), d.2.1, v.1, (), d.2.2.2.2.1, v.2.1, ()), mkH H ((e.1.1, ((), v.2.2.1)), e.2.1, e.2.2.1, e.2.2.2.1, v.2.2.2, ())⟩
def sum (k : Nat) : LoopSum := sigLoopX S cl hn kp H 0 (fun (d : (Unit × Int × Int × Unit × Int × Int × Unit)) (e : (((Int × (Int × Int)) × (Unit × (Int × Int))) × (List (List Int)) × (List Int) × (List Int) × (List Int) × Unit)) => f k d.2.1 d.2.2.2.2.1 e.1.1 e.2.1 e.2.2.1 e.2.2.2.1 k d.2.2.1 d.2.2.2.2.2.1 e.1.2.2 e.2.2.2.2.1) KX
end l0
def tree {X : Type} (K : Int → (Int × (Int × Int)) → (Int × Int) → (List Int) → Option X) (k : Nat) (a1 : Int) (m0_0 : (Int × (Int × Int))) (m0_1 : (Int × Int)) (m1 : (List (List Int))) (m2 : (List Int)) (m3 : (List Int)) : Option X :=
  (Option.bind (pledge_Book_Give_v2.l0.f k a1 ((List.length m1) : Int) m0_0 m1 m2 m3 k (0 : Int) (0 : Int) m0_1 ([] : (List Int))) (fun r4 => (K r4.1 m0_0 r4.2.2.1 r4.2.2.2)))
def f (k : Nat) (a1 : Int) (m0_0 : (Int × (Int × Int))) (m0_1 : (Int × Int)) (m1 : (List (List Int))) (m2 : (List Int)) (m3 : (List Int)) : Option (Int × ((Int × (Int × Int)) × ((Int × Int) × (List Int)))) := tree (fun b0 b1 b2 b3 => some (b0, b1, b2, b3)) k a1 m0_0 m0_1 m1 m2 m3
theorem tree_nat {X Y : Type} (h : X → Option Y) (K : Int → (Int × (Int × Int)) → (Int × Int) → (List Int) → Option X) (k : Nat) (a1 : Int) (m0_0 : (Int × (Int × Int))) (m0_1 : (Int × Int)) (m1 : (List (List Int))) (m2 : (List Int)) (m3 : (List Int)) : Option.bind (tree K k a1 m0_0 m0_1 m1 m2 m3) h = tree (fun b0 b1 b2 b3 => Option.bind (K b0 b1 b2 b3) h) k a1 m0_0 m0_1 m1 m2 m3 := by
  simp only [tree, bif_bind, sel_bind', Option.bind_assoc, Option.bind_none, Option.bind_some]
abbrev ps : List Sh := [.ptr 0, .data (.int .i64), .vec 1]
abbrev hs : List (Nat × ESh) := [(0, .cell (.pair (.data (.pair (.int .i64) (.pair (.int .i64) (.int .i64)))) (.pair .nils (.data (.pair (.int .i64) (.int .i64)))))), (1, .rows 0 24 (.arr .u8 32)), (2, .glob 0 (.arr .u32 8)), (3, .glob 1 (.arr .u32 64))]
abbrev hi : List Nat := hs.map (·.1)
abbrev fi : List Nat := [0, 1, 2, 3, 900004]
abbrev cl : List (Place × Nat × Hint) := []
abbrev hn : List Hint := [.any]
def val (t : (Int × ((Int × (Int × Int)) × ((Int × Int) × (List Int))))) : AV := Sh.mk (.data (.int .i64)) t.1
def wr (t : (Int × ((Int × (Int × Int)) × ((Int × Int) × (List Int))))) : Heap := [(0, ESh.mk (.cell (.pair (.data (.pair (.int .i64) (.pair (.int .i64) (.int .i64)))) (.pair (.vec 900004) (.data (.pair (.int .i64) (.int .i64)))))) (t.2.1, ((), t.2.2.1))), (900004, ESh.mk (.rows 2 85 (.int .u64)) t.2.2.2)]
def callee (k : Nat) : Callee := sigCallee ps hs (fun (d : (Unit × Int × Unit × Unit)) (e : (((Int × (Int × Int)) × (Unit × (Int × Int))) × (List (List Int)) × (List Int) × (List Int) × Unit)) => f k d.2.1 e.1.1 e.1.2.2 e.2.1 e.2.2.1 e.2.2.2.1) val wr
def E (k : Nat) : Env := ⟨fnTab [(38, [pledge_Plan_Due.callee k]), (40, [pledge_Plan_Bit.callee k])], loopTab [(0, l0.sum k)], natsTab [(40, [2, 3])], natTab [(0, 2), (1, 3)]⟩
theorem fE (k : Nat) : ∀ f, ∀ c ∈ (E k).fn f, CalleeOK Tryd.prog f c := fnTab_ok ⟨⟨pledge_Plan_Due.ok k, trivial⟩, ⟨pledge_Plan_Bit.ok k, trivial⟩, trivial⟩
namespace l0
theorem round (k : Nat) (d : (Unit × Int × Int × Unit × Int × Int × Unit)) (e : (((Int × (Int × Int)) × (Unit × (Int × Int))) × (List (List Int)) × (List Int) × (List Int) × (List Int) × Unit)) (G : St → Option (Ex × St)) : roundK Tryd.prog (E k) 79 0 (subC (bodyOf Tryd.f42) [1, 1, 1, 0, 1, 0, 0]) (recast cl hn kp) (finBy cl hn kp rc rs ri) G ⟨mkS S d, mkH H e⟩ =
    step (fun x7 x14 y0_1 y800004 => some (.exit 0, KX d e (x7, x14, y0_1, y800004))) (fun x7 x14 y0_1 y800004 => G ⟨mkS S ((), d.2.1, x7, (), d.2.2.2.2.1, x14, ()), mkH H ((e.1.1, ((), y0_1)), e.2.1, e.2.2.1, e.2.2.2.1, y800004, ())⟩) k d.2.1 d.2.2.2.2.1 e.1.1 e.2.1 e.2.2.1 e.2.2.2.1 d.2.2.1 d.2.2.2.2.2.1 e.1.2.2 e.2.2.2.2.1 := by kernel_rfl
theorem it (k n : Nat) (d : (Unit × Int × Int × Unit × Int × Int × Unit)) (e : (((Int × (Int × Int)) × (Unit × (Int × Int))) × (List (List Int)) × (List Int) × (List Int) × (List Int) × Unit)) : loopIt Tryd.prog (E k) 79 0 (subC (bodyOf Tryd.f42) [1, 1, 1, 0, 1, 0, 0]) (recast cl hn kp) (finBy cl hn kp rc rs ri) n ⟨mkS S d, mkH H e⟩ = go (fun x7 x14 y0_1 y800004 => some (.exit 0, KX d e (x7, x14, y0_1, y800004))) k d.2.1 d.2.2.2.2.1 e.1.1 e.2.1 e.2.2.1 e.2.2.2.1 n d.2.2.1 d.2.2.2.2.2.1 e.1.2.2 e.2.2.2.2.1 :=
  loopIt_eq (D := (Unit × Int × Int × Unit × Int × Int × Unit) × (((Int × (Int × Int)) × (Unit × (Int × Int))) × (List (List Int)) × (List Int) × (List Int) × (List Int) × Unit)) (fun p => ⟨mkS S p.1, mkH H p.2⟩) (fun F p => step (fun x7 x14 y0_1 y800004 => some (.exit 0, KX p.1 p.2 (x7, x14, y0_1, y800004))) (fun x7 x14 y0_1 y800004 => F (((), p.1.2.1, x7, (), p.1.2.2.2.2.1, x14, ()), ((p.2.1.1, ((), y0_1)), p.2.2.1, p.2.2.2.1, p.2.2.2.2.1, y800004, ()))) k p.1.2.1 p.1.2.2.2.2.1 p.2.1.1 p.2.2.1 p.2.2.2.1 p.2.2.2.2.1 p.1.2.2.1 p.1.2.2.2.2.2.1 p.2.1.2.2 p.2.2.2.2.2.1) (fun n p => go (fun x7 x14 y0_1 y800004 => some (.exit 0, KX p.1 p.2 (x7, x14, y0_1, y800004))) k p.1.2.1 p.1.2.2.2.2.1 p.2.1.1 p.2.2.1 p.2.2.2.1 p.2.2.2.2.1 n p.1.2.2.1 p.1.2.2.2.2.2.1 p.2.1.2.2 p.2.2.2.2.2.1) (fun _ => rfl) (fun _ _ => rfl) (fun G p => round k p.1 p.2 G) n (d, e)
theorem ok (k : Nat) : LoopOK Tryd.prog 79 (subC (bodyOf Tryd.f42) [1, 1, 1, 0, 1, 0, 0]) (sum k) :=
  loop_sigX hm (fE k) (loopsOK_of [] (by kernel_rfl) trivial) S cl hn kp H 0 (fun (d : (Unit × Int × Int × Unit × Int × Int × Unit)) (e : (((Int × (Int × Int)) × (Unit × (Int × Int))) × (List (List Int)) × (List Int) × (List Int) × (List Int) × Unit)) => f k d.2.1 d.2.2.2.2.1 e.1.1 e.2.1 e.2.2.1 e.2.2.2.1 k d.2.2.1 d.2.2.2.2.2.1 e.1.2.2 e.2.2.2.2.1) KX cl hn kp rc rs ri k
    (fun d e => (it k k d e).trans (go_nat (fun v => some (Ex.exit 0, KX d e v)) (fun x7 x14 y0_1 y800004 => some (x7, x14, y0_1, y800004)) k d.2.1 d.2.2.2.2.1 e.1.1 e.2.1 e.2.2.1 e.2.2.2.1 k d.2.2.1 d.2.2.2.2.2.1 e.1.2.2 e.2.2.2.2.1).symm)
end l0
theorem run (k : Nat) (d : (Unit × Int × Unit × Unit)) (e : (((Int × (Int × Int)) × (Unit × (Int × Int))) × (List (List Int)) × (List Int) × (List Int) × Unit)) : runFn Tryd.prog (E k) 79 (bodyOf Tryd.f42) Tryd.f42.results.toList cl hn hi (mkL ps d) (mkH hs e) =
    tree (fun b0 b1 b2 b3 => leafFn hs fi e val wr (b0, b1, b2, b3)) k d.2.1 e.1.1 e.1.2.2 e.2.1 e.2.2.1 e.2.2.2.1 := by kernel_rfl
theorem run_f (k : Nat) (d : (Unit × Int × Unit × Unit)) (e : (((Int × (Int × Int)) × (Unit × (Int × Int))) × (List (List Int)) × (List Int) × (List Int) × Unit)) : runFn Tryd.prog (E k) 79 (bodyOf Tryd.f42) Tryd.f42.results.toList cl hn hi (mkL ps d) (mkH hs e) = (f k d.2.1 e.1.1 e.1.2.2 e.2.1 e.2.2.1 e.2.2.2.1).bind (leafFn hs fi e val wr) :=
  (run k d e).trans (tree_nat (leafFn hs fi e val wr) (fun b0 b1 b2 b3 => some (b0, b1, b2, b3)) k d.2.1 e.1.1 e.1.2.2 e.2.1 e.2.2.1 e.2.2.2.1).symm
theorem fnIs : FnIs Tryd.prog 42 Tryd.f42 (bodyOf Tryd.f42) 79 := ⟨by kernel_rfl, by kernel_rfl, by kernel_rfl, by kernel_rfl⟩
theorem ok (k : Nat) : CalleeOK Tryd.prog 42 (callee k) :=
  callee_sig (T := (Int × ((Int × (Int × Int)) × ((Int × Int) × (List Int))))) fnIs hm (fE k) (loopsOK_of [(0, subC (bodyOf Tryd.f42) [1, 1, 1, 0, 1, 0, 0])] (by kernel_rfl) ⟨of_loop (l0.sum k) rfl (l0.ok k), trivial⟩) ps hs cl hn fi (fun (d : (Unit × Int × Unit × Unit)) (e : (((Int × (Int × Int)) × (Unit × (Int × Int))) × (List (List Int)) × (List Int) × (List Int) × Unit)) => f k d.2.1 e.1.1 e.1.2.2 e.2.1 e.2.2.1 e.2.2.2.1) val wr rfl (fun _ => rfl) (run_f k)
end pledge_Book_Give_v2
namespace pledge_Book_Give_v3
namespace l0
def step {X : Type} (K : Int → Int → (Int × Int) → (List Int) → Option X) (G : Int → Int → (Int × Int) → (List Int) → Option X) (k : Nat) (x1 : Int) (x13 : Int) (y0_0 : (Int × (Int × Int))) (y1 : (List (List Int))) (y2 : (List Int)) (y3 : (List Int)) (x7 : Int) (x14 : Int) (y0_1 : (Int × Int)) (y800005 : (List Int)) : Option X :=
  (bif (decide (x14 < x13)) then (bif (decide (0 ≤ x14)) then (bif (decide (x14 < ((List.length y1) : Int))) then (bif (decide ((Int.toNat x14) < (List.length y1))) then (Option.bind (pledge_Plan_Due.f k y0_0 (addI .i64 x1 x14)) (fun r1 => (bif (!r1) then (G x7 (addI .i64 x14 1) y0_1 y800005) else (bif ((remI y0_1.1 64) == (0 : Int)) then (bif (fits (((List.length y800005) + 1) * 8)) then (Option.bind (pledge_Plan_Bit.f k y0_0 (List.getD y1 (Int.toNat x14) (List.replicate 32 0 : (List Int))) y2 y3) (fun r2 => (bif r2 then (bif (decide (0 ≤ (quoI .i64 y0_1.1 64))) then (bif (decide ((quoI .i64 y0_1.1 64) < ((List.length (y800005 ++ ([0] : (List Int)))) : Int))) then (bif (decide ((Int.toNat (quoI .i64 y0_1.1 64)) < (List.length (y800005 ++ ([0] : (List Int)))))) then (bif (decide ((remI y0_1.1 64) < 0)) then none else (bif (decide (0 ≤ (quoI .i64 y0_1.1 64))) then (bif (decide ((quoI .i64 y0_1.1 64) < ((List.length (y800005 ++ ([0] : (List Int)))) : Int))) then (bif (decide ((Int.toNat (quoI .i64 y0_1.1 64)) < (List.length (y800005 ++ ([0] : (List Int)))))) then (G (addI .i64 x7 1) (addI .i64 x14 1) (((addI .i64 y0_1.1 1), y0_1.2) : (Int × Int)) (List.set (y800005 ++ ([0] : (List Int))) (Int.toNat (quoI .i64 y0_1.1 64)) (orI .u64 (List.getD (y800005 ++ ([0] : (List Int))) (Int.toNat (quoI .i64 y0_1.1 64)) (0 : Int)) (shlI .u64 1 (remI y0_1.1 64))))) else none) else none) else none)) else none) else none) else none) else (G (addI .i64 x7 1) (addI .i64 x14 1) (((addI .i64 y0_1.1 1), y0_1.2) : (Int × Int)) (y800005 ++ ([0] : (List Int))))))) else none) else (Option.bind (pledge_Plan_Bit.f k y0_0 (List.getD y1 (Int.toNat x14) (List.replicate 32 0 : (List Int))) y2 y3) (fun r3 => (bif r3 then (bif (decide (0 ≤ (quoI .i64 y0_1.1 64))) then (bif (decide ((quoI .i64 y0_1.1 64) < ((List.length y800005) : Int))) then (bif (decide ((Int.toNat (quoI .i64 y0_1.1 64)) < (List.length y800005))) then (bif (decide ((remI y0_1.1 64) < 0)) then none else (bif (decide (0 ≤ (quoI .i64 y0_1.1 64))) then (bif (decide ((quoI .i64 y0_1.1 64) < ((List.length y800005) : Int))) then (bif (decide ((Int.toNat (quoI .i64 y0_1.1 64)) < (List.length y800005))) then (G (addI .i64 x7 1) (addI .i64 x14 1) (((addI .i64 y0_1.1 1), y0_1.2) : (Int × Int)) (List.set y800005 (Int.toNat (quoI .i64 y0_1.1 64)) (orI .u64 (List.getD y800005 (Int.toNat (quoI .i64 y0_1.1 64)) (0 : Int)) (shlI .u64 1 (remI y0_1.1 64))))) else none) else none) else none)) else none) else none) else none) else (G (addI .i64 x7 1) (addI .i64 x14 1) (((addI .i64 y0_1.1 1), y0_1.2) : (Int × Int)) y800005)))))))) else none) else none) else none) else (K x7 x14 y0_1 y800005))
def go {X : Type} (K : Int → Int → (Int × Int) → (List Int) → Option X) (k : Nat) (x1 : Int) (x13 : Int) (y0_0 : (Int × (Int × Int))) (y1 : (List (List Int))) (y2 : (List Int)) (y3 : (List Int)) : Nat → Int → Int → (Int × Int) → (List Int) → Option X
  | 0, _, _, _, _ => none
  | n + 1, x7, x14, y0_1, y800005 => step K (go K k x1 x13 y0_0 y1 y2 y3 n) k x1 x13 y0_0 y1 y2 y3 x7 x14 y0_1 y800005
def f (k : Nat) (x1 : Int) (x13 : Int) (y0_0 : (Int × (Int × Int))) (y1 : (List (List Int))) (y2 : (List Int)) (y3 : (List Int)) (n : Nat) (x7 : Int) (x14 : Int) (y0_1 : (Int × Int)) (y800005 : (List Int)) : Option (Int × (Int × ((Int × Int) × (List Int)))) := go (fun x7 x14 y0_1 y800005 => some (x7, x14, y0_1, y800005)) k x1 x13 y0_0 y1 y2 y3 n x7 x14 y0_1 y800005
theorem step_nat {X Y : Type} (h : X → Option Y) (K : Int → Int → (Int × Int) → (List Int) → Option X) (G : Int → Int → (Int × Int) → (List Int) → Option X) (k : Nat) (x1 : Int) (x13 : Int) (y0_0 : (Int × (Int × Int))) (y1 : (List (List Int))) (y2 : (List Int)) (y3 : (List Int)) (x7 : Int) (x14 : Int) (y0_1 : (Int × Int)) (y800005 : (List Int)) : Option.bind (step K G k x1 x13 y0_0 y1 y2 y3 x7 x14 y0_1 y800005) h = step (fun x7 x14 y0_1 y800005 => Option.bind (K x7 x14 y0_1 y800005) h) (fun x7 x14 y0_1 y800005 => Option.bind (G x7 x14 y0_1 y800005) h) k x1 x13 y0_0 y1 y2 y3 x7 x14 y0_1 y800005 := by
  simp only [step, bif_bind, sel_bind', Option.bind_assoc, Option.bind_none, Option.bind_some]
theorem go_nat {X Y : Type} (h : X → Option Y) (K : Int → Int → (Int × Int) → (List Int) → Option X) (k : Nat) (x1 : Int) (x13 : Int) (y0_0 : (Int × (Int × Int))) (y1 : (List (List Int))) (y2 : (List Int)) (y3 : (List Int)) (n : Nat) : ∀ (x7 : Int) (x14 : Int) (y0_1 : (Int × Int)) (y800005 : (List Int)), Option.bind (go K k x1 x13 y0_0 y1 y2 y3 n x7 x14 y0_1 y800005) h = go (fun x7 x14 y0_1 y800005 => Option.bind (K x7 x14 y0_1 y800005) h) k x1 x13 y0_0 y1 y2 y3 n x7 x14 y0_1 y800005 := by
  induction n with
  | zero => intros; rfl
  | succ n ih => intro x7 x14 y0_1 y800005; show Option.bind (step K (go K k x1 x13 y0_0 y1 y2 y3 n) k x1 x13 y0_0 y1 y2 y3 x7 x14 y0_1 y800005) h = step (fun x7 x14 y0_1 y800005 => Option.bind (K x7 x14 y0_1 y800005) h) (go (fun x7 x14 y0_1 y800005 => Option.bind (K x7 x14 y0_1 y800005) h) k x1 x13 y0_0 y1 y2 y3 n) k x1 x13 y0_0 y1 y2 y3 x7 x14 y0_1 y800005; rw [step_nat h]; simp only [ih]
abbrev S : List (Nat × Sh) := [(0, .ptr 0), (1, .data (.int .i64)), (7, .data (.int .i64)), (12, .vec 1), (13, .data (.int .i64)), (14, .data (.int .i64))]
abbrev H : List (Nat × ESh) := [(0, .cell (.pair (.data (.pair (.int .i64) (.pair (.int .i64) (.int .i64)))) (.pair (.vec 800005) (.data (.pair (.int .i64) (.int .i64)))))), (1, .rows 0 24 (.arr .u8 32)), (2, .glob 0 (.arr .u32 8)), (3, .glob 1 (.arr .u32 64)), (4, .dead), (800005, .rows 2 85 (.int .u64))]
abbrev cl : List (Place × Nat × Hint) := [(.id 0, 3, .move)]
abbrev hn : List (Nat × Hint) := [(0, .any), (1, .any), (7, .any), (12, .any), (13, .any), (14, .any)]
abbrev kp : List Nat := [0, 1, 2, 3, 4]
abbrev rc : List (Place × Nat × Hint) := []
abbrev rs : List (Nat × Hint) := []
abbrev ri : List Nat := [0, 1, 2, 3, 4]
def KX (d : (Unit × Int × Int × Unit × Int × Int × Unit)) (e : (((Int × (Int × Int)) × (Unit × (Int × Int))) × (List (List Int)) × (List Int) × (List Int) × Unit × (List Int) × Unit)) (v : (Int × (Int × ((Int × Int) × (List Int))))) : St := ⟨mkS S ((), d.2.1, v.1, (), d.2.2.2.2.1, v.2.1, ()), mkH H ((e.1.1, ((), v.2.2.1)), e.2.1, e.2.2.1, e.2.2.2.1, (), v.2.2.2, ())⟩
def sum (k : Nat) : LoopSum := sigLoopX S cl hn kp H 0 (fun (d : (Unit × Int × Int × Unit × Int × Int × Unit)) (e : (((Int × (Int × Int)) × (Unit × (Int × Int))) × (List (List Int)) × (List Int) × (List Int) × Unit × (List Int) × Unit)) => f k d.2.1 d.2.2.2.2.1 e.1.1 e.2.1 e.2.2.1 e.2.2.2.1 k d.2.2.1 d.2.2.2.2.2.1 e.1.2.2 e.2.2.2.2.2.1) KX
end l0
def tree {X : Type} (K : Int → (Int × (Int × Int)) → (Int × Int) → (List Int) → Option X) (k : Nat) (a1 : Int) (m0_0 : (Int × (Int × Int))) (m0_1 : (Int × Int)) (m1 : (List (List Int))) (m2 : (List Int)) (m3 : (List Int)) (m4 : (List Int)) : Option X :=
  (Option.bind (pledge_Book_Give_v3.l0.f k a1 ((List.length m1) : Int) m0_0 m1 m2 m3 k (0 : Int) (0 : Int) m0_1 m4) (fun r4 => (K r4.1 m0_0 r4.2.2.1 r4.2.2.2)))
def f (k : Nat) (a1 : Int) (m0_0 : (Int × (Int × Int))) (m0_1 : (Int × Int)) (m1 : (List (List Int))) (m2 : (List Int)) (m3 : (List Int)) (m4 : (List Int)) : Option (Int × ((Int × (Int × Int)) × ((Int × Int) × (List Int)))) := tree (fun b0 b1 b2 b3 => some (b0, b1, b2, b3)) k a1 m0_0 m0_1 m1 m2 m3 m4
theorem tree_nat {X Y : Type} (h : X → Option Y) (K : Int → (Int × (Int × Int)) → (Int × Int) → (List Int) → Option X) (k : Nat) (a1 : Int) (m0_0 : (Int × (Int × Int))) (m0_1 : (Int × Int)) (m1 : (List (List Int))) (m2 : (List Int)) (m3 : (List Int)) (m4 : (List Int)) : Option.bind (tree K k a1 m0_0 m0_1 m1 m2 m3 m4) h = tree (fun b0 b1 b2 b3 => Option.bind (K b0 b1 b2 b3) h) k a1 m0_0 m0_1 m1 m2 m3 m4 := by
  simp only [tree, bif_bind, sel_bind', Option.bind_assoc, Option.bind_none, Option.bind_some]
abbrev ps : List Sh := [.ptr 0, .data (.int .i64), .vec 1]
abbrev hs : List (Nat × ESh) := [(0, .cell (.pair (.data (.pair (.int .i64) (.pair (.int .i64) (.int .i64)))) (.pair (.vec 4) (.data (.pair (.int .i64) (.int .i64)))))), (1, .rows 0 24 (.arr .u8 32)), (2, .glob 0 (.arr .u32 8)), (3, .glob 1 (.arr .u32 64)), (4, .rows 2 85 (.int .u64))]
abbrev hi : List Nat := hs.map (·.1)
abbrev fi : List Nat := [0, 1, 2, 3, 4, 900005]
abbrev cl : List (Place × Nat × Hint) := []
abbrev hn : List Hint := [.any]
def val (t : (Int × ((Int × (Int × Int)) × ((Int × Int) × (List Int))))) : AV := Sh.mk (.data (.int .i64)) t.1
def wr (t : (Int × ((Int × (Int × Int)) × ((Int × Int) × (List Int))))) : Heap := [(0, ESh.mk (.cell (.pair (.data (.pair (.int .i64) (.pair (.int .i64) (.int .i64)))) (.pair (.vec 900005) (.data (.pair (.int .i64) (.int .i64)))))) (t.2.1, ((), t.2.2.1))), (4, ESh.mk (.dead) ()), (900005, ESh.mk (.rows 2 85 (.int .u64)) t.2.2.2)]
def callee (k : Nat) : Callee := sigCallee ps hs (fun (d : (Unit × Int × Unit × Unit)) (e : (((Int × (Int × Int)) × (Unit × (Int × Int))) × (List (List Int)) × (List Int) × (List Int) × (List Int) × Unit)) => f k d.2.1 e.1.1 e.1.2.2 e.2.1 e.2.2.1 e.2.2.2.1 e.2.2.2.2.1) val wr
def E (k : Nat) : Env := ⟨fnTab [(38, [pledge_Plan_Due.callee k]), (40, [pledge_Plan_Bit.callee k])], loopTab [(0, l0.sum k)], natsTab [(40, [2, 3])], natTab [(0, 2), (1, 3)]⟩
theorem fE (k : Nat) : ∀ f, ∀ c ∈ (E k).fn f, CalleeOK Tryd.prog f c := fnTab_ok ⟨⟨pledge_Plan_Due.ok k, trivial⟩, ⟨pledge_Plan_Bit.ok k, trivial⟩, trivial⟩
namespace l0
theorem round (k : Nat) (d : (Unit × Int × Int × Unit × Int × Int × Unit)) (e : (((Int × (Int × Int)) × (Unit × (Int × Int))) × (List (List Int)) × (List Int) × (List Int) × Unit × (List Int) × Unit)) (G : St → Option (Ex × St)) : roundK Tryd.prog (E k) 79 0 (subC (bodyOf Tryd.f42) [1, 1, 1, 0, 1, 0, 0]) (recast cl hn kp) (finBy cl hn kp rc rs ri) G ⟨mkS S d, mkH H e⟩ =
    step (fun x7 x14 y0_1 y800005 => some (.exit 0, KX d e (x7, x14, y0_1, y800005))) (fun x7 x14 y0_1 y800005 => G ⟨mkS S ((), d.2.1, x7, (), d.2.2.2.2.1, x14, ()), mkH H ((e.1.1, ((), y0_1)), e.2.1, e.2.2.1, e.2.2.2.1, (), y800005, ())⟩) k d.2.1 d.2.2.2.2.1 e.1.1 e.2.1 e.2.2.1 e.2.2.2.1 d.2.2.1 d.2.2.2.2.2.1 e.1.2.2 e.2.2.2.2.2.1 := by kernel_rfl
theorem it (k n : Nat) (d : (Unit × Int × Int × Unit × Int × Int × Unit)) (e : (((Int × (Int × Int)) × (Unit × (Int × Int))) × (List (List Int)) × (List Int) × (List Int) × Unit × (List Int) × Unit)) : loopIt Tryd.prog (E k) 79 0 (subC (bodyOf Tryd.f42) [1, 1, 1, 0, 1, 0, 0]) (recast cl hn kp) (finBy cl hn kp rc rs ri) n ⟨mkS S d, mkH H e⟩ = go (fun x7 x14 y0_1 y800005 => some (.exit 0, KX d e (x7, x14, y0_1, y800005))) k d.2.1 d.2.2.2.2.1 e.1.1 e.2.1 e.2.2.1 e.2.2.2.1 n d.2.2.1 d.2.2.2.2.2.1 e.1.2.2 e.2.2.2.2.2.1 :=
  loopIt_eq (D := (Unit × Int × Int × Unit × Int × Int × Unit) × (((Int × (Int × Int)) × (Unit × (Int × Int))) × (List (List Int)) × (List Int) × (List Int) × Unit × (List Int) × Unit)) (fun p => ⟨mkS S p.1, mkH H p.2⟩) (fun F p => step (fun x7 x14 y0_1 y800005 => some (.exit 0, KX p.1 p.2 (x7, x14, y0_1, y800005))) (fun x7 x14 y0_1 y800005 => F (((), p.1.2.1, x7, (), p.1.2.2.2.2.1, x14, ()), ((p.2.1.1, ((), y0_1)), p.2.2.1, p.2.2.2.1, p.2.2.2.2.1, (), y800005, ()))) k p.1.2.1 p.1.2.2.2.2.1 p.2.1.1 p.2.2.1 p.2.2.2.1 p.2.2.2.2.1 p.1.2.2.1 p.1.2.2.2.2.2.1 p.2.1.2.2 p.2.2.2.2.2.2.1) (fun n p => go (fun x7 x14 y0_1 y800005 => some (.exit 0, KX p.1 p.2 (x7, x14, y0_1, y800005))) k p.1.2.1 p.1.2.2.2.2.1 p.2.1.1 p.2.2.1 p.2.2.2.1 p.2.2.2.2.1 n p.1.2.2.1 p.1.2.2.2.2.2.1 p.2.1.2.2 p.2.2.2.2.2.2.1) (fun _ => rfl) (fun _ _ => rfl) (fun G p => round k p.1 p.2 G) n (d, e)
theorem ok (k : Nat) : LoopOK Tryd.prog 79 (subC (bodyOf Tryd.f42) [1, 1, 1, 0, 1, 0, 0]) (sum k) :=
  loop_sigX hm (fE k) (loopsOK_of [] (by kernel_rfl) trivial) S cl hn kp H 0 (fun (d : (Unit × Int × Int × Unit × Int × Int × Unit)) (e : (((Int × (Int × Int)) × (Unit × (Int × Int))) × (List (List Int)) × (List Int) × (List Int) × Unit × (List Int) × Unit)) => f k d.2.1 d.2.2.2.2.1 e.1.1 e.2.1 e.2.2.1 e.2.2.2.1 k d.2.2.1 d.2.2.2.2.2.1 e.1.2.2 e.2.2.2.2.2.1) KX cl hn kp rc rs ri k
    (fun d e => (it k k d e).trans (go_nat (fun v => some (Ex.exit 0, KX d e v)) (fun x7 x14 y0_1 y800005 => some (x7, x14, y0_1, y800005)) k d.2.1 d.2.2.2.2.1 e.1.1 e.2.1 e.2.2.1 e.2.2.2.1 k d.2.2.1 d.2.2.2.2.2.1 e.1.2.2 e.2.2.2.2.2.1).symm)
end l0
theorem run (k : Nat) (d : (Unit × Int × Unit × Unit)) (e : (((Int × (Int × Int)) × (Unit × (Int × Int))) × (List (List Int)) × (List Int) × (List Int) × (List Int) × Unit)) : runFn Tryd.prog (E k) 79 (bodyOf Tryd.f42) Tryd.f42.results.toList cl hn hi (mkL ps d) (mkH hs e) =
    tree (fun b0 b1 b2 b3 => leafFn hs fi e val wr (b0, b1, b2, b3)) k d.2.1 e.1.1 e.1.2.2 e.2.1 e.2.2.1 e.2.2.2.1 e.2.2.2.2.1 := by kernel_rfl
theorem run_f (k : Nat) (d : (Unit × Int × Unit × Unit)) (e : (((Int × (Int × Int)) × (Unit × (Int × Int))) × (List (List Int)) × (List Int) × (List Int) × (List Int) × Unit)) : runFn Tryd.prog (E k) 79 (bodyOf Tryd.f42) Tryd.f42.results.toList cl hn hi (mkL ps d) (mkH hs e) = (f k d.2.1 e.1.1 e.1.2.2 e.2.1 e.2.2.1 e.2.2.2.1 e.2.2.2.2.1).bind (leafFn hs fi e val wr) :=
  (run k d e).trans (tree_nat (leafFn hs fi e val wr) (fun b0 b1 b2 b3 => some (b0, b1, b2, b3)) k d.2.1 e.1.1 e.1.2.2 e.2.1 e.2.2.1 e.2.2.2.1 e.2.2.2.2.1).symm
theorem fnIs : FnIs Tryd.prog 42 Tryd.f42 (bodyOf Tryd.f42) 79 := ⟨by kernel_rfl, by kernel_rfl, by kernel_rfl, by kernel_rfl⟩
theorem ok (k : Nat) : CalleeOK Tryd.prog 42 (callee k) :=
  callee_sig (T := (Int × ((Int × (Int × Int)) × ((Int × Int) × (List Int))))) fnIs hm (fE k) (loopsOK_of [(0, subC (bodyOf Tryd.f42) [1, 1, 1, 0, 1, 0, 0])] (by kernel_rfl) ⟨of_loop (l0.sum k) rfl (l0.ok k), trivial⟩) ps hs cl hn fi (fun (d : (Unit × Int × Unit × Unit)) (e : (((Int × (Int × Int)) × (Unit × (Int × Int))) × (List (List Int)) × (List Int) × (List Int) × (List Int) × Unit)) => f k d.2.1 e.1.1 e.1.2.2 e.2.1 e.2.2.1 e.2.2.2.1 e.2.2.2.2.1) val wr rfl (fun _ => rfl) (run_f k)
end pledge_Book_Give_v3
namespace pledge_Book_at
def tree {X : Type} (K : Bool → Option X) (k : Nat) (a1 : Int) (m0_0 : (Int × (Int × Int))) (m0_1 : (Int × Int)) (m1 : (List Int)) : Option X :=
  (bif (decide (0 ≤ (quoI .i64 a1 64))) then (bif (decide ((quoI .i64 a1 64) < ((List.length m1) : Int))) then (bif (decide ((Int.toNat (quoI .i64 a1 64)) < (List.length m1))) then (bif (decide ((remI a1 64) < 0)) then none else (K ((andI .u64 (shrI .u64 (List.getD m1 (Int.toNat (quoI .i64 a1 64)) (0 : Int)) (remI a1 64)) 1) == (1 : Int)))) else none) else none) else none)
def f (k : Nat) (a1 : Int) (m0_0 : (Int × (Int × Int))) (m0_1 : (Int × Int)) (m1 : (List Int)) : Option Bool := tree (fun b0 => some b0) k a1 m0_0 m0_1 m1
theorem tree_nat {X Y : Type} (h : X → Option Y) (K : Bool → Option X) (k : Nat) (a1 : Int) (m0_0 : (Int × (Int × Int))) (m0_1 : (Int × Int)) (m1 : (List Int)) : Option.bind (tree K k a1 m0_0 m0_1 m1) h = tree (fun b0 => Option.bind (K b0) h) k a1 m0_0 m0_1 m1 := by
  simp only [tree, bif_bind, sel_bind', Option.bind_assoc, Option.bind_none, Option.bind_some]
abbrev ps : List Sh := [.ptr 0, .data (.int .i64)]
abbrev hs : List (Nat × ESh) := [(0, .cell (.pair (.data (.pair (.int .i64) (.pair (.int .i64) (.int .i64)))) (.pair (.vec 1) (.data (.pair (.int .i64) (.int .i64)))))), (1, .rows 2 85 (.int .u64))]
abbrev hi : List Nat := hs.map (·.1)
abbrev fi : List Nat := [0, 1]
abbrev cl : List (Place × Nat × Hint) := []
abbrev hn : List Hint := [.any]
def val (t : Bool) : AV := Sh.mk (.data .bool) t
def wr (t : Bool) : Heap := []
def callee (k : Nat) : Callee := sigCallee ps hs (fun (d : (Unit × Int × Unit)) (e : (((Int × (Int × Int)) × (Unit × (Int × Int))) × (List Int) × Unit)) => f k d.2.1 e.1.1 e.1.2.2 e.2.1) val wr
def E (k : Nat) : Env := ⟨fnTab [], loopTab [], natsTab [], natTab []⟩
theorem fE (k : Nat) : ∀ f, ∀ c ∈ (E k).fn f, CalleeOK Tryd.prog f c := fnTab_ok trivial
theorem run (k : Nat) (d : (Unit × Int × Unit)) (e : (((Int × (Int × Int)) × (Unit × (Int × Int))) × (List Int) × Unit)) : runFn Tryd.prog (E k) 18 (bodyOf Tryd.f67) Tryd.f67.results.toList cl hn hi (mkL ps d) (mkH hs e) =
    tree (fun b0 => leafFn hs fi e val wr b0) k d.2.1 e.1.1 e.1.2.2 e.2.1 := by kernel_rfl
theorem run_f (k : Nat) (d : (Unit × Int × Unit)) (e : (((Int × (Int × Int)) × (Unit × (Int × Int))) × (List Int) × Unit)) : runFn Tryd.prog (E k) 18 (bodyOf Tryd.f67) Tryd.f67.results.toList cl hn hi (mkL ps d) (mkH hs e) = (f k d.2.1 e.1.1 e.1.2.2 e.2.1).bind (leafFn hs fi e val wr) :=
  (run k d e).trans (tree_nat (leafFn hs fi e val wr) (fun b0 => some b0) k d.2.1 e.1.1 e.1.2.2 e.2.1).symm
theorem fnIs : FnIs Tryd.prog 67 Tryd.f67 (bodyOf Tryd.f67) 18 := ⟨by kernel_rfl, by kernel_rfl, by kernel_rfl, by kernel_rfl⟩
theorem ok (k : Nat) : CalleeOK Tryd.prog 67 (callee k) :=
  callee_sig (T := Bool) fnIs hm (fE k) (loopsOK_of [] (by kernel_rfl) trivial) ps hs cl hn fi (fun (d : (Unit × Int × Unit)) (e : (((Int × (Int × Int)) × (Unit × (Int × Int))) × (List Int) × Unit)) => f k d.2.1 e.1.1 e.1.2.2 e.2.1) val wr rfl (fun _ => rfl) (run_f k)
end pledge_Book_at
namespace pledge_Book_Bits_v1
namespace l0
def step {X : Type} (K : Int → (List Bool) → Option X) (G : Int → (List Bool) → Option X) (k : Nat) (x10 : Int) (y0_0 : (Int × (Int × Int))) (y0_1 : (Int × Int)) (y1 : (List Int)) (x11 : Int) (y800002 : (List Bool)) : Option X :=
  (bif (decide (x11 < x10)) then (Option.bind (pledge_Book_at.f k x11 y0_0 y0_1 y1) (fun r1 => (bif (fits (((List.length y800002) + 1) * 1)) then (G (addI .i64 x11 1) (y800002 ++ ([r1] : (List Bool)))) else none))) else (K x11 y800002))
def go {X : Type} (K : Int → (List Bool) → Option X) (k : Nat) (x10 : Int) (y0_0 : (Int × (Int × Int))) (y0_1 : (Int × Int)) (y1 : (List Int)) : Nat → Int → (List Bool) → Option X
  | 0, _, _ => none
  | n + 1, x11, y800002 => step K (go K k x10 y0_0 y0_1 y1 n) k x10 y0_0 y0_1 y1 x11 y800002
def f (k : Nat) (x10 : Int) (y0_0 : (Int × (Int × Int))) (y0_1 : (Int × Int)) (y1 : (List Int)) (n : Nat) (x11 : Int) (y800002 : (List Bool)) : Option (Int × (List Bool)) := go (fun x11 y800002 => some (x11, y800002)) k x10 y0_0 y0_1 y1 n x11 y800002
theorem step_nat {X Y : Type} (h : X → Option Y) (K : Int → (List Bool) → Option X) (G : Int → (List Bool) → Option X) (k : Nat) (x10 : Int) (y0_0 : (Int × (Int × Int))) (y0_1 : (Int × Int)) (y1 : (List Int)) (x11 : Int) (y800002 : (List Bool)) : Option.bind (step K G k x10 y0_0 y0_1 y1 x11 y800002) h = step (fun x11 y800002 => Option.bind (K x11 y800002) h) (fun x11 y800002 => Option.bind (G x11 y800002) h) k x10 y0_0 y0_1 y1 x11 y800002 := by
  simp only [step, bif_bind, sel_bind', Option.bind_assoc, Option.bind_none, Option.bind_some]
theorem go_nat {X Y : Type} (h : X → Option Y) (K : Int → (List Bool) → Option X) (k : Nat) (x10 : Int) (y0_0 : (Int × (Int × Int))) (y0_1 : (Int × Int)) (y1 : (List Int)) (n : Nat) : ∀ (x11 : Int) (y800002 : (List Bool)), Option.bind (go K k x10 y0_0 y0_1 y1 n x11 y800002) h = go (fun x11 y800002 => Option.bind (K x11 y800002) h) k x10 y0_0 y0_1 y1 n x11 y800002 := by
  induction n with
  | zero => intros; rfl
  | succ n ih => intro x11 y800002; show Option.bind (step K (go K k x10 y0_0 y0_1 y1 n) k x10 y0_0 y0_1 y1 x11 y800002) h = step (fun x11 y800002 => Option.bind (K x11 y800002) h) (go (fun x11 y800002 => Option.bind (K x11 y800002) h) k x10 y0_0 y0_1 y1 n) k x10 y0_0 y0_1 y1 x11 y800002; rw [step_nat h]; simp only [ih]
abbrev S : List (Nat × Sh) := [(0, .ptr 0), (3, .vec 800002), (10, .data (.int .i64)), (11, .data (.int .i64))]
abbrev H : List (Nat × ESh) := [(0, .cell (.pair (.data (.pair (.int .i64) (.pair (.int .i64) (.int .i64)))) (.pair (.vec 1) (.data (.pair (.int .i64) (.int .i64)))))), (1, .rows 2 85 (.int .u64)), (800002, .rows 2 4 .bool)]
abbrev cl : List (Place × Nat × Hint) := []
abbrev hn : List (Nat × Hint) := [(0, .any), (3, (.row 2 4 .bool)), (10, .any), (11, .any)]
abbrev kp : List Nat := [0, 1]
abbrev rc : List (Place × Nat × Hint) := []
abbrev rs : List (Nat × Hint) := []
abbrev ri : List Nat := [0, 1]
def KX (d : (Unit × Unit × Int × Int × Unit)) (e : (((Int × (Int × Int)) × (Unit × (Int × Int))) × (List Int) × (List Bool) × Unit)) (v : (Int × (List Bool))) : St := ⟨mkS S ((), (), d.2.2.1, v.1, ()), mkH H ((e.1.1, ((), e.1.2.2)), e.2.1, v.2, ())⟩
def sum (k : Nat) : LoopSum := sigLoopX S cl hn kp H 0 (fun (d : (Unit × Unit × Int × Int × Unit)) (e : (((Int × (Int × Int)) × (Unit × (Int × Int))) × (List Int) × (List Bool) × Unit)) => f k d.2.2.1 e.1.1 e.1.2.2 e.2.1 k d.2.2.2.1 e.2.2.1) KX
end l0
def tree {X : Type} (K : (List Bool) → Option X) (k : Nat) (m0_0 : (Int × (Int × Int))) (m0_1 : (Int × Int)) (m1 : (List Int)) : Option X :=
  (Option.bind (pledge_Book_Bits_v1.l0.f k m0_1.1 m0_0 m0_1 m1 k (0 : Int) ([] : (List Bool))) (fun r2 => (K r2.2)))
def f (k : Nat) (m0_0 : (Int × (Int × Int))) (m0_1 : (Int × Int)) (m1 : (List Int)) : Option (List Bool) := tree (fun b0 => some b0) k m0_0 m0_1 m1
theorem tree_nat {X Y : Type} (h : X → Option Y) (K : (List Bool) → Option X) (k : Nat) (m0_0 : (Int × (Int × Int))) (m0_1 : (Int × Int)) (m1 : (List Int)) : Option.bind (tree K k m0_0 m0_1 m1) h = tree (fun b0 => Option.bind (K b0) h) k m0_0 m0_1 m1 := by
  simp only [tree, bif_bind, sel_bind', Option.bind_assoc, Option.bind_none, Option.bind_some]
abbrev ps : List Sh := [.ptr 0]
abbrev hs : List (Nat × ESh) := [(0, .cell (.pair (.data (.pair (.int .i64) (.pair (.int .i64) (.int .i64)))) (.pair (.vec 1) (.data (.pair (.int .i64) (.int .i64)))))), (1, .rows 2 85 (.int .u64))]
abbrev hi : List Nat := hs.map (·.1)
abbrev fi : List Nat := [0, 1, 900002]
abbrev cl : List (Place × Nat × Hint) := []
abbrev hn : List Hint := [.any]
def val (t : (List Bool)) : AV := Sh.mk (.vec 900002) ()
def wr (t : (List Bool)) : Heap := [(900002, ESh.mk (.rows 2 4 .bool) t)]
def callee (k : Nat) : Callee := sigCallee ps hs (fun (d : (Unit × Unit)) (e : (((Int × (Int × Int)) × (Unit × (Int × Int))) × (List Int) × Unit)) => f k e.1.1 e.1.2.2 e.2.1) val wr
def E (k : Nat) : Env := ⟨fnTab [(67, [pledge_Book_at.callee k])], loopTab [(0, l0.sum k)], natsTab [], natTab []⟩
theorem fE (k : Nat) : ∀ f, ∀ c ∈ (E k).fn f, CalleeOK Tryd.prog f c := fnTab_ok ⟨⟨pledge_Book_at.ok k, trivial⟩, trivial⟩
namespace l0
theorem round (k : Nat) (d : (Unit × Unit × Int × Int × Unit)) (e : (((Int × (Int × Int)) × (Unit × (Int × Int))) × (List Int) × (List Bool) × Unit)) (G : St → Option (Ex × St)) : roundK Tryd.prog (E k) 22 0 (subC (bodyOf Tryd.f43) [1, 1, 1, 0, 1, 0, 0]) (recast cl hn kp) (finBy cl hn kp rc rs ri) G ⟨mkS S d, mkH H e⟩ =
    step (fun x11 y800002 => some (.exit 0, KX d e (x11, y800002))) (fun x11 y800002 => G ⟨mkS S ((), (), d.2.2.1, x11, ()), mkH H ((e.1.1, ((), e.1.2.2)), e.2.1, y800002, ())⟩) k d.2.2.1 e.1.1 e.1.2.2 e.2.1 d.2.2.2.1 e.2.2.1 := by kernel_rfl
theorem it (k n : Nat) (d : (Unit × Unit × Int × Int × Unit)) (e : (((Int × (Int × Int)) × (Unit × (Int × Int))) × (List Int) × (List Bool) × Unit)) : loopIt Tryd.prog (E k) 22 0 (subC (bodyOf Tryd.f43) [1, 1, 1, 0, 1, 0, 0]) (recast cl hn kp) (finBy cl hn kp rc rs ri) n ⟨mkS S d, mkH H e⟩ = go (fun x11 y800002 => some (.exit 0, KX d e (x11, y800002))) k d.2.2.1 e.1.1 e.1.2.2 e.2.1 n d.2.2.2.1 e.2.2.1 :=
  loopIt_eq (D := (Unit × Unit × Int × Int × Unit) × (((Int × (Int × Int)) × (Unit × (Int × Int))) × (List Int) × (List Bool) × Unit)) (fun p => ⟨mkS S p.1, mkH H p.2⟩) (fun F p => step (fun x11 y800002 => some (.exit 0, KX p.1 p.2 (x11, y800002))) (fun x11 y800002 => F (((), (), p.1.2.2.1, x11, ()), ((p.2.1.1, ((), p.2.1.2.2)), p.2.2.1, y800002, ()))) k p.1.2.2.1 p.2.1.1 p.2.1.2.2 p.2.2.1 p.1.2.2.2.1 p.2.2.2.1) (fun n p => go (fun x11 y800002 => some (.exit 0, KX p.1 p.2 (x11, y800002))) k p.1.2.2.1 p.2.1.1 p.2.1.2.2 p.2.2.1 n p.1.2.2.2.1 p.2.2.2.1) (fun _ => rfl) (fun _ _ => rfl) (fun G p => round k p.1 p.2 G) n (d, e)
theorem ok (k : Nat) : LoopOK Tryd.prog 22 (subC (bodyOf Tryd.f43) [1, 1, 1, 0, 1, 0, 0]) (sum k) :=
  loop_sigX hm (fE k) (loopsOK_of [] (by kernel_rfl) trivial) S cl hn kp H 0 (fun (d : (Unit × Unit × Int × Int × Unit)) (e : (((Int × (Int × Int)) × (Unit × (Int × Int))) × (List Int) × (List Bool) × Unit)) => f k d.2.2.1 e.1.1 e.1.2.2 e.2.1 k d.2.2.2.1 e.2.2.1) KX cl hn kp rc rs ri k
    (fun d e => (it k k d e).trans (go_nat (fun v => some (Ex.exit 0, KX d e v)) (fun x11 y800002 => some (x11, y800002)) k d.2.2.1 e.1.1 e.1.2.2 e.2.1 k d.2.2.2.1 e.2.2.1).symm)
end l0
theorem run (k : Nat) (d : (Unit × Unit)) (e : (((Int × (Int × Int)) × (Unit × (Int × Int))) × (List Int) × Unit)) : runFn Tryd.prog (E k) 22 (bodyOf Tryd.f43) Tryd.f43.results.toList cl hn hi (mkL ps d) (mkH hs e) =
    tree (fun b0 => leafFn hs fi e val wr b0) k e.1.1 e.1.2.2 e.2.1 := by kernel_rfl
theorem run_f (k : Nat) (d : (Unit × Unit)) (e : (((Int × (Int × Int)) × (Unit × (Int × Int))) × (List Int) × Unit)) : runFn Tryd.prog (E k) 22 (bodyOf Tryd.f43) Tryd.f43.results.toList cl hn hi (mkL ps d) (mkH hs e) = (f k e.1.1 e.1.2.2 e.2.1).bind (leafFn hs fi e val wr) :=
  (run k d e).trans (tree_nat (leafFn hs fi e val wr) (fun b0 => some b0) k e.1.1 e.1.2.2 e.2.1).symm
theorem fnIs : FnIs Tryd.prog 43 Tryd.f43 (bodyOf Tryd.f43) 22 := ⟨by kernel_rfl, by kernel_rfl, by kernel_rfl, by kernel_rfl⟩
theorem ok (k : Nat) : CalleeOK Tryd.prog 43 (callee k) :=
  callee_sig (T := (List Bool)) fnIs hm (fE k) (loopsOK_of [(0, subC (bodyOf Tryd.f43) [1, 1, 1, 0, 1, 0, 0])] (by kernel_rfl) ⟨of_loop (l0.sum k) rfl (l0.ok k), trivial⟩) ps hs cl hn fi (fun (d : (Unit × Unit)) (e : (((Int × (Int × Int)) × (Unit × (Int × Int))) × (List Int) × Unit)) => f k e.1.1 e.1.2.2 e.2.1) val wr rfl (fun _ => rfl) (run_f k)
end pledge_Book_Bits_v1
namespace trailheadlaw18_PledgeSpan
namespace l0
def step {X : Type} (K : Int → Option X) (Q : Bool → Option X) (G : Int → Option X) (k : Nat) (x113 : Int) (y0 : (List (List Int))) (y1 : (List Int)) (y2 : (List Int)) (y800003 : (List Bool)) (y800004 : (List Bool)) (x114 : Int) : Option X :=
  (bif (decide (x114 < x113)) then (bif (decide (0 ≤ x114)) then (bif (decide (x114 < ((List.length y800003) : Int))) then (bif (decide ((Int.toNat x114) < (List.length y800003))) then (bif (decide (0 ≤ x114)) then (bif (decide (x114 < ((List.length y800004) : Int))) then (bif (decide ((Int.toNat x114) < (List.length y800004))) then (bif (!((List.getD y800003 (Int.toNat x114) (false : Bool)) == (List.getD y800004 (Int.toNat x114) (false : Bool)))) then (Q false) else (G (addI .i64 x114 1))) else none) else none) else none) else none) else none) else none) else (K x114))
def go {X : Type} (K : Int → Option X) (Q : Bool → Option X) (k : Nat) (x113 : Int) (y0 : (List (List Int))) (y1 : (List Int)) (y2 : (List Int)) (y800003 : (List Bool)) (y800004 : (List Bool)) : Nat → Int → Option X
  | 0, _ => none
  | n + 1, x114 => step K Q (go K Q k x113 y0 y1 y2 y800003 y800004 n) k x113 y0 y1 y2 y800003 y800004 x114
def f (k : Nat) (x113 : Int) (y0 : (List (List Int))) (y1 : (List Int)) (y2 : (List Int)) (y800003 : (List Bool)) (y800004 : (List Bool)) (n : Nat) (x114 : Int) : Option (Int ⊕ Bool) := go (fun x114 => some (.inl x114)) (fun q0 => some (.inr q0)) k x113 y0 y1 y2 y800003 y800004 n x114
theorem step_nat {X Y : Type} (h : X → Option Y) (K : Int → Option X) (Q : Bool → Option X) (G : Int → Option X) (k : Nat) (x113 : Int) (y0 : (List (List Int))) (y1 : (List Int)) (y2 : (List Int)) (y800003 : (List Bool)) (y800004 : (List Bool)) (x114 : Int) : Option.bind (step K Q G k x113 y0 y1 y2 y800003 y800004 x114) h = step (fun x114 => Option.bind (K x114) h) (fun q0 => Option.bind (Q q0) h) (fun x114 => Option.bind (G x114) h) k x113 y0 y1 y2 y800003 y800004 x114 := by
  simp only [step, bif_bind, sel_bind', Option.bind_assoc, Option.bind_none, Option.bind_some]
theorem go_nat {X Y : Type} (h : X → Option Y) (K : Int → Option X) (Q : Bool → Option X) (k : Nat) (x113 : Int) (y0 : (List (List Int))) (y1 : (List Int)) (y2 : (List Int)) (y800003 : (List Bool)) (y800004 : (List Bool)) (n : Nat) : ∀ (x114 : Int), Option.bind (go K Q k x113 y0 y1 y2 y800003 y800004 n x114) h = go (fun x114 => Option.bind (K x114) h) (fun q0 => Option.bind (Q q0) h) k x113 y0 y1 y2 y800003 y800004 n x114 := by
  induction n with
  | zero => intros; rfl
  | succ n ih => intro x114; show Option.bind (step K Q (go K Q k x113 y0 y1 y2 y800003 y800004 n) k x113 y0 y1 y2 y800003 y800004 x114) h = step (fun x114 => Option.bind (K x114) h) (fun q0 => Option.bind (Q q0) h) (go (fun x114 => Option.bind (K x114) h) (fun q0 => Option.bind (Q q0) h) k x113 y0 y1 y2 y800003 y800004 n) k x113 y0 y1 y2 y800003 y800004 x114; rw [step_nat h]; simp only [ih]
abbrev S : List (Nat × Sh) := [(16, .vec 800003), (17, .vec 800004), (113, .data (.int .i64)), (114, .data (.int .i64))]
abbrev H : List (Nat × ESh) := [(0, .rows 0 24 (.arr .u8 32)), (1, .glob 0 (.arr .u32 8)), (2, .glob 1 (.arr .u32 64)), (800003, .rows 2 4 .bool), (800004, .rows 2 4 .bool)]
abbrev cl : List (Place × Nat × Hint) := []
abbrev hn : List (Nat × Hint) := [(16, .any), (17, .any), (113, .any), (114, .any)]
abbrev kp : List Nat := [0, 1, 2]
abbrev rc : List (Place × Nat × Hint) := []
abbrev rs : List (Nat × Hint) := [(8, .any)]
abbrev ri : List Nat := [0, 1, 2]
def KX (d : (Unit × Unit × Int × Int × Unit)) (e : ((List (List Int)) × (List Int) × (List Int) × (List Bool) × (List Bool) × Unit)) (v : Int) : St := ⟨mkS S ((), (), d.2.2.1, v, ()), mkH H (e.1, e.2.1, e.2.2.1, e.2.2.2.1, e.2.2.2.2.1, ())⟩
abbrev RS : List (Nat × Sh) := [(8, .data .bool)]
abbrev RH : List (Nat × ESh) := [(0, .rows 0 24 (.arr .u8 32)), (1, .glob 0 (.arr .u32 8)), (2, .glob 1 (.arr .u32 64))]
def RX (d : (Unit × Unit × Int × Int × Unit)) (e : ((List (List Int)) × (List Int) × (List Int) × (List Bool) × (List Bool) × Unit)) (v : Bool) : St := ⟨mkS RS (v, ()), mkH RH (e.1, e.2.1, e.2.2.1, ())⟩
def sum (k : Nat) : LoopSum := sigLoop S cl hn kp H 0 (fun (d : (Unit × Unit × Int × Int × Unit)) (e : ((List (List Int)) × (List Int) × (List Int) × (List Bool) × (List Bool) × Unit)) => f k d.2.2.1 e.1 e.2.1 e.2.2.1 e.2.2.2.1 e.2.2.2.2.1 k d.2.2.2.1) KX RX
end l0
def tree {X : Type} (K : Bool → Option X) (k : Nat) (a0 : (Int × (Int × Int))) (a1 : Int) (a3 : Int) (m0 : (List (List Int))) (m1 : (List Int)) (m2 : (List Int)) : Option X :=
  (Option.bind (trailheadlaw18_alive.f k m1 m2) (fun r1 => (bif (!r1) then (K false) else (bif (decide (((List.length m0) : Int) > (100 : Int))) then (K true) else (bif (decide (a3 < (0 : Int))) then (K true) else (bif (decide (a3 > ((List.length m0) : Int))) then (K true) else (bif (decide (a1 < (0 : Int))) then (K true) else (bif (decide (a1 > (1099511627776 : Int))) then (K true) else (Option.bind (pledge_Good.f k a0) (fun r2 => (bif (!r2) then (K true) else (Option.bind (pledge_New.f k a0) (fun r3 => sel r3 (fun v4 => (Option.bind (pledge_New.f k a0) (fun r6 => sel r6 (fun v7 => (Option.bind (pledge_Book_Give_v1.f k a1 m0 m1 m2) (fun r9 => (bif (decide (0 ≤ a3)) then (bif (decide (a3 ≤ ((List.length m0) : Int))) then (Option.bind (pledge_Book_Give_v1.f k a1 (List.take (Int.toNat a3) m0) m1 m2) (fun r10 => (bif (decide (0 ≤ a3)) then (bif (decide (a3 ≤ ((List.length m0) : Int))) then (Option.bind (pledge_Book_Give_v1.f k (addI .i64 a1 a3) (List.drop (Int.toNat a3) m0) m1 m2) (fun r11 => (bif (decide (a0.2.1 = 0)) then none else (Option.bind (pledge_Book_Bits.f k) (fun r12 => (Option.bind (pledge_Book_Bits.f k) (fun r13 => (bif (r9 != (addI .i64 r10 r11)) then (K false) else (bif (decide (r9 < (quoI .i64 ((List.length m0) : Int) a0.2.1))) then (K false) else (bif (decide (r9 > (addI .i64 (quoI .i64 ((List.length m0) : Int) a0.2.1) 1))) then (K false) else (bif ((0 : Int) != r9) then (K false) else (bif ((0 : Int) != r9) then (K false) else none)))))))))))) else none) else none))) else none) else none)))) (fun w8 => (Option.bind (pledge_Book_Give_v1.f k a1 m0 m1 m2) (fun r14 => (bif (decide (0 ≤ a3)) then (bif (decide (a3 ≤ ((List.length m0) : Int))) then (Option.bind (pledge_Book_Give_v2.f k a1 w8.1 w8.2 (List.take (Int.toNat a3) m0) m1 m2) (fun r15 => (bif (decide (0 ≤ a3)) then (bif (decide (a3 ≤ ((List.length m0) : Int))) then (Option.bind (pledge_Book_Give_v3.f k (addI .i64 a1 a3) r15.2.1 r15.2.2.1 (List.drop (Int.toNat a3) m0) m1 m2 r15.2.2.2) (fun r16 => (bif (decide (a0.2.1 = 0)) then none else (Option.bind (pledge_Book_Bits.f k) (fun r17 => (Option.bind (pledge_Book_Bits_v1.f k r16.2.1 r16.2.2.1 r16.2.2.2) (fun r18 => (bif (r14 != (addI .i64 r15.1 r16.1)) then (K false) else (bif (decide (r14 < (quoI .i64 ((List.length m0) : Int) a0.2.1))) then (K false) else (bif (decide (r14 > (addI .i64 (quoI .i64 ((List.length m0) : Int) a0.2.1) 1))) then (K false) else (bif ((0 : Int) != r14) then (K false) else (bif (((List.length r18) : Int) != r14) then (K false) else none)))))))))))) else none) else none))) else none) else none))))))) (fun w5 => (Option.bind (pledge_New.f k a0) (fun r19 => sel r19 (fun v20 => (Option.bind (pledge_Book_Give_v2.f k a1 w5.1 w5.2 m0 m1 m2) (fun r22 => (bif (decide (0 ≤ a3)) then (bif (decide (a3 ≤ ((List.length m0) : Int))) then (Option.bind (pledge_Book_Give_v1.f k a1 (List.take (Int.toNat a3) m0) m1 m2) (fun r23 => (bif (decide (0 ≤ a3)) then (bif (decide (a3 ≤ ((List.length m0) : Int))) then (Option.bind (pledge_Book_Give_v1.f k (addI .i64 a1 a3) (List.drop (Int.toNat a3) m0) m1 m2) (fun r24 => (bif (decide (a0.2.1 = 0)) then none else (Option.bind (pledge_Book_Bits_v1.f k r22.2.1 r22.2.2.1 r22.2.2.2) (fun r25 => (Option.bind (pledge_Book_Bits.f k) (fun r26 => (bif (r22.1 != (addI .i64 r23 r24)) then (K false) else (bif (decide (r22.1 < (quoI .i64 ((List.length m0) : Int) a0.2.1))) then (K false) else (bif (decide (r22.1 > (addI .i64 (quoI .i64 ((List.length m0) : Int) a0.2.1) 1))) then (K false) else (bif (((List.length r25) : Int) != r22.1) then (K false) else (bif ((0 : Int) != r22.1) then (K false) else none)))))))))))) else none) else none))) else none) else none)))) (fun w21 => (Option.bind (pledge_Book_Give_v2.f k a1 w5.1 w5.2 m0 m1 m2) (fun r27 => (bif (decide (0 ≤ a3)) then (bif (decide (a3 ≤ ((List.length m0) : Int))) then (Option.bind (pledge_Book_Give_v2.f k a1 w21.1 w21.2 (List.take (Int.toNat a3) m0) m1 m2) (fun r28 => (bif (decide (0 ≤ a3)) then (bif (decide (a3 ≤ ((List.length m0) : Int))) then (Option.bind (pledge_Book_Give_v3.f k (addI .i64 a1 a3) r28.2.1 r28.2.2.1 (List.drop (Int.toNat a3) m0) m1 m2 r28.2.2.2) (fun r29 => (bif (decide (a0.2.1 = 0)) then none else (Option.bind (pledge_Book_Bits_v1.f k r27.2.1 r27.2.2.1 r27.2.2.2) (fun r30 => (Option.bind (pledge_Book_Bits_v1.f k r29.2.1 r29.2.2.1 r29.2.2.2) (fun r31 => (bif (r27.1 != (addI .i64 r28.1 r29.1)) then (K false) else (bif (decide (r27.1 < (quoI .i64 ((List.length m0) : Int) a0.2.1))) then (K false) else (bif (decide (r27.1 > (addI .i64 (quoI .i64 ((List.length m0) : Int) a0.2.1) 1))) then (K false) else (bif (((List.length r30) : Int) != r27.1) then (K false) else (bif (((List.length r31) : Int) != r27.1) then (K false) else (Option.bind (trailheadlaw18_PledgeSpan.l0.f k ((List.length r30) : Int) m0 m1 m2 r30 r31 k (0 : Int)) (fun r32 => sel r32 (fun v33 => (K true)) (fun q34 => (K q34)))))))))))))))) else none) else none))) else none) else none))))))))))))))))))))
def f (k : Nat) (a0 : (Int × (Int × Int))) (a1 : Int) (a3 : Int) (m0 : (List (List Int))) (m1 : (List Int)) (m2 : (List Int)) : Option Bool := tree (fun b0 => some b0) k a0 a1 a3 m0 m1 m2
theorem tree_nat {X Y : Type} (h : X → Option Y) (K : Bool → Option X) (k : Nat) (a0 : (Int × (Int × Int))) (a1 : Int) (a3 : Int) (m0 : (List (List Int))) (m1 : (List Int)) (m2 : (List Int)) : Option.bind (tree K k a0 a1 a3 m0 m1 m2) h = tree (fun b0 => Option.bind (K b0) h) k a0 a1 a3 m0 m1 m2 := by
  simp only [tree, bif_bind, sel_bind', Option.bind_assoc, Option.bind_none, Option.bind_some]
abbrev ps : List Sh := [.data (.pair (.int .i64) (.pair (.int .i64) (.int .i64))), .data (.int .i64), .vec 0, .data (.int .i64)]
abbrev hs : List (Nat × ESh) := [(0, .rows 0 24 (.arr .u8 32)), (1, .glob 0 (.arr .u32 8)), (2, .glob 1 (.arr .u32 64))]
abbrev hi : List Nat := hs.map (·.1)
abbrev fi : List Nat := [0, 1, 2]
abbrev cl : List (Place × Nat × Hint) := []
abbrev hn : List Hint := [.any]
def val (t : Bool) : AV := Sh.mk (.data .bool) t
def wr (t : Bool) : Heap := []
def callee (k : Nat) : Callee := sigCallee ps hs (fun (d : ((Int × (Int × Int)) × Int × Unit × Int × Unit)) (e : ((List (List Int)) × (List Int) × (List Int) × Unit)) => f k d.1 d.2.1 d.2.2.2.1 e.1 e.2.1 e.2.2.1) val wr
def E (k : Nat) : Env := ⟨fnTab [(35, [trailheadlaw18_alive.callee k]), (37, [pledge_Good.callee k]), (36, [pledge_New.callee k]), (42, [pledge_Book_Give_v1.callee k, pledge_Book_Give_v2.callee k, pledge_Book_Give_v3.callee k]), (43, [pledge_Book_Bits.callee k, pledge_Book_Bits_v1.callee k])], loopTab [(0, l0.sum k)], natsTab [(35, [1, 2]), (42, [1, 2])], natTab [(0, 1), (1, 2)]⟩
theorem fE (k : Nat) : ∀ f, ∀ c ∈ (E k).fn f, CalleeOK Tryd.prog f c := fnTab_ok ⟨⟨trailheadlaw18_alive.ok k, trivial⟩, ⟨pledge_Good.ok k, trivial⟩, ⟨pledge_New.ok k, trivial⟩, ⟨pledge_Book_Give_v1.ok k, pledge_Book_Give_v2.ok k, pledge_Book_Give_v3.ok k, trivial⟩, ⟨pledge_Book_Bits.ok k, pledge_Book_Bits_v1.ok k, trivial⟩, trivial⟩
namespace l0
theorem round (k : Nat) (d : (Unit × Unit × Int × Int × Unit)) (e : ((List (List Int)) × (List Int) × (List Int) × (List Bool) × (List Bool) × Unit)) (G : St → Option (Ex × St)) : roundK Tryd.prog (E k) 127 0 (subC (bodyOf Tryd.f11) [1, 1, 1, 1, 1, 1, 1, 1, 1, 1, 1, 0, 1, 0, 0]) (recast cl hn kp) (finBy cl hn kp rc rs ri) G ⟨mkS S d, mkH H e⟩ =
    step (fun x114 => some (.exit 0, KX d e x114)) (fun q0 => some (.ret, RX d e q0)) (fun x114 => G ⟨mkS S ((), (), d.2.2.1, x114, ()), mkH H (e.1, e.2.1, e.2.2.1, e.2.2.2.1, e.2.2.2.2.1, ())⟩) k d.2.2.1 e.1 e.2.1 e.2.2.1 e.2.2.2.1 e.2.2.2.2.1 d.2.2.2.1 := by kernel_rfl
theorem it (k n : Nat) (d : (Unit × Unit × Int × Int × Unit)) (e : ((List (List Int)) × (List Int) × (List Int) × (List Bool) × (List Bool) × Unit)) : loopIt Tryd.prog (E k) 127 0 (subC (bodyOf Tryd.f11) [1, 1, 1, 1, 1, 1, 1, 1, 1, 1, 1, 0, 1, 0, 0]) (recast cl hn kp) (finBy cl hn kp rc rs ri) n ⟨mkS S d, mkH H e⟩ = go (fun x114 => some (.exit 0, KX d e x114)) (fun q0 => some (.ret, RX d e q0)) k d.2.2.1 e.1 e.2.1 e.2.2.1 e.2.2.2.1 e.2.2.2.2.1 n d.2.2.2.1 :=
  loopIt_eq (D := (Unit × Unit × Int × Int × Unit) × ((List (List Int)) × (List Int) × (List Int) × (List Bool) × (List Bool) × Unit)) (fun p => ⟨mkS S p.1, mkH H p.2⟩) (fun F p => step (fun x114 => some (.exit 0, KX p.1 p.2 x114)) (fun q0 => some (.ret, RX p.1 p.2 q0)) (fun x114 => F (((), (), p.1.2.2.1, x114, ()), (p.2.1, p.2.2.1, p.2.2.2.1, p.2.2.2.2.1, p.2.2.2.2.2.1, ()))) k p.1.2.2.1 p.2.1 p.2.2.1 p.2.2.2.1 p.2.2.2.2.1 p.2.2.2.2.2.1 p.1.2.2.2.1) (fun n p => go (fun x114 => some (.exit 0, KX p.1 p.2 x114)) (fun q0 => some (.ret, RX p.1 p.2 q0)) k p.1.2.2.1 p.2.1 p.2.2.1 p.2.2.2.1 p.2.2.2.2.1 p.2.2.2.2.2.1 n p.1.2.2.2.1) (fun _ => rfl) (fun _ _ => rfl) (fun G p => round k p.1 p.2 G) n (d, e)
theorem ok (k : Nat) : LoopOK Tryd.prog 127 (subC (bodyOf Tryd.f11) [1, 1, 1, 1, 1, 1, 1, 1, 1, 1, 1, 0, 1, 0, 0]) (sum k) :=
  loop_sig hm (fE k) (loopsOK_of [] (by kernel_rfl) trivial) S cl hn kp H 0 (fun (d : (Unit × Unit × Int × Int × Unit)) (e : ((List (List Int)) × (List Int) × (List Int) × (List Bool) × (List Bool) × Unit)) => f k d.2.2.1 e.1 e.2.1 e.2.2.1 e.2.2.2.1 e.2.2.2.2.1 k d.2.2.2.1) KX RX cl hn kp rc rs ri k
    (fun d e => (it k k d e).trans (go_nat (exitOf 0 (KX d e) (RX d e)) (fun x114 => some (.inl x114)) (fun q0 => some (.inr q0)) k d.2.2.1 e.1 e.2.1 e.2.2.1 e.2.2.2.1 e.2.2.2.2.1 k d.2.2.2.1).symm)
end l0
theorem run (k : Nat) (d : ((Int × (Int × Int)) × Int × Unit × Int × Unit)) (e : ((List (List Int)) × (List Int) × (List Int) × Unit)) : runFn Tryd.prog (E k) 127 (bodyOf Tryd.f11) Tryd.f11.results.toList cl hn hi (mkL ps d) (mkH hs e) =
    tree (fun b0 => leafFn hs fi e val wr b0) k d.1 d.2.1 d.2.2.2.1 e.1 e.2.1 e.2.2.1 := by kernel_rfl
theorem run_f (k : Nat) (d : ((Int × (Int × Int)) × Int × Unit × Int × Unit)) (e : ((List (List Int)) × (List Int) × (List Int) × Unit)) : runFn Tryd.prog (E k) 127 (bodyOf Tryd.f11) Tryd.f11.results.toList cl hn hi (mkL ps d) (mkH hs e) = (f k d.1 d.2.1 d.2.2.2.1 e.1 e.2.1 e.2.2.1).bind (leafFn hs fi e val wr) :=
  (run k d e).trans (tree_nat (leafFn hs fi e val wr) (fun b0 => some b0) k d.1 d.2.1 d.2.2.2.1 e.1 e.2.1 e.2.2.1).symm
theorem fnIs : FnIs Tryd.prog 11 Tryd.f11 (bodyOf Tryd.f11) 127 := ⟨by kernel_rfl, by kernel_rfl, by kernel_rfl, by kernel_rfl⟩
theorem ok (k : Nat) : CalleeOK Tryd.prog 11 (callee k) :=
  callee_sig (T := Bool) fnIs hm (fE k) (loopsOK_of [(0, subC (bodyOf Tryd.f11) [1, 1, 1, 1, 1, 1, 1, 1, 1, 1, 1, 0, 1, 0, 0])] (by kernel_rfl) ⟨of_loop (l0.sum k) rfl (l0.ok k), trivial⟩) ps hs cl hn fi (fun (d : ((Int × (Int × Int)) × Int × Unit × Int × Unit)) (e : ((List (List Int)) × (List Int) × (List Int) × Unit)) => f k d.1 d.2.1 d.2.2.2.1 e.1 e.2.1 e.2.2.1) val wr rfl (fun _ => rfl) (run_f k)
end trailheadlaw18_PledgeSpan
namespace pledge_Book_Meet
def tree {X : Type} (K : Bool → (Int × (Int × Int)) → (Int × Int) → Option X) (k : Nat) (a1 : Int) (a2 : (List Int)) (m0_0 : (Int × (Int × Int))) (m0_1 : (Int × Int)) (m1 : (List Int)) (m2 : (List Int)) (m3 : (List Int)) : Option X :=
  (Option.bind (pledge_Plan_Due.f k m0_0 a1) (fun r1 => (bif (!r1) then (K true m0_0 m0_1) else (bif (decide (m0_1.2 ≥ m0_1.1)) then (K false m0_0 m0_1) else (Option.bind (pledge_Book_at.f k m0_1.2 m0_0 m0_1 m3) (fun r2 => (Option.bind (pledge_Plan_Bit.f k m0_0 a2 m1 m2) (fun r3 => (bif (!(r2 == r3)) then (K false m0_0 m0_1) else (K true m0_0 ((m0_1.1, (addI .i64 m0_1.2 1)) : (Int × Int))))))))))))
def f (k : Nat) (a1 : Int) (a2 : (List Int)) (m0_0 : (Int × (Int × Int))) (m0_1 : (Int × Int)) (m1 : (List Int)) (m2 : (List Int)) (m3 : (List Int)) : Option (Bool × ((Int × (Int × Int)) × (Int × Int))) := tree (fun b0 b1 b2 => some (b0, b1, b2)) k a1 a2 m0_0 m0_1 m1 m2 m3
theorem tree_nat {X Y : Type} (h : X → Option Y) (K : Bool → (Int × (Int × Int)) → (Int × Int) → Option X) (k : Nat) (a1 : Int) (a2 : (List Int)) (m0_0 : (Int × (Int × Int))) (m0_1 : (Int × Int)) (m1 : (List Int)) (m2 : (List Int)) (m3 : (List Int)) : Option.bind (tree K k a1 a2 m0_0 m0_1 m1 m2 m3) h = tree (fun b0 b1 b2 => Option.bind (K b0 b1 b2) h) k a1 a2 m0_0 m0_1 m1 m2 m3 := by
  simp only [tree, bif_bind, sel_bind', Option.bind_assoc, Option.bind_none, Option.bind_some]
abbrev ps : List Sh := [.ptr 0, .data (.int .i64), .data (.arr .u8 32)]
abbrev hs : List (Nat × ESh) := [(0, .cell (.pair (.data (.pair (.int .i64) (.pair (.int .i64) (.int .i64)))) (.pair (.vec 3) (.data (.pair (.int .i64) (.int .i64)))))), (1, .glob 0 (.arr .u32 8)), (2, .glob 1 (.arr .u32 64)), (3, .rows 2 85 (.int .u64))]
abbrev hi : List Nat := hs.map (·.1)
abbrev fi : List Nat := [0, 1, 2, 3]
abbrev cl : List (Place × Nat × Hint) := []
abbrev hn : List Hint := [.any]
def val (t : (Bool × ((Int × (Int × Int)) × (Int × Int)))) : AV := Sh.mk (.data .bool) t.1
def wr (t : (Bool × ((Int × (Int × Int)) × (Int × Int)))) : Heap := [(0, ESh.mk (.cell (.pair (.data (.pair (.int .i64) (.pair (.int .i64) (.int .i64)))) (.pair (.vec 3) (.data (.pair (.int .i64) (.int .i64)))))) (t.2.1, ((), t.2.2)))]
def callee (k : Nat) : Callee := sigCallee ps hs (fun (d : (Unit × Int × (List Int) × Unit)) (e : (((Int × (Int × Int)) × (Unit × (Int × Int))) × (List Int) × (List Int) × (List Int) × Unit)) => f k d.2.1 d.2.2.1 e.1.1 e.1.2.2 e.2.1 e.2.2.1 e.2.2.2.1) val wr
def E (k : Nat) : Env := ⟨fnTab [(38, [pledge_Plan_Due.callee k]), (67, [pledge_Book_at.callee k]), (40, [pledge_Plan_Bit.callee k])], loopTab [], natsTab [(40, [1, 2])], natTab [(0, 1), (1, 2)]⟩
theorem fE (k : Nat) : ∀ f, ∀ c ∈ (E k).fn f, CalleeOK Tryd.prog f c := fnTab_ok ⟨⟨pledge_Plan_Due.ok k, trivial⟩, ⟨pledge_Book_at.ok k, trivial⟩, ⟨pledge_Plan_Bit.ok k, trivial⟩, trivial⟩
theorem run (k : Nat) (d : (Unit × Int × (List Int) × Unit)) (e : (((Int × (Int × Int)) × (Unit × (Int × Int))) × (List Int) × (List Int) × (List Int) × Unit)) : runFn Tryd.prog (E k) 47 (bodyOf Tryd.f45) Tryd.f45.results.toList cl hn hi (mkL ps d) (mkH hs e) =
    tree (fun b0 b1 b2 => leafFn hs fi e val wr (b0, b1, b2)) k d.2.1 d.2.2.1 e.1.1 e.1.2.2 e.2.1 e.2.2.1 e.2.2.2.1 := by kernel_rfl
theorem run_f (k : Nat) (d : (Unit × Int × (List Int) × Unit)) (e : (((Int × (Int × Int)) × (Unit × (Int × Int))) × (List Int) × (List Int) × (List Int) × Unit)) : runFn Tryd.prog (E k) 47 (bodyOf Tryd.f45) Tryd.f45.results.toList cl hn hi (mkL ps d) (mkH hs e) = (f k d.2.1 d.2.2.1 e.1.1 e.1.2.2 e.2.1 e.2.2.1 e.2.2.2.1).bind (leafFn hs fi e val wr) :=
  (run k d e).trans (tree_nat (leafFn hs fi e val wr) (fun b0 b1 b2 => some (b0, b1, b2)) k d.2.1 d.2.2.1 e.1.1 e.1.2.2 e.2.1 e.2.2.1 e.2.2.2.1).symm
theorem fnIs : FnIs Tryd.prog 45 Tryd.f45 (bodyOf Tryd.f45) 47 := ⟨by kernel_rfl, by kernel_rfl, by kernel_rfl, by kernel_rfl⟩
theorem ok (k : Nat) : CalleeOK Tryd.prog 45 (callee k) :=
  callee_sig (T := (Bool × ((Int × (Int × Int)) × (Int × Int)))) fnIs hm (fE k) (loopsOK_of [] (by kernel_rfl) trivial) ps hs cl hn fi (fun (d : (Unit × Int × (List Int) × Unit)) (e : (((Int × (Int × Int)) × (Unit × (Int × Int))) × (List Int) × (List Int) × (List Int) × Unit)) => f k d.2.1 d.2.2.1 e.1.1 e.1.2.2 e.2.1 e.2.2.1 e.2.2.2.1) val wr rfl (fun _ => rfl) (run_f k)
end pledge_Book_Meet
namespace trailheadlaw18_PledgeMeets
namespace l0
def step {X : Type} (K : Int → (Int × (Int × Int)) → (Int × Int) → Option X) (Q : Bool → Option X) (G : Int → (Int × (Int × Int)) → (Int × Int) → Option X) (k : Nat) (x1 : Int) (x5 : Int) (x64 : Int) (y0 : (List (List Int))) (y1 : (List Int)) (y2 : (List Int)) (y800003 : (Int × (Int × Int))) (y800004 : (List Int)) (y800006 : (List Int)) (x65 : Int) (y800005_0 : (Int × (Int × Int))) (y800005_1 : (Int × Int)) : Option X :=
  (bif (decide (x65 < x64)) then (bif (decide (0 ≤ x65)) then (bif (decide (x65 < ((List.length y0) : Int))) then (bif (decide ((Int.toNat x65) < (List.length y0))) then (bif (x65 == x5) then (Option.bind (trailheadref18_Due.f k y800003.2.1 y800003.2.2 (addI .i64 x1 x65)) (fun r7 => (bif r7 then (Option.bind (trailheadref18_Bit.f k y800003.1 y800004) (fun r8 => (Option.bind (trailheadref18_Bit.f k y800003.1 (List.getD y0 (Int.toNat x65) (List.replicate 32 0 : (List Int)))) (fun r9 => (bif (!(r8 == r9)) then (Option.bind (pledge_Book_Left.f k y800005_0 y800005_1 y800006) (fun r10 => (Option.bind (pledge_Book_Meet.f k (addI .i64 x1 x65) y800004 y800005_0 y800005_1 y1 y2 y800006) (fun r11 => (bif r11.1 then (Q false) else (Option.bind (pledge_Book_Left.f k r11.2.1 r11.2.2 y800006) (fun r12 => (bif (r12 != r10) then (Q false) else (Option.bind (pledge_Book_Meet.f k (addI .i64 x1 x65) (List.getD y0 (Int.toNat x65) (List.replicate 32 0 : (List Int))) r11.2.1 r11.2.2 y1 y2 y800006) (fun r13 => (bif (!r13.1) then (Q false) else (G (addI .i64 x65 1) r13.2.1 r13.2.2)))))))))))) else (Option.bind (pledge_Book_Meet.f k (addI .i64 x1 x65) (List.getD y0 (Int.toNat x65) (List.replicate 32 0 : (List Int))) y800005_0 y800005_1 y1 y2 y800006) (fun r14 => (bif (!r14.1) then (Q false) else (G (addI .i64 x65 1) r14.2.1 r14.2.2))))))))) else (Option.bind (pledge_Book_Meet.f k (addI .i64 x1 x65) (List.getD y0 (Int.toNat x65) (List.replicate 32 0 : (List Int))) y800005_0 y800005_1 y1 y2 y800006) (fun r15 => (bif (!r15.1) then (Q false) else (G (addI .i64 x65 1) r15.2.1 r15.2.2))))))) else (Option.bind (pledge_Book_Meet.f k (addI .i64 x1 x65) (List.getD y0 (Int.toNat x65) (List.replicate 32 0 : (List Int))) y800005_0 y800005_1 y1 y2 y800006) (fun r16 => (bif (!r16.1) then (Q false) else (G (addI .i64 x65 1) r16.2.1 r16.2.2))))) else none) else none) else none) else (K x65 y800005_0 y800005_1))
def go {X : Type} (K : Int → (Int × (Int × Int)) → (Int × Int) → Option X) (Q : Bool → Option X) (k : Nat) (x1 : Int) (x5 : Int) (x64 : Int) (y0 : (List (List Int))) (y1 : (List Int)) (y2 : (List Int)) (y800003 : (Int × (Int × Int))) (y800004 : (List Int)) (y800006 : (List Int)) : Nat → Int → (Int × (Int × Int)) → (Int × Int) → Option X
  | 0, _, _, _ => none
  | n + 1, x65, y800005_0, y800005_1 => step K Q (go K Q k x1 x5 x64 y0 y1 y2 y800003 y800004 y800006 n) k x1 x5 x64 y0 y1 y2 y800003 y800004 y800006 x65 y800005_0 y800005_1
def f (k : Nat) (x1 : Int) (x5 : Int) (x64 : Int) (y0 : (List (List Int))) (y1 : (List Int)) (y2 : (List Int)) (y800003 : (Int × (Int × Int))) (y800004 : (List Int)) (y800006 : (List Int)) (n : Nat) (x65 : Int) (y800005_0 : (Int × (Int × Int))) (y800005_1 : (Int × Int)) : Option ((Int × ((Int × (Int × Int)) × (Int × Int))) ⊕ Bool) := go (fun x65 y800005_0 y800005_1 => some (.inl (x65, y800005_0, y800005_1))) (fun q0 => some (.inr q0)) k x1 x5 x64 y0 y1 y2 y800003 y800004 y800006 n x65 y800005_0 y800005_1
theorem step_nat {X Y : Type} (h : X → Option Y) (K : Int → (Int × (Int × Int)) → (Int × Int) → Option X) (Q : Bool → Option X) (G : Int → (Int × (Int × Int)) → (Int × Int) → Option X) (k : Nat) (x1 : Int) (x5 : Int) (x64 : Int) (y0 : (List (List Int))) (y1 : (List Int)) (y2 : (List Int)) (y800003 : (Int × (Int × Int))) (y800004 : (List Int)) (y800006 : (List Int)) (x65 : Int) (y800005_0 : (Int × (Int × Int))) (y800005_1 : (Int × Int)) : Option.bind (step K Q G k x1 x5 x64 y0 y1 y2 y800003 y800004 y800006 x65 y800005_0 y800005_1) h = step (fun x65 y800005_0 y800005_1 => Option.bind (K x65 y800005_0 y800005_1) h) (fun q0 => Option.bind (Q q0) h) (fun x65 y800005_0 y800005_1 => Option.bind (G x65 y800005_0 y800005_1) h) k x1 x5 x64 y0 y1 y2 y800003 y800004 y800006 x65 y800005_0 y800005_1 := by
  simp only [step, bif_bind, sel_bind', Option.bind_assoc, Option.bind_none, Option.bind_some]
theorem go_nat {X Y : Type} (h : X → Option Y) (K : Int → (Int × (Int × Int)) → (Int × Int) → Option X) (Q : Bool → Option X) (k : Nat) (x1 : Int) (x5 : Int) (x64 : Int) (y0 : (List (List Int))) (y1 : (List Int)) (y2 : (List Int)) (y800003 : (Int × (Int × Int))) (y800004 : (List Int)) (y800006 : (List Int)) (n : Nat) : ∀ (x65 : Int) (y800005_0 : (Int × (Int × Int))) (y800005_1 : (Int × Int)), Option.bind (go K Q k x1 x5 x64 y0 y1 y2 y800003 y800004 y800006 n x65 y800005_0 y800005_1) h = go (fun x65 y800005_0 y800005_1 => Option.bind (K x65 y800005_0 y800005_1) h) (fun q0 => Option.bind (Q q0) h) k x1 x5 x64 y0 y1 y2 y800003 y800004 y800006 n x65 y800005_0 y800005_1 := by
  induction n with
  | zero => intros; rfl
  | succ n ih => intro x65 y800005_0 y800005_1; show Option.bind (step K Q (go K Q k x1 x5 x64 y0 y1 y2 y800003 y800004 y800006 n) k x1 x5 x64 y0 y1 y2 y800003 y800004 y800006 x65 y800005_0 y800005_1) h = step (fun x65 y800005_0 y800005_1 => Option.bind (K x65 y800005_0 y800005_1) h) (fun q0 => Option.bind (Q q0) h) (go (fun x65 y800005_0 y800005_1 => Option.bind (K x65 y800005_0 y800005_1) h) (fun q0 => Option.bind (Q q0) h) k x1 x5 x64 y0 y1 y2 y800003 y800004 y800006 n) k x1 x5 x64 y0 y1 y2 y800003 y800004 y800006 x65 y800005_0 y800005_1; rw [step_nat h]; simp only [ih]
abbrev S : List (Nat × Sh) := [(1, .data (.int .i64)), (2, .vec 0), (5, .data (.int .i64)), (6, .ptr 800003), (10, .ptr 800004), (13, .ptr 800005), (63, .vec 0), (64, .data (.int .i64)), (65, .data (.int .i64))]
abbrev H : List (Nat × ESh) := [(0, .rows 0 24 (.arr .u8 32)), (1, .glob 0 (.arr .u32 8)), (2, .glob 1 (.arr .u32 64)), (800003, .cell (.data (.pair (.int .i64) (.pair (.int .i64) (.int .i64))))), (800004, .cell (.data (.arr .u8 32))), (800005, .cell (.pair (.data (.pair (.int .i64) (.pair (.int .i64) (.int .i64)))) (.pair (.vec 800006) (.data (.pair (.int .i64) (.int .i64)))))), (800006, .rows 2 85 (.int .u64))]
abbrev cl : List (Place × Nat × Hint) := []
abbrev hn : List (Nat × Hint) := [(1, .any), (2, .any), (5, .any), (6, .any), (10, .any), (13, .any), (63, .any), (64, .any), (65, .any)]
abbrev kp : List Nat := [0, 1, 2]
abbrev rc : List (Place × Nat × Hint) := []
abbrev rs : List (Nat × Hint) := [(12, .any)]
abbrev ri : List Nat := [0, 1, 2]
def KX (d : (Int × Unit × Int × Unit × Unit × Unit × Unit × Int × Int × Unit)) (e : ((List (List Int)) × (List Int) × (List Int) × (Int × (Int × Int)) × (List Int) × ((Int × (Int × Int)) × (Unit × (Int × Int))) × (List Int) × Unit)) (v : (Int × ((Int × (Int × Int)) × (Int × Int)))) : St := ⟨mkS S (d.1, (), d.2.2.1, (), (), (), (), d.2.2.2.2.2.2.2.1, v.1, ()), mkH H (e.1, e.2.1, e.2.2.1, e.2.2.2.1, e.2.2.2.2.1, (v.2.1, ((), v.2.2)), e.2.2.2.2.2.2.1, ())⟩
abbrev RS : List (Nat × Sh) := [(12, .data .bool)]
abbrev RH : List (Nat × ESh) := [(0, .rows 0 24 (.arr .u8 32)), (1, .glob 0 (.arr .u32 8)), (2, .glob 1 (.arr .u32 64))]
def RX (d : (Int × Unit × Int × Unit × Unit × Unit × Unit × Int × Int × Unit)) (e : ((List (List Int)) × (List Int) × (List Int) × (Int × (Int × Int)) × (List Int) × ((Int × (Int × Int)) × (Unit × (Int × Int))) × (List Int) × Unit)) (v : Bool) : St := ⟨mkS RS (v, ()), mkH RH (e.1, e.2.1, e.2.2.1, ())⟩
def sum (k : Nat) : LoopSum := sigLoop S cl hn kp H 0 (fun (d : (Int × Unit × Int × Unit × Unit × Unit × Unit × Int × Int × Unit)) (e : ((List (List Int)) × (List Int) × (List Int) × (Int × (Int × Int)) × (List Int) × ((Int × (Int × Int)) × (Unit × (Int × Int))) × (List Int) × Unit)) => f k d.1 d.2.2.1 d.2.2.2.2.2.2.2.1 e.1 e.2.1 e.2.2.1 e.2.2.2.1 e.2.2.2.2.1 e.2.2.2.2.2.2.1 k d.2.2.2.2.2.2.2.2.1 e.2.2.2.2.2.1.1 e.2.2.2.2.2.1.2.2) KX RX
end l0
def tree {X : Type} (K : Bool → Option X) (k : Nat) (a0 : (Int × (Int × Int))) (a1 : Int) (a3 : Int) (a4 : (List Int)) (a5 : Int) (m0 : (List (List Int))) (m1 : (List Int)) (m2 : (List Int)) : Option X :=
  (Option.bind (trailheadlaw18_alive.f k m1 m2) (fun r1 => (bif (!r1) then (K false) else (bif (decide (((List.length m0) : Int) > (100 : Int))) then (K true) else (bif (decide (a3 < (0 : Int))) then (K true) else (bif (decide (a3 > ((List.length m0) : Int))) then (K true) else (bif (decide (a1 < (0 : Int))) then (K true) else (bif (decide (a1 > (1099511627776 : Int))) then (K true) else (Option.bind (pledge_New.f k a0) (fun r2 => sel r2 (fun v3 => (K true)) (fun w4 => (bif (decide (0 ≤ a3)) then (bif (decide (a3 ≤ ((List.length m0) : Int))) then (Option.bind (pledge_Book_Give_v2.f k a1 w4.1 w4.2 (List.take (Int.toNat a3) m0) m1 m2) (fun r5 => (bif (decide (0 ≤ a3)) then (bif (decide (a3 ≤ ((List.length m0) : Int))) then (Option.bind (pledge_Book_Give_v3.f k (addI .i64 a1 a3) r5.2.1 r5.2.2.1 (List.drop (Int.toNat a3) m0) m1 m2 r5.2.2.2) (fun r6 => (Option.bind (trailheadlaw18_PledgeMeets.l0.f k a1 a5 ((List.length m0) : Int) m0 m1 m2 a0 a4 r6.2.2.2 k (0 : Int) r6.2.1 r6.2.2.1) (fun r17 => sel r17 (fun v18 => (Option.bind (pledge_Book_Left.f k v18.2.1 v18.2.2 r6.2.2.2) (fun r20 => (bif (r20 == (0 : Int)) then (Option.bind (pledge_Book_Given.f k v18.2.1 v18.2.2 r6.2.2.2) (fun r21 => (bif (decide (a0.2.1 = 0)) then none else (K (decide (r21 ≤ (addI .i64 (quoI .i64 ((List.length m0) : Int) a0.2.1) 1))))))) else (K false))))) (fun q19 => (K q19)))))) else none) else none))) else none) else none))))))))))))
def f (k : Nat) (a0 : (Int × (Int × Int))) (a1 : Int) (a3 : Int) (a4 : (List Int)) (a5 : Int) (m0 : (List (List Int))) (m1 : (List Int)) (m2 : (List Int)) : Option Bool := tree (fun b0 => some b0) k a0 a1 a3 a4 a5 m0 m1 m2
theorem tree_nat {X Y : Type} (h : X → Option Y) (K : Bool → Option X) (k : Nat) (a0 : (Int × (Int × Int))) (a1 : Int) (a3 : Int) (a4 : (List Int)) (a5 : Int) (m0 : (List (List Int))) (m1 : (List Int)) (m2 : (List Int)) : Option.bind (tree K k a0 a1 a3 a4 a5 m0 m1 m2) h = tree (fun b0 => Option.bind (K b0) h) k a0 a1 a3 a4 a5 m0 m1 m2 := by
  simp only [tree, bif_bind, sel_bind', Option.bind_assoc, Option.bind_none, Option.bind_some]
abbrev ps : List Sh := [.data (.pair (.int .i64) (.pair (.int .i64) (.int .i64))), .data (.int .i64), .vec 0, .data (.int .i64), .data (.arr .u8 32), .data (.int .i64)]
abbrev hs : List (Nat × ESh) := [(0, .rows 0 24 (.arr .u8 32)), (1, .glob 0 (.arr .u32 8)), (2, .glob 1 (.arr .u32 64))]
abbrev hi : List Nat := hs.map (·.1)
abbrev fi : List Nat := [0, 1, 2]
abbrev cl : List (Place × Nat × Hint) := []
abbrev hn : List Hint := [.any]
def val (t : Bool) : AV := Sh.mk (.data .bool) t
def wr (t : Bool) : Heap := []
def callee (k : Nat) : Callee := sigCallee ps hs (fun (d : ((Int × (Int × Int)) × Int × Unit × Int × (List Int) × Int × Unit)) (e : ((List (List Int)) × (List Int) × (List Int) × Unit)) => f k d.1 d.2.1 d.2.2.2.1 d.2.2.2.2.1 d.2.2.2.2.2.1 e.1 e.2.1 e.2.2.1) val wr
def E (k : Nat) : Env := ⟨fnTab [(35, [trailheadlaw18_alive.callee k]), (36, [pledge_New.callee k]), (42, [pledge_Book_Give_v2.callee k, pledge_Book_Give_v3.callee k]), (39, [trailheadref18_Due.callee k]), (41, [trailheadref18_Bit.callee k]), (44, [pledge_Book_Left.callee k]), (45, [pledge_Book_Meet.callee k]), (46, [pledge_Book_Given.callee k])], loopTab [(0, l0.sum k)], natsTab [(35, [1, 2]), (42, [1, 2]), (45, [1, 2])], natTab [(0, 1), (1, 2)]⟩
theorem fE (k : Nat) : ∀ f, ∀ c ∈ (E k).fn f, CalleeOK Tryd.prog f c := fnTab_ok ⟨⟨trailheadlaw18_alive.ok k, trivial⟩, ⟨pledge_New.ok k, trivial⟩, ⟨pledge_Book_Give_v2.ok k, pledge_Book_Give_v3.ok k, trivial⟩, ⟨trailheadref18_Due.ok k, trivial⟩, ⟨trailheadref18_Bit.ok k, trivial⟩, ⟨pledge_Book_Left.ok k, trivial⟩, ⟨pledge_Book_Meet.ok k, trivial⟩, ⟨pledge_Book_Given.ok k, trivial⟩, trivial⟩
namespace l0
theorem round (k : Nat) (d : (Int × Unit × Int × Unit × Unit × Unit × Unit × Int × Int × Unit)) (e : ((List (List Int)) × (List Int) × (List Int) × (Int × (Int × Int)) × (List Int) × ((Int × (Int × Int)) × (Unit × (Int × Int))) × (List Int) × Unit)) (G : St → Option (Ex × St)) : roundK Tryd.prog (E k) 127 0 (subC (bodyOf Tryd.f12) [1, 1, 1, 1, 1, 1, 1, 0, 1, 0, 0]) (recast cl hn kp) (finBy cl hn kp rc rs ri) G ⟨mkS S d, mkH H e⟩ =
    step (fun x65 y800005_0 y800005_1 => some (.exit 0, KX d e (x65, y800005_0, y800005_1))) (fun q0 => some (.ret, RX d e q0)) (fun x65 y800005_0 y800005_1 => G ⟨mkS S (d.1, (), d.2.2.1, (), (), (), (), d.2.2.2.2.2.2.2.1, x65, ()), mkH H (e.1, e.2.1, e.2.2.1, e.2.2.2.1, e.2.2.2.2.1, (y800005_0, ((), y800005_1)), e.2.2.2.2.2.2.1, ())⟩) k d.1 d.2.2.1 d.2.2.2.2.2.2.2.1 e.1 e.2.1 e.2.2.1 e.2.2.2.1 e.2.2.2.2.1 e.2.2.2.2.2.2.1 d.2.2.2.2.2.2.2.2.1 e.2.2.2.2.2.1.1 e.2.2.2.2.2.1.2.2 := by kernel_rfl
theorem it (k n : Nat) (d : (Int × Unit × Int × Unit × Unit × Unit × Unit × Int × Int × Unit)) (e : ((List (List Int)) × (List Int) × (List Int) × (Int × (Int × Int)) × (List Int) × ((Int × (Int × Int)) × (Unit × (Int × Int))) × (List Int) × Unit)) : loopIt Tryd.prog (E k) 127 0 (subC (bodyOf Tryd.f12) [1, 1, 1, 1, 1, 1, 1, 0, 1, 0, 0]) (recast cl hn kp) (finBy cl hn kp rc rs ri) n ⟨mkS S d, mkH H e⟩ = go (fun x65 y800005_0 y800005_1 => some (.exit 0, KX d e (x65, y800005_0, y800005_1))) (fun q0 => some (.ret, RX d e q0)) k d.1 d.2.2.1 d.2.2.2.2.2.2.2.1 e.1 e.2.1 e.2.2.1 e.2.2.2.1 e.2.2.2.2.1 e.2.2.2.2.2.2.1 n d.2.2.2.2.2.2.2.2.1 e.2.2.2.2.2.1.1 e.2.2.2.2.2.1.2.2 :=
  loopIt_eq (D := (Int × Unit × Int × Unit × Unit × Unit × Unit × Int × Int × Unit) × ((List (List Int)) × (List Int) × (List Int) × (Int × (Int × Int)) × (List Int) × ((Int × (Int × Int)) × (Unit × (Int × Int))) × (List Int) × Unit)) (fun p => ⟨mkS S p.1, mkH H p.2⟩) (fun F p => step (fun x65 y800005_0 y800005_1 => some (.exit 0, KX p.1 p.2 (x65, y800005_0, y800005_1))) (fun q0 => some (.ret, RX p.1 p.2 q0)) (fun x65 y800005_0 y800005_1 => F ((p.1.1, (), p.1.2.2.1, (), (), (), (), p.1.2.2.2.2.2.2.2.1, x65, ()), (p.2.1, p.2.2.1, p.2.2.2.1, p.2.2.2.2.1, p.2.2.2.2.2.1, (y800005_0, ((), y800005_1)), p.2.2.2.2.2.2.2.1, ()))) k p.1.1 p.1.2.2.1 p.1.2.2.2.2.2.2.2.1 p.2.1 p.2.2.1 p.2.2.2.1 p.2.2.2.2.1 p.2.2.2.2.2.1 p.2.2.2.2.2.2.2.1 p.1.2.2.2.2.2.2.2.2.1 p.2.2.2.2.2.2.1.1 p.2.2.2.2.2.2.1.2.2) (fun n p => go (fun x65 y800005_0 y800005_1 => some (.exit 0, KX p.1 p.2 (x65, y800005_0, y800005_1))) (fun q0 => some (.ret, RX p.1 p.2 q0)) k p.1.1 p.1.2.2.1 p.1.2.2.2.2.2.2.2.1 p.2.1 p.2.2.1 p.2.2.2.1 p.2.2.2.2.1 p.2.2.2.2.2.1 p.2.2.2.2.2.2.2.1 n p.1.2.2.2.2.2.2.2.2.1 p.2.2.2.2.2.2.1.1 p.2.2.2.2.2.2.1.2.2) (fun _ => rfl) (fun _ _ => rfl) (fun G p => round k p.1 p.2 G) n (d, e)
theorem ok (k : Nat) : LoopOK Tryd.prog 127 (subC (bodyOf Tryd.f12) [1, 1, 1, 1, 1, 1, 1, 0, 1, 0, 0]) (sum k) :=
  loop_sig hm (fE k) (loopsOK_of [] (by kernel_rfl) trivial) S cl hn kp H 0 (fun (d : (Int × Unit × Int × Unit × Unit × Unit × Unit × Int × Int × Unit)) (e : ((List (List Int)) × (List Int) × (List Int) × (Int × (Int × Int)) × (List Int) × ((Int × (Int × Int)) × (Unit × (Int × Int))) × (List Int) × Unit)) => f k d.1 d.2.2.1 d.2.2.2.2.2.2.2.1 e.1 e.2.1 e.2.2.1 e.2.2.2.1 e.2.2.2.2.1 e.2.2.2.2.2.2.1 k d.2.2.2.2.2.2.2.2.1 e.2.2.2.2.2.1.1 e.2.2.2.2.2.1.2.2) KX RX cl hn kp rc rs ri k
    (fun d e => (it k k d e).trans (go_nat (exitOf 0 (KX d e) (RX d e)) (fun x65 y800005_0 y800005_1 => some (.inl (x65, y800005_0, y800005_1))) (fun q0 => some (.inr q0)) k d.1 d.2.2.1 d.2.2.2.2.2.2.2.1 e.1 e.2.1 e.2.2.1 e.2.2.2.1 e.2.2.2.2.1 e.2.2.2.2.2.2.1 k d.2.2.2.2.2.2.2.2.1 e.2.2.2.2.2.1.1 e.2.2.2.2.2.1.2.2).symm)
end l0
theorem run (k : Nat) (d : ((Int × (Int × Int)) × Int × Unit × Int × (List Int) × Int × Unit)) (e : ((List (List Int)) × (List Int) × (List Int) × Unit)) : runFn Tryd.prog (E k) 127 (bodyOf Tryd.f12) Tryd.f12.results.toList cl hn hi (mkL ps d) (mkH hs e) =
    tree (fun b0 => leafFn hs fi e val wr b0) k d.1 d.2.1 d.2.2.2.1 d.2.2.2.2.1 d.2.2.2.2.2.1 e.1 e.2.1 e.2.2.1 := by kernel_rfl
theorem run_f (k : Nat) (d : ((Int × (Int × Int)) × Int × Unit × Int × (List Int) × Int × Unit)) (e : ((List (List Int)) × (List Int) × (List Int) × Unit)) : runFn Tryd.prog (E k) 127 (bodyOf Tryd.f12) Tryd.f12.results.toList cl hn hi (mkL ps d) (mkH hs e) = (f k d.1 d.2.1 d.2.2.2.1 d.2.2.2.2.1 d.2.2.2.2.2.1 e.1 e.2.1 e.2.2.1).bind (leafFn hs fi e val wr) :=
  (run k d e).trans (tree_nat (leafFn hs fi e val wr) (fun b0 => some b0) k d.1 d.2.1 d.2.2.2.1 d.2.2.2.2.1 d.2.2.2.2.2.1 e.1 e.2.1 e.2.2.1).symm
theorem fnIs : FnIs Tryd.prog 12 Tryd.f12 (bodyOf Tryd.f12) 127 := ⟨by kernel_rfl, by kernel_rfl, by kernel_rfl, by kernel_rfl⟩
theorem ok (k : Nat) : CalleeOK Tryd.prog 12 (callee k) :=
  callee_sig (T := Bool) fnIs hm (fE k) (loopsOK_of [(0, subC (bodyOf Tryd.f12) [1, 1, 1, 1, 1, 1, 1, 0, 1, 0, 0])] (by kernel_rfl) ⟨of_loop (l0.sum k) rfl (l0.ok k), trivial⟩) ps hs cl hn fi (fun (d : ((Int × (Int × Int)) × Int × Unit × Int × (List Int) × Int × Unit)) (e : ((List (List Int)) × (List Int) × (List Int) × Unit)) => f k d.1 d.2.1 d.2.2.2.1 d.2.2.2.2.1 d.2.2.2.2.2.1 e.1 e.2.1 e.2.2.1) val wr rfl (fun _ => rfl) (run_f k)
end trailheadlaw18_PledgeMeets
end Go.Proofs.YtnnajeoeeefjaaaDoor.Sy
