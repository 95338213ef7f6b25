/- What the Go functions come to, on data: printed by sypr.py. -/
import Derived.Test.YtkcdbbflelgbeaaDoorSy18
import Derived.Test.YtkcdbbflelgbeaaDoorProg
import Derived.Test.YtkcdbbflelgbeaaDoorWA
namespace Go.Proofs.YtkcdbbflelgbeaaDoor.Sy
open Go Go.Proofs
set_option maxRecDepth 100000
set_option linter.unusedVariables false
set_option linter.unusedSimpArgs false
abbrev dfl_88e6f2 : ((List Int) × (List Int)) := (([] : (List Int)), ([] : (List Int)))
namespace trailheadref05_Back
namespace l0
def step {X : Type} (K : Int → Int → Option X) (G : Int → Int → Option X) (k : Nat) (x0 : (List Int)) (x4 : Int) (x5 : Int) : Option X :=
  (bif (decide (x5 ≥ (0 : Int))) then (bif (decide (0 ≤ x5)) then (bif (decide (x5 < ((List.length x0) : Int))) then (G (addI .u64 (mulI .u64 x4 256) (IntKind.wrap .u64 (List.getD x0 (Int.toNat x5) 0))) (subI .i64 x5 1)) else none) else none) else (K x4 x5))
def go {X : Type} (K : Int → Int → Option X) (k : Nat) (x0 : (List Int)) : Nat → Int → Int → Option X
  | 0, _, _ => none
  | n + 1, x4, x5 => step K (go K k x0 n) k x0 x4 x5
def f (k : Nat) (x0 : (List Int)) (n : Nat) (x4 : Int) (x5 : Int) : Option (Int × Int) := go (fun x4 x5 => some (x4, x5)) k x0 n x4 x5
theorem step_nat {X Y : Type} (h : X → Option Y) (K : Int → Int → Option X) (G : Int → Int → Option X) (k : Nat) (x0 : (List Int)) (x4 : Int) (x5 : Int) : Option.bind (step K G k x0 x4 x5) h = step (fun x4 x5 => Option.bind (K x4 x5) h) (fun x4 x5 => Option.bind (G x4 x5) h) k x0 x4 x5 := by
  simp only [step, bif_bind, sel_bind', Option.bind_assoc, Option.bind_none, Option.bind_some]
theorem go_nat {X Y : Type} (h : X → Option Y) (K : Int → Int → Option X) (k : Nat) (x0 : (List Int)) (n : Nat) : ∀ (x4 : Int) (x5 : Int), Option.bind (go K k x0 n x4 x5) h = go (fun x4 x5 => Option.bind (K x4 x5) h) k x0 n x4 x5 := by
  induction n with
  | zero => intros; rfl
  | succ n ih => intro x4 x5; show Option.bind (step K (go K k x0 n) k x0 x4 x5) h = step (fun x4 x5 => Option.bind (K x4 x5) h) (go (fun x4 x5 => Option.bind (K x4 x5) h) k x0 n) k x0 x4 x5; rw [step_nat h]; simp only [ih]
abbrev S : List (Nat × Sh) := [(0, .data .str), (4, .data (.int .u64)), (5, .data (.int .i64))]
abbrev H : List (Nat × ESh) := []
abbrev cl : List (Place × Nat × Hint) := []
abbrev hn : List (Nat × Hint) := [(0, .any), (4, .any), (5, .any)]
abbrev kp : List Nat := []
abbrev rc : List (Place × Nat × Hint) := []
abbrev rs : List (Nat × Hint) := []
abbrev ri : List Nat := []
def KX (d : ((List Int) × Int × Int × Unit)) (e : Unit) (v : (Int × Int)) : St := ⟨mkS S (d.1, v.1, v.2, ()), mkH H (())⟩
def sum (k : Nat) : LoopSum := sigLoopX S cl hn kp H 0 (fun (d : ((List Int) × Int × Int × Unit)) (e : Unit) => f k d.1 k d.2.1 d.2.2.1) KX
end l0
def tree {X : Type} (K : Int → Bool → Option X) (k : Nat) (a0 : (List Int)) : Option X :=
  (Option.bind (trailheadref05_Back.l0.f k a0 k (0 : Int) (subI .i64 ((List.length a0) : Int) 1)) (fun r1 => (K (IntKind.wrap .i64 r1.1) (decide (r1.1 < (9223372036854775808 : Int))))))
def f (k : Nat) (a0 : (List Int)) : Option (Int × Bool) := tree (fun b0 b1 => some (b0, b1)) k a0
theorem tree_nat {X Y : Type} (h : X → Option Y) (K : Int → Bool → Option X) (k : Nat) (a0 : (List Int)) : Option.bind (tree K k a0) h = tree (fun b0 b1 => Option.bind (K b0 b1) h) k a0 := by
  simp only [tree, bif_bind, sel_bind', Option.bind_assoc, Option.bind_none, Option.bind_some]
abbrev ps : List Sh := [.data .str]
abbrev hs : List (Nat × ESh) := []
abbrev hi : List Nat := hs.map (·.1)
abbrev fi : List Nat := []
abbrev cl : List (Place × Nat × Hint) := []
abbrev hn : List Hint := [.any, .any]
def val (t : (Int × Bool)) : AV := .tcons (Sh.mk (.data (.int .i64)) t.1) (.tcons (Sh.mk (.data .bool) t.2) .tnil)
def wr (t : (Int × Bool)) : Heap := []
def callee (k : Nat) : Callee := sigCallee ps hs (fun (d : ((List Int) × Unit)) (e : Unit) => f k d.1) val wr
def E (k : Nat) : Env := ⟨fnTab [], loopTab [(0, l0.sum k)], natsTab [], natTab []⟩
theorem fE (k : Nat) : ∀ f, ∀ c ∈ (E k).fn f, CalleeOK Tryd.prog f c := fnTab_ok trivial
namespace l0
theorem round (k : Nat) (d : ((List Int) × Int × Int × Unit)) (e : Unit) (G : St → Option (Ex × St)) : roundK Tryd.prog (E k) 24 0 (subC (bodyOf Tryd.f31) [1, 1, 0, 1, 0, 0]) (recast cl hn kp) (finBy cl hn kp rc rs ri) G ⟨mkS S d, mkH H e⟩ =
    step (fun x4 x5 => some (.exit 0, KX d e (x4, x5))) (fun x4 x5 => G ⟨mkS S (d.1, x4, x5, ()), mkH H (())⟩) k d.1 d.2.1 d.2.2.1 := by kernel_rfl
theorem it (k n : Nat) (d : ((List Int) × Int × Int × Unit)) (e : Unit) : loopIt Tryd.prog (E k) 24 0 (subC (bodyOf Tryd.f31) [1, 1, 0, 1, 0, 0]) (recast cl hn kp) (finBy cl hn kp rc rs ri) n ⟨mkS S d, mkH H e⟩ = go (fun x4 x5 => some (.exit 0, KX d e (x4, x5))) k d.1 n d.2.1 d.2.2.1 :=
  loopIt_eq (D := ((List Int) × Int × Int × Unit) × Unit) (fun p => ⟨mkS S p.1, mkH H p.2⟩) (fun F p => step (fun x4 x5 => some (.exit 0, KX p.1 p.2 (x4, x5))) (fun x4 x5 => F ((p.1.1, x4, x5, ()), (()))) k p.1.1 p.1.2.1 p.1.2.2.1) (fun n p => go (fun x4 x5 => some (.exit 0, KX p.1 p.2 (x4, x5))) k p.1.1 n p.1.2.1 p.1.2.2.1) (fun _ => rfl) (fun _ _ => rfl) (fun G p => round k p.1 p.2 G) n (d, e)
theorem ok (k : Nat) : LoopOK Tryd.prog 24 (subC (bodyOf Tryd.f31) [1, 1, 0, 1, 0, 0]) (sum k) :=
  loop_sigX hm (fE k) (loopsOK_of [] (by kernel_rfl) trivial) S cl hn kp H 0 (fun (d : ((List Int) × Int × Int × Unit)) (e : Unit) => f k d.1 k d.2.1 d.2.2.1) KX cl hn kp rc rs ri k
    (fun d e => (it k k d e).trans (go_nat (fun v => some (Ex.exit 0, KX d e v)) (fun x4 x5 => some (x4, x5)) k d.1 k d.2.1 d.2.2.1).symm)
end l0
theorem run (k : Nat) (d : ((List Int) × Unit)) (e : Unit) : runFn Tryd.prog (E k) 24 (bodyOf Tryd.f31) Tryd.f31.results.toList cl hn hi (mkL ps d) (mkH hs e) =
    tree (fun b0 b1 => leafFn hs fi e val wr (b0, b1)) k d.1 := by kernel_rfl
theorem run_f (k : Nat) (d : ((List Int) × Unit)) (e : Unit) : runFn Tryd.prog (E k) 24 (bodyOf Tryd.f31) Tryd.f31.results.toList cl hn hi (mkL ps d) (mkH hs e) = (f k d.1).bind (leafFn hs fi e val wr) :=
  (run k d e).trans (tree_nat (leafFn hs fi e val wr) (fun b0 b1 => some (b0, b1)) k d.1).symm
theorem fnIs : FnIs Tryd.prog 31 Tryd.f31 (bodyOf Tryd.f31) 24 := ⟨by kernel_rfl, by kernel_rfl, by kernel_rfl, by kernel_rfl⟩
theorem ok (k : Nat) : CalleeOK Tryd.prog 31 (callee k) :=
  callee_sig (T := (Int × Bool)) fnIs hm (fE k) (loopsOK_of [(0, subC (bodyOf Tryd.f31) [1, 1, 0, 1, 0, 0])] (by kernel_rfl) ⟨of_loop (l0.sum k) rfl (l0.ok k), trivial⟩) ps hs cl hn fi (fun (d : ((List Int) × Unit)) (e : Unit) => f k d.1) val wr rfl (fun _ => rfl) (run_f k)
end trailheadref05_Back
namespace trailheadref07_Take
namespace l0
def step {X : Type} (K : Int → Option X) (Q : (List Int) → (List Int) → Int → Int → Option X) (G : Int → Option X) (k : Nat) (x0 : (List Int)) (x6 : Int) : Option X :=
  (bif (decide (x6 < (4 : Int))) then (bif (decide (((List.length x0) : Int) ≥ (4 : Int))) then (bif (decide (0 ≤ x6)) then (bif (decide (x6 < ((List.length x0) : Int))) then (bif (decide (0 ≤ x6)) then (bif (decide (x6 < (4 : Int))) then (bif ((List.getD x0 (Int.toNat x6) 0) != (List.getD ([84, 65, 73, 76] : (List Int)) (Int.toNat x6) 0)) then (Q ([] : (List Int)) ([] : (List Int)) (0 : Int) (4 : Int)) else (G (addI .i64 x6 1))) else none) else none) else none) else none) else (K x6)) else (K x6))
def go {X : Type} (K : Int → Option X) (Q : (List Int) → (List Int) → Int → Int → Option X) (k : Nat) (x0 : (List Int)) : Nat → Int → Option X
  | 0, _ => none
  | n + 1, x6 => step K Q (go K Q k x0 n) k x0 x6
def f (k : Nat) (x0 : (List Int)) (n : Nat) (x6 : Int) : Option (Int ⊕ ((List Int) × ((List Int) × (Int × Int)))) := go (fun x6 => some (.inl x6)) (fun q0 q1 q2 q3 => some (.inr (q0, q1, q2, q3))) k x0 n x6
theorem step_nat {X Y : Type} (h : X → Option Y) (K : Int → Option X) (Q : (List Int) → (List Int) → Int → Int → Option X) (G : Int → Option X) (k : Nat) (x0 : (List Int)) (x6 : Int) : Option.bind (step K Q G k x0 x6) h = step (fun x6 => Option.bind (K x6) h) (fun q0 q1 q2 q3 => Option.bind (Q q0 q1 q2 q3) h) (fun x6 => Option.bind (G x6) h) k x0 x6 := by
  simp only [step, bif_bind, sel_bind', Option.bind_assoc, Option.bind_none, Option.bind_some]
theorem go_nat {X Y : Type} (h : X → Option Y) (K : Int → Option X) (Q : (List Int) → (List Int) → Int → Int → Option X) (k : Nat) (x0 : (List Int)) (n : Nat) : ∀ (x6 : Int), Option.bind (go K Q k x0 n x6) h = go (fun x6 => Option.bind (K x6) h) (fun q0 q1 q2 q3 => Option.bind (Q q0 q1 q2 q3) h) k x0 n x6 := by
  induction n with
  | zero => intros; rfl
  | succ n ih => intro x6; show Option.bind (step K Q (go K Q k x0 n) k x0 x6) h = step (fun x6 => Option.bind (K x6) h) (fun q0 q1 q2 q3 => Option.bind (Q q0 q1 q2 q3) h) (go (fun x6 => Option.bind (K x6) h) (fun q0 q1 q2 q3 => Option.bind (Q q0 q1 q2 q3) h) k x0 n) k x0 x6; rw [step_nat h]; simp only [ih]
abbrev S : List (Nat × Sh) := [(0, .data .str), (6, .data (.int .i64))]
abbrev H : List (Nat × ESh) := []
abbrev cl : List (Place × Nat × Hint) := []
abbrev hn : List (Nat × Hint) := [(0, .any), (6, .any)]
abbrev kp : List Nat := []
abbrev rc : List (Place × Nat × Hint) := []
abbrev rs : List (Nat × Hint) := [(2, .any), (3, .any), (4, .any), (5, .any)]
abbrev ri : List Nat := []
def KX (d : ((List Int) × Int × Unit)) (e : Unit) (v : Int) : St := ⟨mkS S (d.1, v, ()), mkH H (())⟩
abbrev RS : List (Nat × Sh) := [(2, .data .str), (3, .data .str), (4, .data (.int .i64)), (5, .data (.int .i64))]
abbrev RH : List (Nat × ESh) := []
def RX (d : ((List Int) × Int × Unit)) (e : Unit) (v : ((List Int) × ((List Int) × (Int × Int)))) : St := ⟨mkS RS (v.1, v.2.1, v.2.2.1, v.2.2.2, ()), mkH RH (())⟩
def sum (k : Nat) : LoopSum := sigLoop S cl hn kp H 0 (fun (d : ((List Int) × Int × Unit)) (e : Unit) => f k d.1 k d.2.1) KX RX
end l0
namespace l2
def step {X : Type} (K : Int → Option X) (G : Int → Option X) (k : Nat) (x0 : (List Int)) (x7 : Int) : Option X :=
  (bif (decide (x7 > (4 : Int))) then (bif (decide (0 ≤ (subI .i64 x7 1))) then (bif (decide ((subI .i64 x7 1) < ((List.length x0) : Int))) then (bif ((List.getD x0 (Int.toNat (subI .i64 x7 1)) 0) == (0 : Int)) then (G (subI .i64 x7 1)) else (K x7)) else none) else none) else (K x7))
def go {X : Type} (K : Int → Option X) (k : Nat) (x0 : (List Int)) : Nat → Int → Option X
  | 0, _ => none
  | n + 1, x7 => step K (go K k x0 n) k x0 x7
def f (k : Nat) (x0 : (List Int)) (n : Nat) (x7 : Int) : Option Int := go (fun x7 => some x7) k x0 n x7
theorem step_nat {X Y : Type} (h : X → Option Y) (K : Int → Option X) (G : Int → Option X) (k : Nat) (x0 : (List Int)) (x7 : Int) : Option.bind (step K G k x0 x7) h = step (fun x7 => Option.bind (K x7) h) (fun x7 => Option.bind (G x7) h) k x0 x7 := by
  simp only [step, bif_bind, sel_bind', Option.bind_assoc, Option.bind_none, Option.bind_some]
theorem go_nat {X Y : Type} (h : X → Option Y) (K : Int → Option X) (k : Nat) (x0 : (List Int)) (n : Nat) : ∀ (x7 : Int), Option.bind (go K k x0 n x7) h = go (fun x7 => Option.bind (K x7) h) k x0 n x7 := by
  induction n with
  | zero => intros; rfl
  | succ n ih => intro x7; show Option.bind (step K (go K k x0 n) k x0 x7) h = step (fun x7 => Option.bind (K x7) h) (go (fun x7 => Option.bind (K x7) h) k x0 n) k x0 x7; rw [step_nat h]; simp only [ih]
abbrev S : List (Nat × Sh) := [(0, .data .str), (7, .data (.int .i64))]
abbrev H : List (Nat × ESh) := []
abbrev cl : List (Place × Nat × Hint) := []
abbrev hn : List (Nat × Hint) := [(0, .any), (7, .any)]
abbrev kp : List Nat := []
abbrev rc : List (Place × Nat × Hint) := []
abbrev rs : List (Nat × Hint) := []
abbrev ri : List Nat := []
def KX (d : ((List Int) × Int × Unit)) (e : Unit) (v : Int) : St := ⟨mkS S (d.1, v, ()), mkH H (())⟩
def sum (k : Nat) : LoopSum := sigLoopX S cl hn kp H 2 (fun (d : ((List Int) × Int × Unit)) (e : Unit) => f k d.1 k d.2.1) KX
end l2
def tree {X : Type} (K : (List Int) → (List Int) → Int → Int → Option X) (k : Nat) (a0 : (List Int)) : Option X :=
  (Option.bind (trailheadref07_Take.l0.f k a0 k (0 : Int)) (fun r1 => sel r1 (fun v2 => (bif (decide (((List.length a0) : Int) < (24 : Int))) then (K ([] : (List Int)) ([] : (List Int)) (0 : Int) (7 : Int)) else (Option.bind (trailheadref07_Take.l2.f k a0 k (16 : Int)) (fun r4 => (bif (decide (20 ≤ ((List.length a0) : Int))) then (Option.bind (trailheadref05_Back.f k (List.drop 16 (List.take 20 a0))) (fun r5 => (bif (decide (0 ≤ r4)) then (bif (decide (r4 ≤ ((List.length a0) : Int))) then (bif (decide (4 ≤ r4)) then (Option.bind (trailheadref07_Word.f k (List.drop 4 (List.take (Int.toNat r4) a0))) (fun r6 => (bif (!r6) then (K ([] : (List Int)) ([] : (List Int)) (0 : Int) (4 : Int)) else (bif (decide (r5.1 > (16384 : Int))) then (K ([] : (List Int)) ([] : (List Int)) (0 : Int) (4 : Int)) else (bif (decide (((List.length a0) : Int) < (addI .i64 24 r5.1))) then (K ([] : (List Int)) ([] : (List Int)) (0 : Int) (7 : Int)) else (bif (decide (0 ≤ r4)) then (bif (decide (r4 ≤ ((List.length a0) : Int))) then (bif (decide (4 ≤ r4)) then (bif (decide (0 ≤ (addI .i64 24 r5.1))) then (bif (decide ((addI .i64 24 r5.1) ≤ ((List.length a0) : Int))) then (bif (decide (24 ≤ (addI .i64 24 r5.1))) then (Option.bind (trailheadref07_Bytes.f k (List.drop 4 (List.take (Int.toNat r4) a0)) (List.drop 24 (List.take (Int.toNat (addI .i64 24 r5.1)) a0))) (fun r7 => (bif (decide (0 ≤ (addI .i64 24 r5.1))) then (bif (decide ((addI .i64 24 r5.1) ≤ ((List.length a0) : Int))) then (bif (!(decide (r7 = (List.take (Int.toNat (addI .i64 24 r5.1)) a0)))) then (K ([] : (List Int)) ([] : (List Int)) (0 : Int) (4 : Int)) else (bif (decide (0 ≤ r4)) then (bif (decide (r4 ≤ ((List.length a0) : Int))) then (bif (decide (4 ≤ r4)) then (bif (decide (0 ≤ (addI .i64 24 r5.1))) then (bif (decide ((addI .i64 24 r5.1) ≤ ((List.length a0) : Int))) then (bif (decide (24 ≤ (addI .i64 24 r5.1))) then (K (List.drop 4 (List.take (Int.toNat r4) a0)) (List.drop 24 (List.take (Int.toNat (addI .i64 24 r5.1)) a0)) (addI .i64 24 r5.1) (0 : Int)) else none) else none) else none) else none) else none) else none)) else none) else none))) else none) else none) else none) else none) else none) else none)))))) else none) else none) else none))) else none))))) (fun q3 => (K q3.1 q3.2.1 q3.2.2.1 q3.2.2.2))))
def f (k : Nat) (a0 : (List Int)) : Option ((List Int) × ((List Int) × (Int × Int))) := tree (fun b0 b1 b2 b3 => some (b0, b1, b2, b3)) k a0
theorem tree_nat {X Y : Type} (h : X → Option Y) (K : (List Int) → (List Int) → Int → Int → Option X) (k : Nat) (a0 : (List Int)) : Option.bind (tree K k a0) h = tree (fun b0 b1 b2 b3 => Option.bind (K b0 b1 b2 b3) h) k a0 := by
  simp only [tree, bif_bind, sel_bind', Option.bind_assoc, Option.bind_none, Option.bind_some]
abbrev ps : List Sh := [.data .str]
abbrev hs : List (Nat × ESh) := []
abbrev hi : List Nat := hs.map (·.1)
abbrev fi : List Nat := []
abbrev cl : List (Place × Nat × Hint) := []
abbrev hn : List Hint := [.any, .any, .any, .any]
def val (t : ((List Int) × ((List Int) × (Int × Int)))) : AV := .tcons (Sh.mk (.data .str) t.1) (.tcons (Sh.mk (.data .str) t.2.1) (.tcons (Sh.mk (.data (.int .i64)) t.2.2.1) (.tcons (Sh.mk (.data (.int .i64)) t.2.2.2) .tnil)))
def wr (t : ((List Int) × ((List Int) × (Int × Int)))) : Heap := []
def callee (k : Nat) : Callee := sigCallee ps hs (fun (d : ((List Int) × Unit)) (e : Unit) => f k d.1) val wr
def E (k : Nat) : Env := ⟨fnTab [(31, [trailheadref05_Back.callee k]), (22, [trailheadref07_Word.callee k]), (13, [trailheadref07_Bytes.callee k])], loopTab [(0, l0.sum k), (2, l2.sum k)], natsTab [], natTab []⟩
theorem fE (k : Nat) : ∀ f, ∀ c ∈ (E k).fn f, CalleeOK Tryd.prog f c := fnTab_ok ⟨⟨trailheadref05_Back.ok k, trivial⟩, ⟨trailheadref07_Word.ok k, trivial⟩, ⟨trailheadref07_Bytes.ok k, trivial⟩, trivial⟩
namespace l0
theorem round (k : Nat) (d : ((List Int) × Int × Unit)) (e : Unit) (G : St → Option (Ex × St)) : roundK Tryd.prog (E k) 81 0 (subC (bodyOf Tryd.f14) [1, 0, 1, 0, 0]) (recast cl hn kp) (finBy cl hn kp rc rs ri) G ⟨mkS S d, mkH H e⟩ =
    step (fun x6 => some (.exit 0, KX d e x6)) (fun q0 q1 q2 q3 => some (.ret, RX d e (q0, q1, q2, q3))) (fun x6 => G ⟨mkS S (d.1, x6, ()), mkH H (())⟩) k d.1 d.2.1 := by kernel_rfl
theorem it (k n : Nat) (d : ((List Int) × Int × Unit)) (e : Unit) : loopIt Tryd.prog (E k) 81 0 (subC (bodyOf Tryd.f14) [1, 0, 1, 0, 0]) (recast cl hn kp) (finBy cl hn kp rc rs ri) n ⟨mkS S d, mkH H e⟩ = go (fun x6 => some (.exit 0, KX d e x6)) (fun q0 q1 q2 q3 => some (.ret, RX d e (q0, q1, q2, q3))) k d.1 n d.2.1 :=
  loopIt_eq (D := ((List Int) × Int × Unit) × Unit) (fun p => ⟨mkS S p.1, mkH H p.2⟩) (fun F p => step (fun x6 => some (.exit 0, KX p.1 p.2 x6)) (fun q0 q1 q2 q3 => some (.ret, RX p.1 p.2 (q0, q1, q2, q3))) (fun x6 => F ((p.1.1, x6, ()), (()))) k p.1.1 p.1.2.1) (fun n p => go (fun x6 => some (.exit 0, KX p.1 p.2 x6)) (fun q0 q1 q2 q3 => some (.ret, RX p.1 p.2 (q0, q1, q2, q3))) k p.1.1 n p.1.2.1) (fun _ => rfl) (fun _ _ => rfl) (fun G p => round k p.1 p.2 G) n (d, e)
theorem ok (k : Nat) : LoopOK Tryd.prog 81 (subC (bodyOf Tryd.f14) [1, 0, 1, 0, 0]) (sum k) :=
  loop_sig hm (fE k) (loopsOK_of [] (by kernel_rfl) trivial) S cl hn kp H 0 (fun (d : ((List Int) × Int × Unit)) (e : Unit) => f k d.1 k d.2.1) KX RX cl hn kp rc rs ri k
    (fun d e => (it k k d e).trans (go_nat (exitOf 0 (KX d e) (RX d e)) (fun x6 => some (.inl x6)) (fun q0 q1 q2 q3 => some (.inr (q0, q1, q2, q3))) k d.1 k d.2.1).symm)
end l0
namespace l2
theorem round (k : Nat) (d : ((List Int) × Int × Unit)) (e : Unit) (G : St → Option (Ex × St)) : roundK Tryd.prog (E k) 81 2 (subC (bodyOf Tryd.f14) [1, 1, 1, 1, 0, 0, 0]) (recast cl hn kp) (finBy cl hn kp rc rs ri) G ⟨mkS S d, mkH H e⟩ =
    step (fun x7 => some (.exit 2, KX d e x7)) (fun x7 => G ⟨mkS S (d.1, x7, ()), mkH H (())⟩) k d.1 d.2.1 := by kernel_rfl
theorem it (k n : Nat) (d : ((List Int) × Int × Unit)) (e : Unit) : loopIt Tryd.prog (E k) 81 2 (subC (bodyOf Tryd.f14) [1, 1, 1, 1, 0, 0, 0]) (recast cl hn kp) (finBy cl hn kp rc rs ri) n ⟨mkS S d, mkH H e⟩ = go (fun x7 => some (.exit 2, KX d e x7)) k d.1 n d.2.1 :=
  loopIt_eq (D := ((List Int) × Int × Unit) × Unit) (fun p => ⟨mkS S p.1, mkH H p.2⟩) (fun F p => step (fun x7 => some (.exit 2, KX p.1 p.2 x7)) (fun x7 => F ((p.1.1, x7, ()), (()))) k p.1.1 p.1.2.1) (fun n p => go (fun x7 => some (.exit 2, KX p.1 p.2 x7)) k p.1.1 n p.1.2.1) (fun _ => rfl) (fun _ _ => rfl) (fun G p => round k p.1 p.2 G) n (d, e)
theorem ok (k : Nat) : LoopOK Tryd.prog 81 (subC (bodyOf Tryd.f14) [1, 1, 1, 1, 0, 0, 0]) (sum k) :=
  loop_sigX hm (fE k) (loopsOK_of [] (by kernel_rfl) trivial) S cl hn kp H 2 (fun (d : ((List Int) × Int × Unit)) (e : Unit) => f k d.1 k d.2.1) KX cl hn kp rc rs ri k
    (fun d e => (it k k d e).trans (go_nat (fun v => some (Ex.exit 2, KX d e v)) (fun x7 => some x7) k d.1 k d.2.1).symm)
end l2
theorem run (k : Nat) (d : ((List Int) × Unit)) (e : Unit) : runFn Tryd.prog (E k) 81 (bodyOf Tryd.f14) Tryd.f14.results.toList cl hn hi (mkL ps d) (mkH hs e) =
    tree (fun b0 b1 b2 b3 => leafFn hs fi e val wr (b0, b1, b2, b3)) k d.1 := by kernel_rfl
theorem run_f (k : Nat) (d : ((List Int) × Unit)) (e : Unit) : runFn Tryd.prog (E k) 81 (bodyOf Tryd.f14) Tryd.f14.results.toList cl hn hi (mkL ps d) (mkH hs e) = (f k d.1).bind (leafFn hs fi e val wr) :=
  (run k d e).trans (tree_nat (leafFn hs fi e val wr) (fun b0 b1 b2 b3 => some (b0, b1, b2, b3)) k d.1).symm
theorem fnIs : FnIs Tryd.prog 14 Tryd.f14 (bodyOf Tryd.f14) 81 := ⟨by kernel_rfl, by kernel_rfl, by kernel_rfl, by kernel_rfl⟩
theorem ok (k : Nat) : CalleeOK Tryd.prog 14 (callee k) :=
  callee_sig (T := ((List Int) × ((List Int) × (Int × Int)))) fnIs hm (fE k) (loopsOK_of [(0, subC (bodyOf Tryd.f14) [1, 0, 1, 0, 0]), (2, subC (bodyOf Tryd.f14) [1, 1, 1, 1, 0, 0, 0])] (by kernel_rfl) ⟨of_loop (l0.sum k) rfl (l0.ok k), ⟨of_loop (l2.sum k) rfl (l2.ok k), trivial⟩⟩) ps hs cl hn fi (fun (d : ((List Int) × Unit)) (e : Unit) => f k d.1) val wr rfl (fun _ => rfl) (run_f k)
end trailheadref07_Take
namespace trailheadlaw07_EnvelopeTakes
def tree {X : Type} (K : Bool → Option X) (k : Nat) (a0 : (List Int)) (m0 : (List Int)) (m1 : (List Int)) : Option X :=
  (Option.bind (trailheadlaw07_alive.f k m0 m1) (fun r1 => (bif (!r1) then (K false) else (bif (decide (((List.length a0) : Int) > (4096 : Int))) then (K true) else (Option.bind (envelope_Take.f k a0 m0 m1) (fun r2 => (Option.bind (trailheadref07_Take.f k a0) (fun r3 => (bif (eqDen (.pair .str .str) r2.1 ((r3.1, r3.2.1) : ((List Int) × (List Int)))) then (bif (r2.2.1 == r3.2.2.1) then (K (r2.2.2 == r3.2.2.2)) else (K false)) else (K false))))))))))
def f (k : Nat) (a0 : (List Int)) (m0 : (List Int)) (m1 : (List Int)) : Option Bool := tree (fun b0 => some b0) k a0 m0 m1
theorem tree_nat {X Y : Type} (h : X → Option Y) (K : Bool → Option X) (k : Nat) (a0 : (List Int)) (m0 : (List Int)) (m1 : (List Int)) : Option.bind (tree K k a0 m0 m1) h = tree (fun b0 => Option.bind (K b0) h) k a0 m0 m1 := by
  simp only [tree, bif_bind, sel_bind', Option.bind_assoc, Option.bind_none, Option.bind_some]
abbrev ps : List Sh := [.data .str]
abbrev hs : List (Nat × ESh) := [(0, .glob 1 (.arr .u32 8)), (1, .glob 2 (.arr .u32 64))]
abbrev hi : List Nat := hs.map (·.1)
abbrev fi : List Nat := [0, 1]
abbrev cl : List (Place × Nat × Hint) := []
abbrev hn : List Hint := [.any]
def val (t : Bool) : AV := Sh.mk (.data .bool) t
def wr (t : Bool) : Heap := []
def callee (k : Nat) : Callee := sigCallee ps hs (fun (d : ((List Int) × Unit)) (e : ((List Int) × (List Int) × Unit)) => f k d.1 e.1 e.2.1) val wr
def E (k : Nat) : Env := ⟨fnTab [(8, [trailheadlaw07_alive.callee k]), (12, [envelope_Take.callee k]), (14, [trailheadref07_Take.callee k])], loopTab [], natsTab [(8, [0, 1]), (12, [0, 1])], natTab [(1, 0), (2, 1)]⟩
theorem fE (k : Nat) : ∀ f, ∀ c ∈ (E k).fn f, CalleeOK Tryd.prog f c := fnTab_ok ⟨⟨trailheadlaw07_alive.ok k, trivial⟩, ⟨envelope_Take.ok k, trivial⟩, ⟨trailheadref07_Take.ok k, trivial⟩, trivial⟩
theorem run (k : Nat) (d : ((List Int) × Unit)) (e : ((List Int) × (List Int) × Unit)) : runFn Tryd.prog (E k) 43 (bodyOf Tryd.f4) Tryd.f4.results.toList cl hn hi (mkL ps d) (mkH hs e) =
    tree (fun b0 => leafFn hs fi e val wr b0) k d.1 e.1 e.2.1 := by kernel_rfl
theorem run_f (k : Nat) (d : ((List Int) × Unit)) (e : ((List Int) × (List Int) × Unit)) : runFn Tryd.prog (E k) 43 (bodyOf Tryd.f4) Tryd.f4.results.toList cl hn hi (mkL ps d) (mkH hs e) = (f k d.1 e.1 e.2.1).bind (leafFn hs fi e val wr) :=
  (run k d e).trans (tree_nat (leafFn hs fi e val wr) (fun b0 => some b0) k d.1 e.1 e.2.1).symm
theorem fnIs : FnIs Tryd.prog 4 Tryd.f4 (bodyOf Tryd.f4) 43 := ⟨by kernel_rfl, by kernel_rfl, by kernel_rfl, by kernel_rfl⟩
theorem ok (k : Nat) : CalleeOK Tryd.prog 4 (callee k) :=
  callee_sig (T := Bool) fnIs hm (fE k) (loopsOK_of [] (by kernel_rfl) trivial) ps hs cl hn fi (fun (d : ((List Int) × Unit)) (e : ((List Int) × (List Int) × Unit)) => f k d.1 e.1 e.2.1) val wr rfl (fun _ => rfl) (run_f k)
end trailheadlaw07_EnvelopeTakes
namespace trailheadlaw07_EnvelopeUnlike
def tree {X : Type} (K : Bool → Option X) (k : Nat) (a0 : ((List Int) × (List Int))) (a1 : ((List Int) × (List Int))) (m0 : (List Int)) (m1 : (List Int)) : Option X :=
  (Option.bind (trailheadlaw07_alive.f k m0 m1) (fun r1 => (bif (!r1) then (K false) else (bif (decide ((addI .i64 ((List.length a0.2) : Int) ((List.length a1.2) : Int)) > (4096 : Int))) then (K true) else (Option.bind (trailheadlaw07_good.f k a0) (fun r2 => (bif (!r2) then (K true) else (Option.bind (trailheadlaw07_good.f k a1) (fun r3 => (bif (!r3) then (K true) else (Option.bind (envelope_Bytes.f k a0 m0 m1) (fun r4 => (Option.bind (envelope_Bytes.f k a1 m0 m1) (fun r5 => (bif (eqDen (.pair .str .str) a0 a1) then (K (decide (r4.1 = r5.1))) else (bif (decide (((List.length r4.1) : Int) > ((List.length r5.1) : Int))) then (bif (decide (0 ≤ ((List.length r5.1) : Int))) then (bif (decide (((List.length r5.1) : Int) ≤ ((List.length r4.1) : Int))) then (bif (!(decide ((List.take (Int.toNat ((List.length r5.1) : Int)) r4.1) = r5.1))) then (K true) else (bif (decide (((List.length r4.1) : Int) ≤ ((List.length r5.1) : Int))) then (bif (decide (0 ≤ ((List.length r4.1) : Int))) then (bif (decide (((List.length r4.1) : Int) ≤ ((List.length r5.1) : Int))) then (K (!(decide ((List.take (Int.toNat ((List.length r4.1) : Int)) r5.1) = r4.1)))) else none) else none) else (K false))) else none) else none) else (bif (decide (((List.length r4.1) : Int) ≤ ((List.length r5.1) : Int))) then (bif (decide (0 ≤ ((List.length r4.1) : Int))) then (bif (decide (((List.length r4.1) : Int) ≤ ((List.length r5.1) : Int))) then (K (!(decide ((List.take (Int.toNat ((List.length r4.1) : Int)) r5.1) = r4.1)))) else none) else none) else (K false))))))))))))))))))
def f (k : Nat) (a0 : ((List Int) × (List Int))) (a1 : ((List Int) × (List Int))) (m0 : (List Int)) (m1 : (List Int)) : Option Bool := tree (fun b0 => some b0) k a0 a1 m0 m1
theorem tree_nat {X Y : Type} (h : X → Option Y) (K : Bool → Option X) (k : Nat) (a0 : ((List Int) × (List Int))) (a1 : ((List Int) × (List Int))) (m0 : (List Int)) (m1 : (List Int)) : Option.bind (tree K k a0 a1 m0 m1) h = tree (fun b0 => Option.bind (K b0) h) k a0 a1 m0 m1 := by
  simp only [tree, bif_bind, sel_bind', Option.bind_assoc, Option.bind_none, Option.bind_some]
abbrev ps : List Sh := [.data (.pair .str .str), .data (.pair .str .str)]
abbrev hs : List (Nat × ESh) := [(0, .glob 1 (.arr .u32 8)), (1, .glob 2 (.arr .u32 64))]
abbrev hi : List Nat := hs.map (·.1)
abbrev fi : List Nat := [0, 1]
abbrev cl : List (Place × Nat × Hint) := []
abbrev hn : List Hint := [.any]
def val (t : Bool) : AV := Sh.mk (.data .bool) t
def wr (t : Bool) : Heap := []
def callee (k : Nat) : Callee := sigCallee ps hs (fun (d : (((List Int) × (List Int)) × ((List Int) × (List Int)) × Unit)) (e : ((List Int) × (List Int) × Unit)) => f k d.1 d.2.1 e.1 e.2.1) val wr
def E (k : Nat) : Env := ⟨fnTab [(8, [trailheadlaw07_alive.callee k]), (11, [trailheadlaw07_good.callee k]), (9, [envelope_Bytes.callee k])], loopTab [], natsTab [(8, [0, 1]), (9, [0, 1])], natTab [(1, 0), (2, 1)]⟩
theorem fE (k : Nat) : ∀ f, ∀ c ∈ (E k).fn f, CalleeOK Tryd.prog f c := fnTab_ok ⟨⟨trailheadlaw07_alive.ok k, trivial⟩, ⟨trailheadlaw07_good.ok k, trivial⟩, ⟨envelope_Bytes.ok k, trivial⟩, trivial⟩
theorem run (k : Nat) (d : (((List Int) × (List Int)) × ((List Int) × (List Int)) × Unit)) (e : ((List Int) × (List Int) × Unit)) : runFn Tryd.prog (E k) 73 (bodyOf Tryd.f5) Tryd.f5.results.toList cl hn hi (mkL ps d) (mkH hs e) =
    tree (fun b0 => leafFn hs fi e val wr b0) k d.1 d.2.1 e.1 e.2.1 := by kernel_rfl
theorem run_f (k : Nat) (d : (((List Int) × (List Int)) × ((List Int) × (List Int)) × Unit)) (e : ((List Int) × (List Int) × Unit)) : runFn Tryd.prog (E k) 73 (bodyOf Tryd.f5) Tryd.f5.results.toList cl hn hi (mkL ps d) (mkH hs e) = (f k d.1 d.2.1 e.1 e.2.1).bind (leafFn hs fi e val wr) :=
  (run k d e).trans (tree_nat (leafFn hs fi e val wr) (fun b0 => some b0) k d.1 d.2.1 e.1 e.2.1).symm
theorem fnIs : FnIs Tryd.prog 5 Tryd.f5 (bodyOf Tryd.f5) 73 := ⟨by kernel_rfl, by kernel_rfl, by kernel_rfl, by kernel_rfl⟩
theorem ok (k : Nat) : CalleeOK Tryd.prog 5 (callee k) :=
  callee_sig (T := Bool) fnIs hm (fE k) (loopsOK_of [] (by kernel_rfl) trivial) ps hs cl hn fi (fun (d : (((List Int) × (List Int)) × ((List Int) × (List Int)) × Unit)) (e : ((List Int) × (List Int) × Unit)) => f k d.1 d.2.1 e.1 e.2.1) val wr rfl (fun _ => rfl) (run_f k)
end trailheadlaw07_EnvelopeUnlike
namespace envelope_All
namespace l0
def step {X : Type} (K : (List Int) → (List ((List Int) × (List Int))) → Option X) (Q : (List Int) → Int → (List ((List Int) × (List Int))) → Option X) (G : (List Int) → (List ((List Int) × (List Int))) → Option X) (k : Nat) (y0 : (List Int)) (y1 : (List Int)) (x0 : (List Int)) (y800002 : (List ((List Int) × (List Int)))) : Option X :=
  (bif (!(decide (x0 = ([] : (List Int))))) then (Option.bind (envelope_Take.f k x0 y0 y1) (fun r1 => (bif (r1.2.2 != (0 : Int)) then (Q x0 r1.2.2 y800002) else (bif (fits (((List.length y800002) + 1) * 32)) then (bif (decide (0 ≤ r1.2.1)) then (bif (decide (r1.2.1 ≤ ((List.length x0) : Int))) then (G (List.drop (Int.toNat r1.2.1) x0) (y800002 ++ ([r1.1] : (List ((List Int) × (List Int)))))) else none) else none) else none)))) else (K x0 y800002))
def go {X : Type} (K : (List Int) → (List ((List Int) × (List Int))) → Option X) (Q : (List Int) → Int → (List ((List Int) × (List Int))) → Option X) (k : Nat) (y0 : (List Int)) (y1 : (List Int)) : Nat → (List Int) → (List ((List Int) × (List Int))) → Option X
  | 0, _, _ => none
  | n + 1, x0, y800002 => step K Q (go K Q k y0 y1 n) k y0 y1 x0 y800002
def f (k : Nat) (y0 : (List Int)) (y1 : (List Int)) (n : Nat) (x0 : (List Int)) (y800002 : (List ((List Int) × (List Int)))) : Option (((List Int) × (List ((List Int) × (List Int)))) ⊕ ((List Int) × (Int × (List ((List Int) × (List Int)))))) := go (fun x0 y800002 => some (.inl (x0, y800002))) (fun q0 q1 q2 => some (.inr (q0, q1, q2))) k y0 y1 n x0 y800002
theorem step_nat {X Y : Type} (h : X → Option Y) (K : (List Int) → (List ((List Int) × (List Int))) → Option X) (Q : (List Int) → Int → (List ((List Int) × (List Int))) → Option X) (G : (List Int) → (List ((List Int) × (List Int))) → Option X) (k : Nat) (y0 : (List Int)) (y1 : (List Int)) (x0 : (List Int)) (y800002 : (List ((List Int) × (List Int)))) : Option.bind (step K Q G k y0 y1 x0 y800002) h = step (fun x0 y800002 => Option.bind (K x0 y800002) h) (fun q0 q1 q2 => Option.bind (Q q0 q1 q2) h) (fun x0 y800002 => Option.bind (G x0 y800002) h) k y0 y1 x0 y800002 := by
  simp only [step, bif_bind, sel_bind', Option.bind_assoc, Option.bind_none, Option.bind_some]
theorem go_nat {X Y : Type} (h : X → Option Y) (K : (List Int) → (List ((List Int) × (List Int))) → Option X) (Q : (List Int) → Int → (List ((List Int) × (List Int))) → Option X) (k : Nat) (y0 : (List Int)) (y1 : (List Int)) (n : Nat) : ∀ (x0 : (List Int)) (y800002 : (List ((List Int) × (List Int)))), Option.bind (go K Q k y0 y1 n x0 y800002) h = go (fun x0 y800002 => Option.bind (K x0 y800002) h) (fun q0 q1 q2 => Option.bind (Q q0 q1 q2) h) k y0 y1 n x0 y800002 := by
  induction n with
  | zero => intros; rfl
  | succ n ih => intro x0 y800002; show Option.bind (step K Q (go K Q k y0 y1 n) k y0 y1 x0 y800002) h = step (fun x0 y800002 => Option.bind (K x0 y800002) h) (fun q0 q1 q2 => Option.bind (Q q0 q1 q2) h) (go (fun x0 y800002 => Option.bind (K x0 y800002) h) (fun q0 q1 q2 => Option.bind (Q q0 q1 q2) h) k y0 y1 n) k y0 y1 x0 y800002; rw [step_nat h]; simp only [ih]
abbrev S : List (Nat × Sh) := [(0, .data .str), (5, .vec 800002)]
abbrev H : List (Nat × ESh) := [(0, .glob 1 (.arr .u32 8)), (1, .glob 2 (.arr .u32 64)), (800002, .rows 2 23 (.pair .str .str))]
abbrev cl : List (Place × Nat × Hint) := []
abbrev hn : List (Nat × Hint) := [(0, .any), (5, (.row 2 23 (.pair .str .str)))]
abbrev kp : List Nat := [0, 1]
abbrev rc : List (Place × Nat × Hint) := []
abbrev rs : List (Nat × Hint) := [(2, .any), (3, .any), (4, .any)]
abbrev ri : List Nat := [0, 1]
def KX (d : ((List Int) × Unit × Unit)) (e : ((List Int) × (List Int) × (List ((List Int) × (List Int))) × Unit)) (v : ((List Int) × (List ((List Int) × (List Int))))) : St := ⟨mkS S (v.1, (), ()), mkH H (e.1, e.2.1, v.2, ())⟩
abbrev RS : List (Nat × Sh) := [(2, .vec 800002), (3, .data .str), (4, .data (.int .i64))]
abbrev RH : List (Nat × ESh) := [(0, .glob 1 (.arr .u32 8)), (1, .glob 2 (.arr .u32 64)), (800002, .rows 2 23 (.pair .str .str))]
def RX (d : ((List Int) × Unit × Unit)) (e : ((List Int) × (List Int) × (List ((List Int) × (List Int))) × Unit)) (v : ((List Int) × (Int × (List ((List Int) × (List Int)))))) : St := ⟨mkS RS ((), v.1, v.2.1, ()), mkH RH (e.1, e.2.1, v.2.2, ())⟩
def sum (k : Nat) : LoopSum := sigLoop S cl hn kp H 0 (fun (d : ((List Int) × Unit × Unit)) (e : ((List Int) × (List Int) × (List ((List Int) × (List Int))) × Unit)) => f k e.1 e.2.1 k d.1 e.2.2.1) KX RX
end l0
def tree {X : Type} (K : (List Int) → Int → (List ((List Int) × (List Int))) → Option X) (k : Nat) (a0 : (List Int)) (m0 : (List Int)) (m1 : (List Int)) : Option X :=
  (Option.bind (envelope_All.l0.f k m0 m1 k a0 ([] : (List ((List Int) × (List Int))))) (fun r2 => sel r2 (fun v3 => (K v3.1 (0 : Int) v3.2)) (fun q4 => (K q4.1 q4.2.1 q4.2.2))))
def f (k : Nat) (a0 : (List Int)) (m0 : (List Int)) (m1 : (List Int)) : Option ((List Int) × (Int × (List ((List Int) × (List Int))))) := tree (fun b0 b1 b2 => some (b0, b1, b2)) k a0 m0 m1
theorem tree_nat {X Y : Type} (h : X → Option Y) (K : (List Int) → Int → (List ((List Int) × (List Int))) → Option X) (k : Nat) (a0 : (List Int)) (m0 : (List Int)) (m1 : (List Int)) : Option.bind (tree K k a0 m0 m1) h = tree (fun b0 b1 b2 => Option.bind (K b0 b1 b2) h) k a0 m0 m1 := by
  simp only [tree, bif_bind, sel_bind', Option.bind_assoc, Option.bind_none, Option.bind_some]
abbrev ps : List Sh := [.data .str]
abbrev hs : List (Nat × ESh) := [(0, .glob 1 (.arr .u32 8)), (1, .glob 2 (.arr .u32 64))]
abbrev hi : List Nat := hs.map (·.1)
abbrev fi : List Nat := [0, 1, 900002]
abbrev cl : List (Place × Nat × Hint) := []
abbrev hn : List Hint := [.any, .any, .any]
def val (t : ((List Int) × (Int × (List ((List Int) × (List Int)))))) : AV := .tcons (Sh.mk (.vec 900002) ()) (.tcons (Sh.mk (.data .str) t.1) (.tcons (Sh.mk (.data (.int .i64)) t.2.1) .tnil))
def wr (t : ((List Int) × (Int × (List ((List Int) × (List Int)))))) : Heap := [(900002, ESh.mk (.rows 2 23 (.pair .str .str)) t.2.2)]
def callee (k : Nat) : Callee := sigCallee ps hs (fun (d : ((List Int) × Unit)) (e : ((List Int) × (List Int) × Unit)) => f k d.1 e.1 e.2.1) val wr
def E (k : Nat) : Env := ⟨fnTab [(12, [envelope_Take.callee k])], loopTab [(0, l0.sum k)], natsTab [(12, [0, 1])], natTab [(1, 0), (2, 1)]⟩
theorem fE (k : Nat) : ∀ f, ∀ c ∈ (E k).fn f, CalleeOK Tryd.prog f c := fnTab_ok ⟨⟨envelope_Take.ok k, trivial⟩, trivial⟩
namespace l0
theorem round (k : Nat) (d : ((List Int) × Unit × Unit)) (e : ((List Int) × (List Int) × (List ((List Int) × (List Int))) × Unit)) (G : St → Option (Ex × St)) : roundK Tryd.prog (E k) 31 0 (subC (bodyOf Tryd.f15) [1, 1, 0, 0, 0]) (recast cl hn kp) (finBy cl hn kp rc rs ri) G ⟨mkS S d, mkH H e⟩ =
    step (fun x0 y800002 => some (.exit 0, KX d e (x0, y800002))) (fun q0 q1 q2 => some (.ret, RX d e (q0, q1, q2))) (fun x0 y800002 => G ⟨mkS S (x0, (), ()), mkH H (e.1, e.2.1, y800002, ())⟩) k e.1 e.2.1 d.1 e.2.2.1 := by kernel_rfl
theorem it (k n : Nat) (d : ((List Int) × Unit × Unit)) (e : ((List Int) × (List Int) × (List ((List Int) × (List Int))) × Unit)) : loopIt Tryd.prog (E k) 31 0 (subC (bodyOf Tryd.f15) [1, 1, 0, 0, 0]) (recast cl hn kp) (finBy cl hn kp rc rs ri) n ⟨mkS S d, mkH H e⟩ = go (fun x0 y800002 => some (.exit 0, KX d e (x0, y800002))) (fun q0 q1 q2 => some (.ret, RX d e (q0, q1, q2))) k e.1 e.2.1 n d.1 e.2.2.1 :=
  loopIt_eq (D := ((List Int) × Unit × Unit) × ((List Int) × (List Int) × (List ((List Int) × (List Int))) × Unit)) (fun p => ⟨mkS S p.1, mkH H p.2⟩) (fun F p => step (fun x0 y800002 => some (.exit 0, KX p.1 p.2 (x0, y800002))) (fun q0 q1 q2 => some (.ret, RX p.1 p.2 (q0, q1, q2))) (fun x0 y800002 => F ((x0, (), ()), (p.2.1, p.2.2.1, y800002, ()))) k p.2.1 p.2.2.1 p.1.1 p.2.2.2.1) (fun n p => go (fun x0 y800002 => some (.exit 0, KX p.1 p.2 (x0, y800002))) (fun q0 q1 q2 => some (.ret, RX p.1 p.2 (q0, q1, q2))) k p.2.1 p.2.2.1 n p.1.1 p.2.2.2.1) (fun _ => rfl) (fun _ _ => rfl) (fun G p => round k p.1 p.2 G) n (d, e)
theorem ok (k : Nat) : LoopOK Tryd.prog 31 (subC (bodyOf Tryd.f15) [1, 1, 0, 0, 0]) (sum k) :=
  loop_sig hm (fE k) (loopsOK_of [] (by kernel_rfl) trivial) S cl hn kp H 0 (fun (d : ((List Int) × Unit × Unit)) (e : ((List Int) × (List Int) × (List ((List Int) × (List Int))) × Unit)) => f k e.1 e.2.1 k d.1 e.2.2.1) KX RX cl hn kp rc rs ri k
    (fun d e => (it k k d e).trans (go_nat (exitOf 0 (KX d e) (RX d e)) (fun x0 y800002 => some (.inl (x0, y800002))) (fun q0 q1 q2 => some (.inr (q0, q1, q2))) k e.1 e.2.1 k d.1 e.2.2.1).symm)
end l0
theorem run (k : Nat) (d : ((List Int) × Unit)) (e : ((List Int) × (List Int) × Unit)) : runFn Tryd.prog (E k) 31 (bodyOf Tryd.f15) Tryd.f15.results.toList cl hn hi (mkL ps d) (mkH hs e) =
    tree (fun b0 b1 b2 => leafFn hs fi e val wr (b0, b1, b2)) k d.1 e.1 e.2.1 := by kernel_rfl
theorem run_f (k : Nat) (d : ((List Int) × Unit)) (e : ((List Int) × (List Int) × Unit)) : runFn Tryd.prog (E k) 31 (bodyOf Tryd.f15) Tryd.f15.results.toList cl hn hi (mkL ps d) (mkH hs e) = (f k d.1 e.1 e.2.1).bind (leafFn hs fi e val wr) :=
  (run k d e).trans (tree_nat (leafFn hs fi e val wr) (fun b0 b1 b2 => some (b0, b1, b2)) k d.1 e.1 e.2.1).symm
theorem fnIs : FnIs Tryd.prog 15 Tryd.f15 (bodyOf Tryd.f15) 31 := ⟨by kernel_rfl, by kernel_rfl, by kernel_rfl, by kernel_rfl⟩
theorem ok (k : Nat) : CalleeOK Tryd.prog 15 (callee k) :=
  callee_sig (T := ((List Int) × (Int × (List ((List Int) × (List Int)))))) fnIs hm (fE k) (loopsOK_of [(0, subC (bodyOf Tryd.f15) [1, 1, 0, 0, 0])] (by kernel_rfl) ⟨of_loop (l0.sum k) rfl (l0.ok k), trivial⟩) ps hs cl hn fi (fun (d : ((List Int) × Unit)) (e : ((List Int) × (List Int) × Unit)) => f k d.1 e.1 e.2.1) val wr rfl (fun _ => rfl) (run_f k)
end envelope_All
namespace trailheadlaw07_EnvelopeAll
namespace l0
def step {X : Type} (K : (List Int) → Int → Option X) (Q : Bool → Option X) (G : (List Int) → Int → Option X) (k : Nat) (x4 : (List Int)) (x5 : Int) (x28 : Int) (y0 : (List Int)) (y1 : (List Int)) (y800002 : (List ((List Int) × (List Int)))) (x0 : (List Int)) (x29 : Int) : Option X :=
  (bif (decide (x29 < x28)) then (bif (decide (0 ≤ x29)) then (bif (decide (x29 < ((List.length y800002) : Int))) then (bif (decide ((Int.toNat x29) < (List.length y800002))) then (Option.bind (trailheadref07_Take.f k x0) (fun r3 => (bif (r3.2.2.2 != (0 : Int)) then (Q false) else (bif (!(decide (r3.1 = ((List.getD y800002 (Int.toNat x29) dfl_88e6f2)).1))) then (Q false) else (bif (!(decide (r3.2.1 = ((List.getD y800002 (Int.toNat x29) dfl_88e6f2)).2))) then (Q false) else (bif (decide (0 ≤ r3.2.2.1)) then (bif (decide (r3.2.2.1 ≤ ((List.length x0) : Int))) then (G (List.drop (Int.toNat r3.2.2.1) x0) (addI .i64 x29 1)) else none) else none)))))) else none) else none) else none) else (K x0 x29))
def go {X : Type} (K : (List Int) → Int → Option X) (Q : Bool → Option X) (k : Nat) (x4 : (List Int)) (x5 : Int) (x28 : Int) (y0 : (List Int)) (y1 : (List Int)) (y800002 : (List ((List Int) × (List Int)))) : Nat → (List Int) → Int → Option X
  | 0, _, _ => none
  | n + 1, x0, x29 => step K Q (go K Q k x4 x5 x28 y0 y1 y800002 n) k x4 x5 x28 y0 y1 y800002 x0 x29
def f (k : Nat) (x4 : (List Int)) (x5 : Int) (x28 : Int) (y0 : (List Int)) (y1 : (List Int)) (y800002 : (List ((List Int) × (List Int)))) (n : Nat) (x0 : (List Int)) (x29 : Int) : Option (((List Int) × Int) ⊕ Bool) := go (fun x0 x29 => some (.inl (x0, x29))) (fun q0 => some (.inr q0)) k x4 x5 x28 y0 y1 y800002 n x0 x29
theorem step_nat {X Y : Type} (h : X → Option Y) (K : (List Int) → Int → Option X) (Q : Bool → Option X) (G : (List Int) → Int → Option X) (k : Nat) (x4 : (List Int)) (x5 : Int) (x28 : Int) (y0 : (List Int)) (y1 : (List Int)) (y800002 : (List ((List Int) × (List Int)))) (x0 : (List Int)) (x29 : Int) : Option.bind (step K Q G k x4 x5 x28 y0 y1 y800002 x0 x29) h = step (fun x0 x29 => Option.bind (K x0 x29) h) (fun q0 => Option.bind (Q q0) h) (fun x0 x29 => Option.bind (G x0 x29) h) k x4 x5 x28 y0 y1 y800002 x0 x29 := by
  simp only [step, bif_bind, sel_bind', Option.bind_assoc, Option.bind_none, Option.bind_some]
theorem go_nat {X Y : Type} (h : X → Option Y) (K : (List Int) → Int → Option X) (Q : Bool → Option X) (k : Nat) (x4 : (List Int)) (x5 : Int) (x28 : Int) (y0 : (List Int)) (y1 : (List Int)) (y800002 : (List ((List Int) × (List Int)))) (n : Nat) : ∀ (x0 : (List Int)) (x29 : Int), Option.bind (go K Q k x4 x5 x28 y0 y1 y800002 n x0 x29) h = go (fun x0 x29 => Option.bind (K x0 x29) h) (fun q0 => Option.bind (Q q0) h) k x4 x5 x28 y0 y1 y800002 n x0 x29 := by
  induction n with
  | zero => intros; rfl
  | succ n ih => intro x0 x29; show Option.bind (step K Q (go K Q k x4 x5 x28 y0 y1 y800002 n) k x4 x5 x28 y0 y1 y800002 x0 x29) h = step (fun x0 x29 => Option.bind (K x0 x29) h) (fun q0 => Option.bind (Q q0) h) (go (fun x0 x29 => Option.bind (K x0 x29) h) (fun q0 => Option.bind (Q q0) h) k x4 x5 x28 y0 y1 y800002 n) k x4 x5 x28 y0 y1 y800002 x0 x29; rw [step_nat h]; simp only [ih]
abbrev S : List (Nat × Sh) := [(0, .data .str), (4, .data .str), (5, .data (.int .i64)), (27, .vec 800002), (28, .data (.int .i64)), (29, .data (.int .i64))]
abbrev H : List (Nat × ESh) := [(0, .glob 1 (.arr .u32 8)), (1, .glob 2 (.arr .u32 64)), (800002, .rows 2 23 (.pair .str .str))]
abbrev cl : List (Place × Nat × Hint) := []
abbrev hn : List (Nat × Hint) := [(0, .any), (4, .any), (5, .any), (27, .any), (28, .any), (29, .any)]
abbrev kp : List Nat := [0, 1]
abbrev rc : List (Place × Nat × Hint) := []
abbrev rs : List (Nat × Hint) := [(2, .any)]
abbrev ri : List Nat := [0, 1]
def KX (d : ((List Int) × (List Int) × Int × Unit × Int × Int × Unit)) (e : ((List Int) × (List Int) × (List ((List Int) × (List Int))) × Unit)) (v : ((List Int) × Int)) : St := ⟨mkS S (v.1, d.2.1, d.2.2.1, (), d.2.2.2.2.1, v.2, ()), mkH H (e.1, e.2.1, e.2.2.1, ())⟩
abbrev RS : List (Nat × Sh) := [(2, .data .bool)]
abbrev RH : List (Nat × ESh) := [(0, .glob 1 (.arr .u32 8)), (1, .glob 2 (.arr .u32 64))]
def RX (d : ((List Int) × (List Int) × Int × Unit × Int × Int × Unit)) (e : ((List Int) × (List Int) × (List ((List Int) × (List Int))) × Unit)) (v : Bool) : St := ⟨mkS RS (v, ()), mkH RH (e.1, e.2.1, ())⟩
def sum (k : Nat) : LoopSum := sigLoop S cl hn kp H 0 (fun (d : ((List Int) × (List Int) × Int × Unit × Int × Int × Unit)) (e : ((List Int) × (List Int) × (List ((List Int) × (List Int))) × Unit)) => f k d.2.1 d.2.2.1 d.2.2.2.2.1 e.1 e.2.1 e.2.2.1 k d.1 d.2.2.2.2.2.1) KX RX
end l0
def tree {X : Type} (K : Bool → Option X) (k : Nat) (a0 : (List Int)) (m0 : (List Int)) (m1 : (List Int)) : Option X :=
  (Option.bind (trailheadlaw07_alive.f k m0 m1) (fun r1 => (bif (!r1) then (K false) else (bif (decide (((List.length a0) : Int) > (4096 : Int))) then (K true) else (Option.bind (envelope_All.f k a0 m0 m1) (fun r2 => (Option.bind (trailheadlaw07_EnvelopeAll.l0.f k r2.1 r2.2.1 ((List.length r2.2.2) : Int) m0 m1 r2.2.2 k a0 (0 : Int)) (fun r4 => sel r4 (fun v5 => (Option.bind (trailheadref07_Take.f k v5.1) (fun r7 => (bif (decide (r2.1 = v5.1)) then (bif (decide (v5.1 = ([] : (List Int)))) then (bif (r2.2.1 == (0 : Int)) then (K true) else (bif (!(decide (v5.1 = ([] : (List Int))))) then (bif (r7.2.2.2 != (0 : Int)) then (K (r2.2.1 == r7.2.2.2)) else (K false)) else (K false))) else (bif (!(decide (v5.1 = ([] : (List Int))))) then (bif (r7.2.2.2 != (0 : Int)) then (K (r2.2.1 == r7.2.2.2)) else (K false)) else (K false))) else (K false))))) (fun q6 => (K q6))))))))))
def f (k : Nat) (a0 : (List Int)) (m0 : (List Int)) (m1 : (List Int)) : Option Bool := tree (fun b0 => some b0) k a0 m0 m1
theorem tree_nat {X Y : Type} (h : X → Option Y) (K : Bool → Option X) (k : Nat) (a0 : (List Int)) (m0 : (List Int)) (m1 : (List Int)) : Option.bind (tree K k a0 m0 m1) h = tree (fun b0 => Option.bind (K b0) h) k a0 m0 m1 := by
  simp only [tree, bif_bind, sel_bind', Option.bind_assoc, Option.bind_none, Option.bind_some]
abbrev ps : List Sh := [.data .str]
abbrev hs : List (Nat × ESh) := [(0, .glob 1 (.arr .u32 8)), (1, .glob 2 (.arr .u32 64))]
abbrev hi : List Nat := hs.map (·.1)
abbrev fi : List Nat := [0, 1]
abbrev cl : List (Place × Nat × Hint) := []
abbrev hn : List Hint := [.any]
def val (t : Bool) : AV := Sh.mk (.data .bool) t
def wr (t : Bool) : Heap := []
def callee (k : Nat) : Callee := sigCallee ps hs (fun (d : ((List Int) × Unit)) (e : ((List Int) × (List Int) × Unit)) => f k d.1 e.1 e.2.1) val wr
def E (k : Nat) : Env := ⟨fnTab [(8, [trailheadlaw07_alive.callee k]), (15, [envelope_All.callee k]), (14, [trailheadref07_Take.callee k])], loopTab [(0, l0.sum k)], natsTab [(8, [0, 1]), (15, [0, 1])], natTab [(1, 0), (2, 1)]⟩
theorem fE (k : Nat) : ∀ f, ∀ c ∈ (E k).fn f, CalleeOK Tryd.prog f c := fnTab_ok ⟨⟨trailheadlaw07_alive.ok k, trivial⟩, ⟨envelope_All.ok k, trivial⟩, ⟨trailheadref07_Take.ok k, trivial⟩, trivial⟩
namespace l0
theorem round (k : Nat) (d : ((List Int) × (List Int) × Int × Unit × Int × Int × Unit)) (e : ((List Int) × (List Int) × (List ((List Int) × (List Int))) × Unit)) (G : St → Option (Ex × St)) : roundK Tryd.prog (E k) 89 0 (subC (bodyOf Tryd.f6) [1, 1, 1, 1, 0, 1, 0, 0]) (recast cl hn kp) (finBy cl hn kp rc rs ri) G ⟨mkS S d, mkH H e⟩ =
    step (fun x0 x29 => some (.exit 0, KX d e (x0, x29))) (fun q0 => some (.ret, RX d e q0)) (fun x0 x29 => G ⟨mkS S (x0, d.2.1, d.2.2.1, (), d.2.2.2.2.1, x29, ()), mkH H (e.1, e.2.1, e.2.2.1, ())⟩) k d.2.1 d.2.2.1 d.2.2.2.2.1 e.1 e.2.1 e.2.2.1 d.1 d.2.2.2.2.2.1 := by kernel_rfl
theorem it (k n : Nat) (d : ((List Int) × (List Int) × Int × Unit × Int × Int × Unit)) (e : ((List Int) × (List Int) × (List ((List Int) × (List Int))) × Unit)) : loopIt Tryd.prog (E k) 89 0 (subC (bodyOf Tryd.f6) [1, 1, 1, 1, 0, 1, 0, 0]) (recast cl hn kp) (finBy cl hn kp rc rs ri) n ⟨mkS S d, mkH H e⟩ = go (fun x0 x29 => some (.exit 0, KX d e (x0, x29))) (fun q0 => some (.ret, RX d e q0)) k d.2.1 d.2.2.1 d.2.2.2.2.1 e.1 e.2.1 e.2.2.1 n d.1 d.2.2.2.2.2.1 :=
  loopIt_eq (D := ((List Int) × (List Int) × Int × Unit × Int × Int × Unit) × ((List Int) × (List Int) × (List ((List Int) × (List Int))) × Unit)) (fun p => ⟨mkS S p.1, mkH H p.2⟩) (fun F p => step (fun x0 x29 => some (.exit 0, KX p.1 p.2 (x0, x29))) (fun q0 => some (.ret, RX p.1 p.2 q0)) (fun x0 x29 => F ((x0, p.1.2.1, p.1.2.2.1, (), p.1.2.2.2.2.1, x29, ()), (p.2.1, p.2.2.1, p.2.2.2.1, ()))) k p.1.2.1 p.1.2.2.1 p.1.2.2.2.2.1 p.2.1 p.2.2.1 p.2.2.2.1 p.1.1 p.1.2.2.2.2.2.1) (fun n p => go (fun x0 x29 => some (.exit 0, KX p.1 p.2 (x0, x29))) (fun q0 => some (.ret, RX p.1 p.2 q0)) k p.1.2.1 p.1.2.2.1 p.1.2.2.2.2.1 p.2.1 p.2.2.1 p.2.2.2.1 n p.1.1 p.1.2.2.2.2.2.1) (fun _ => rfl) (fun _ _ => rfl) (fun G p => round k p.1 p.2 G) n (d, e)
theorem ok (k : Nat) : LoopOK Tryd.prog 89 (subC (bodyOf Tryd.f6) [1, 1, 1, 1, 0, 1, 0, 0]) (sum k) :=
  loop_sig hm (fE k) (loopsOK_of [] (by kernel_rfl) trivial) S cl hn kp H 0 (fun (d : ((List Int) × (List Int) × Int × Unit × Int × Int × Unit)) (e : ((List Int) × (List Int) × (List ((List Int) × (List Int))) × Unit)) => f k d.2.1 d.2.2.1 d.2.2.2.2.1 e.1 e.2.1 e.2.2.1 k d.1 d.2.2.2.2.2.1) KX RX cl hn kp rc rs ri k
    (fun d e => (it k k d e).trans (go_nat (exitOf 0 (KX d e) (RX d e)) (fun x0 x29 => some (.inl (x0, x29))) (fun q0 => some (.inr q0)) k d.2.1 d.2.2.1 d.2.2.2.2.1 e.1 e.2.1 e.2.2.1 k d.1 d.2.2.2.2.2.1).symm)
end l0
theorem run (k : Nat) (d : ((List Int) × Unit)) (e : ((List Int) × (List Int) × Unit)) : runFn Tryd.prog (E k) 89 (bodyOf Tryd.f6) Tryd.f6.results.toList cl hn hi (mkL ps d) (mkH hs e) =
    tree (fun b0 => leafFn hs fi e val wr b0) k d.1 e.1 e.2.1 := by kernel_rfl
theorem run_f (k : Nat) (d : ((List Int) × Unit)) (e : ((List Int) × (List Int) × Unit)) : runFn Tryd.prog (E k) 89 (bodyOf Tryd.f6) Tryd.f6.results.toList cl hn hi (mkL ps d) (mkH hs e) = (f k d.1 e.1 e.2.1).bind (leafFn hs fi e val wr) :=
  (run k d e).trans (tree_nat (leafFn hs fi e val wr) (fun b0 => some b0) k d.1 e.1 e.2.1).symm
theorem fnIs : FnIs Tryd.prog 6 Tryd.f6 (bodyOf Tryd.f6) 89 := ⟨by kernel_rfl, by kernel_rfl, by kernel_rfl, by kernel_rfl⟩
theorem ok (k : Nat) : CalleeOK Tryd.prog 6 (callee k) :=
  callee_sig (T := Bool) fnIs hm (fE k) (loopsOK_of [(0, subC (bodyOf Tryd.f6) [1, 1, 1, 1, 0, 1, 0, 0])] (by kernel_rfl) ⟨of_loop (l0.sum k) rfl (l0.ok k), trivial⟩) ps hs cl hn fi (fun (d : ((List Int) × Unit)) (e : ((List Int) × (List Int) × Unit)) => f k d.1 e.1 e.2.1) val wr rfl (fun _ => rfl) (run_f k)
end trailheadlaw07_EnvelopeAll
namespace trailheadlaw07_EnvelopeCuts
namespace l0
def step {X : Type} (K : Int → Option X) (Q : Bool → Option X) (G : Int → Option X) (k : Nat) (x81 : Int) (y0 : (List Int)) (y1 : (List Int)) (y800002 : (List ((List Int) × (List Int)))) (y800003 : (List ((List Int) × (List Int)))) (x82 : Int) : Option X :=
  (bif (decide (x82 < x81)) then (bif (decide (0 ≤ x82)) then (bif (decide (x82 < ((List.length y800003) : Int))) then (bif (decide ((Int.toNat x82) < (List.length y800003))) then (bif (decide (0 ≤ x82)) then (bif (decide (x82 < ((List.length y800002) : Int))) then (bif (decide ((Int.toNat x82) < (List.length y800002))) then (bif (!(eqDen (.pair .str .str) ((List.getD y800003 (Int.toNat x82) dfl_88e6f2)) ((List.getD y800002 (Int.toNat x82) dfl_88e6f2)))) then (Q false) else (G (addI .i64 x82 1))) else none) else none) else none) else none) else none) else none) else (K x82))
def go {X : Type} (K : Int → Option X) (Q : Bool → Option X) (k : Nat) (x81 : Int) (y0 : (List Int)) (y1 : (List Int)) (y800002 : (List ((List Int) × (List Int)))) (y800003 : (List ((List Int) × (List Int)))) : Nat → Int → Option X
  | 0, _ => none
  | n + 1, x82 => step K Q (go K Q k x81 y0 y1 y800002 y800003 n) k x81 y0 y1 y800002 y800003 x82
def f (k : Nat) (x81 : Int) (y0 : (List Int)) (y1 : (List Int)) (y800002 : (List ((List Int) × (List Int)))) (y800003 : (List ((List Int) × (List Int)))) (n : Nat) (x82 : Int) : Option (Int ⊕ Bool) := go (fun x82 => some (.inl x82)) (fun q0 => some (.inr q0)) k x81 y0 y1 y800002 y800003 n x82
theorem step_nat {X Y : Type} (h : X → Option Y) (K : Int → Option X) (Q : Bool → Option X) (G : Int → Option X) (k : Nat) (x81 : Int) (y0 : (List Int)) (y1 : (List Int)) (y800002 : (List ((List Int) × (List Int)))) (y800003 : (List ((List Int) × (List Int)))) (x82 : Int) : Option.bind (step K Q G k x81 y0 y1 y800002 y800003 x82) h = step (fun x82 => Option.bind (K x82) h) (fun q0 => Option.bind (Q q0) h) (fun x82 => Option.bind (G x82) h) k x81 y0 y1 y800002 y800003 x82 := by
  simp only [step, bif_bind, sel_bind', Option.bind_assoc, Option.bind_none, Option.bind_some]
theorem go_nat {X Y : Type} (h : X → Option Y) (K : Int → Option X) (Q : Bool → Option X) (k : Nat) (x81 : Int) (y0 : (List Int)) (y1 : (List Int)) (y800002 : (List ((List Int) × (List Int)))) (y800003 : (List ((List Int) × (List Int)))) (n : Nat) : ∀ (x82 : Int), Option.bind (go K Q k x81 y0 y1 y800002 y800003 n x82) h = go (fun x82 => Option.bind (K x82) h) (fun q0 => Option.bind (Q q0) h) k x81 y0 y1 y800002 y800003 n x82 := by
  induction n with
  | zero => intros; rfl
  | succ n ih => intro x82; show Option.bind (step K Q (go K Q k x81 y0 y1 y800002 y800003 n) k x81 y0 y1 y800002 y800003 x82) h = step (fun x82 => Option.bind (K x82) h) (fun q0 => Option.bind (Q q0) h) (go (fun x82 => Option.bind (K x82) h) (fun q0 => Option.bind (Q q0) h) k x81 y0 y1 y800002 y800003 n) k x81 y0 y1 y800002 y800003 x82; rw [step_nat h]; simp only [ih]
abbrev S : List (Nat × Sh) := [(5, .vec 800002), (8, .vec 800003), (81, .data (.int .i64)), (82, .data (.int .i64))]
abbrev H : List (Nat × ESh) := [(0, .glob 1 (.arr .u32 8)), (1, .glob 2 (.arr .u32 64)), (800002, .rows 2 23 (.pair .str .str)), (800003, .rows 2 23 (.pair .str .str))]
abbrev cl : List (Place × Nat × Hint) := []
abbrev hn : List (Nat × Hint) := [(5, .any), (8, .any), (81, .any), (82, .any)]
abbrev kp : List Nat := [0, 1]
abbrev rc : List (Place × Nat × Hint) := []
abbrev rs : List (Nat × Hint) := [(4, .any)]
abbrev ri : List Nat := [0, 1]
def KX (d : (Unit × Unit × Int × Int × Unit)) (e : ((List Int) × (List Int) × (List ((List Int) × (List Int))) × (List ((List Int) × (List Int))) × Unit)) (v : Int) : St := ⟨mkS S ((), (), d.2.2.1, v, ()), mkH H (e.1, e.2.1, e.2.2.1, e.2.2.2.1, ())⟩
abbrev RS : List (Nat × Sh) := [(4, .data .bool)]
abbrev RH : List (Nat × ESh) := [(0, .glob 1 (.arr .u32 8)), (1, .glob 2 (.arr .u32 64))]
def RX (d : (Unit × Unit × Int × Int × Unit)) (e : ((List Int) × (List Int) × (List ((List Int) × (List Int))) × (List ((List Int) × (List Int))) × Unit)) (v : Bool) : St := ⟨mkS RS (v, ()), mkH RH (e.1, e.2.1, ())⟩
def sum (k : Nat) : LoopSum := sigLoop S cl hn kp H 0 (fun (d : (Unit × Unit × Int × Int × Unit)) (e : ((List Int) × (List Int) × (List ((List Int) × (List Int))) × (List ((List Int) × (List Int))) × Unit)) => f k d.2.2.1 e.1 e.2.1 e.2.2.1 e.2.2.2.1 k d.2.2.2.1) KX RX
end l0
def tree {X : Type} (K : Bool → Option X) (k : Nat) (a0 : (List Int)) (a1 : Int) (m0 : (List Int)) (m1 : (List Int)) : Option X :=
  (Option.bind (trailheadlaw07_alive.f k m0 m1) (fun r1 => (bif (!r1) then (K false) else (bif (decide (((List.length a0) : Int) > (4096 : Int))) then (K true) else (bif (decide (a1 < (0 : Int))) then (K true) else (bif (decide (a1 > ((List.length a0) : Int))) then (K true) else (Option.bind (envelope_All.f k a0 m0 m1) (fun r2 => (bif (decide (0 ≤ a1)) then (bif (decide (a1 ≤ ((List.length a0) : Int))) then (Option.bind (envelope_All.f k (List.take (Int.toNat a1) a0) m0 m1) (fun r3 => (bif (decide (0 ≤ a1)) then (bif (decide (a1 ≤ ((List.length a0) : Int))) then (bif (fits ((List.length r3.1) + (List.length (List.drop (Int.toNat a1) a0)))) then (Option.bind (envelope_All.f k (r3.1 ++ (List.drop (Int.toNat a1) a0)) m0 m1) (fun r4 => (bif (r3.2.1 == (4 : Int)) then (bif (decide (0 ≤ a1)) then (bif (decide (a1 ≤ ((List.length a0) : Int))) then (bif (fits ((List.length r3.1) + (List.length (List.drop (Int.toNat a1) a0)))) then (bif (fits (((List.length r3.2.2) + 0) * 32)) then (bif (((List.length (r3.2.2 ++ ([] : (List ((List Int) × (List Int)))))) : Int) != ((List.length r2.2.2) : Int)) then (K false) else (bif (!(decide ((r3.1 ++ (List.drop (Int.toNat a1) a0)) = r2.1))) then (K false) else (bif (r3.2.1 != r2.2.1) then (K false) else (Option.bind (trailheadlaw07_EnvelopeCuts.l0.f k ((List.length (r3.2.2 ++ ([] : (List ((List Int) × (List Int)))))) : Int) m0 m1 r2.2.2 (r3.2.2 ++ ([] : (List ((List Int) × (List Int))))) k (0 : Int)) (fun r5 => sel r5 (fun v6 => (K true)) (fun q7 => (K q7))))))) else none) else none) else none) else none) else (bif (fits (((List.length r3.2.2) + (List.length r4.2.2)) * 32)) then (bif (((List.length (r3.2.2 ++ r4.2.2)) : Int) != ((List.length r2.2.2) : Int)) then (K false) else (bif (!(decide (r4.1 = r2.1))) then (K false) else (bif (r4.2.1 != r2.2.1) then (K false) else (Option.bind (trailheadlaw07_EnvelopeCuts.l0.f k ((List.length (r3.2.2 ++ r4.2.2)) : Int) m0 m1 r2.2.2 (r3.2.2 ++ r4.2.2) k (0 : Int)) (fun r8 => sel r8 (fun v9 => (K true)) (fun q10 => (K q10))))))) else none)))) else none) else none) else none))) else none) else none)))))))))
def f (k : Nat) (a0 : (List Int)) (a1 : Int) (m0 : (List Int)) (m1 : (List Int)) : Option Bool := tree (fun b0 => some b0) k a0 a1 m0 m1
theorem tree_nat {X Y : Type} (h : X → Option Y) (K : Bool → Option X) (k : Nat) (a0 : (List Int)) (a1 : Int) (m0 : (List Int)) (m1 : (List Int)) : Option.bind (tree K k a0 a1 m0 m1) h = tree (fun b0 => Option.bind (K b0) h) k a0 a1 m0 m1 := by
  simp only [tree, bif_bind, sel_bind', Option.bind_assoc, Option.bind_none, Option.bind_some]
abbrev ps : List Sh := [.data .str, .data (.int .i64)]
abbrev hs : List (Nat × ESh) := [(0, .glob 1 (.arr .u32 8)), (1, .glob 2 (.arr .u32 64))]
abbrev hi : List Nat := hs.map (·.1)
abbrev fi : List Nat := [0, 1]
abbrev cl : List (Place × Nat × Hint) := []
abbrev hn : List Hint := [.any]
def val (t : Bool) : AV := Sh.mk (.data .bool) t
def wr (t : Bool) : Heap := []
def callee (k : Nat) : Callee := sigCallee ps hs (fun (d : ((List Int) × Int × Unit)) (e : ((List Int) × (List Int) × Unit)) => f k d.1 d.2.1 e.1 e.2.1) val wr
def E (k : Nat) : Env := ⟨fnTab [(8, [trailheadlaw07_alive.callee k]), (15, [envelope_All.callee k])], loopTab [(0, l0.sum k)], natsTab [(8, [0, 1]), (15, [0, 1])], natTab [(1, 0), (2, 1)]⟩
theorem fE (k : Nat) : ∀ f, ∀ c ∈ (E k).fn f, CalleeOK Tryd.prog f c := fnTab_ok ⟨⟨trailheadlaw07_alive.ok k, trivial⟩, ⟨envelope_All.ok k, trivial⟩, trivial⟩
namespace l0
theorem round (k : Nat) (d : (Unit × Unit × Int × Int × Unit)) (e : ((List Int) × (List Int) × (List ((List Int) × (List Int))) × (List ((List Int) × (List Int))) × Unit)) (G : St → Option (Ex × St)) : roundK Tryd.prog (E k) 95 0 (subC (bodyOf Tryd.f7) [1, 1, 1, 1, 1, 1, 1, 1, 1, 0, 1, 0, 0]) (recast cl hn kp) (finBy cl hn kp rc rs ri) G ⟨mkS S d, mkH H e⟩ =
    step (fun x82 => some (.exit 0, KX d e x82)) (fun q0 => some (.ret, RX d e q0)) (fun x82 => G ⟨mkS S ((), (), d.2.2.1, x82, ()), mkH H (e.1, e.2.1, e.2.2.1, e.2.2.2.1, ())⟩) k d.2.2.1 e.1 e.2.1 e.2.2.1 e.2.2.2.1 d.2.2.2.1 := by kernel_rfl
theorem it (k n : Nat) (d : (Unit × Unit × Int × Int × Unit)) (e : ((List Int) × (List Int) × (List ((List Int) × (List Int))) × (List ((List Int) × (List Int))) × Unit)) : loopIt Tryd.prog (E k) 95 0 (subC (bodyOf Tryd.f7) [1, 1, 1, 1, 1, 1, 1, 1, 1, 0, 1, 0, 0]) (recast cl hn kp) (finBy cl hn kp rc rs ri) n ⟨mkS S d, mkH H e⟩ = go (fun x82 => some (.exit 0, KX d e x82)) (fun q0 => some (.ret, RX d e q0)) k d.2.2.1 e.1 e.2.1 e.2.2.1 e.2.2.2.1 n d.2.2.2.1 :=
  loopIt_eq (D := (Unit × Unit × Int × Int × Unit) × ((List Int) × (List Int) × (List ((List Int) × (List Int))) × (List ((List Int) × (List Int))) × Unit)) (fun p => ⟨mkS S p.1, mkH H p.2⟩) (fun F p => step (fun x82 => some (.exit 0, KX p.1 p.2 x82)) (fun q0 => some (.ret, RX p.1 p.2 q0)) (fun x82 => F (((), (), p.1.2.2.1, x82, ()), (p.2.1, p.2.2.1, p.2.2.2.1, p.2.2.2.2.1, ()))) k p.1.2.2.1 p.2.1 p.2.2.1 p.2.2.2.1 p.2.2.2.2.1 p.1.2.2.2.1) (fun n p => go (fun x82 => some (.exit 0, KX p.1 p.2 x82)) (fun q0 => some (.ret, RX p.1 p.2 q0)) k p.1.2.2.1 p.2.1 p.2.2.1 p.2.2.2.1 p.2.2.2.2.1 n p.1.2.2.2.1) (fun _ => rfl) (fun _ _ => rfl) (fun G p => round k p.1 p.2 G) n (d, e)
theorem ok (k : Nat) : LoopOK Tryd.prog 95 (subC (bodyOf Tryd.f7) [1, 1, 1, 1, 1, 1, 1, 1, 1, 0, 1, 0, 0]) (sum k) :=
  loop_sig hm (fE k) (loopsOK_of [] (by kernel_rfl) trivial) S cl hn kp H 0 (fun (d : (Unit × Unit × Int × Int × Unit)) (e : ((List Int) × (List Int) × (List ((List Int) × (List Int))) × (List ((List Int) × (List Int))) × Unit)) => f k d.2.2.1 e.1 e.2.1 e.2.2.1 e.2.2.2.1 k d.2.2.2.1) KX RX cl hn kp rc rs ri k
    (fun d e => (it k k d e).trans (go_nat (exitOf 0 (KX d e) (RX d e)) (fun x82 => some (.inl x82)) (fun q0 => some (.inr q0)) k d.2.2.1 e.1 e.2.1 e.2.2.1 e.2.2.2.1 k d.2.2.2.1).symm)
end l0
theorem run (k : Nat) (d : ((List Int) × Int × Unit)) (e : ((List Int) × (List Int) × Unit)) : runFn Tryd.prog (E k) 95 (bodyOf Tryd.f7) Tryd.f7.results.toList cl hn hi (mkL ps d) (mkH hs e) =
    tree (fun b0 => leafFn hs fi e val wr b0) k d.1 d.2.1 e.1 e.2.1 := by kernel_rfl
theorem run_f (k : Nat) (d : ((List Int) × Int × Unit)) (e : ((List Int) × (List Int) × Unit)) : runFn Tryd.prog (E k) 95 (bodyOf Tryd.f7) Tryd.f7.results.toList cl hn hi (mkL ps d) (mkH hs e) = (f k d.1 d.2.1 e.1 e.2.1).bind (leafFn hs fi e val wr) :=
  (run k d e).trans (tree_nat (leafFn hs fi e val wr) (fun b0 => some b0) k d.1 d.2.1 e.1 e.2.1).symm
theorem fnIs : FnIs Tryd.prog 7 Tryd.f7 (bodyOf Tryd.f7) 95 := ⟨by kernel_rfl, by kernel_rfl, by kernel_rfl, by kernel_rfl⟩
theorem ok (k : Nat) : CalleeOK Tryd.prog 7 (callee k) :=
  callee_sig (T := Bool) fnIs hm (fE k) (loopsOK_of [(0, subC (bodyOf Tryd.f7) [1, 1, 1, 1, 1, 1, 1, 1, 1, 0, 1, 0, 0])] (by kernel_rfl) ⟨of_loop (l0.sum k) rfl (l0.ok k), trivial⟩) ps hs cl hn fi (fun (d : ((List Int) × Int × Unit)) (e : ((List Int) × (List Int) × Unit)) => f k d.1 d.2.1 e.1 e.2.1) val wr rfl (fun _ => rfl) (run_f k)
end trailheadlaw07_EnvelopeCuts
end Go.Proofs.YtkcdbbflelgbeaaDoor.Sy
