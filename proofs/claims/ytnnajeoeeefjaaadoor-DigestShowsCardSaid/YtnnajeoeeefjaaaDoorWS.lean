/- What the Go functions come to, on data: printed by sypr.py. -/
import Derived.Test.YtnnajeoeeefjaaaDoorSy18
import Derived.Test.YtnnajeoeeefjaaaDoorProg
import Derived.Test.YtnnajeoeeefjaaaDoorWA
namespace Go.Proofs.YtnnajeoeeefjaaaDoor.Sy
open Go Go.Proofs
set_option maxRecDepth 100000
set_option linter.unusedVariables false
set_option linter.unusedSimpArgs false
namespace digest_Parse
namespace l0
def step {X : Type} (K : (List Int) → Nat → Option X) (Q : Int → (List Int) → Option X) (G : (List Int) → Nat → Option X) (k : Nat) (y800000 : (List Int)) (y800002_0 : ByteArray) (y800001 : (List Int)) (y800002_1 : Nat) : Option X :=
  (bif (decide (y800002_1 < ByteArray.size y800002_0)) then (bif (decide (((Utf8.decode y800002_0 y800002_1).1 : Int) ≥ (48 : Int))) then (bif (decide (((Utf8.decode y800002_0 y800002_1).1 : Int) ≤ (57 : Int))) then (bif (decide (0 ≤ (subI .i64 31 (quoI .i64 (y800002_1 : Int) 2)))) then (bif (decide ((subI .i64 31 (quoI .i64 (y800002_1 : Int) 2)) < 32)) then (bif (decide ((Int.toNat (subI .i64 31 (quoI .i64 (y800002_1 : Int) 2))) < 32)) then (bif (decide (0 ≤ (subI .i64 31 (quoI .i64 (y800002_1 : Int) 2)))) then (bif (decide ((subI .i64 31 (quoI .i64 (y800002_1 : Int) 2)) < 32)) then (bif (decide ((Int.toNat (subI .i64 31 (quoI .i64 (y800002_1 : Int) 2))) < 32)) then (G (List.set y800001 (Int.toNat (subI .i64 31 (quoI .i64 (y800002_1 : Int) 2))) (orI .u8 (shlI .u8 (List.getD y800001 (Int.toNat (subI .i64 31 (quoI .i64 (y800002_1 : Int) 2))) 0) 4) (IntKind.wrap .u8 (IntKind.wrap .i64 (subI .i32 ((Utf8.decode y800002_0 y800002_1).1 : Int) 48))))) (y800002_1 + (Utf8.decode y800002_0 y800002_1).2)) else none) else none) else none) else none) else none) else none) else (bif (decide (((Utf8.decode y800002_0 y800002_1).1 : Int) ≥ (97 : Int))) then (bif (decide (((Utf8.decode y800002_0 y800002_1).1 : Int) ≤ (102 : Int))) then (bif (decide (0 ≤ (subI .i64 31 (quoI .i64 (y800002_1 : Int) 2)))) then (bif (decide ((subI .i64 31 (quoI .i64 (y800002_1 : Int) 2)) < 32)) then (bif (decide ((Int.toNat (subI .i64 31 (quoI .i64 (y800002_1 : Int) 2))) < 32)) then (bif (decide (0 ≤ (subI .i64 31 (quoI .i64 (y800002_1 : Int) 2)))) then (bif (decide ((subI .i64 31 (quoI .i64 (y800002_1 : Int) 2)) < 32)) then (bif (decide ((Int.toNat (subI .i64 31 (quoI .i64 (y800002_1 : Int) 2))) < 32)) then (G (List.set y800001 (Int.toNat (subI .i64 31 (quoI .i64 (y800002_1 : Int) 2))) (orI .u8 (shlI .u8 (List.getD y800001 (Int.toNat (subI .i64 31 (quoI .i64 (y800002_1 : Int) 2))) 0) 4) (IntKind.wrap .u8 (addI .i64 (IntKind.wrap .i64 (subI .i32 ((Utf8.decode y800002_0 y800002_1).1 : Int) 97)) 10)))) (y800002_1 + (Utf8.decode y800002_0 y800002_1).2)) else none) else none) else none) else none) else none) else none) else (Q (4 : Int) ([0, 0, 0, 0, 0, 0, 0, 0, 0, 0, 0, 0, 0, 0, 0, 0, 0, 0, 0, 0, 0, 0, 0, 0, 0, 0, 0, 0, 0, 0, 0, 0] : (List Int)))) else (Q (4 : Int) ([0, 0, 0, 0, 0, 0, 0, 0, 0, 0, 0, 0, 0, 0, 0, 0, 0, 0, 0, 0, 0, 0, 0, 0, 0, 0, 0, 0, 0, 0, 0, 0] : (List Int))))) else (bif (decide (((Utf8.decode y800002_0 y800002_1).1 : Int) ≥ (97 : Int))) then (bif (decide (((Utf8.decode y800002_0 y800002_1).1 : Int) ≤ (102 : Int))) then (bif (decide (0 ≤ (subI .i64 31 (quoI .i64 (y800002_1 : Int) 2)))) then (bif (decide ((subI .i64 31 (quoI .i64 (y800002_1 : Int) 2)) < 32)) then (bif (decide ((Int.toNat (subI .i64 31 (quoI .i64 (y800002_1 : Int) 2))) < 32)) then (bif (decide (0 ≤ (subI .i64 31 (quoI .i64 (y800002_1 : Int) 2)))) then (bif (decide ((subI .i64 31 (quoI .i64 (y800002_1 : Int) 2)) < 32)) then (bif (decide ((Int.toNat (subI .i64 31 (quoI .i64 (y800002_1 : Int) 2))) < 32)) then (G (List.set y800001 (Int.toNat (subI .i64 31 (quoI .i64 (y800002_1 : Int) 2))) (orI .u8 (shlI .u8 (List.getD y800001 (Int.toNat (subI .i64 31 (quoI .i64 (y800002_1 : Int) 2))) 0) 4) (IntKind.wrap .u8 (addI .i64 (IntKind.wrap .i64 (subI .i32 ((Utf8.decode y800002_0 y800002_1).1 : Int) 97)) 10)))) (y800002_1 + (Utf8.decode y800002_0 y800002_1).2)) else none) else none) else none) else none) else none) else none) else (Q (4 : Int) ([0, 0, 0, 0, 0, 0, 0, 0, 0, 0, 0, 0, 0, 0, 0, 0, 0, 0, 0, 0, 0, 0, 0, 0, 0, 0, 0, 0, 0, 0, 0, 0] : (List Int)))) else (Q (4 : Int) ([0, 0, 0, 0, 0, 0, 0, 0, 0, 0, 0, 0, 0, 0, 0, 0, 0, 0, 0, 0, 0, 0, 0, 0, 0, 0, 0, 0, 0, 0, 0, 0] : (List Int))))) else (K y800001 y800002_1))
def go {X : Type} (K : (List Int) → Nat → Option X) (Q : Int → (List Int) → Option X) (k : Nat) (y800000 : (List Int)) (y800002_0 : ByteArray) : Nat → (List Int) → Nat → Option X
  | 0, _, _ => none
  | n + 1, y800001, y800002_1 => step K Q (go K Q k y800000 y800002_0 n) k y800000 y800002_0 y800001 y800002_1
def f (k : Nat) (y800000 : (List Int)) (y800002_0 : ByteArray) (n : Nat) (y800001 : (List Int)) (y800002_1 : Nat) : Option (((List Int) × Nat) ⊕ (Int × (List Int))) := go (fun y800001 y800002_1 => some (.inl (y800001, y800002_1))) (fun q0 q1 => some (.inr (q0, q1))) k y800000 y800002_0 n y800001 y800002_1
theorem step_nat {X Y : Type} (h : X → Option Y) (K : (List Int) → Nat → Option X) (Q : Int → (List Int) → Option X) (G : (List Int) → Nat → Option X) (k : Nat) (y800000 : (List Int)) (y800002_0 : ByteArray) (y800001 : (List Int)) (y800002_1 : Nat) : Option.bind (step K Q G k y800000 y800002_0 y800001 y800002_1) h = step (fun y800001 y800002_1 => Option.bind (K y800001 y800002_1) h) (fun q0 q1 => Option.bind (Q q0 q1) h) (fun y800001 y800002_1 => Option.bind (G y800001 y800002_1) h) k y800000 y800002_0 y800001 y800002_1 := by
  simp only [step, bif_bind, sel_bind', Option.bind_assoc, Option.bind_none, Option.bind_some]
theorem go_nat {X Y : Type} (h : X → Option Y) (K : (List Int) → Nat → Option X) (Q : Int → (List Int) → Option X) (k : Nat) (y800000 : (List Int)) (y800002_0 : ByteArray) (n : Nat) : ∀ (y800001 : (List Int)) (y800002_1 : Nat), Option.bind (go K Q k y800000 y800002_0 n y800001 y800002_1) h = go (fun y800001 y800002_1 => Option.bind (K y800001 y800002_1) h) (fun q0 q1 => Option.bind (Q q0 q1) h) k y800000 y800002_0 n y800001 y800002_1 := by
  induction n with
  | zero => intros; rfl
  | succ n ih => intro y800001 y800002_1; show Option.bind (step K Q (go K Q k y800000 y800002_0 n) k y800000 y800002_0 y800001 y800002_1) h = step (fun y800001 y800002_1 => Option.bind (K y800001 y800002_1) h) (fun q0 q1 => Option.bind (Q q0 q1) h) (go (fun y800001 y800002_1 => Option.bind (K y800001 y800002_1) h) (fun q0 q1 => Option.bind (Q q0 q1) h) k y800000 y800002_0 n) k y800000 y800002_0 y800001 y800002_1; rw [step_nat h]; simp only [ih]
abbrev S : List (Nat × Sh) := [(2, .ptr 800000), (4, .ptr 800001), (14, .ptr 800002)]
abbrev H : List (Nat × ESh) := [(800000, .cell (.data (.arr .u8 32))), (800001, .cell (.data (.arr .u8 32))), (800002, .iter)]
abbrev cl : List (Place × Nat × Hint) := []
abbrev hn : List (Nat × Hint) := [(2, .any), (4, .any), (14, .any)]
abbrev kp : List Nat := []
abbrev rc : List (Place × Nat × Hint) := []
abbrev rs : List (Nat × Hint) := [(2, .any), (3, .any)]
abbrev ri : List Nat := []
def KX (d : (Unit × Unit × Unit × Unit)) (e : ((List Int) × (List Int) × (ByteArray × Nat) × Unit)) (v : ((List Int) × Nat)) : St := ⟨mkS S ((), (), (), ()), mkH H (e.1, v.1, (e.2.2.1.1, v.2), ())⟩
abbrev RS : List (Nat × Sh) := [(2, .ptr 800000), (3, .data (.int .i64))]
abbrev RH : List (Nat × ESh) := [(800000, .cell (.data (.arr .u8 32)))]
def RX (d : (Unit × Unit × Unit × Unit)) (e : ((List Int) × (List Int) × (ByteArray × Nat) × Unit)) (v : (Int × (List Int))) : St := ⟨mkS RS ((), v.1, ()), mkH RH (v.2, ())⟩
def sum (k : Nat) : LoopSum := sigLoop S cl hn kp H 0 (fun (d : (Unit × Unit × Unit × Unit)) (e : ((List Int) × (List Int) × (ByteArray × Nat) × Unit)) => f k e.1 e.2.2.1.1 k e.2.1 e.2.2.1.2) KX RX
end l0
def tree {X : Type} (K : (List Int) → Int → Option X) (k : Nat) (a0 : (List Int)) : Option X :=
  (bif (((List.length a0) : Int) != (64 : Int)) then (K ([0, 0, 0, 0, 0, 0, 0, 0, 0, 0, 0, 0, 0, 0, 0, 0, 0, 0, 0, 0, 0, 0, 0, 0, 0, 0, 0, 0, 0, 0, 0, 0] : (List Int)) (4 : Int)) else (Option.bind (digest_Parse.l0.f k ([0, 0, 0, 0, 0, 0, 0, 0, 0, 0, 0, 0, 0, 0, 0, 0, 0, 0, 0, 0, 0, 0, 0, 0, 0, 0, 0, 0, 0, 0, 0, 0] : (List Int)) (bst a0) k ([0, 0, 0, 0, 0, 0, 0, 0, 0, 0, 0, 0, 0, 0, 0, 0, 0, 0, 0, 0, 0, 0, 0, 0, 0, 0, 0, 0, 0, 0, 0, 0] : (List Int)) (0 : Nat)) (fun r1 => sel r1 (fun v2 => (K v2.1 (0 : Int))) (fun q3 => (K q3.2 q3.1)))))
def f (k : Nat) (a0 : (List Int)) : Option ((List Int) × Int) := tree (fun b0 b1 => some (b0, b1)) k a0
theorem tree_nat {X Y : Type} (h : X → Option Y) (K : (List Int) → Int → Option X) (k : Nat) (a0 : (List Int)) : Option.bind (tree K k a0) h = tree (fun b0 b1 => Option.bind (K b0 b1) h) k a0 := by
  simp only [tree, bif_bind, sel_bind', Option.bind_assoc, Option.bind_none, Option.bind_some]
abbrev ps : List Sh := [.data .str]
abbrev hs : List (Nat × ESh) := []
abbrev hi : List Nat := hs.map (·.1)
abbrev fi : List Nat := []
abbrev cl : List (Place × Nat × Hint) := []
abbrev hn : List Hint := [.any, .any]
def val (t : ((List Int) × Int)) : AV := .tcons (Sh.mk (.data (.arr .u8 32)) t.1) (.tcons (Sh.mk (.data (.int .i64)) t.2) .tnil)
def wr (t : ((List Int) × Int)) : Heap := []
def callee (k : Nat) : Callee := sigCallee ps hs (fun (d : ((List Int) × Unit)) (e : Unit) => f k d.1) val wr
def E (k : Nat) : Env := ⟨fnTab [], loopTab [(0, l0.sum k)], natsTab [], natTab []⟩
theorem fE (k : Nat) : ∀ f, ∀ c ∈ (E k).fn f, CalleeOK Tryd.prog f c := fnTab_ok trivial
namespace l0
theorem round (k : Nat) (d : (Unit × Unit × Unit × Unit)) (e : ((List Int) × (List Int) × (ByteArray × Nat) × Unit)) (G : St → Option (Ex × St)) : roundK Tryd.prog (E k) 54 0 (subC (bodyOf Tryd.f26) [1, 1, 1, 0, 1, 0, 0]) (recast cl hn kp) (finBy cl hn kp rc rs ri) G ⟨mkS S d, mkH H e⟩ =
    step (fun y800001 y800002_1 => some (.exit 0, KX d e (y800001, y800002_1))) (fun q0 q1 => some (.ret, RX d e (q0, q1))) (fun y800001 y800002_1 => G ⟨mkS S ((), (), (), ()), mkH H (e.1, y800001, (e.2.2.1.1, y800002_1), ())⟩) k e.1 e.2.2.1.1 e.2.1 e.2.2.1.2 := by kernel_rfl
theorem it (k n : Nat) (d : (Unit × Unit × Unit × Unit)) (e : ((List Int) × (List Int) × (ByteArray × Nat) × Unit)) : loopIt Tryd.prog (E k) 54 0 (subC (bodyOf Tryd.f26) [1, 1, 1, 0, 1, 0, 0]) (recast cl hn kp) (finBy cl hn kp rc rs ri) n ⟨mkS S d, mkH H e⟩ = go (fun y800001 y800002_1 => some (.exit 0, KX d e (y800001, y800002_1))) (fun q0 q1 => some (.ret, RX d e (q0, q1))) k e.1 e.2.2.1.1 n e.2.1 e.2.2.1.2 :=
  loopIt_eq (D := (Unit × Unit × Unit × Unit) × ((List Int) × (List Int) × (ByteArray × Nat) × Unit)) (fun p => ⟨mkS S p.1, mkH H p.2⟩) (fun F p => step (fun y800001 y800002_1 => some (.exit 0, KX p.1 p.2 (y800001, y800002_1))) (fun q0 q1 => some (.ret, RX p.1 p.2 (q0, q1))) (fun y800001 y800002_1 => F (((), (), (), ()), (p.2.1, y800001, (p.2.2.2.1.1, y800002_1), ()))) k p.2.1 p.2.2.2.1.1 p.2.2.1 p.2.2.2.1.2) (fun n p => go (fun y800001 y800002_1 => some (.exit 0, KX p.1 p.2 (y800001, y800002_1))) (fun q0 q1 => some (.ret, RX p.1 p.2 (q0, q1))) k p.2.1 p.2.2.2.1.1 n p.2.2.1 p.2.2.2.1.2) (fun _ => rfl) (fun _ _ => rfl) (fun G p => round k p.1 p.2 G) n (d, e)
theorem ok (k : Nat) : LoopOK Tryd.prog 54 (subC (bodyOf Tryd.f26) [1, 1, 1, 0, 1, 0, 0]) (sum k) :=
  loop_sig hm (fE k) (loopsOK_of [] (by kernel_rfl) trivial) S cl hn kp H 0 (fun (d : (Unit × Unit × Unit × Unit)) (e : ((List Int) × (List Int) × (ByteArray × Nat) × Unit)) => f k e.1 e.2.2.1.1 k e.2.1 e.2.2.1.2) KX RX cl hn kp rc rs ri k
    (fun d e => (it k k d e).trans (go_nat (exitOf 0 (KX d e) (RX d e)) (fun y800001 y800002_1 => some (.inl (y800001, y800002_1))) (fun q0 q1 => some (.inr (q0, q1))) k e.1 e.2.2.1.1 k e.2.1 e.2.2.1.2).symm)
end l0
theorem run (k : Nat) (d : ((List Int) × Unit)) (e : Unit) : runFn Tryd.prog (E k) 54 (bodyOf Tryd.f26) Tryd.f26.results.toList cl hn hi (mkL ps d) (mkH hs e) =
    tree (fun b0 b1 => leafFn hs fi e val wr (b0, b1)) k d.1 := by kernel_rfl
theorem run_f (k : Nat) (d : ((List Int) × Unit)) (e : Unit) : runFn Tryd.prog (E k) 54 (bodyOf Tryd.f26) Tryd.f26.results.toList cl hn hi (mkL ps d) (mkH hs e) = (f k d.1).bind (leafFn hs fi e val wr) :=
  (run k d e).trans (tree_nat (leafFn hs fi e val wr) (fun b0 b1 => some (b0, b1)) k d.1).symm
theorem fnIs : FnIs Tryd.prog 26 Tryd.f26 (bodyOf Tryd.f26) 54 := ⟨by kernel_rfl, by kernel_rfl, by kernel_rfl, by kernel_rfl⟩
theorem ok (k : Nat) : CalleeOK Tryd.prog 26 (callee k) :=
  callee_sig (T := ((List Int) × Int)) fnIs hm (fE k) (loopsOK_of [(0, subC (bodyOf Tryd.f26) [1, 1, 1, 0, 1, 0, 0])] (by kernel_rfl) ⟨of_loop (l0.sum k) rfl (l0.ok k), trivial⟩) ps hs cl hn fi (fun (d : ((List Int) × Unit)) (e : Unit) => f k d.1) val wr rfl (fun _ => rfl) (run_f k)
end digest_Parse
namespace trailheadref01_Show
namespace l0
def step {X : Type} (K : (List Int) → Int → Option X) (G : (List Int) → Int → Option X) (k : Nat) (y800000 : (List Int)) (x3 : (List Int)) (x4 : Int) : Option X :=
  (bif (decide (x4 < (32 : Int))) then (bif (decide (0 ≤ x4)) then (bif (decide (x4 < 32)) then (bif (decide ((Int.toNat x4) < 32)) then (bif (decide (0 ≤ x4)) then (bif (decide (x4 < 32)) then (bif (decide ((Int.toNat x4) < 32)) then (bif (decide (0 ≤ (addI .i64 (quoI .i64 (IntKind.wrap .i64 (List.getD y800000 (Int.toNat x4) 0)) 16) 1))) then (bif (decide ((addI .i64 (quoI .i64 (IntKind.wrap .i64 (List.getD y800000 (Int.toNat x4) 0)) 16) 1) ≤ (16 : Int))) then (bif (decide (0 ≤ (quoI .i64 (IntKind.wrap .i64 (List.getD y800000 (Int.toNat x4) 0)) 16))) then (bif (decide ((quoI .i64 (IntKind.wrap .i64 (List.getD y800000 (Int.toNat x4) 0)) 16) ≤ (addI .i64 (quoI .i64 (IntKind.wrap .i64 (List.getD y800000 (Int.toNat x4) 0)) 16) 1))) then (bif (decide (0 ≤ (addI .i64 (remI (IntKind.wrap .i64 (List.getD y800000 (Int.toNat x4) 0)) 16) 1))) then (bif (decide ((addI .i64 (remI (IntKind.wrap .i64 (List.getD y800000 (Int.toNat x4) 0)) 16) 1) ≤ (16 : Int))) then (bif (decide (0 ≤ (remI (IntKind.wrap .i64 (List.getD y800000 (Int.toNat x4) 0)) 16))) then (bif (decide ((remI (IntKind.wrap .i64 (List.getD y800000 (Int.toNat x4) 0)) 16) ≤ (addI .i64 (remI (IntKind.wrap .i64 (List.getD y800000 (Int.toNat x4) 0)) 16) 1))) then (bif (fits ((List.length (List.drop (Int.toNat (quoI .i64 (IntKind.wrap .i64 (List.getD y800000 (Int.toNat x4) 0)) 16)) (List.take (Int.toNat (addI .i64 (quoI .i64 (IntKind.wrap .i64 (List.getD y800000 (Int.toNat x4) 0)) 16) 1)) ([48, 49, 50, 51, 52, 53, 54, 55, 56, 57, 97, 98, 99, 100, 101, 102] : (List Int))))) + (List.length (List.drop (Int.toNat (remI (IntKind.wrap .i64 (List.getD y800000 (Int.toNat x4) 0)) 16)) (List.take (Int.toNat (addI .i64 (remI (IntKind.wrap .i64 (List.getD y800000 (Int.toNat x4) 0)) 16) 1)) ([48, 49, 50, 51, 52, 53, 54, 55, 56, 57, 97, 98, 99, 100, 101, 102] : (List Int))))))) then (bif (fits ((List.length ((List.drop (Int.toNat (quoI .i64 (IntKind.wrap .i64 (List.getD y800000 (Int.toNat x4) 0)) 16)) (List.take (Int.toNat (addI .i64 (quoI .i64 (IntKind.wrap .i64 (List.getD y800000 (Int.toNat x4) 0)) 16) 1)) ([48, 49, 50, 51, 52, 53, 54, 55, 56, 57, 97, 98, 99, 100, 101, 102] : (List Int)))) ++ (List.drop (Int.toNat (remI (IntKind.wrap .i64 (List.getD y800000 (Int.toNat x4) 0)) 16)) (List.take (Int.toNat (addI .i64 (remI (IntKind.wrap .i64 (List.getD y800000 (Int.toNat x4) 0)) 16) 1)) ([48, 49, 50, 51, 52, 53, 54, 55, 56, 57, 97, 98, 99, 100, 101, 102] : (List Int)))))) + (List.length x3))) then (G (((List.drop (Int.toNat (quoI .i64 (IntKind.wrap .i64 (List.getD y800000 (Int.toNat x4) 0)) 16)) (List.take (Int.toNat (addI .i64 (quoI .i64 (IntKind.wrap .i64 (List.getD y800000 (Int.toNat x4) 0)) 16) 1)) ([48, 49, 50, 51, 52, 53, 54, 55, 56, 57, 97, 98, 99, 100, 101, 102] : (List Int)))) ++ (List.drop (Int.toNat (remI (IntKind.wrap .i64 (List.getD y800000 (Int.toNat x4) 0)) 16)) (List.take (Int.toNat (addI .i64 (remI (IntKind.wrap .i64 (List.getD y800000 (Int.toNat x4) 0)) 16) 1)) ([48, 49, 50, 51, 52, 53, 54, 55, 56, 57, 97, 98, 99, 100, 101, 102] : (List Int))))) ++ x3) (addI .i64 x4 1)) else none) else none) else none) else none) else none) else none) else none) else none) else none) else none) else none) else none) else none) else none) else none) else none) else (K x3 x4))
def go {X : Type} (K : (List Int) → Int → Option X) (k : Nat) (y800000 : (List Int)) : Nat → (List Int) → Int → Option X
  | 0, _, _ => none
  | n + 1, x3, x4 => step K (go K k y800000 n) k y800000 x3 x4
def f (k : Nat) (y800000 : (List Int)) (n : Nat) (x3 : (List Int)) (x4 : Int) : Option ((List Int) × Int) := go (fun x3 x4 => some (x3, x4)) k y800000 n x3 x4
theorem step_nat {X Y : Type} (h : X → Option Y) (K : (List Int) → Int → Option X) (G : (List Int) → Int → Option X) (k : Nat) (y800000 : (List Int)) (x3 : (List Int)) (x4 : Int) : Option.bind (step K G k y800000 x3 x4) h = step (fun x3 x4 => Option.bind (K x3 x4) h) (fun x3 x4 => Option.bind (G x3 x4) h) k y800000 x3 x4 := by
  simp only [step, bif_bind, sel_bind', Option.bind_assoc, Option.bind_none, Option.bind_some]
theorem go_nat {X Y : Type} (h : X → Option Y) (K : (List Int) → Int → Option X) (k : Nat) (y800000 : (List Int)) (n : Nat) : ∀ (x3 : (List Int)) (x4 : Int), Option.bind (go K k y800000 n x3 x4) h = go (fun x3 x4 => Option.bind (K x3 x4) h) k y800000 n x3 x4 := by
  induction n with
  | zero => intros; rfl
  | succ n ih => intro x3 x4; show Option.bind (step K (go K k y800000 n) k y800000 x3 x4) h = step (fun x3 x4 => Option.bind (K x3 x4) h) (go (fun x3 x4 => Option.bind (K x3 x4) h) k y800000 n) k y800000 x3 x4; rw [step_nat h]; simp only [ih]
abbrev S : List (Nat × Sh) := [(1, .ptr 800000), (3, .data .str), (4, .data (.int .i64))]
abbrev H : List (Nat × ESh) := [(800000, .cell (.data (.arr .u8 32)))]
abbrev cl : List (Place × Nat × Hint) := []
abbrev hn : List (Nat × Hint) := [(1, .any), (3, .any), (4, .any)]
abbrev kp : List Nat := []
abbrev rc : List (Place × Nat × Hint) := []
abbrev rs : List (Nat × Hint) := []
abbrev ri : List Nat := []
def KX (d : (Unit × (List Int) × Int × Unit)) (e : ((List Int) × Unit)) (v : ((List Int) × Int)) : St := ⟨mkS S ((), v.1, v.2, ()), mkH H (e.1, ())⟩
def sum (k : Nat) : LoopSum := sigLoopX S cl hn kp H 0 (fun (d : (Unit × (List Int) × Int × Unit)) (e : ((List Int) × Unit)) => f k e.1 k d.2.1 d.2.2.1) KX
end l0
def tree {X : Type} (K : (List Int) → Option X) (k : Nat) (a0 : (List Int)) : Option X :=
  (Option.bind (trailheadref01_Show.l0.f k a0 k ([] : (List Int)) (0 : Int)) (fun r1 => (K r1.1)))
def f (k : Nat) (a0 : (List Int)) : Option (List Int) := tree (fun b0 => some b0) k a0
theorem tree_nat {X Y : Type} (h : X → Option Y) (K : (List Int) → Option X) (k : Nat) (a0 : (List Int)) : Option.bind (tree K k a0) h = tree (fun b0 => Option.bind (K b0) h) k a0 := by
  simp only [tree, bif_bind, sel_bind', Option.bind_assoc, Option.bind_none, Option.bind_some]
abbrev ps : List Sh := [.data (.arr .u8 32)]
abbrev hs : List (Nat × ESh) := []
abbrev hi : List Nat := hs.map (·.1)
abbrev fi : List Nat := []
abbrev cl : List (Place × Nat × Hint) := []
abbrev hn : List Hint := [.any]
def val (t : (List Int)) : AV := Sh.mk (.data .str) t
def wr (t : (List Int)) : Heap := []
def callee (k : Nat) : Callee := sigCallee ps hs (fun (d : ((List Int) × Unit)) (e : Unit) => f k d.1) val wr
def E (k : Nat) : Env := ⟨fnTab [], loopTab [(0, l0.sum k)], natsTab [], natTab []⟩
theorem fE (k : Nat) : ∀ f, ∀ c ∈ (E k).fn f, CalleeOK Tryd.prog f c := fnTab_ok trivial
namespace l0
theorem round (k : Nat) (d : (Unit × (List Int) × Int × Unit)) (e : ((List Int) × Unit)) (G : St → Option (Ex × St)) : roundK Tryd.prog (E k) 33 0 (subC (bodyOf Tryd.f27) [1, 1, 0, 1, 0, 0]) (recast cl hn kp) (finBy cl hn kp rc rs ri) G ⟨mkS S d, mkH H e⟩ =
    step (fun x3 x4 => some (.exit 0, KX d e (x3, x4))) (fun x3 x4 => G ⟨mkS S ((), x3, x4, ()), mkH H (e.1, ())⟩) k e.1 d.2.1 d.2.2.1 := by kernel_rfl
theorem it (k n : Nat) (d : (Unit × (List Int) × Int × Unit)) (e : ((List Int) × Unit)) : loopIt Tryd.prog (E k) 33 0 (subC (bodyOf Tryd.f27) [1, 1, 0, 1, 0, 0]) (recast cl hn kp) (finBy cl hn kp rc rs ri) n ⟨mkS S d, mkH H e⟩ = go (fun x3 x4 => some (.exit 0, KX d e (x3, x4))) k e.1 n d.2.1 d.2.2.1 :=
  loopIt_eq (D := (Unit × (List Int) × Int × Unit) × ((List Int) × Unit)) (fun p => ⟨mkS S p.1, mkH H p.2⟩) (fun F p => step (fun x3 x4 => some (.exit 0, KX p.1 p.2 (x3, x4))) (fun x3 x4 => F (((), x3, x4, ()), (p.2.1, ()))) k p.2.1 p.1.2.1 p.1.2.2.1) (fun n p => go (fun x3 x4 => some (.exit 0, KX p.1 p.2 (x3, x4))) k p.2.1 n p.1.2.1 p.1.2.2.1) (fun _ => rfl) (fun _ _ => rfl) (fun G p => round k p.1 p.2 G) n (d, e)
theorem ok (k : Nat) : LoopOK Tryd.prog 33 (subC (bodyOf Tryd.f27) [1, 1, 0, 1, 0, 0]) (sum k) :=
  loop_sigX hm (fE k) (loopsOK_of [] (by kernel_rfl) trivial) S cl hn kp H 0 (fun (d : (Unit × (List Int) × Int × Unit)) (e : ((List Int) × Unit)) => f k e.1 k d.2.1 d.2.2.1) KX cl hn kp rc rs ri k
    (fun d e => (it k k d e).trans (go_nat (fun v => some (Ex.exit 0, KX d e v)) (fun x3 x4 => some (x3, x4)) k e.1 k d.2.1 d.2.2.1).symm)
end l0
theorem run (k : Nat) (d : ((List Int) × Unit)) (e : Unit) : runFn Tryd.prog (E k) 33 (bodyOf Tryd.f27) Tryd.f27.results.toList cl hn hi (mkL ps d) (mkH hs e) =
    tree (fun b0 => leafFn hs fi e val wr b0) k d.1 := by kernel_rfl
theorem run_f (k : Nat) (d : ((List Int) × Unit)) (e : Unit) : runFn Tryd.prog (E k) 33 (bodyOf Tryd.f27) Tryd.f27.results.toList cl hn hi (mkL ps d) (mkH hs e) = (f k d.1).bind (leafFn hs fi e val wr) :=
  (run k d e).trans (tree_nat (leafFn hs fi e val wr) (fun b0 => some b0) k d.1).symm
theorem fnIs : FnIs Tryd.prog 27 Tryd.f27 (bodyOf Tryd.f27) 33 := ⟨by kernel_rfl, by kernel_rfl, by kernel_rfl, by kernel_rfl⟩
theorem ok (k : Nat) : CalleeOK Tryd.prog 27 (callee k) :=
  callee_sig (T := (List Int)) fnIs hm (fE k) (loopsOK_of [(0, subC (bodyOf Tryd.f27) [1, 1, 0, 1, 0, 0])] (by kernel_rfl) ⟨of_loop (l0.sum k) rfl (l0.ok k), trivial⟩) ps hs cl hn fi (fun (d : ((List Int) × Unit)) (e : Unit) => f k d.1) val wr rfl (fun _ => rfl) (run_f k)
end trailheadref01_Show
namespace trailheadlaw01_DigestParses
def tree {X : Type} (K : Bool → Option X) (k : Nat) (a0 : (List Int)) (m0 : (List Int)) (m1 : (List Int)) : Option X :=
  (Option.bind (trailheadlaw01_alive.f k m0 m1) (fun r1 => (bif (!r1) then (K false) else (bif (decide (((List.length a0) : Int) > (100 : Int))) then (K true) else (Option.bind (digest_Parse.f k a0) (fun r2 => (bif (r2.2 == (0 : Int)) then (Option.bind (trailheadref01_Show.f k r2.1) (fun r3 => (bif (decide (r3 = a0)) then (K true) else (bif (r2.2 == (4 : Int)) then (K (decide (r2.1 = ([0, 0, 0, 0, 0, 0, 0, 0, 0, 0, 0, 0, 0, 0, 0, 0, 0, 0, 0, 0, 0, 0, 0, 0, 0, 0, 0, 0, 0, 0, 0, 0] : (List Int))))) else (K false))))) else (bif (r2.2 == (4 : Int)) then (K (decide (r2.1 = ([0, 0, 0, 0, 0, 0, 0, 0, 0, 0, 0, 0, 0, 0, 0, 0, 0, 0, 0, 0, 0, 0, 0, 0, 0, 0, 0, 0, 0, 0, 0, 0] : (List Int))))) else (K false)))))))))
def f (k : Nat) (a0 : (List Int)) (m0 : (List Int)) (m1 : (List Int)) : Option Bool := tree (fun b0 => some b0) k a0 m0 m1
theorem tree_nat {X Y : Type} (h : X → Option Y) (K : Bool → Option X) (k : Nat) (a0 : (List Int)) (m0 : (List Int)) (m1 : (List Int)) : Option.bind (tree K k a0 m0 m1) h = tree (fun b0 => Option.bind (K b0) h) k a0 m0 m1 := by
  simp only [tree, bif_bind, sel_bind', Option.bind_assoc, Option.bind_none, Option.bind_some]
abbrev ps : List Sh := [.data .str]
abbrev hs : List (Nat × ESh) := [(0, .glob 0 (.arr .u32 8)), (1, .glob 1 (.arr .u32 64))]
abbrev hi : List Nat := hs.map (·.1)
abbrev fi : List Nat := [0, 1]
abbrev cl : List (Place × Nat × Hint) := []
abbrev hn : List Hint := [.any]
def val (t : Bool) : AV := Sh.mk (.data .bool) t
def wr (t : Bool) : Heap := []
def callee (k : Nat) : Callee := sigCallee ps hs (fun (d : ((List Int) × Unit)) (e : ((List Int) × (List Int) × Unit)) => f k d.1 e.1 e.2.1) val wr
def E (k : Nat) : Env := ⟨fnTab [(18, [trailheadlaw01_alive.callee k]), (26, [digest_Parse.callee k]), (27, [trailheadref01_Show.callee k])], loopTab [], natsTab [(18, [0, 1])], natTab [(0, 0), (1, 1)]⟩
theorem fE (k : Nat) : ∀ f, ∀ c ∈ (E k).fn f, CalleeOK Tryd.prog f c := fnTab_ok ⟨⟨trailheadlaw01_alive.ok k, trivial⟩, ⟨digest_Parse.ok k, trivial⟩, ⟨trailheadref01_Show.ok k, trivial⟩, trivial⟩
theorem run (k : Nat) (d : ((List Int) × Unit)) (e : ((List Int) × (List Int) × Unit)) : runFn Tryd.prog (E k) 32 (bodyOf Tryd.f6) Tryd.f6.results.toList cl hn hi (mkL ps d) (mkH hs e) =
    tree (fun b0 => leafFn hs fi e val wr b0) k d.1 e.1 e.2.1 := by kernel_rfl
theorem run_f (k : Nat) (d : ((List Int) × Unit)) (e : ((List Int) × (List Int) × Unit)) : runFn Tryd.prog (E k) 32 (bodyOf Tryd.f6) Tryd.f6.results.toList cl hn hi (mkL ps d) (mkH hs e) = (f k d.1 e.1 e.2.1).bind (leafFn hs fi e val wr) :=
  (run k d e).trans (tree_nat (leafFn hs fi e val wr) (fun b0 => some b0) k d.1 e.1 e.2.1).symm
theorem fnIs : FnIs Tryd.prog 6 Tryd.f6 (bodyOf Tryd.f6) 32 := ⟨by kernel_rfl, by kernel_rfl, by kernel_rfl, by kernel_rfl⟩
theorem ok (k : Nat) : CalleeOK Tryd.prog 6 (callee k) :=
  callee_sig (T := Bool) fnIs hm (fE k) (loopsOK_of [] (by kernel_rfl) trivial) ps hs cl hn fi (fun (d : ((List Int) × Unit)) (e : ((List Int) × (List Int) × Unit)) => f k d.1 e.1 e.2.1) val wr rfl (fun _ => rfl) (run_f k)
end trailheadlaw01_DigestParses
namespace digest_Show
namespace l0
def step {X : Type} (K : Int → (List Int) → Option X) (G : Int → (List Int) → Option X) (k : Nat) (x7 : (List Int)) (x8 : Int) (y800000 : (List Int)) : Option X :=
  (bif (decide (x8 < (32 : Int))) then (bif (decide (0 ≤ x8)) then (bif (decide (x8 < 32)) then (bif (decide (0 ≤ (shrI .u8 (List.getD x7 (Int.toNat x8) 0) 4))) then (bif (decide ((shrI .u8 (List.getD x7 (Int.toNat x8) 0) 4) < (16 : Int))) then (bif (decide (0 ≤ (andI .u8 (List.getD x7 (Int.toNat x8) 0) 15))) then (bif (decide ((andI .u8 (List.getD x7 (Int.toNat x8) 0) 15) < (16 : Int))) then (bif (decide (0 ≤ (mulI .i64 2 (subI .i64 31 x8)))) then (bif (decide ((mulI .i64 2 (subI .i64 31 x8)) < 64)) then (bif (decide ((Int.toNat (mulI .i64 2 (subI .i64 31 x8))) < 64)) then (bif (decide (0 ≤ (addI .i64 (mulI .i64 2 (subI .i64 31 x8)) 1))) then (bif (decide ((addI .i64 (mulI .i64 2 (subI .i64 31 x8)) 1) < 64)) then (bif (decide ((Int.toNat (addI .i64 (mulI .i64 2 (subI .i64 31 x8)) 1)) < 64)) then (G (addI .i64 x8 1) (List.set (List.set y800000 (Int.toNat (mulI .i64 2 (subI .i64 31 x8))) (List.getD ([48, 49, 50, 51, 52, 53, 54, 55, 56, 57, 97, 98, 99, 100, 101, 102] : (List Int)) (Int.toNat (shrI .u8 (List.getD x7 (Int.toNat x8) 0) 4)) 0)) (Int.toNat (addI .i64 (mulI .i64 2 (subI .i64 31 x8)) 1)) (List.getD ([48, 49, 50, 51, 52, 53, 54, 55, 56, 57, 97, 98, 99, 100, 101, 102] : (List Int)) (Int.toNat (andI .u8 (List.getD x7 (Int.toNat x8) 0) 15)) 0))) else none) else none) else none) else none) else none) else none) else none) else none) else none) else none) else none) else none) else (K x8 y800000))
def go {X : Type} (K : Int → (List Int) → Option X) (k : Nat) (x7 : (List Int)) : Nat → Int → (List Int) → Option X
  | 0, _, _ => none
  | n + 1, x8, y800000 => step K (go K k x7 n) k x7 x8 y800000
def f (k : Nat) (x7 : (List Int)) (n : Nat) (x8 : Int) (y800000 : (List Int)) : Option (Int × (List Int)) := go (fun x8 y800000 => some (x8, y800000)) k x7 n x8 y800000
theorem step_nat {X Y : Type} (h : X → Option Y) (K : Int → (List Int) → Option X) (G : Int → (List Int) → Option X) (k : Nat) (x7 : (List Int)) (x8 : Int) (y800000 : (List Int)) : Option.bind (step K G k x7 x8 y800000) h = step (fun x8 y800000 => Option.bind (K x8 y800000) h) (fun x8 y800000 => Option.bind (G x8 y800000) h) k x7 x8 y800000 := by
  simp only [step, bif_bind, sel_bind', Option.bind_assoc, Option.bind_none, Option.bind_some]
theorem go_nat {X Y : Type} (h : X → Option Y) (K : Int → (List Int) → Option X) (k : Nat) (x7 : (List Int)) (n : Nat) : ∀ (x8 : Int) (y800000 : (List Int)), Option.bind (go K k x7 n x8 y800000) h = go (fun x8 y800000 => Option.bind (K x8 y800000) h) k x7 n x8 y800000 := by
  induction n with
  | zero => intros; rfl
  | succ n ih => intro x8 y800000; show Option.bind (step K (go K k x7 n) k x7 x8 y800000) h = step (fun x8 y800000 => Option.bind (K x8 y800000) h) (go (fun x8 y800000 => Option.bind (K x8 y800000) h) k x7 n) k x7 x8 y800000; rw [step_nat h]; simp only [ih]
abbrev S : List (Nat × Sh) := [(3, .ptr 800000), (7, .data (.arr .u8 32)), (8, .data (.int .i64))]
abbrev H : List (Nat × ESh) := [(800000, .cell (.data (.arr .u8 64)))]
abbrev cl : List (Place × Nat × Hint) := []
abbrev hn : List (Nat × Hint) := [(3, .any), (7, .any), (8, .any)]
abbrev kp : List Nat := []
abbrev rc : List (Place × Nat × Hint) := []
abbrev rs : List (Nat × Hint) := []
abbrev ri : List Nat := []
def KX (d : (Unit × (List Int) × Int × Unit)) (e : ((List Int) × Unit)) (v : (Int × (List Int))) : St := ⟨mkS S ((), d.2.1, v.1, ()), mkH H (v.2, ())⟩
def sum (k : Nat) : LoopSum := sigLoopX S cl hn kp H 0 (fun (d : (Unit × (List Int) × Int × Unit)) (e : ((List Int) × Unit)) => f k d.2.1 k d.2.2.1 e.1) KX
end l0
def tree {X : Type} (K : (List Int) → Option X) (k : Nat) (a0 : (List Int)) : Option X :=
  (Option.bind (digest_Show.l0.f k a0 k (0 : Int) ([0, 0, 0, 0, 0, 0, 0, 0, 0, 0, 0, 0, 0, 0, 0, 0, 0, 0, 0, 0, 0, 0, 0, 0, 0, 0, 0, 0, 0, 0, 0, 0, 0, 0, 0, 0, 0, 0, 0, 0, 0, 0, 0, 0, 0, 0, 0, 0, 0, 0, 0, 0, 0, 0, 0, 0, 0, 0, 0, 0, 0, 0, 0, 0] : (List Int))) (fun r1 => (K (toStr (List.take 64 r1.2)))))
def f (k : Nat) (a0 : (List Int)) : Option (List Int) := tree (fun b0 => some b0) k a0
theorem tree_nat {X Y : Type} (h : X → Option Y) (K : (List Int) → Option X) (k : Nat) (a0 : (List Int)) : Option.bind (tree K k a0) h = tree (fun b0 => Option.bind (K b0) h) k a0 := by
  simp only [tree, bif_bind, sel_bind', Option.bind_assoc, Option.bind_none, Option.bind_some]
abbrev ps : List Sh := [.data (.arr .u8 32)]
abbrev hs : List (Nat × ESh) := []
abbrev hi : List Nat := hs.map (·.1)
abbrev fi : List Nat := []
abbrev cl : List (Place × Nat × Hint) := []
abbrev hn : List Hint := [.any]
def val (t : (List Int)) : AV := Sh.mk (.data .str) t
def wr (t : (List Int)) : Heap := []
def callee (k : Nat) : Callee := sigCallee ps hs (fun (d : ((List Int) × Unit)) (e : Unit) => f k d.1) val wr
def E (k : Nat) : Env := ⟨fnTab [], loopTab [(0, l0.sum k)], natsTab [], natTab []⟩
theorem fE (k : Nat) : ∀ f, ∀ c ∈ (E k).fn f, CalleeOK Tryd.prog f c := fnTab_ok trivial
namespace l0
theorem round (k : Nat) (d : (Unit × (List Int) × Int × Unit)) (e : ((List Int) × Unit)) (G : St → Option (Ex × St)) : roundK Tryd.prog (E k) 29 0 (subC (bodyOf Tryd.f28) [1, 1, 0, 1, 0, 0]) (recast cl hn kp) (finBy cl hn kp rc rs ri) G ⟨mkS S d, mkH H e⟩ =
    step (fun x8 y800000 => some (.exit 0, KX d e (x8, y800000))) (fun x8 y800000 => G ⟨mkS S ((), d.2.1, x8, ()), mkH H (y800000, ())⟩) k d.2.1 d.2.2.1 e.1 := by kernel_rfl
theorem it (k n : Nat) (d : (Unit × (List Int) × Int × Unit)) (e : ((List Int) × Unit)) : loopIt Tryd.prog (E k) 29 0 (subC (bodyOf Tryd.f28) [1, 1, 0, 1, 0, 0]) (recast cl hn kp) (finBy cl hn kp rc rs ri) n ⟨mkS S d, mkH H e⟩ = go (fun x8 y800000 => some (.exit 0, KX d e (x8, y800000))) k d.2.1 n d.2.2.1 e.1 :=
  loopIt_eq (D := (Unit × (List Int) × Int × Unit) × ((List Int) × Unit)) (fun p => ⟨mkS S p.1, mkH H p.2⟩) (fun F p => step (fun x8 y800000 => some (.exit 0, KX p.1 p.2 (x8, y800000))) (fun x8 y800000 => F (((), p.1.2.1, x8, ()), (y800000, ()))) k p.1.2.1 p.1.2.2.1 p.2.1) (fun n p => go (fun x8 y800000 => some (.exit 0, KX p.1 p.2 (x8, y800000))) k p.1.2.1 n p.1.2.2.1 p.2.1) (fun _ => rfl) (fun _ _ => rfl) (fun G p => round k p.1 p.2 G) n (d, e)
theorem ok (k : Nat) : LoopOK Tryd.prog 29 (subC (bodyOf Tryd.f28) [1, 1, 0, 1, 0, 0]) (sum k) :=
  loop_sigX hm (fE k) (loopsOK_of [] (by kernel_rfl) trivial) S cl hn kp H 0 (fun (d : (Unit × (List Int) × Int × Unit)) (e : ((List Int) × Unit)) => f k d.2.1 k d.2.2.1 e.1) KX cl hn kp rc rs ri k
    (fun d e => (it k k d e).trans (go_nat (fun v => some (Ex.exit 0, KX d e v)) (fun x8 y800000 => some (x8, y800000)) k d.2.1 k d.2.2.1 e.1).symm)
end l0
theorem run (k : Nat) (d : ((List Int) × Unit)) (e : Unit) : runFn Tryd.prog (E k) 29 (bodyOf Tryd.f28) Tryd.f28.results.toList cl hn hi (mkL ps d) (mkH hs e) =
    tree (fun b0 => leafFn hs fi e val wr b0) k d.1 := by kernel_rfl
theorem run_f (k : Nat) (d : ((List Int) × Unit)) (e : Unit) : runFn Tryd.prog (E k) 29 (bodyOf Tryd.f28) Tryd.f28.results.toList cl hn hi (mkL ps d) (mkH hs e) = (f k d.1).bind (leafFn hs fi e val wr) :=
  (run k d e).trans (tree_nat (leafFn hs fi e val wr) (fun b0 => some b0) k d.1).symm
theorem fnIs : FnIs Tryd.prog 28 Tryd.f28 (bodyOf Tryd.f28) 29 := ⟨by kernel_rfl, by kernel_rfl, by kernel_rfl, by kernel_rfl⟩
theorem ok (k : Nat) : CalleeOK Tryd.prog 28 (callee k) :=
  callee_sig (T := (List Int)) fnIs hm (fE k) (loopsOK_of [(0, subC (bodyOf Tryd.f28) [1, 1, 0, 1, 0, 0])] (by kernel_rfl) ⟨of_loop (l0.sum k) rfl (l0.ok k), trivial⟩) ps hs cl hn fi (fun (d : ((List Int) × Unit)) (e : Unit) => f k d.1) val wr rfl (fun _ => rfl) (run_f k)
end digest_Show
namespace trailheadlaw01_DigestShows
def tree {X : Type} (K : Bool → Option X) (k : Nat) (a0 : (List Int)) (m0 : (List Int)) (m1 : (List Int)) : Option X :=
  (Option.bind (trailheadlaw01_alive.f k m0 m1) (fun r1 => (bif (!r1) then (K false) else (Option.bind (digest_Show.f k a0) (fun r2 => (Option.bind (digest_Parse.f k r2) (fun r3 => (Option.bind (trailheadref01_Show.f k a0) (fun r4 => (bif (decide (r2 = r4)) then (bif (decide (r3.1 = a0)) then (K (r3.2 == (0 : Int))) else (K false)) else (K false)))))))))))
def f (k : Nat) (a0 : (List Int)) (m0 : (List Int)) (m1 : (List Int)) : Option Bool := tree (fun b0 => some b0) k a0 m0 m1
theorem tree_nat {X Y : Type} (h : X → Option Y) (K : Bool → Option X) (k : Nat) (a0 : (List Int)) (m0 : (List Int)) (m1 : (List Int)) : Option.bind (tree K k a0 m0 m1) h = tree (fun b0 => Option.bind (K b0) h) k a0 m0 m1 := by
  simp only [tree, bif_bind, sel_bind', Option.bind_assoc, Option.bind_none, Option.bind_some]
abbrev ps : List Sh := [.data (.arr .u8 32)]
abbrev hs : List (Nat × ESh) := [(0, .glob 0 (.arr .u32 8)), (1, .glob 1 (.arr .u32 64))]
abbrev hi : List Nat := hs.map (·.1)
abbrev fi : List Nat := [0, 1]
abbrev cl : List (Place × Nat × Hint) := []
abbrev hn : List Hint := [.any]
def val (t : Bool) : AV := Sh.mk (.data .bool) t
def wr (t : Bool) : Heap := []
def callee (k : Nat) : Callee := sigCallee ps hs (fun (d : ((List Int) × Unit)) (e : ((List Int) × (List Int) × Unit)) => f k d.1 e.1 e.2.1) val wr
def E (k : Nat) : Env := ⟨fnTab [(18, [trailheadlaw01_alive.callee k]), (28, [digest_Show.callee k]), (26, [digest_Parse.callee k]), (27, [trailheadref01_Show.callee k])], loopTab [], natsTab [(18, [0, 1])], natTab [(0, 0), (1, 1)]⟩
theorem fE (k : Nat) : ∀ f, ∀ c ∈ (E k).fn f, CalleeOK Tryd.prog f c := fnTab_ok ⟨⟨trailheadlaw01_alive.ok k, trivial⟩, ⟨digest_Show.ok k, trivial⟩, ⟨digest_Parse.ok k, trivial⟩, ⟨trailheadref01_Show.ok k, trivial⟩, trivial⟩
theorem run (k : Nat) (d : ((List Int) × Unit)) (e : ((List Int) × (List Int) × Unit)) : runFn Tryd.prog (E k) 28 (bodyOf Tryd.f7) Tryd.f7.results.toList cl hn hi (mkL ps d) (mkH hs e) =
    tree (fun b0 => leafFn hs fi e val wr b0) k d.1 e.1 e.2.1 := by kernel_rfl
theorem run_f (k : Nat) (d : ((List Int) × Unit)) (e : ((List Int) × (List Int) × Unit)) : runFn Tryd.prog (E k) 28 (bodyOf Tryd.f7) Tryd.f7.results.toList cl hn hi (mkL ps d) (mkH hs e) = (f k d.1 e.1 e.2.1).bind (leafFn hs fi e val wr) :=
  (run k d e).trans (tree_nat (leafFn hs fi e val wr) (fun b0 => some b0) k d.1 e.1 e.2.1).symm
theorem fnIs : FnIs Tryd.prog 7 Tryd.f7 (bodyOf Tryd.f7) 28 := ⟨by kernel_rfl, by kernel_rfl, by kernel_rfl, by kernel_rfl⟩
theorem ok (k : Nat) : CalleeOK Tryd.prog 7 (callee k) :=
  callee_sig (T := Bool) fnIs hm (fE k) (loopsOK_of [] (by kernel_rfl) trivial) ps hs cl hn fi (fun (d : ((List Int) × Unit)) (e : ((List Int) × (List Int) × Unit)) => f k d.1 e.1 e.2.1) val wr rfl (fun _ => rfl) (run_f k)
end trailheadlaw01_DigestShows
end Go.Proofs.YtnnajeoeeefjaaaDoor.Sy
