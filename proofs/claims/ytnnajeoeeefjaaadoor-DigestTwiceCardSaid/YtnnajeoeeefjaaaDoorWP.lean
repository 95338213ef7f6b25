/- What the Go functions come to, on data: printed by sypr.py. -/
import Derived.Test.YtnnajeoeeefjaaaDoorSy18
import Derived.Test.YtnnajeoeeefjaaaDoorProg
import Derived.Test.YtnnajeoeeefjaaaDoorWA
namespace Go.Proofs.YtnnajeoeeefjaaaDoor.Sy
open Go Go.Proofs
set_option maxRecDepth 100000
set_option linter.unusedVariables false
set_option linter.unusedSimpArgs false
namespace digest_Hasher_Write_v1
namespace l2
def step {X : Type} (K : (List Int) → Int → (List Int) → Option X) (G : (List Int) → Int → (List Int) → Option X) (k : Nat) (x9 : Int) (x10 : Int) (y1 : (List (List Int))) (y2 : (List Int)) (y0_0 : (List Int)) (y0_1 : Int) (y800004 : (List Int)) : Option X :=
  (bif (decide (((List.length y800004) : Int) ≥ (64 : Int))) then (bif (decide (64 ≤ ((List.length y800004) : Int))) then (Option.bind (digest_Hasher_take.f k y0_0 y0_1 (List.take 64 y800004) y2 y800004) (fun r1 => (bif (decide (64 ≤ ((List.length y800004) : Int))) then (G r1.1 r1.2 (List.drop 64 y800004)) else none))) else none) else (K y0_0 y0_1 y800004))
def go {X : Type} (K : (List Int) → Int → (List Int) → Option X) (k : Nat) (x9 : Int) (x10 : Int) (y1 : (List (List Int))) (y2 : (List Int)) : Nat → (List Int) → Int → (List Int) → Option X
  | 0, _, _, _ => none
  | n + 1, y0_0, y0_1, y800004 => step K (go K k x9 x10 y1 y2 n) k x9 x10 y1 y2 y0_0 y0_1 y800004
def f (k : Nat) (x9 : Int) (x10 : Int) (y1 : (List (List Int))) (y2 : (List Int)) (n : Nat) (y0_0 : (List Int)) (y0_1 : Int) (y800004 : (List Int)) : Option ((List Int) × (Int × (List Int))) := go (fun y0_0 y0_1 y800004 => some (y0_0, y0_1, y800004)) k x9 x10 y1 y2 n y0_0 y0_1 y800004
theorem step_nat {X Y : Type} (h : X → Option Y) (K : (List Int) → Int → (List Int) → Option X) (G : (List Int) → Int → (List Int) → Option X) (k : Nat) (x9 : Int) (x10 : Int) (y1 : (List (List Int))) (y2 : (List Int)) (y0_0 : (List Int)) (y0_1 : Int) (y800004 : (List Int)) : Option.bind (step K G k x9 x10 y1 y2 y0_0 y0_1 y800004) h = step (fun y0_0 y0_1 y800004 => Option.bind (K y0_0 y0_1 y800004) h) (fun y0_0 y0_1 y800004 => Option.bind (G y0_0 y0_1 y800004) h) k x9 x10 y1 y2 y0_0 y0_1 y800004 := by
  simp only [step, bif_bind, sel_bind', Option.bind_assoc, Option.bind_none, Option.bind_some]
theorem go_nat {X Y : Type} (h : X → Option Y) (K : (List Int) → Int → (List Int) → Option X) (k : Nat) (x9 : Int) (x10 : Int) (y1 : (List (List Int))) (y2 : (List Int)) (n : Nat) : ∀ (y0_0 : (List Int)) (y0_1 : Int) (y800004 : (List Int)), Option.bind (go K k x9 x10 y1 y2 n y0_0 y0_1 y800004) h = go (fun y0_0 y0_1 y800004 => Option.bind (K y0_0 y0_1 y800004) h) k x9 x10 y1 y2 n y0_0 y0_1 y800004 := by
  induction n with
  | zero => intros; rfl
  | succ n ih => intro y0_0 y0_1 y800004; show Option.bind (step K (go K k x9 x10 y1 y2 n) k x9 x10 y1 y2 y0_0 y0_1 y800004) h = step (fun y0_0 y0_1 y800004 => Option.bind (K y0_0 y0_1 y800004) h) (go (fun y0_0 y0_1 y800004 => Option.bind (K y0_0 y0_1 y800004) h) k x9 x10 y1 y2 n) k x9 x10 y1 y2 y0_0 y0_1 y800004; rw [step_nat h]; simp only [ih]
abbrev S : List (Nat × Sh) := [(0, .ptr 0), (8, .vec 1), (9, .data (.int .i64)), (10, .data (.int .i64))]
abbrev H : List (Nat × ESh) := [(0, .cell (.pair (.data (.arr .u32 8)) (.pair (.vec 800004) (.data (.int .u64))))), (1, .rows 2 9 .str), (2, .glob 1 (.arr .u32 64)), (3, .dead), (800004, .rows 1 5 (.int .u8))]
abbrev cl : List (Place × Nat × Hint) := []
abbrev hn : List (Nat × Hint) := [(0, .any), (8, .any), (9, .any), (10, .any)]
abbrev kp : List Nat := [0, 1, 2, 3]
abbrev rc : List (Place × Nat × Hint) := []
abbrev rs : List (Nat × Hint) := []
abbrev ri : List Nat := [0, 1, 2, 3]
def KX (d : (Unit × Unit × Int × Int × Unit)) (e : (((List Int) × (Unit × Int)) × (List (List Int)) × (List Int) × Unit × (List Int) × Unit)) (v : ((List Int) × (Int × (List Int)))) : St := ⟨mkS S ((), (), d.2.2.1, d.2.2.2.1, ()), mkH H ((v.1, ((), v.2.1)), e.2.1, e.2.2.1, (), v.2.2, ())⟩
def sum (k : Nat) : LoopSum := sigLoopX S cl hn kp H 2 (fun (d : (Unit × Unit × Int × Int × Unit)) (e : (((List Int) × (Unit × Int)) × (List (List Int)) × (List Int) × Unit × (List Int) × Unit)) => f k d.2.2.1 d.2.2.2.1 e.2.1 e.2.2.1 k e.1.1 e.1.2.2 e.2.2.2.2.1) KX
end l2
namespace l0
def step {X : Type} (K : Int → (List Int) → Int → (List Int) → Option X) (G : Int → (List Int) → Int → (List Int) → Option X) (k : Nat) (x9 : Int) (y1 : (List (List Int))) (y2 : (List Int)) (x10 : Int) (y0_0 : (List Int)) (y0_1 : Int) (y800004 : (List Int)) : Option X :=
  (bif (decide (x10 < x9)) then (bif (decide (0 ≤ x10)) then (bif (decide (x10 < ((List.length y1) : Int))) then (bif (decide ((Int.toNat x10) < (List.length y1))) then (bif (fits (((List.length y800004) + (List.length (List.getD y1 (Int.toNat x10) ([] : (List Int))))) * 1)) then (Option.bind (digest_Hasher_Write_v1.l2.f k x9 x10 y1 y2 k y0_0 (addI .u64 y0_1 (IntKind.wrap .u64 ((List.length (List.getD y1 (Int.toNat x10) ([] : (List Int)))) : Int))) (y800004 ++ (List.getD y1 (Int.toNat x10) ([] : (List Int))))) (fun r2 => (G (addI .i64 x10 1) r2.1 r2.2.1 r2.2.2))) else none) else none) else none) else none) else (K x10 y0_0 y0_1 y800004))
def go {X : Type} (K : Int → (List Int) → Int → (List Int) → Option X) (k : Nat) (x9 : Int) (y1 : (List (List Int))) (y2 : (List Int)) : Nat → Int → (List Int) → Int → (List Int) → Option X
  | 0, _, _, _, _ => none
  | n + 1, x10, y0_0, y0_1, y800004 => step K (go K k x9 y1 y2 n) k x9 y1 y2 x10 y0_0 y0_1 y800004
def f (k : Nat) (x9 : Int) (y1 : (List (List Int))) (y2 : (List Int)) (n : Nat) (x10 : Int) (y0_0 : (List Int)) (y0_1 : Int) (y800004 : (List Int)) : Option (Int × ((List Int) × (Int × (List Int)))) := go (fun x10 y0_0 y0_1 y800004 => some (x10, y0_0, y0_1, y800004)) k x9 y1 y2 n x10 y0_0 y0_1 y800004
theorem step_nat {X Y : Type} (h : X → Option Y) (K : Int → (List Int) → Int → (List Int) → Option X) (G : Int → (List Int) → Int → (List Int) → Option X) (k : Nat) (x9 : Int) (y1 : (List (List Int))) (y2 : (List Int)) (x10 : Int) (y0_0 : (List Int)) (y0_1 : Int) (y800004 : (List Int)) : Option.bind (step K G k x9 y1 y2 x10 y0_0 y0_1 y800004) h = step (fun x10 y0_0 y0_1 y800004 => Option.bind (K x10 y0_0 y0_1 y800004) h) (fun x10 y0_0 y0_1 y800004 => Option.bind (G x10 y0_0 y0_1 y800004) h) k x9 y1 y2 x10 y0_0 y0_1 y800004 := by
  simp only [step, bif_bind, sel_bind', Option.bind_assoc, Option.bind_none, Option.bind_some]
theorem go_nat {X Y : Type} (h : X → Option Y) (K : Int → (List Int) → Int → (List Int) → Option X) (k : Nat) (x9 : Int) (y1 : (List (List Int))) (y2 : (List Int)) (n : Nat) : ∀ (x10 : Int) (y0_0 : (List Int)) (y0_1 : Int) (y800004 : (List Int)), Option.bind (go K k x9 y1 y2 n x10 y0_0 y0_1 y800004) h = go (fun x10 y0_0 y0_1 y800004 => Option.bind (K x10 y0_0 y0_1 y800004) h) k x9 y1 y2 n x10 y0_0 y0_1 y800004 := by
  induction n with
  | zero => intros; rfl
  | succ n ih => intro x10 y0_0 y0_1 y800004; show Option.bind (step K (go K k x9 y1 y2 n) k x9 y1 y2 x10 y0_0 y0_1 y800004) h = step (fun x10 y0_0 y0_1 y800004 => Option.bind (K x10 y0_0 y0_1 y800004) h) (go (fun x10 y0_0 y0_1 y800004 => Option.bind (K x10 y0_0 y0_1 y800004) h) k x9 y1 y2 n) k x9 y1 y2 x10 y0_0 y0_1 y800004; rw [step_nat h]; simp only [ih]
abbrev S : List (Nat × Sh) := [(0, .ptr 0), (8, .vec 1), (9, .data (.int .i64)), (10, .data (.int .i64))]
abbrev H : List (Nat × ESh) := [(0, .cell (.pair (.data (.arr .u32 8)) (.pair (.vec 800004) (.data (.int .u64))))), (1, .rows 2 9 .str), (2, .glob 1 (.arr .u32 64)), (3, .dead), (800004, .rows 1 5 (.int .u8))]
abbrev cl : List (Place × Nat × Hint) := [(.id 0, 8, .move)]
abbrev hn : List (Nat × Hint) := [(0, .any), (8, .any), (9, .any), (10, .any)]
abbrev kp : List Nat := [0, 1, 2, 3]
abbrev rc : List (Place × Nat × Hint) := []
abbrev rs : List (Nat × Hint) := []
abbrev ri : List Nat := [0, 1, 2, 3]
def KX (d : (Unit × Unit × Int × Int × Unit)) (e : (((List Int) × (Unit × Int)) × (List (List Int)) × (List Int) × Unit × (List Int) × Unit)) (v : (Int × ((List Int) × (Int × (List Int))))) : St := ⟨mkS S ((), (), d.2.2.1, v.1, ()), mkH H ((v.2.1, ((), v.2.2.1)), e.2.1, e.2.2.1, (), v.2.2.2, ())⟩
def sum (k : Nat) : LoopSum := sigLoopX S cl hn kp H 0 (fun (d : (Unit × Unit × Int × Int × Unit)) (e : (((List Int) × (Unit × Int)) × (List (List Int)) × (List Int) × Unit × (List Int) × Unit)) => f k d.2.2.1 e.2.1 e.2.2.1 k d.2.2.2.1 e.1.1 e.1.2.2 e.2.2.2.2.1) KX
end l0
def tree {X : Type} (K : (List Int) → Int → (List Int) → Option X) (k : Nat) (m0_0 : (List Int)) (m0_1 : Int) (m1 : (List (List Int))) (m2 : (List Int)) (m3 : (List Int)) : Option X :=
  (Option.bind (digest_Hasher_Write_v1.l0.f k ((List.length m1) : Int) m1 m2 k (0 : Int) m0_0 m0_1 m3) (fun r3 => (K r3.2.1 r3.2.2.1 r3.2.2.2)))
def f (k : Nat) (m0_0 : (List Int)) (m0_1 : Int) (m1 : (List (List Int))) (m2 : (List Int)) (m3 : (List Int)) : Option ((List Int) × (Int × (List Int))) := tree (fun b0 b1 b2 => some (b0, b1, b2)) k m0_0 m0_1 m1 m2 m3
theorem tree_nat {X Y : Type} (h : X → Option Y) (K : (List Int) → Int → (List Int) → Option X) (k : Nat) (m0_0 : (List Int)) (m0_1 : Int) (m1 : (List (List Int))) (m2 : (List Int)) (m3 : (List Int)) : Option.bind (tree K k m0_0 m0_1 m1 m2 m3) h = tree (fun b0 b1 b2 => Option.bind (K b0 b1 b2) h) k m0_0 m0_1 m1 m2 m3 := by
  simp only [tree, bif_bind, sel_bind', Option.bind_assoc, Option.bind_none, Option.bind_some]
abbrev ps : List Sh := [.ptr 0, .vec 1]
abbrev hs : List (Nat × ESh) := [(0, .cell (.pair (.data (.arr .u32 8)) (.pair (.vec 3) (.data (.int .u64))))), (1, .rows 2 9 .str), (2, .glob 1 (.arr .u32 64)), (3, .rows 1 5 (.int .u8))]
abbrev hi : List Nat := hs.map (·.1)
abbrev fi : List Nat := [0, 1, 2, 3, 900004]
abbrev cl : List (Place × Nat × Hint) := []
abbrev hn : List Hint := []
def val (t : ((List Int) × (Int × (List Int)))) : AV := .tnil
def wr (t : ((List Int) × (Int × (List Int)))) : Heap := [(0, ESh.mk (.cell (.pair (.data (.arr .u32 8)) (.pair (.vec 900004) (.data (.int .u64))))) (t.1, ((), t.2.1))), (3, ESh.mk (.dead) ()), (900004, ESh.mk (.rows 1 5 (.int .u8)) t.2.2)]
def callee (k : Nat) : Callee := sigCallee ps hs (fun (d : (Unit × Unit × Unit)) (e : (((List Int) × (Unit × Int)) × (List (List Int)) × (List Int) × (List Int) × Unit)) => f k e.1.1 e.1.2.2 e.2.1 e.2.2.1 e.2.2.2.1) val wr
def E (k : Nat) : Env := ⟨fnTab [(62, [digest_Hasher_take.callee k])], loopTab [(2, l2.sum k), (0, l0.sum k)], natsTab [(62, [2])], natTab [(1, 2)]⟩
theorem fE (k : Nat) : ∀ f, ∀ c ∈ (E k).fn f, CalleeOK Tryd.prog f c := fnTab_ok ⟨⟨digest_Hasher_take.ok k, trivial⟩, trivial⟩
namespace l2
theorem round (k : Nat) (d : (Unit × Unit × Int × Int × Unit)) (e : (((List Int) × (Unit × Int)) × (List (List Int)) × (List Int) × Unit × (List Int) × Unit)) (G : St → Option (Ex × St)) : roundK Tryd.prog (E k) 55 2 (subC (bodyOf Tryd.f24) [1, 1, 0, 0, 1, 1, 0, 0, 1, 1, 1, 0, 0]) (recast cl hn kp) (finBy cl hn kp rc rs ri) G ⟨mkS S d, mkH H e⟩ =
    step (fun y0_0 y0_1 y800004 => some (.exit 2, KX d e (y0_0, y0_1, y800004))) (fun y0_0 y0_1 y800004 => G ⟨mkS S ((), (), d.2.2.1, d.2.2.2.1, ()), mkH H ((y0_0, ((), y0_1)), e.2.1, e.2.2.1, (), y800004, ())⟩) k d.2.2.1 d.2.2.2.1 e.2.1 e.2.2.1 e.1.1 e.1.2.2 e.2.2.2.2.1 := by kernel_rfl
theorem it (k n : Nat) (d : (Unit × Unit × Int × Int × Unit)) (e : (((List Int) × (Unit × Int)) × (List (List Int)) × (List Int) × Unit × (List Int) × Unit)) : loopIt Tryd.prog (E k) 55 2 (subC (bodyOf Tryd.f24) [1, 1, 0, 0, 1, 1, 0, 0, 1, 1, 1, 0, 0]) (recast cl hn kp) (finBy cl hn kp rc rs ri) n ⟨mkS S d, mkH H e⟩ = go (fun y0_0 y0_1 y800004 => some (.exit 2, KX d e (y0_0, y0_1, y800004))) k d.2.2.1 d.2.2.2.1 e.2.1 e.2.2.1 n e.1.1 e.1.2.2 e.2.2.2.2.1 :=
  loopIt_eq (D := (Unit × Unit × Int × Int × Unit) × (((List Int) × (Unit × Int)) × (List (List Int)) × (List Int) × Unit × (List Int) × Unit)) (fun p => ⟨mkS S p.1, mkH H p.2⟩) (fun F p => step (fun y0_0 y0_1 y800004 => some (.exit 2, KX p.1 p.2 (y0_0, y0_1, y800004))) (fun y0_0 y0_1 y800004 => F (((), (), p.1.2.2.1, p.1.2.2.2.1, ()), ((y0_0, ((), y0_1)), p.2.2.1, p.2.2.2.1, (), y800004, ()))) k p.1.2.2.1 p.1.2.2.2.1 p.2.2.1 p.2.2.2.1 p.2.1.1 p.2.1.2.2 p.2.2.2.2.2.1) (fun n p => go (fun y0_0 y0_1 y800004 => some (.exit 2, KX p.1 p.2 (y0_0, y0_1, y800004))) k p.1.2.2.1 p.1.2.2.2.1 p.2.2.1 p.2.2.2.1 n p.2.1.1 p.2.1.2.2 p.2.2.2.2.2.1) (fun _ => rfl) (fun _ _ => rfl) (fun G p => round k p.1 p.2 G) n (d, e)
theorem ok (k : Nat) : LoopOK Tryd.prog 55 (subC (bodyOf Tryd.f24) [1, 1, 0, 0, 1, 1, 0, 0, 1, 1, 1, 0, 0]) (sum k) :=
  loop_sigX hm (fE k) (loopsOK_of [] (by kernel_rfl) trivial) S cl hn kp H 2 (fun (d : (Unit × Unit × Int × Int × Unit)) (e : (((List Int) × (Unit × Int)) × (List (List Int)) × (List Int) × Unit × (List Int) × Unit)) => f k d.2.2.1 d.2.2.2.1 e.2.1 e.2.2.1 k e.1.1 e.1.2.2 e.2.2.2.2.1) KX cl hn kp rc rs ri k
    (fun d e => (it k k d e).trans (go_nat (fun v => some (Ex.exit 2, KX d e v)) (fun y0_0 y0_1 y800004 => some (y0_0, y0_1, y800004)) k d.2.2.1 d.2.2.2.1 e.2.1 e.2.2.1 k e.1.1 e.1.2.2 e.2.2.2.2.1).symm)
end l2
namespace l0
theorem round (k : Nat) (d : (Unit × Unit × Int × Int × Unit)) (e : (((List Int) × (Unit × Int)) × (List (List Int)) × (List Int) × Unit × (List Int) × Unit)) (G : St → Option (Ex × St)) : roundK Tryd.prog (E k) 55 0 (subC (bodyOf Tryd.f24) [1, 1, 0, 0]) (recast cl hn kp) (finBy cl hn kp rc rs ri) G ⟨mkS S d, mkH H e⟩ =
    step (fun x10 y0_0 y0_1 y800004 => some (.exit 0, KX d e (x10, y0_0, y0_1, y800004))) (fun x10 y0_0 y0_1 y800004 => G ⟨mkS S ((), (), d.2.2.1, x10, ()), mkH H ((y0_0, ((), y0_1)), e.2.1, e.2.2.1, (), y800004, ())⟩) k d.2.2.1 e.2.1 e.2.2.1 d.2.2.2.1 e.1.1 e.1.2.2 e.2.2.2.2.1 := by kernel_rfl
theorem it (k n : Nat) (d : (Unit × Unit × Int × Int × Unit)) (e : (((List Int) × (Unit × Int)) × (List (List Int)) × (List Int) × Unit × (List Int) × Unit)) : loopIt Tryd.prog (E k) 55 0 (subC (bodyOf Tryd.f24) [1, 1, 0, 0]) (recast cl hn kp) (finBy cl hn kp rc rs ri) n ⟨mkS S d, mkH H e⟩ = go (fun x10 y0_0 y0_1 y800004 => some (.exit 0, KX d e (x10, y0_0, y0_1, y800004))) k d.2.2.1 e.2.1 e.2.2.1 n d.2.2.2.1 e.1.1 e.1.2.2 e.2.2.2.2.1 :=
  loopIt_eq (D := (Unit × Unit × Int × Int × Unit) × (((List Int) × (Unit × Int)) × (List (List Int)) × (List Int) × Unit × (List Int) × Unit)) (fun p => ⟨mkS S p.1, mkH H p.2⟩) (fun F p => step (fun x10 y0_0 y0_1 y800004 => some (.exit 0, KX p.1 p.2 (x10, y0_0, y0_1, y800004))) (fun x10 y0_0 y0_1 y800004 => F (((), (), p.1.2.2.1, x10, ()), ((y0_0, ((), y0_1)), p.2.2.1, p.2.2.2.1, (), y800004, ()))) k p.1.2.2.1 p.2.2.1 p.2.2.2.1 p.1.2.2.2.1 p.2.1.1 p.2.1.2.2 p.2.2.2.2.2.1) (fun n p => go (fun x10 y0_0 y0_1 y800004 => some (.exit 0, KX p.1 p.2 (x10, y0_0, y0_1, y800004))) k p.1.2.2.1 p.2.2.1 p.2.2.2.1 n p.1.2.2.2.1 p.2.1.1 p.2.1.2.2 p.2.2.2.2.2.1) (fun _ => rfl) (fun _ _ => rfl) (fun G p => round k p.1 p.2 G) n (d, e)
theorem ok (k : Nat) : LoopOK Tryd.prog 55 (subC (bodyOf Tryd.f24) [1, 1, 0, 0]) (sum k) :=
  loop_sigX hm (fE k) (loopsOK_of [(2, subC (bodyOf Tryd.f24) [1, 1, 0, 0, 1, 1, 0, 0, 1, 1, 1, 0, 0])] (by kernel_rfl) ⟨of_loop (l2.sum k) rfl (l2.ok k), trivial⟩) S cl hn kp H 0 (fun (d : (Unit × Unit × Int × Int × Unit)) (e : (((List Int) × (Unit × Int)) × (List (List Int)) × (List Int) × Unit × (List Int) × Unit)) => f k d.2.2.1 e.2.1 e.2.2.1 k d.2.2.2.1 e.1.1 e.1.2.2 e.2.2.2.2.1) KX cl hn kp rc rs ri k
    (fun d e => (it k k d e).trans (go_nat (fun v => some (Ex.exit 0, KX d e v)) (fun x10 y0_0 y0_1 y800004 => some (x10, y0_0, y0_1, y800004)) k d.2.2.1 e.2.1 e.2.2.1 k d.2.2.2.1 e.1.1 e.1.2.2 e.2.2.2.2.1).symm)
end l0
theorem run (k : Nat) (d : (Unit × Unit × Unit)) (e : (((List Int) × (Unit × Int)) × (List (List Int)) × (List Int) × (List Int) × Unit)) : runFn Tryd.prog (E k) 55 (bodyOf Tryd.f24) Tryd.f24.results.toList cl hn hi (mkL ps d) (mkH hs e) =
    tree (fun b0 b1 b2 => leafFn hs fi e val wr (b0, b1, b2)) k e.1.1 e.1.2.2 e.2.1 e.2.2.1 e.2.2.2.1 := by kernel_rfl
theorem run_f (k : Nat) (d : (Unit × Unit × Unit)) (e : (((List Int) × (Unit × Int)) × (List (List Int)) × (List Int) × (List Int) × Unit)) : runFn Tryd.prog (E k) 55 (bodyOf Tryd.f24) Tryd.f24.results.toList cl hn hi (mkL ps d) (mkH hs e) = (f k e.1.1 e.1.2.2 e.2.1 e.2.2.1 e.2.2.2.1).bind (leafFn hs fi e val wr) :=
  (run k d e).trans (tree_nat (leafFn hs fi e val wr) (fun b0 b1 b2 => some (b0, b1, b2)) k e.1.1 e.1.2.2 e.2.1 e.2.2.1 e.2.2.2.1).symm
theorem fnIs : FnIs Tryd.prog 24 Tryd.f24 (bodyOf Tryd.f24) 55 := ⟨by kernel_rfl, by kernel_rfl, by kernel_rfl, by kernel_rfl⟩
theorem ok (k : Nat) : CalleeOK Tryd.prog 24 (callee k) :=
  callee_sig (T := ((List Int) × (Int × (List Int)))) fnIs hm (fE k) (loopsOK_of [(0, subC (bodyOf Tryd.f24) [1, 1, 0, 0])] (by kernel_rfl) ⟨of_loop (l0.sum k) rfl (l0.ok k), trivial⟩) ps hs cl hn fi (fun (d : (Unit × Unit × Unit)) (e : (((List Int) × (Unit × Int)) × (List (List Int)) × (List Int) × (List Int) × Unit)) => f k e.1.1 e.1.2.2 e.2.1 e.2.2.1 e.2.2.2.1) val wr rfl (fun _ => rfl) (run_f k)
end digest_Hasher_Write_v1
namespace digest_Hasher_Write_v2
def tree {X : Type} (K : Option X) (k : Nat) (m0 : (List (List Int))) (m1 : (List Int)) : Option X :=
  (K)
def f (k : Nat) (m0 : (List (List Int))) (m1 : (List Int)) : Option Unit := tree (some ()) k m0 m1
theorem tree_nat {X Y : Type} (h : X → Option Y) (K : Option X) (k : Nat) (m0 : (List (List Int))) (m1 : (List Int)) : Option.bind (tree K k m0 m1) h = tree (Option.bind (K) h) k m0 m1 := by
  simp only [tree, bif_bind, sel_bind', Option.bind_assoc, Option.bind_none, Option.bind_some]
abbrev ps : List Sh := [.nilp, .vec 0]
abbrev hs : List (Nat × ESh) := [(0, .rows 2 9 .str), (1, .glob 1 (.arr .u32 64))]
abbrev hi : List Nat := hs.map (·.1)
abbrev fi : List Nat := [0, 1]
abbrev cl : List (Place × Nat × Hint) := []
abbrev hn : List Hint := []
def val (t : Unit) : AV := .tnil
def wr (t : Unit) : Heap := []
def callee (k : Nat) : Callee := sigCallee ps hs (fun (d : (Unit × Unit × Unit)) (e : ((List (List Int)) × (List Int) × Unit)) => f k e.1 e.2.1) val wr
def E (k : Nat) : Env := ⟨fnTab [], loopTab [], natsTab [], natTab [(1, 1)]⟩
theorem fE (k : Nat) : ∀ f, ∀ c ∈ (E k).fn f, CalleeOK Tryd.prog f c := fnTab_ok trivial
theorem run (k : Nat) (d : (Unit × Unit × Unit)) (e : ((List (List Int)) × (List Int) × Unit)) : runFn Tryd.prog (E k) 55 (bodyOf Tryd.f24) Tryd.f24.results.toList cl hn hi (mkL ps d) (mkH hs e) =
    tree (leafFn hs fi e val wr ()) k e.1 e.2.1 := by kernel_rfl
theorem run_f (k : Nat) (d : (Unit × Unit × Unit)) (e : ((List (List Int)) × (List Int) × Unit)) : runFn Tryd.prog (E k) 55 (bodyOf Tryd.f24) Tryd.f24.results.toList cl hn hi (mkL ps d) (mkH hs e) = (f k e.1 e.2.1).bind (leafFn hs fi e val wr) :=
  (run k d e).trans (tree_nat (leafFn hs fi e val wr) (some ()) k e.1 e.2.1).symm
theorem fnIs : FnIs Tryd.prog 24 Tryd.f24 (bodyOf Tryd.f24) 55 := ⟨by kernel_rfl, by kernel_rfl, by kernel_rfl, by kernel_rfl⟩
theorem ok (k : Nat) : CalleeOK Tryd.prog 24 (callee k) :=
  callee_sig (T := Unit) fnIs hm (fE k) (loopsOK_of [(0, subC (bodyOf Tryd.f24) [1, 1, 0, 0])] (by kernel_rfl) ⟨no_loop rfl, trivial⟩) ps hs cl hn fi (fun (d : (Unit × Unit × Unit)) (e : ((List (List Int)) × (List Int) × Unit)) => f k e.1 e.2.1) val wr rfl (fun _ => rfl) (run_f k)
end digest_Hasher_Write_v2
namespace digest_Hasher_Write_v3
namespace l2
def step {X : Type} (K : (List Int) → Int → (List Int) → Option X) (G : (List Int) → Int → (List Int) → Option X) (k : Nat) (x9 : Int) (x10 : Int) (y1 : (List (List Int))) (y2 : (List Int)) (y0_0 : (List Int)) (y0_1 : Int) (y800003 : (List Int)) : Option X :=
  (bif (decide (((List.length y800003) : Int) ≥ (64 : Int))) then (bif (decide (64 ≤ ((List.length y800003) : Int))) then (Option.bind (digest_Hasher_take.f k y0_0 y0_1 (List.take 64 y800003) y2 y800003) (fun r1 => (bif (decide (64 ≤ ((List.length y800003) : Int))) then (G r1.1 r1.2 (List.drop 64 y800003)) else none))) else none) else (K y0_0 y0_1 y800003))
def go {X : Type} (K : (List Int) → Int → (List Int) → Option X) (k : Nat) (x9 : Int) (x10 : Int) (y1 : (List (List Int))) (y2 : (List Int)) : Nat → (List Int) → Int → (List Int) → Option X
  | 0, _, _, _ => none
  | n + 1, y0_0, y0_1, y800003 => step K (go K k x9 x10 y1 y2 n) k x9 x10 y1 y2 y0_0 y0_1 y800003
def f (k : Nat) (x9 : Int) (x10 : Int) (y1 : (List (List Int))) (y2 : (List Int)) (n : Nat) (y0_0 : (List Int)) (y0_1 : Int) (y800003 : (List Int)) : Option ((List Int) × (Int × (List Int))) := go (fun y0_0 y0_1 y800003 => some (y0_0, y0_1, y800003)) k x9 x10 y1 y2 n y0_0 y0_1 y800003
theorem step_nat {X Y : Type} (h : X → Option Y) (K : (List Int) → Int → (List Int) → Option X) (G : (List Int) → Int → (List Int) → Option X) (k : Nat) (x9 : Int) (x10 : Int) (y1 : (List (List Int))) (y2 : (List Int)) (y0_0 : (List Int)) (y0_1 : Int) (y800003 : (List Int)) : Option.bind (step K G k x9 x10 y1 y2 y0_0 y0_1 y800003) h = step (fun y0_0 y0_1 y800003 => Option.bind (K y0_0 y0_1 y800003) h) (fun y0_0 y0_1 y800003 => Option.bind (G y0_0 y0_1 y800003) h) k x9 x10 y1 y2 y0_0 y0_1 y800003 := by
  simp only [step, bif_bind, sel_bind', Option.bind_assoc, Option.bind_none, Option.bind_some]
theorem go_nat {X Y : Type} (h : X → Option Y) (K : (List Int) → Int → (List Int) → Option X) (k : Nat) (x9 : Int) (x10 : Int) (y1 : (List (List Int))) (y2 : (List Int)) (n : Nat) : ∀ (y0_0 : (List Int)) (y0_1 : Int) (y800003 : (List Int)), Option.bind (go K k x9 x10 y1 y2 n y0_0 y0_1 y800003) h = go (fun y0_0 y0_1 y800003 => Option.bind (K y0_0 y0_1 y800003) h) k x9 x10 y1 y2 n y0_0 y0_1 y800003 := by
  induction n with
  | zero => intros; rfl
  | succ n ih => intro y0_0 y0_1 y800003; show Option.bind (step K (go K k x9 x10 y1 y2 n) k x9 x10 y1 y2 y0_0 y0_1 y800003) h = step (fun y0_0 y0_1 y800003 => Option.bind (K y0_0 y0_1 y800003) h) (go (fun y0_0 y0_1 y800003 => Option.bind (K y0_0 y0_1 y800003) h) k x9 x10 y1 y2 n) k x9 x10 y1 y2 y0_0 y0_1 y800003; rw [step_nat h]; simp only [ih]
abbrev S : List (Nat × Sh) := [(0, .ptr 0), (8, .vec 1), (9, .data (.int .i64)), (10, .data (.int .i64))]
abbrev H : List (Nat × ESh) := [(0, .cell (.pair (.data (.arr .u32 8)) (.pair (.vec 800003) (.data (.int .u64))))), (1, .rows 0 9 .str), (2, .glob 1 (.arr .u32 64)), (800003, .rows 1 5 (.int .u8))]
abbrev cl : List (Place × Nat × Hint) := [(.id 0, 8, (.row 1 5 (.int .u8)))]
abbrev hn : List (Nat × Hint) := [(0, .any), (8, .any), (9, .any), (10, .any)]
abbrev kp : List Nat := [0, 1, 2]
abbrev rc : List (Place × Nat × Hint) := []
abbrev rs : List (Nat × Hint) := []
abbrev ri : List Nat := [0, 1, 2]
def KX (d : (Unit × Unit × Int × Int × Unit)) (e : (((List Int) × (Unit × Int)) × (List (List Int)) × (List Int) × (List Int) × Unit)) (v : ((List Int) × (Int × (List Int)))) : St := ⟨mkS S ((), (), d.2.2.1, d.2.2.2.1, ()), mkH H ((v.1, ((), v.2.1)), e.2.1, e.2.2.1, v.2.2, ())⟩
def sum (k : Nat) : LoopSum := sigLoopX S cl hn kp H 2 (fun (d : (Unit × Unit × Int × Int × Unit)) (e : (((List Int) × (Unit × Int)) × (List (List Int)) × (List Int) × (List Int) × Unit)) => f k d.2.2.1 d.2.2.2.1 e.2.1 e.2.2.1 k e.1.1 e.1.2.2 e.2.2.2.1) KX
end l2
namespace l0
def step {X : Type} (K : Int → (List Int) → Int → (List Int) → Option X) (G : Int → (List Int) → Int → (List Int) → Option X) (k : Nat) (x9 : Int) (y1 : (List (List Int))) (y2 : (List Int)) (x10 : Int) (y0_0 : (List Int)) (y0_1 : Int) (y800003 : (List Int)) : Option X :=
  (bif (decide (x10 < x9)) then (bif (decide (0 ≤ x10)) then (bif (decide (x10 < ((List.length y1) : Int))) then (bif (decide ((Int.toNat x10) < (List.length y1))) then (bif (fits (((List.length y800003) + (List.length (List.getD y1 (Int.toNat x10) ([] : (List Int))))) * 1)) then (Option.bind (digest_Hasher_Write_v3.l2.f k x9 x10 y1 y2 k y0_0 (addI .u64 y0_1 (IntKind.wrap .u64 ((List.length (List.getD y1 (Int.toNat x10) ([] : (List Int)))) : Int))) (y800003 ++ (List.getD y1 (Int.toNat x10) ([] : (List Int))))) (fun r2 => (G (addI .i64 x10 1) r2.1 r2.2.1 r2.2.2))) else none) else none) else none) else none) else (K x10 y0_0 y0_1 y800003))
def go {X : Type} (K : Int → (List Int) → Int → (List Int) → Option X) (k : Nat) (x9 : Int) (y1 : (List (List Int))) (y2 : (List Int)) : Nat → Int → (List Int) → Int → (List Int) → Option X
  | 0, _, _, _, _ => none
  | n + 1, x10, y0_0, y0_1, y800003 => step K (go K k x9 y1 y2 n) k x9 y1 y2 x10 y0_0 y0_1 y800003
def f (k : Nat) (x9 : Int) (y1 : (List (List Int))) (y2 : (List Int)) (n : Nat) (x10 : Int) (y0_0 : (List Int)) (y0_1 : Int) (y800003 : (List Int)) : Option (Int × ((List Int) × (Int × (List Int)))) := go (fun x10 y0_0 y0_1 y800003 => some (x10, y0_0, y0_1, y800003)) k x9 y1 y2 n x10 y0_0 y0_1 y800003
theorem step_nat {X Y : Type} (h : X → Option Y) (K : Int → (List Int) → Int → (List Int) → Option X) (G : Int → (List Int) → Int → (List Int) → Option X) (k : Nat) (x9 : Int) (y1 : (List (List Int))) (y2 : (List Int)) (x10 : Int) (y0_0 : (List Int)) (y0_1 : Int) (y800003 : (List Int)) : Option.bind (step K G k x9 y1 y2 x10 y0_0 y0_1 y800003) h = step (fun x10 y0_0 y0_1 y800003 => Option.bind (K x10 y0_0 y0_1 y800003) h) (fun x10 y0_0 y0_1 y800003 => Option.bind (G x10 y0_0 y0_1 y800003) h) k x9 y1 y2 x10 y0_0 y0_1 y800003 := by
  simp only [step, bif_bind, sel_bind', Option.bind_assoc, Option.bind_none, Option.bind_some]
theorem go_nat {X Y : Type} (h : X → Option Y) (K : Int → (List Int) → Int → (List Int) → Option X) (k : Nat) (x9 : Int) (y1 : (List (List Int))) (y2 : (List Int)) (n : Nat) : ∀ (x10 : Int) (y0_0 : (List Int)) (y0_1 : Int) (y800003 : (List Int)), Option.bind (go K k x9 y1 y2 n x10 y0_0 y0_1 y800003) h = go (fun x10 y0_0 y0_1 y800003 => Option.bind (K x10 y0_0 y0_1 y800003) h) k x9 y1 y2 n x10 y0_0 y0_1 y800003 := by
  induction n with
  | zero => intros; rfl
  | succ n ih => intro x10 y0_0 y0_1 y800003; show Option.bind (step K (go K k x9 y1 y2 n) k x9 y1 y2 x10 y0_0 y0_1 y800003) h = step (fun x10 y0_0 y0_1 y800003 => Option.bind (K x10 y0_0 y0_1 y800003) h) (go (fun x10 y0_0 y0_1 y800003 => Option.bind (K x10 y0_0 y0_1 y800003) h) k x9 y1 y2 n) k x9 y1 y2 x10 y0_0 y0_1 y800003; rw [step_nat h]; simp only [ih]
abbrev S : List (Nat × Sh) := [(0, .ptr 0), (8, .vec 1), (9, .data (.int .i64)), (10, .data (.int .i64))]
abbrev H : List (Nat × ESh) := [(0, .cell (.pair (.data (.arr .u32 8)) (.pair (.vec 800003) (.data (.int .u64))))), (1, .rows 0 9 .str), (2, .glob 1 (.arr .u32 64)), (800003, .rows 1 5 (.int .u8))]
abbrev cl : List (Place × Nat × Hint) := [(.id 0, 8, (.row 1 5 (.int .u8)))]
abbrev hn : List (Nat × Hint) := [(0, .any), (8, .any), (9, .any), (10, .any)]
abbrev kp : List Nat := [0, 1, 2]
abbrev rc : List (Place × Nat × Hint) := []
abbrev rs : List (Nat × Hint) := []
abbrev ri : List Nat := [0, 1, 2]
def KX (d : (Unit × Unit × Int × Int × Unit)) (e : (((List Int) × (Unit × Int)) × (List (List Int)) × (List Int) × (List Int) × Unit)) (v : (Int × ((List Int) × (Int × (List Int))))) : St := ⟨mkS S ((), (), d.2.2.1, v.1, ()), mkH H ((v.2.1, ((), v.2.2.1)), e.2.1, e.2.2.1, v.2.2.2, ())⟩
def sum (k : Nat) : LoopSum := sigLoopX S cl hn kp H 0 (fun (d : (Unit × Unit × Int × Int × Unit)) (e : (((List Int) × (Unit × Int)) × (List (List Int)) × (List Int) × (List Int) × Unit)) => f k d.2.2.1 e.2.1 e.2.2.1 k d.2.2.2.1 e.1.1 e.1.2.2 e.2.2.2.1) KX
end l0
def tree {X : Type} (K : (List Int) → Int → (List Int) → Option X) (k : Nat) (m0_0 : (List Int)) (m0_1 : Int) (m1 : (List (List Int))) (m2 : (List Int)) : Option X :=
  (Option.bind (digest_Hasher_Write_v3.l0.f k ((List.length m1) : Int) m1 m2 k (0 : Int) m0_0 m0_1 ([] : (List Int))) (fun r3 => (K r3.2.1 r3.2.2.1 r3.2.2.2)))
def f (k : Nat) (m0_0 : (List Int)) (m0_1 : Int) (m1 : (List (List Int))) (m2 : (List Int)) : Option ((List Int) × (Int × (List Int))) := tree (fun b0 b1 b2 => some (b0, b1, b2)) k m0_0 m0_1 m1 m2
theorem tree_nat {X Y : Type} (h : X → Option Y) (K : (List Int) → Int → (List Int) → Option X) (k : Nat) (m0_0 : (List Int)) (m0_1 : Int) (m1 : (List (List Int))) (m2 : (List Int)) : Option.bind (tree K k m0_0 m0_1 m1 m2) h = tree (fun b0 b1 b2 => Option.bind (K b0 b1 b2) h) k m0_0 m0_1 m1 m2 := by
  simp only [tree, bif_bind, sel_bind', Option.bind_assoc, Option.bind_none, Option.bind_some]
abbrev ps : List Sh := [.ptr 0, .vec 1]
abbrev hs : List (Nat × ESh) := [(0, .cell (.pair (.data (.arr .u32 8)) (.pair .nils (.data (.int .u64))))), (1, .rows 0 9 .str), (2, .glob 1 (.arr .u32 64))]
abbrev hi : List Nat := hs.map (·.1)
abbrev fi : List Nat := [0, 1, 2, 900003]
abbrev cl : List (Place × Nat × Hint) := []
abbrev hn : List Hint := []
def val (t : ((List Int) × (Int × (List Int)))) : AV := .tnil
def wr (t : ((List Int) × (Int × (List Int)))) : Heap := [(0, ESh.mk (.cell (.pair (.data (.arr .u32 8)) (.pair (.vec 900003) (.data (.int .u64))))) (t.1, ((), t.2.1))), (900003, ESh.mk (.rows 1 5 (.int .u8)) t.2.2)]
def callee (k : Nat) : Callee := sigCallee ps hs (fun (d : (Unit × Unit × Unit)) (e : (((List Int) × (Unit × Int)) × (List (List Int)) × (List Int) × Unit)) => f k e.1.1 e.1.2.2 e.2.1 e.2.2.1) val wr
def E (k : Nat) : Env := ⟨fnTab [(62, [digest_Hasher_take.callee k])], loopTab [(2, l2.sum k), (0, l0.sum k)], natsTab [(62, [2])], natTab [(1, 2)]⟩
theorem fE (k : Nat) : ∀ f, ∀ c ∈ (E k).fn f, CalleeOK Tryd.prog f c := fnTab_ok ⟨⟨digest_Hasher_take.ok k, trivial⟩, trivial⟩
namespace l2
theorem round (k : Nat) (d : (Unit × Unit × Int × Int × Unit)) (e : (((List Int) × (Unit × Int)) × (List (List Int)) × (List Int) × (List Int) × Unit)) (G : St → Option (Ex × St)) : roundK Tryd.prog (E k) 55 2 (subC (bodyOf Tryd.f24) [1, 1, 0, 0, 1, 1, 0, 0, 1, 1, 1, 0, 0]) (recast cl hn kp) (finBy cl hn kp rc rs ri) G ⟨mkS S d, mkH H e⟩ =
    step (fun y0_0 y0_1 y800003 => some (.exit 2, KX d e (y0_0, y0_1, y800003))) (fun y0_0 y0_1 y800003 => G ⟨mkS S ((), (), d.2.2.1, d.2.2.2.1, ()), mkH H ((y0_0, ((), y0_1)), e.2.1, e.2.2.1, y800003, ())⟩) k d.2.2.1 d.2.2.2.1 e.2.1 e.2.2.1 e.1.1 e.1.2.2 e.2.2.2.1 := by kernel_rfl
theorem it (k n : Nat) (d : (Unit × Unit × Int × Int × Unit)) (e : (((List Int) × (Unit × Int)) × (List (List Int)) × (List Int) × (List Int) × Unit)) : loopIt Tryd.prog (E k) 55 2 (subC (bodyOf Tryd.f24) [1, 1, 0, 0, 1, 1, 0, 0, 1, 1, 1, 0, 0]) (recast cl hn kp) (finBy cl hn kp rc rs ri) n ⟨mkS S d, mkH H e⟩ = go (fun y0_0 y0_1 y800003 => some (.exit 2, KX d e (y0_0, y0_1, y800003))) k d.2.2.1 d.2.2.2.1 e.2.1 e.2.2.1 n e.1.1 e.1.2.2 e.2.2.2.1 :=
  loopIt_eq (D := (Unit × Unit × Int × Int × Unit) × (((List Int) × (Unit × Int)) × (List (List Int)) × (List Int) × (List Int) × Unit)) (fun p => ⟨mkS S p.1, mkH H p.2⟩) (fun F p => step (fun y0_0 y0_1 y800003 => some (.exit 2, KX p.1 p.2 (y0_0, y0_1, y800003))) (fun y0_0 y0_1 y800003 => F (((), (), p.1.2.2.1, p.1.2.2.2.1, ()), ((y0_0, ((), y0_1)), p.2.2.1, p.2.2.2.1, y800003, ()))) k p.1.2.2.1 p.1.2.2.2.1 p.2.2.1 p.2.2.2.1 p.2.1.1 p.2.1.2.2 p.2.2.2.2.1) (fun n p => go (fun y0_0 y0_1 y800003 => some (.exit 2, KX p.1 p.2 (y0_0, y0_1, y800003))) k p.1.2.2.1 p.1.2.2.2.1 p.2.2.1 p.2.2.2.1 n p.2.1.1 p.2.1.2.2 p.2.2.2.2.1) (fun _ => rfl) (fun _ _ => rfl) (fun G p => round k p.1 p.2 G) n (d, e)
theorem ok (k : Nat) : LoopOK Tryd.prog 55 (subC (bodyOf Tryd.f24) [1, 1, 0, 0, 1, 1, 0, 0, 1, 1, 1, 0, 0]) (sum k) :=
  loop_sigX hm (fE k) (loopsOK_of [] (by kernel_rfl) trivial) S cl hn kp H 2 (fun (d : (Unit × Unit × Int × Int × Unit)) (e : (((List Int) × (Unit × Int)) × (List (List Int)) × (List Int) × (List Int) × Unit)) => f k d.2.2.1 d.2.2.2.1 e.2.1 e.2.2.1 k e.1.1 e.1.2.2 e.2.2.2.1) KX cl hn kp rc rs ri k
    (fun d e => (it k k d e).trans (go_nat (fun v => some (Ex.exit 2, KX d e v)) (fun y0_0 y0_1 y800003 => some (y0_0, y0_1, y800003)) k d.2.2.1 d.2.2.2.1 e.2.1 e.2.2.1 k e.1.1 e.1.2.2 e.2.2.2.1).symm)
end l2
namespace l0
theorem round (k : Nat) (d : (Unit × Unit × Int × Int × Unit)) (e : (((List Int) × (Unit × Int)) × (List (List Int)) × (List Int) × (List Int) × Unit)) (G : St → Option (Ex × St)) : roundK Tryd.prog (E k) 55 0 (subC (bodyOf Tryd.f24) [1, 1, 0, 0]) (recast cl hn kp) (finBy cl hn kp rc rs ri) G ⟨mkS S d, mkH H e⟩ =
    step (fun x10 y0_0 y0_1 y800003 => some (.exit 0, KX d e (x10, y0_0, y0_1, y800003))) (fun x10 y0_0 y0_1 y800003 => G ⟨mkS S ((), (), d.2.2.1, x10, ()), mkH H ((y0_0, ((), y0_1)), e.2.1, e.2.2.1, y800003, ())⟩) k d.2.2.1 e.2.1 e.2.2.1 d.2.2.2.1 e.1.1 e.1.2.2 e.2.2.2.1 := by kernel_rfl
theorem it (k n : Nat) (d : (Unit × Unit × Int × Int × Unit)) (e : (((List Int) × (Unit × Int)) × (List (List Int)) × (List Int) × (List Int) × Unit)) : loopIt Tryd.prog (E k) 55 0 (subC (bodyOf Tryd.f24) [1, 1, 0, 0]) (recast cl hn kp) (finBy cl hn kp rc rs ri) n ⟨mkS S d, mkH H e⟩ = go (fun x10 y0_0 y0_1 y800003 => some (.exit 0, KX d e (x10, y0_0, y0_1, y800003))) k d.2.2.1 e.2.1 e.2.2.1 n d.2.2.2.1 e.1.1 e.1.2.2 e.2.2.2.1 :=
  loopIt_eq (D := (Unit × Unit × Int × Int × Unit) × (((List Int) × (Unit × Int)) × (List (List Int)) × (List Int) × (List Int) × Unit)) (fun p => ⟨mkS S p.1, mkH H p.2⟩) (fun F p => step (fun x10 y0_0 y0_1 y800003 => some (.exit 0, KX p.1 p.2 (x10, y0_0, y0_1, y800003))) (fun x10 y0_0 y0_1 y800003 => F (((), (), p.1.2.2.1, x10, ()), ((y0_0, ((), y0_1)), p.2.2.1, p.2.2.2.1, y800003, ()))) k p.1.2.2.1 p.2.2.1 p.2.2.2.1 p.1.2.2.2.1 p.2.1.1 p.2.1.2.2 p.2.2.2.2.1) (fun n p => go (fun x10 y0_0 y0_1 y800003 => some (.exit 0, KX p.1 p.2 (x10, y0_0, y0_1, y800003))) k p.1.2.2.1 p.2.2.1 p.2.2.2.1 n p.1.2.2.2.1 p.2.1.1 p.2.1.2.2 p.2.2.2.2.1) (fun _ => rfl) (fun _ _ => rfl) (fun G p => round k p.1 p.2 G) n (d, e)
theorem ok (k : Nat) : LoopOK Tryd.prog 55 (subC (bodyOf Tryd.f24) [1, 1, 0, 0]) (sum k) :=
  loop_sigX hm (fE k) (loopsOK_of [(2, subC (bodyOf Tryd.f24) [1, 1, 0, 0, 1, 1, 0, 0, 1, 1, 1, 0, 0])] (by kernel_rfl) ⟨of_loop (l2.sum k) rfl (l2.ok k), trivial⟩) S cl hn kp H 0 (fun (d : (Unit × Unit × Int × Int × Unit)) (e : (((List Int) × (Unit × Int)) × (List (List Int)) × (List Int) × (List Int) × Unit)) => f k d.2.2.1 e.2.1 e.2.2.1 k d.2.2.2.1 e.1.1 e.1.2.2 e.2.2.2.1) KX cl hn kp rc rs ri k
    (fun d e => (it k k d e).trans (go_nat (fun v => some (Ex.exit 0, KX d e v)) (fun x10 y0_0 y0_1 y800003 => some (x10, y0_0, y0_1, y800003)) k d.2.2.1 e.2.1 e.2.2.1 k d.2.2.2.1 e.1.1 e.1.2.2 e.2.2.2.1).symm)
end l0
theorem run (k : Nat) (d : (Unit × Unit × Unit)) (e : (((List Int) × (Unit × Int)) × (List (List Int)) × (List Int) × Unit)) : runFn Tryd.prog (E k) 55 (bodyOf Tryd.f24) Tryd.f24.results.toList cl hn hi (mkL ps d) (mkH hs e) =
    tree (fun b0 b1 b2 => leafFn hs fi e val wr (b0, b1, b2)) k e.1.1 e.1.2.2 e.2.1 e.2.2.1 := by kernel_rfl
theorem run_f (k : Nat) (d : (Unit × Unit × Unit)) (e : (((List Int) × (Unit × Int)) × (List (List Int)) × (List Int) × Unit)) : runFn Tryd.prog (E k) 55 (bodyOf Tryd.f24) Tryd.f24.results.toList cl hn hi (mkL ps d) (mkH hs e) = (f k e.1.1 e.1.2.2 e.2.1 e.2.2.1).bind (leafFn hs fi e val wr) :=
  (run k d e).trans (tree_nat (leafFn hs fi e val wr) (fun b0 b1 b2 => some (b0, b1, b2)) k e.1.1 e.1.2.2 e.2.1 e.2.2.1).symm
theorem fnIs : FnIs Tryd.prog 24 Tryd.f24 (bodyOf Tryd.f24) 55 := ⟨by kernel_rfl, by kernel_rfl, by kernel_rfl, by kernel_rfl⟩
theorem ok (k : Nat) : CalleeOK Tryd.prog 24 (callee k) :=
  callee_sig (T := ((List Int) × (Int × (List Int)))) fnIs hm (fE k) (loopsOK_of [(0, subC (bodyOf Tryd.f24) [1, 1, 0, 0])] (by kernel_rfl) ⟨of_loop (l0.sum k) rfl (l0.ok k), trivial⟩) ps hs cl hn fi (fun (d : (Unit × Unit × Unit)) (e : (((List Int) × (Unit × Int)) × (List (List Int)) × (List Int) × Unit)) => f k e.1.1 e.1.2.2 e.2.1 e.2.2.1) val wr rfl (fun _ => rfl) (run_f k)
end digest_Hasher_Write_v3
namespace digest_Of_v1
def tree {X : Type} (K : (List Int) → Option X) (k : Nat) (m0 : (List (List Int))) (m1 : (List Int)) (m2 : (List Int)) : Option X :=
  (Option.bind (digest_New.f k m1) (fun r1 => (Option.bind (digest_Hasher_Write_v3.f k r1.1 r1.2 m0 m2) (fun r2 => (Option.bind (digest_Hasher_Sum.f k r2.1 r2.2.1 m2 r2.2.2) (fun r3 => (K r3)))))))
def f (k : Nat) (m0 : (List (List Int))) (m1 : (List Int)) (m2 : (List Int)) : Option (List Int) := tree (fun b0 => some b0) k m0 m1 m2
theorem tree_nat {X Y : Type} (h : X → Option Y) (K : (List Int) → Option X) (k : Nat) (m0 : (List (List Int))) (m1 : (List Int)) (m2 : (List Int)) : Option.bind (tree K k m0 m1 m2) h = tree (fun b0 => Option.bind (K b0) h) k m0 m1 m2 := by
  simp only [tree, bif_bind, sel_bind', Option.bind_assoc, Option.bind_none, Option.bind_some]
abbrev ps : List Sh := [.vec 0]
abbrev hs : List (Nat × ESh) := [(0, .rows 0 9 .str), (1, .glob 0 (.arr .u32 8)), (2, .glob 1 (.arr .u32 64))]
abbrev hi : List Nat := hs.map (·.1)
abbrev fi : List Nat := [0, 1, 2]
abbrev cl : List (Place × Nat × Hint) := []
abbrev hn : List Hint := [.any]
def val (t : (List Int)) : AV := Sh.mk (.data (.arr .u8 32)) t
def wr (t : (List Int)) : Heap := []
def callee (k : Nat) : Callee := sigCallee ps hs (fun (d : (Unit × Unit)) (e : ((List (List Int)) × (List Int) × (List Int) × Unit)) => f k e.1 e.2.1 e.2.2.1) val wr
def E (k : Nat) : Env := ⟨fnTab [(23, [digest_New.callee k]), (24, [digest_Hasher_Write_v3.callee k]), (25, [digest_Hasher_Sum.callee k])], loopTab [], natsTab [(23, [1]), (24, [2]), (25, [2])], natTab [(0, 1), (1, 2)]⟩
theorem fE (k : Nat) : ∀ f, ∀ c ∈ (E k).fn f, CalleeOK Tryd.prog f c := fnTab_ok ⟨⟨digest_New.ok k, trivial⟩, ⟨digest_Hasher_Write_v3.ok k, trivial⟩, ⟨digest_Hasher_Sum.ok k, trivial⟩, trivial⟩
theorem run (k : Nat) (d : (Unit × Unit)) (e : ((List (List Int)) × (List Int) × (List Int) × Unit)) : runFn Tryd.prog (E k) 10 (bodyOf Tryd.f19) Tryd.f19.results.toList cl hn hi (mkL ps d) (mkH hs e) =
    tree (fun b0 => leafFn hs fi e val wr b0) k e.1 e.2.1 e.2.2.1 := by kernel_rfl
theorem run_f (k : Nat) (d : (Unit × Unit)) (e : ((List (List Int)) × (List Int) × (List Int) × Unit)) : runFn Tryd.prog (E k) 10 (bodyOf Tryd.f19) Tryd.f19.results.toList cl hn hi (mkL ps d) (mkH hs e) = (f k e.1 e.2.1 e.2.2.1).bind (leafFn hs fi e val wr) :=
  (run k d e).trans (tree_nat (leafFn hs fi e val wr) (fun b0 => some b0) k e.1 e.2.1 e.2.2.1).symm
theorem fnIs : FnIs Tryd.prog 19 Tryd.f19 (bodyOf Tryd.f19) 10 := ⟨by kernel_rfl, by kernel_rfl, by kernel_rfl, by kernel_rfl⟩
theorem ok (k : Nat) : CalleeOK Tryd.prog 19 (callee k) :=
  callee_sig (T := (List Int)) fnIs hm (fE k) (loopsOK_of [] (by kernel_rfl) trivial) ps hs cl hn fi (fun (d : (Unit × Unit)) (e : ((List (List Int)) × (List Int) × (List Int) × Unit)) => f k e.1 e.2.1 e.2.2.1) val wr rfl (fun _ => rfl) (run_f k)
end digest_Of_v1
namespace digest_Double_v1
def tree {X : Type} (K : (List Int) → Option X) (k : Nat) (m0 : (List (List Int))) (m1 : (List Int)) (m2 : (List Int)) : Option X :=
  (Option.bind (digest_Of_v1.f k m0 m1 m2) (fun r1 => (Option.bind (digest_Of.f k ([(toStr (List.take 32 r1))] : (List (List Int))) m1 m2) (fun r2 => (K r2)))))
def f (k : Nat) (m0 : (List (List Int))) (m1 : (List Int)) (m2 : (List Int)) : Option (List Int) := tree (fun b0 => some b0) k m0 m1 m2
theorem tree_nat {X Y : Type} (h : X → Option Y) (K : (List Int) → Option X) (k : Nat) (m0 : (List (List Int))) (m1 : (List Int)) (m2 : (List Int)) : Option.bind (tree K k m0 m1 m2) h = tree (fun b0 => Option.bind (K b0) h) k m0 m1 m2 := by
  simp only [tree, bif_bind, sel_bind', Option.bind_assoc, Option.bind_none, Option.bind_some]
abbrev ps : List Sh := [.vec 0]
abbrev hs : List (Nat × ESh) := [(0, .rows 0 9 .str), (1, .glob 0 (.arr .u32 8)), (2, .glob 1 (.arr .u32 64))]
abbrev hi : List Nat := hs.map (·.1)
abbrev fi : List Nat := [0, 1, 2]
abbrev cl : List (Place × Nat × Hint) := []
abbrev hn : List Hint := [.any]
def val (t : (List Int)) : AV := Sh.mk (.data (.arr .u8 32)) t
def wr (t : (List Int)) : Heap := []
def callee (k : Nat) : Callee := sigCallee ps hs (fun (d : (Unit × Unit)) (e : ((List (List Int)) × (List Int) × (List Int) × Unit)) => f k e.1 e.2.1 e.2.2.1) val wr
def E (k : Nat) : Env := ⟨fnTab [(19, [digest_Of_v1.callee k, digest_Of.callee k])], loopTab [], natsTab [(19, [1, 2])], natTab [(0, 1), (1, 2)]⟩
theorem fE (k : Nat) : ∀ f, ∀ c ∈ (E k).fn f, CalleeOK Tryd.prog f c := fnTab_ok ⟨⟨digest_Of_v1.ok k, digest_Of.ok k, trivial⟩, trivial⟩
theorem run (k : Nat) (d : (Unit × Unit)) (e : ((List (List Int)) × (List Int) × (List Int) × Unit)) : runFn Tryd.prog (E k) 10 (bodyOf Tryd.f21) Tryd.f21.results.toList cl hn hi (mkL ps d) (mkH hs e) =
    tree (fun b0 => leafFn hs fi e val wr b0) k e.1 e.2.1 e.2.2.1 := by kernel_rfl
theorem run_f (k : Nat) (d : (Unit × Unit)) (e : ((List (List Int)) × (List Int) × (List Int) × Unit)) : runFn Tryd.prog (E k) 10 (bodyOf Tryd.f21) Tryd.f21.results.toList cl hn hi (mkL ps d) (mkH hs e) = (f k e.1 e.2.1 e.2.2.1).bind (leafFn hs fi e val wr) :=
  (run k d e).trans (tree_nat (leafFn hs fi e val wr) (fun b0 => some b0) k e.1 e.2.1 e.2.2.1).symm
theorem fnIs : FnIs Tryd.prog 21 Tryd.f21 (bodyOf Tryd.f21) 10 := ⟨by kernel_rfl, by kernel_rfl, by kernel_rfl, by kernel_rfl⟩
theorem ok (k : Nat) : CalleeOK Tryd.prog 21 (callee k) :=
  callee_sig (T := (List Int)) fnIs hm (fE k) (loopsOK_of [] (by kernel_rfl) trivial) ps hs cl hn fi (fun (d : (Unit × Unit)) (e : ((List (List Int)) × (List Int) × (List Int) × Unit)) => f k e.1 e.2.1 e.2.2.1) val wr rfl (fun _ => rfl) (run_f k)
end digest_Double_v1
namespace digest_Hasher_Sum_v1
def tree {X : Type} (K : (List Int) → Option X) (k : Nat) (m0 : (List Int)) : Option X :=
  (K ([0, 0, 0, 0, 0, 0, 0, 0, 0, 0, 0, 0, 0, 0, 0, 0, 0, 0, 0, 0, 0, 0, 0, 0, 0, 0, 0, 0, 0, 0, 0, 0] : (List Int)))
def f (k : Nat) (m0 : (List Int)) : Option (List Int) := tree (fun b0 => some b0) k m0
theorem tree_nat {X Y : Type} (h : X → Option Y) (K : (List Int) → Option X) (k : Nat) (m0 : (List Int)) : Option.bind (tree K k m0) h = tree (fun b0 => Option.bind (K b0) h) k m0 := by
  simp only [tree, bif_bind, sel_bind', Option.bind_assoc, Option.bind_none, Option.bind_some]
abbrev ps : List Sh := [.nilp]
abbrev hs : List (Nat × ESh) := [(0, .glob 1 (.arr .u32 64))]
abbrev hi : List Nat := hs.map (·.1)
abbrev fi : List Nat := [0]
abbrev cl : List (Place × Nat × Hint) := []
abbrev hn : List Hint := [.any]
def val (t : (List Int)) : AV := Sh.mk (.data (.arr .u8 32)) t
def wr (t : (List Int)) : Heap := []
def callee (k : Nat) : Callee := sigCallee ps hs (fun (d : (Unit × Unit)) (e : ((List Int) × Unit)) => f k e.1) val wr
def E (k : Nat) : Env := ⟨fnTab [], loopTab [], natsTab [], natTab [(1, 0)]⟩
theorem fE (k : Nat) : ∀ f, ∀ c ∈ (E k).fn f, CalleeOK Tryd.prog f c := fnTab_ok trivial
theorem run (k : Nat) (d : (Unit × Unit)) (e : ((List Int) × Unit)) : runFn Tryd.prog (E k) 94 (bodyOf Tryd.f25) Tryd.f25.results.toList cl hn hi (mkL ps d) (mkH hs e) =
    tree (fun b0 => leafFn hs fi e val wr b0) k e.1 := by kernel_rfl
theorem run_f (k : Nat) (d : (Unit × Unit)) (e : ((List Int) × Unit)) : runFn Tryd.prog (E k) 94 (bodyOf Tryd.f25) Tryd.f25.results.toList cl hn hi (mkL ps d) (mkH hs e) = (f k e.1).bind (leafFn hs fi e val wr) :=
  (run k d e).trans (tree_nat (leafFn hs fi e val wr) (fun b0 => some b0) k e.1).symm
theorem fnIs : FnIs Tryd.prog 25 Tryd.f25 (bodyOf Tryd.f25) 94 := ⟨by kernel_rfl, by kernel_rfl, by kernel_rfl, by kernel_rfl⟩
theorem ok (k : Nat) : CalleeOK Tryd.prog 25 (callee k) :=
  callee_sig (T := (List Int)) fnIs hm (fE k) (loopsOK_of [(0, subC (bodyOf Tryd.f25) [1, 1, 1, 1, 1, 0, 0, 0]), (2, subC (bodyOf Tryd.f25) [1, 1, 1, 1, 1, 1, 0, 1, 0, 0]), (4, subC (bodyOf Tryd.f25) [1, 1, 1, 1, 1, 1, 1, 0, 0, 0]), (6, subC (bodyOf Tryd.f25) [1, 1, 1, 1, 1, 1, 1, 1, 1, 0, 1, 0, 0])] (by kernel_rfl) ⟨no_loop rfl, ⟨no_loop rfl, ⟨no_loop rfl, ⟨no_loop rfl, trivial⟩⟩⟩⟩) ps hs cl hn fi (fun (d : (Unit × Unit)) (e : ((List Int) × Unit)) => f k e.1) val wr rfl (fun _ => rfl) (run_f k)
end digest_Hasher_Sum_v1
namespace trailheadlaw01_DigestParts
namespace l0
def step {X : Type} (K : (List Int) → Int → Option X) (Q : Bool → Option X) (G : (List Int) → Int → Option X) (k : Nat) (x16 : Int) (y0 : (List (List Int))) (y1 : (List Bool)) (y2 : (List Int)) (y3 : (List Int)) (x5 : (List Int)) (x17 : Int) : Option X :=
  (bif (decide (x17 < x16)) then (bif (decide (0 ≤ x17)) then (bif (decide (x17 < ((List.length y0) : Int))) then (bif (decide ((Int.toNat x17) < (List.length y0))) then (bif (decide (((List.length y0) : Int) > (20 : Int))) then (Q true) else (bif (decide ((addI .i64 ((List.length x5) : Int) ((List.length (List.getD y0 (Int.toNat x17) ([] : (List Int)))) : Int)) > (1024 : Int))) then (Q true) else (bif (fits ((List.length x5) + (List.length (List.getD y0 (Int.toNat x17) ([] : (List Int)))))) then (G (x5 ++ (List.getD y0 (Int.toNat x17) ([] : (List Int)))) (addI .i64 x17 1)) else none))) else none) else none) else none) else (K x5 x17))
def go {X : Type} (K : (List Int) → Int → Option X) (Q : Bool → Option X) (k : Nat) (x16 : Int) (y0 : (List (List Int))) (y1 : (List Bool)) (y2 : (List Int)) (y3 : (List Int)) : Nat → (List Int) → Int → Option X
  | 0, _, _ => none
  | n + 1, x5, x17 => step K Q (go K Q k x16 y0 y1 y2 y3 n) k x16 y0 y1 y2 y3 x5 x17
def f (k : Nat) (x16 : Int) (y0 : (List (List Int))) (y1 : (List Bool)) (y2 : (List Int)) (y3 : (List Int)) (n : Nat) (x5 : (List Int)) (x17 : Int) : Option (((List Int) × Int) ⊕ Bool) := go (fun x5 x17 => some (.inl (x5, x17))) (fun q0 => some (.inr q0)) k x16 y0 y1 y2 y3 n x5 x17
theorem step_nat {X Y : Type} (h : X → Option Y) (K : (List Int) → Int → Option X) (Q : Bool → Option X) (G : (List Int) → Int → Option X) (k : Nat) (x16 : Int) (y0 : (List (List Int))) (y1 : (List Bool)) (y2 : (List Int)) (y3 : (List Int)) (x5 : (List Int)) (x17 : Int) : Option.bind (step K Q G k x16 y0 y1 y2 y3 x5 x17) h = step (fun x5 x17 => Option.bind (K x5 x17) h) (fun q0 => Option.bind (Q q0) h) (fun x5 x17 => Option.bind (G x5 x17) h) k x16 y0 y1 y2 y3 x5 x17 := by
  simp only [step, bif_bind, sel_bind', Option.bind_assoc, Option.bind_none, Option.bind_some]
theorem go_nat {X Y : Type} (h : X → Option Y) (K : (List Int) → Int → Option X) (Q : Bool → Option X) (k : Nat) (x16 : Int) (y0 : (List (List Int))) (y1 : (List Bool)) (y2 : (List Int)) (y3 : (List Int)) (n : Nat) : ∀ (x5 : (List Int)) (x17 : Int), Option.bind (go K Q k x16 y0 y1 y2 y3 n x5 x17) h = go (fun x5 x17 => Option.bind (K x5 x17) h) (fun q0 => Option.bind (Q q0) h) k x16 y0 y1 y2 y3 n x5 x17 := by
  induction n with
  | zero => intros; rfl
  | succ n ih => intro x5 x17; show Option.bind (step K Q (go K Q k x16 y0 y1 y2 y3 n) k x16 y0 y1 y2 y3 x5 x17) h = step (fun x5 x17 => Option.bind (K x5 x17) h) (fun q0 => Option.bind (Q q0) h) (go (fun x5 x17 => Option.bind (K x5 x17) h) (fun q0 => Option.bind (Q q0) h) k x16 y0 y1 y2 y3 n) k x16 y0 y1 y2 y3 x5 x17; rw [step_nat h]; simp only [ih]
abbrev S : List (Nat × Sh) := [(0, .vec 0), (1, .vec 1), (5, .data .str), (15, .vec 0), (16, .data (.int .i64)), (17, .data (.int .i64))]
abbrev H : List (Nat × ESh) := [(0, .rows 0 9 .str), (1, .rows 0 4 .bool), (2, .glob 0 (.arr .u32 8)), (3, .glob 1 (.arr .u32 64))]
abbrev cl : List (Place × Nat × Hint) := []
abbrev hn : List (Nat × Hint) := [(0, .any), (1, .any), (5, .any), (15, .any), (16, .any), (17, .any)]
abbrev kp : List Nat := [0, 1, 2, 3]
abbrev rc : List (Place × Nat × Hint) := []
abbrev rs : List (Nat × Hint) := [(4, .any)]
abbrev ri : List Nat := [0, 1, 2, 3]
def KX (d : (Unit × Unit × (List Int) × Unit × Int × Int × Unit)) (e : ((List (List Int)) × (List Bool) × (List Int) × (List Int) × Unit)) (v : ((List Int) × Int)) : St := ⟨mkS S ((), (), v.1, (), d.2.2.2.2.1, v.2, ()), mkH H (e.1, e.2.1, e.2.2.1, e.2.2.2.1, ())⟩
abbrev RS : List (Nat × Sh) := [(4, .data .bool)]
abbrev RH : List (Nat × ESh) := [(0, .rows 0 9 .str), (1, .rows 0 4 .bool), (2, .glob 0 (.arr .u32 8)), (3, .glob 1 (.arr .u32 64))]
def RX (d : (Unit × Unit × (List Int) × Unit × Int × Int × Unit)) (e : ((List (List Int)) × (List Bool) × (List Int) × (List Int) × Unit)) (v : Bool) : St := ⟨mkS RS (v, ()), mkH RH (e.1, e.2.1, e.2.2.1, e.2.2.2.1, ())⟩
def sum (k : Nat) : LoopSum := sigLoop S cl hn kp H 0 (fun (d : (Unit × Unit × (List Int) × Unit × Int × Int × Unit)) (e : ((List (List Int)) × (List Bool) × (List Int) × (List Int) × Unit)) => f k d.2.2.2.2.1 e.1 e.2.1 e.2.2.1 e.2.2.2.1 k d.2.2.1 d.2.2.2.2.2.1) KX RX
end l0
namespace l2
def step {X : Type} (K : (List Int) → Int → (List Int) → Int → (List Int) → Option X) (Q : Bool → Option X) (G : (List Int) → Int → (List Int) → Int → (List Int) → Option X) (k : Nat) (x5 : (List Int)) (x38 : Int) (y0 : (List (List Int))) (y1 : (List Bool)) (y2 : (List Int)) (y3 : (List Int)) (x9 : (List Int)) (x39 : Int) (y800004_0 : (List Int)) (y800004_1 : Int) (y800005 : (List Int)) : Option X :=
  (bif (decide (x39 < x38)) then (bif (decide (0 ≤ x39)) then (bif (decide (x39 < ((List.length y0) : Int))) then (bif (decide ((Int.toNat x39) < (List.length y0))) then (Option.bind (digest_Hasher_Write_v1.f k y800004_0 y800004_1 ([(List.getD y0 (Int.toNat x39) ([] : (List Int)))] : (List (List Int))) y3 y800005) (fun r6 => (bif (fits ((List.length x9) + (List.length (List.getD y0 (Int.toNat x39) ([] : (List Int)))))) then (bif (decide (x39 < ((List.length y1) : Int))) then (bif (decide (0 ≤ x39)) then (bif (decide (x39 < ((List.length y1) : Int))) then (bif (decide ((Int.toNat x39) < (List.length y1))) then (bif (List.getD y1 (Int.toNat x39) (false : Bool)) then (Option.bind (digest_Hasher_Sum.f k r6.1 r6.2.1 y3 r6.2.2) (fun r7 => (Option.bind (trailheadref01_Of.f k (x9 ++ (List.getD y0 (Int.toNat x39) ([] : (List Int))))) (fun r8 => (bif (!(decide (r7 = r8))) then (Q false) else (G (x9 ++ (List.getD y0 (Int.toNat x39) ([] : (List Int)))) (addI .i64 x39 1) r6.1 r6.2.1 r6.2.2)))))) else (G (x9 ++ (List.getD y0 (Int.toNat x39) ([] : (List Int)))) (addI .i64 x39 1) r6.1 r6.2.1 r6.2.2)) else none) else none) else none) else (G (x9 ++ (List.getD y0 (Int.toNat x39) ([] : (List Int)))) (addI .i64 x39 1) r6.1 r6.2.1 r6.2.2)) else none))) else none) else none) else none) else (K x9 x39 y800004_0 y800004_1 y800005))
def go {X : Type} (K : (List Int) → Int → (List Int) → Int → (List Int) → Option X) (Q : Bool → Option X) (k : Nat) (x5 : (List Int)) (x38 : Int) (y0 : (List (List Int))) (y1 : (List Bool)) (y2 : (List Int)) (y3 : (List Int)) : Nat → (List Int) → Int → (List Int) → Int → (List Int) → Option X
  | 0, _, _, _, _, _ => none
  | n + 1, x9, x39, y800004_0, y800004_1, y800005 => step K Q (go K Q k x5 x38 y0 y1 y2 y3 n) k x5 x38 y0 y1 y2 y3 x9 x39 y800004_0 y800004_1 y800005
def f (k : Nat) (x5 : (List Int)) (x38 : Int) (y0 : (List (List Int))) (y1 : (List Bool)) (y2 : (List Int)) (y3 : (List Int)) (n : Nat) (x9 : (List Int)) (x39 : Int) (y800004_0 : (List Int)) (y800004_1 : Int) (y800005 : (List Int)) : Option (((List Int) × (Int × ((List Int) × (Int × (List Int))))) ⊕ Bool) := go (fun x9 x39 y800004_0 y800004_1 y800005 => some (.inl (x9, x39, y800004_0, y800004_1, y800005))) (fun q0 => some (.inr q0)) k x5 x38 y0 y1 y2 y3 n x9 x39 y800004_0 y800004_1 y800005
theorem step_nat {X Y : Type} (h : X → Option Y) (K : (List Int) → Int → (List Int) → Int → (List Int) → Option X) (Q : Bool → Option X) (G : (List Int) → Int → (List Int) → Int → (List Int) → Option X) (k : Nat) (x5 : (List Int)) (x38 : Int) (y0 : (List (List Int))) (y1 : (List Bool)) (y2 : (List Int)) (y3 : (List Int)) (x9 : (List Int)) (x39 : Int) (y800004_0 : (List Int)) (y800004_1 : Int) (y800005 : (List Int)) : Option.bind (step K Q G k x5 x38 y0 y1 y2 y3 x9 x39 y800004_0 y800004_1 y800005) h = step (fun x9 x39 y800004_0 y800004_1 y800005 => Option.bind (K x9 x39 y800004_0 y800004_1 y800005) h) (fun q0 => Option.bind (Q q0) h) (fun x9 x39 y800004_0 y800004_1 y800005 => Option.bind (G x9 x39 y800004_0 y800004_1 y800005) h) k x5 x38 y0 y1 y2 y3 x9 x39 y800004_0 y800004_1 y800005 := by
  simp only [step, bif_bind, sel_bind', Option.bind_assoc, Option.bind_none, Option.bind_some]
theorem go_nat {X Y : Type} (h : X → Option Y) (K : (List Int) → Int → (List Int) → Int → (List Int) → Option X) (Q : Bool → Option X) (k : Nat) (x5 : (List Int)) (x38 : Int) (y0 : (List (List Int))) (y1 : (List Bool)) (y2 : (List Int)) (y3 : (List Int)) (n : Nat) : ∀ (x9 : (List Int)) (x39 : Int) (y800004_0 : (List Int)) (y800004_1 : Int) (y800005 : (List Int)), Option.bind (go K Q k x5 x38 y0 y1 y2 y3 n x9 x39 y800004_0 y800004_1 y800005) h = go (fun x9 x39 y800004_0 y800004_1 y800005 => Option.bind (K x9 x39 y800004_0 y800004_1 y800005) h) (fun q0 => Option.bind (Q q0) h) k x5 x38 y0 y1 y2 y3 n x9 x39 y800004_0 y800004_1 y800005 := by
  induction n with
  | zero => intros; rfl
  | succ n ih => intro x9 x39 y800004_0 y800004_1 y800005; show Option.bind (step K Q (go K Q k x5 x38 y0 y1 y2 y3 n) k x5 x38 y0 y1 y2 y3 x9 x39 y800004_0 y800004_1 y800005) h = step (fun x9 x39 y800004_0 y800004_1 y800005 => Option.bind (K x9 x39 y800004_0 y800004_1 y800005) h) (fun q0 => Option.bind (Q q0) h) (go (fun x9 x39 y800004_0 y800004_1 y800005 => Option.bind (K x9 x39 y800004_0 y800004_1 y800005) h) (fun q0 => Option.bind (Q q0) h) k x5 x38 y0 y1 y2 y3 n) k x5 x38 y0 y1 y2 y3 x9 x39 y800004_0 y800004_1 y800005; rw [step_nat h]; simp only [ih]
abbrev S : List (Nat × Sh) := [(0, .vec 0), (1, .vec 1), (5, .data .str), (8, .ptr 800004), (9, .data .str), (37, .vec 0), (38, .data (.int .i64)), (39, .data (.int .i64))]
abbrev H : List (Nat × ESh) := [(0, .rows 0 9 .str), (1, .rows 0 4 .bool), (2, .glob 0 (.arr .u32 8)), (3, .glob 1 (.arr .u32 64)), (800004, .cell (.pair (.data (.arr .u32 8)) (.pair (.vec 800005) (.data (.int .u64))))), (800005, .rows 1 5 (.int .u8))]
abbrev cl : List (Place × Nat × Hint) := [(.slot 8, 8, (.row 1 5 (.int .u8)))]
abbrev hn : List (Nat × Hint) := [(0, .any), (1, .any), (5, .any), (8, .any), (9, .any), (37, .any), (38, .any), (39, .any)]
abbrev kp : List Nat := [0, 1, 2, 3]
abbrev rc : List (Place × Nat × Hint) := []
abbrev rs : List (Nat × Hint) := [(4, .any)]
abbrev ri : List Nat := [0, 1, 2, 3]
def KX (d : (Unit × Unit × (List Int) × Unit × (List Int) × Unit × Int × Int × Unit)) (e : ((List (List Int)) × (List Bool) × (List Int) × (List Int) × ((List Int) × (Unit × Int)) × (List Int) × Unit)) (v : ((List Int) × (Int × ((List Int) × (Int × (List Int)))))) : St := ⟨mkS S ((), (), d.2.2.1, (), v.1, (), d.2.2.2.2.2.2.1, v.2.1, ()), mkH H (e.1, e.2.1, e.2.2.1, e.2.2.2.1, (v.2.2.1, ((), v.2.2.2.1)), v.2.2.2.2, ())⟩
abbrev RS : List (Nat × Sh) := [(4, .data .bool)]
abbrev RH : List (Nat × ESh) := [(0, .rows 0 9 .str), (1, .rows 0 4 .bool), (2, .glob 0 (.arr .u32 8)), (3, .glob 1 (.arr .u32 64))]
def RX (d : (Unit × Unit × (List Int) × Unit × (List Int) × Unit × Int × Int × Unit)) (e : ((List (List Int)) × (List Bool) × (List Int) × (List Int) × ((List Int) × (Unit × Int)) × (List Int) × Unit)) (v : Bool) : St := ⟨mkS RS (v, ()), mkH RH (e.1, e.2.1, e.2.2.1, e.2.2.2.1, ())⟩
def sum (k : Nat) : LoopSum := sigLoop S cl hn kp H 2 (fun (d : (Unit × Unit × (List Int) × Unit × (List Int) × Unit × Int × Int × Unit)) (e : ((List (List Int)) × (List Bool) × (List Int) × (List Int) × ((List Int) × (Unit × Int)) × (List Int) × Unit)) => f k d.2.2.1 d.2.2.2.2.2.2.1 e.1 e.2.1 e.2.2.1 e.2.2.2.1 k d.2.2.2.2.1 d.2.2.2.2.2.2.2.1 e.2.2.2.2.1.1 e.2.2.2.2.1.2.2 e.2.2.2.2.2.1) KX RX
end l2
def tree {X : Type} (K : Bool → Option X) (k : Nat) (m0 : (List (List Int))) (m1 : (List Bool)) (m2 : (List Int)) (m3 : (List Int)) : Option X :=
  (Option.bind (trailheadlaw01_alive.f k m2 m3) (fun r1 => (bif (!r1) then (K false) else (Option.bind (trailheadlaw01_DigestParts.l0.f k ((List.length m0) : Int) m0 m1 m2 m3 k ([] : (List Int)) (0 : Int)) (fun r2 => sel r2 (fun v3 => (Option.bind (digest_New.f k m2) (fun r5 => (Option.bind (trailheadlaw01_DigestParts.l2.f k v3.1 ((List.length m0) : Int) m0 m1 m2 m3 k ([] : (List Int)) (0 : Int) r5.1 r5.2 ([] : (List Int))) (fun r9 => sel r9 (fun v10 => (Option.bind (digest_Hasher_Write_v2.f k ([[97]] : (List (List Int))) m3) (fun r12 => (Option.bind (digest_Hasher_Sum.f k v10.2.2.1 v10.2.2.2.1 m3 v10.2.2.2.2) (fun r13 => (Option.bind (digest_Of.f k ([v3.1] : (List (List Int))) m2 m3) (fun r14 => (bif (decide (r13 = r14)) then (Option.bind (digest_Of_v1.f k m0 m2 m3) (fun r15 => (Option.bind (digest_Of.f k ([v3.1] : (List (List Int))) m2 m3) (fun r16 => (bif (decide (r15 = r16)) then (Option.bind (digest_Double_v1.f k m0 m2 m3) (fun r17 => (Option.bind (digest_Double.f k ([v3.1] : (List (List Int))) m2 m3) (fun r18 => (bif (decide (r17 = r18)) then (Option.bind (digest_Hasher_Sum_v1.f k m3) (fun r19 => (K (decide (r19 = ([0, 0, 0, 0, 0, 0, 0, 0, 0, 0, 0, 0, 0, 0, 0, 0, 0, 0, 0, 0, 0, 0, 0, 0, 0, 0, 0, 0, 0, 0, 0, 0] : (List Int))))))) else (K false)))))) else (K false)))))) else (K false))))))))) (fun q11 => (K q11))))))) (fun q4 => (K q4)))))))
def f (k : Nat) (m0 : (List (List Int))) (m1 : (List Bool)) (m2 : (List Int)) (m3 : (List Int)) : Option Bool := tree (fun b0 => some b0) k m0 m1 m2 m3
theorem tree_nat {X Y : Type} (h : X → Option Y) (K : Bool → Option X) (k : Nat) (m0 : (List (List Int))) (m1 : (List Bool)) (m2 : (List Int)) (m3 : (List Int)) : Option.bind (tree K k m0 m1 m2 m3) h = tree (fun b0 => Option.bind (K b0) h) k m0 m1 m2 m3 := by
  simp only [tree, bif_bind, sel_bind', Option.bind_assoc, Option.bind_none, Option.bind_some]
abbrev ps : List Sh := [.vec 0, .vec 1]
abbrev hs : List (Nat × ESh) := [(0, .rows 0 9 .str), (1, .rows 0 4 .bool), (2, .glob 0 (.arr .u32 8)), (3, .glob 1 (.arr .u32 64))]
abbrev hi : List Nat := hs.map (·.1)
abbrev fi : List Nat := [0, 1, 2, 3]
abbrev cl : List (Place × Nat × Hint) := []
abbrev hn : List Hint := [.any]
def val (t : Bool) : AV := Sh.mk (.data .bool) t
def wr (t : Bool) : Heap := []
def callee (k : Nat) : Callee := sigCallee ps hs (fun (d : (Unit × Unit × Unit)) (e : ((List (List Int)) × (List Bool) × (List Int) × (List Int) × Unit)) => f k e.1 e.2.1 e.2.2.1 e.2.2.2.1) val wr
def E (k : Nat) : Env := ⟨fnTab [(18, [trailheadlaw01_alive.callee k]), (23, [digest_New.callee k]), (24, [digest_Hasher_Write_v1.callee k, digest_Hasher_Write_v2.callee k]), (25, [digest_Hasher_Sum.callee k, digest_Hasher_Sum_v1.callee k]), (20, [trailheadref01_Of.callee k]), (19, [digest_Of.callee k, digest_Of_v1.callee k]), (21, [digest_Double_v1.callee k, digest_Double.callee k])], loopTab [(0, l0.sum k), (2, l2.sum k)], natsTab [(18, [2, 3]), (23, [2]), (24, [3]), (25, [3]), (19, [2, 3]), (21, [2, 3])], natTab [(0, 2), (1, 3)]⟩
theorem fE (k : Nat) : ∀ f, ∀ c ∈ (E k).fn f, CalleeOK Tryd.prog f c := fnTab_ok ⟨⟨trailheadlaw01_alive.ok k, trivial⟩, ⟨digest_New.ok k, trivial⟩, ⟨digest_Hasher_Write_v1.ok k, digest_Hasher_Write_v2.ok k, trivial⟩, ⟨digest_Hasher_Sum.ok k, digest_Hasher_Sum_v1.ok k, trivial⟩, ⟨trailheadref01_Of.ok k, trivial⟩, ⟨digest_Of.ok k, digest_Of_v1.ok k, trivial⟩, ⟨digest_Double_v1.ok k, digest_Double.ok k, trivial⟩, trivial⟩
namespace l0
theorem round (k : Nat) (d : (Unit × Unit × (List Int) × Unit × Int × Int × Unit)) (e : ((List (List Int)) × (List Bool) × (List Int) × (List Int) × Unit)) (G : St → Option (Ex × St)) : roundK Tryd.prog (E k) 100 0 (subC (bodyOf Tryd.f4) [1, 1, 1, 0, 1, 0, 0]) (recast cl hn kp) (finBy cl hn kp rc rs ri) G ⟨mkS S d, mkH H e⟩ =
    step (fun x5 x17 => some (.exit 0, KX d e (x5, x17))) (fun q0 => some (.ret, RX d e q0)) (fun x5 x17 => G ⟨mkS S ((), (), x5, (), d.2.2.2.2.1, x17, ()), mkH H (e.1, e.2.1, e.2.2.1, e.2.2.2.1, ())⟩) k d.2.2.2.2.1 e.1 e.2.1 e.2.2.1 e.2.2.2.1 d.2.2.1 d.2.2.2.2.2.1 := by kernel_rfl
theorem it (k n : Nat) (d : (Unit × Unit × (List Int) × Unit × Int × Int × Unit)) (e : ((List (List Int)) × (List Bool) × (List Int) × (List Int) × Unit)) : loopIt Tryd.prog (E k) 100 0 (subC (bodyOf Tryd.f4) [1, 1, 1, 0, 1, 0, 0]) (recast cl hn kp) (finBy cl hn kp rc rs ri) n ⟨mkS S d, mkH H e⟩ = go (fun x5 x17 => some (.exit 0, KX d e (x5, x17))) (fun q0 => some (.ret, RX d e q0)) k d.2.2.2.2.1 e.1 e.2.1 e.2.2.1 e.2.2.2.1 n d.2.2.1 d.2.2.2.2.2.1 :=
  loopIt_eq (D := (Unit × Unit × (List Int) × Unit × Int × Int × Unit) × ((List (List Int)) × (List Bool) × (List Int) × (List Int) × Unit)) (fun p => ⟨mkS S p.1, mkH H p.2⟩) (fun F p => step (fun x5 x17 => some (.exit 0, KX p.1 p.2 (x5, x17))) (fun q0 => some (.ret, RX p.1 p.2 q0)) (fun x5 x17 => F (((), (), x5, (), p.1.2.2.2.2.1, x17, ()), (p.2.1, p.2.2.1, p.2.2.2.1, p.2.2.2.2.1, ()))) k p.1.2.2.2.2.1 p.2.1 p.2.2.1 p.2.2.2.1 p.2.2.2.2.1 p.1.2.2.1 p.1.2.2.2.2.2.1) (fun n p => go (fun x5 x17 => some (.exit 0, KX p.1 p.2 (x5, x17))) (fun q0 => some (.ret, RX p.1 p.2 q0)) k p.1.2.2.2.2.1 p.2.1 p.2.2.1 p.2.2.2.1 p.2.2.2.2.1 n p.1.2.2.1 p.1.2.2.2.2.2.1) (fun _ => rfl) (fun _ _ => rfl) (fun G p => round k p.1 p.2 G) n (d, e)
theorem ok (k : Nat) : LoopOK Tryd.prog 100 (subC (bodyOf Tryd.f4) [1, 1, 1, 0, 1, 0, 0]) (sum k) :=
  loop_sig hm (fE k) (loopsOK_of [] (by kernel_rfl) trivial) S cl hn kp H 0 (fun (d : (Unit × Unit × (List Int) × Unit × Int × Int × Unit)) (e : ((List (List Int)) × (List Bool) × (List Int) × (List Int) × Unit)) => f k d.2.2.2.2.1 e.1 e.2.1 e.2.2.1 e.2.2.2.1 k d.2.2.1 d.2.2.2.2.2.1) KX RX cl hn kp rc rs ri k
    (fun d e => (it k k d e).trans (go_nat (exitOf 0 (KX d e) (RX d e)) (fun x5 x17 => some (.inl (x5, x17))) (fun q0 => some (.inr q0)) k d.2.2.2.2.1 e.1 e.2.1 e.2.2.1 e.2.2.2.1 k d.2.2.1 d.2.2.2.2.2.1).symm)
end l0
namespace l2
theorem round (k : Nat) (d : (Unit × Unit × (List Int) × Unit × (List Int) × Unit × Int × Int × Unit)) (e : ((List (List Int)) × (List Bool) × (List Int) × (List Int) × ((List Int) × (Unit × Int)) × (List Int) × Unit)) (G : St → Option (Ex × St)) : roundK Tryd.prog (E k) 100 2 (subC (bodyOf Tryd.f4) [1, 1, 1, 1, 1, 1, 0, 1, 0, 0]) (recast cl hn kp) (finBy cl hn kp rc rs ri) G ⟨mkS S d, mkH H e⟩ =
    step (fun x9 x39 y800004_0 y800004_1 y800005 => some (.exit 2, KX d e (x9, x39, y800004_0, y800004_1, y800005))) (fun q0 => some (.ret, RX d e q0)) (fun x9 x39 y800004_0 y800004_1 y800005 => G ⟨mkS S ((), (), d.2.2.1, (), x9, (), d.2.2.2.2.2.2.1, x39, ()), mkH H (e.1, e.2.1, e.2.2.1, e.2.2.2.1, (y800004_0, ((), y800004_1)), y800005, ())⟩) k d.2.2.1 d.2.2.2.2.2.2.1 e.1 e.2.1 e.2.2.1 e.2.2.2.1 d.2.2.2.2.1 d.2.2.2.2.2.2.2.1 e.2.2.2.2.1.1 e.2.2.2.2.1.2.2 e.2.2.2.2.2.1 := by kernel_rfl
theorem it (k n : Nat) (d : (Unit × Unit × (List Int) × Unit × (List Int) × Unit × Int × Int × Unit)) (e : ((List (List Int)) × (List Bool) × (List Int) × (List Int) × ((List Int) × (Unit × Int)) × (List Int) × Unit)) : loopIt Tryd.prog (E k) 100 2 (subC (bodyOf Tryd.f4) [1, 1, 1, 1, 1, 1, 0, 1, 0, 0]) (recast cl hn kp) (finBy cl hn kp rc rs ri) n ⟨mkS S d, mkH H e⟩ = go (fun x9 x39 y800004_0 y800004_1 y800005 => some (.exit 2, KX d e (x9, x39, y800004_0, y800004_1, y800005))) (fun q0 => some (.ret, RX d e q0)) k d.2.2.1 d.2.2.2.2.2.2.1 e.1 e.2.1 e.2.2.1 e.2.2.2.1 n d.2.2.2.2.1 d.2.2.2.2.2.2.2.1 e.2.2.2.2.1.1 e.2.2.2.2.1.2.2 e.2.2.2.2.2.1 :=
  loopIt_eq (D := (Unit × Unit × (List Int) × Unit × (List Int) × Unit × Int × Int × Unit) × ((List (List Int)) × (List Bool) × (List Int) × (List Int) × ((List Int) × (Unit × Int)) × (List Int) × Unit)) (fun p => ⟨mkS S p.1, mkH H p.2⟩) (fun F p => step (fun x9 x39 y800004_0 y800004_1 y800005 => some (.exit 2, KX p.1 p.2 (x9, x39, y800004_0, y800004_1, y800005))) (fun q0 => some (.ret, RX p.1 p.2 q0)) (fun x9 x39 y800004_0 y800004_1 y800005 => F (((), (), p.1.2.2.1, (), x9, (), p.1.2.2.2.2.2.2.1, x39, ()), (p.2.1, p.2.2.1, p.2.2.2.1, p.2.2.2.2.1, (y800004_0, ((), y800004_1)), y800005, ()))) k p.1.2.2.1 p.1.2.2.2.2.2.2.1 p.2.1 p.2.2.1 p.2.2.2.1 p.2.2.2.2.1 p.1.2.2.2.2.1 p.1.2.2.2.2.2.2.2.1 p.2.2.2.2.2.1.1 p.2.2.2.2.2.1.2.2 p.2.2.2.2.2.2.1) (fun n p => go (fun x9 x39 y800004_0 y800004_1 y800005 => some (.exit 2, KX p.1 p.2 (x9, x39, y800004_0, y800004_1, y800005))) (fun q0 => some (.ret, RX p.1 p.2 q0)) k p.1.2.2.1 p.1.2.2.2.2.2.2.1 p.2.1 p.2.2.1 p.2.2.2.1 p.2.2.2.2.1 n p.1.2.2.2.2.1 p.1.2.2.2.2.2.2.2.1 p.2.2.2.2.2.1.1 p.2.2.2.2.2.1.2.2 p.2.2.2.2.2.2.1) (fun _ => rfl) (fun _ _ => rfl) (fun G p => round k p.1 p.2 G) n (d, e)
theorem ok (k : Nat) : LoopOK Tryd.prog 100 (subC (bodyOf Tryd.f4) [1, 1, 1, 1, 1, 1, 0, 1, 0, 0]) (sum k) :=
  loop_sig hm (fE k) (loopsOK_of [] (by kernel_rfl) trivial) S cl hn kp H 2 (fun (d : (Unit × Unit × (List Int) × Unit × (List Int) × Unit × Int × Int × Unit)) (e : ((List (List Int)) × (List Bool) × (List Int) × (List Int) × ((List Int) × (Unit × Int)) × (List Int) × Unit)) => f k d.2.2.1 d.2.2.2.2.2.2.1 e.1 e.2.1 e.2.2.1 e.2.2.2.1 k d.2.2.2.2.1 d.2.2.2.2.2.2.2.1 e.2.2.2.2.1.1 e.2.2.2.2.1.2.2 e.2.2.2.2.2.1) KX RX cl hn kp rc rs ri k
    (fun d e => (it k k d e).trans (go_nat (exitOf 2 (KX d e) (RX d e)) (fun x9 x39 y800004_0 y800004_1 y800005 => some (.inl (x9, x39, y800004_0, y800004_1, y800005))) (fun q0 => some (.inr q0)) k d.2.2.1 d.2.2.2.2.2.2.1 e.1 e.2.1 e.2.2.1 e.2.2.2.1 k d.2.2.2.2.1 d.2.2.2.2.2.2.2.1 e.2.2.2.2.1.1 e.2.2.2.2.1.2.2 e.2.2.2.2.2.1).symm)
end l2
theorem run (k : Nat) (d : (Unit × Unit × Unit)) (e : ((List (List Int)) × (List Bool) × (List Int) × (List Int) × Unit)) : runFn Tryd.prog (E k) 100 (bodyOf Tryd.f4) Tryd.f4.results.toList cl hn hi (mkL ps d) (mkH hs e) =
    tree (fun b0 => leafFn hs fi e val wr b0) k e.1 e.2.1 e.2.2.1 e.2.2.2.1 := by kernel_rfl
theorem run_f (k : Nat) (d : (Unit × Unit × Unit)) (e : ((List (List Int)) × (List Bool) × (List Int) × (List Int) × Unit)) : runFn Tryd.prog (E k) 100 (bodyOf Tryd.f4) Tryd.f4.results.toList cl hn hi (mkL ps d) (mkH hs e) = (f k e.1 e.2.1 e.2.2.1 e.2.2.2.1).bind (leafFn hs fi e val wr) :=
  (run k d e).trans (tree_nat (leafFn hs fi e val wr) (fun b0 => some b0) k e.1 e.2.1 e.2.2.1 e.2.2.2.1).symm
theorem fnIs : FnIs Tryd.prog 4 Tryd.f4 (bodyOf Tryd.f4) 100 := ⟨by kernel_rfl, by kernel_rfl, by kernel_rfl, by kernel_rfl⟩
theorem ok (k : Nat) : CalleeOK Tryd.prog 4 (callee k) :=
  callee_sig (T := Bool) fnIs hm (fE k) (loopsOK_of [(0, subC (bodyOf Tryd.f4) [1, 1, 1, 0, 1, 0, 0]), (2, subC (bodyOf Tryd.f4) [1, 1, 1, 1, 1, 1, 0, 1, 0, 0])] (by kernel_rfl) ⟨of_loop (l0.sum k) rfl (l0.ok k), ⟨of_loop (l2.sum k) rfl (l2.ok k), trivial⟩⟩) ps hs cl hn fi (fun (d : (Unit × Unit × Unit)) (e : ((List (List Int)) × (List Bool) × (List Int) × (List Int) × Unit)) => f k e.1 e.2.1 e.2.2.1 e.2.2.2.1) val wr rfl (fun _ => rfl) (run_f k)
end trailheadlaw01_DigestParts
namespace trailheadlaw01_DigestTwice
namespace l0
def step {X : Type} (K : Int → (List Int) → Option X) (G : Int → (List Int) → Option X) (k : Nat) (x0 : (List Int)) (x17 : Int) (y0 : (List Int)) (y1 : (List Int)) (y800002 : (List Int)) (x18 : Int) (y800003 : (List Int)) : Option X :=
  (bif (decide (x18 < x17)) then (bif (decide (0 ≤ x18)) then (bif (decide (x18 < 32)) then (bif (decide ((Int.toNat x18) < 32)) then (bif (decide (0 ≤ x18)) then (bif (decide (x18 < ((List.length y800003) : Int))) then (bif (decide ((Int.toNat x18) < (List.length y800003))) then (G (addI .i64 x18 1) (List.set y800003 (Int.toNat x18) (List.getD y800002 (Int.toNat x18) 0))) else none) else none) else none) else none) else none) else none) else (K x18 y800003))
def go {X : Type} (K : Int → (List Int) → Option X) (k : Nat) (x0 : (List Int)) (x17 : Int) (y0 : (List Int)) (y1 : (List Int)) (y800002 : (List Int)) : Nat → Int → (List Int) → Option X
  | 0, _, _ => none
  | n + 1, x18, y800003 => step K (go K k x0 x17 y0 y1 y800002 n) k x0 x17 y0 y1 y800002 x18 y800003
def f (k : Nat) (x0 : (List Int)) (x17 : Int) (y0 : (List Int)) (y1 : (List Int)) (y800002 : (List Int)) (n : Nat) (x18 : Int) (y800003 : (List Int)) : Option (Int × (List Int)) := go (fun x18 y800003 => some (x18, y800003)) k x0 x17 y0 y1 y800002 n x18 y800003
theorem step_nat {X Y : Type} (h : X → Option Y) (K : Int → (List Int) → Option X) (G : Int → (List Int) → Option X) (k : Nat) (x0 : (List Int)) (x17 : Int) (y0 : (List Int)) (y1 : (List Int)) (y800002 : (List Int)) (x18 : Int) (y800003 : (List Int)) : Option.bind (step K G k x0 x17 y0 y1 y800002 x18 y800003) h = step (fun x18 y800003 => Option.bind (K x18 y800003) h) (fun x18 y800003 => Option.bind (G x18 y800003) h) k x0 x17 y0 y1 y800002 x18 y800003 := by
  simp only [step, bif_bind, sel_bind', Option.bind_assoc, Option.bind_none, Option.bind_some]
theorem go_nat {X Y : Type} (h : X → Option Y) (K : Int → (List Int) → Option X) (k : Nat) (x0 : (List Int)) (x17 : Int) (y0 : (List Int)) (y1 : (List Int)) (y800002 : (List Int)) (n : Nat) : ∀ (x18 : Int) (y800003 : (List Int)), Option.bind (go K k x0 x17 y0 y1 y800002 n x18 y800003) h = go (fun x18 y800003 => Option.bind (K x18 y800003) h) k x0 x17 y0 y1 y800002 n x18 y800003 := by
  induction n with
  | zero => intros; rfl
  | succ n ih => intro x18 y800003; show Option.bind (step K (go K k x0 x17 y0 y1 y800002 n) k x0 x17 y0 y1 y800002 x18 y800003) h = step (fun x18 y800003 => Option.bind (K x18 y800003) h) (go (fun x18 y800003 => Option.bind (K x18 y800003) h) k x0 x17 y0 y1 y800002 n) k x0 x17 y0 y1 y800002 x18 y800003; rw [step_nat h]; simp only [ih]
abbrev S : List (Nat × Sh) := [(0, .data .str), (3, .ptr 800002), (4, .vec 800003), (17, .data (.int .i64)), (18, .data (.int .i64))]
abbrev H : List (Nat × ESh) := [(0, .glob 0 (.arr .u32 8)), (1, .glob 1 (.arr .u32 64)), (800002, .cell (.data (.arr .u8 32))), (800003, .rows 2 5 (.int .u8))]
abbrev cl : List (Place × Nat × Hint) := []
abbrev hn : List (Nat × Hint) := [(0, .any), (3, .any), (4, .any), (17, .any), (18, .any)]
abbrev kp : List Nat := [0, 1]
abbrev rc : List (Place × Nat × Hint) := []
abbrev rs : List (Nat × Hint) := []
abbrev ri : List Nat := [0, 1]
def KX (d : ((List Int) × Unit × Unit × Int × Int × Unit)) (e : ((List Int) × (List Int) × (List Int) × (List Int) × Unit)) (v : (Int × (List Int))) : St := ⟨mkS S (d.1, (), (), d.2.2.2.1, v.1, ()), mkH H (e.1, e.2.1, e.2.2.1, v.2, ())⟩
def sum (k : Nat) : LoopSum := sigLoopX S cl hn kp H 0 (fun (d : ((List Int) × Unit × Unit × Int × Int × Unit)) (e : ((List Int) × (List Int) × (List Int) × (List Int) × Unit)) => f k d.1 d.2.2.2.1 e.1 e.2.1 e.2.2.1 k d.2.2.2.2.1 e.2.2.2.1) KX
end l0
def tree {X : Type} (K : Bool → Option X) (k : Nat) (a0 : (List Int)) (m0 : (List Int)) (m1 : (List Int)) : Option X :=
  (Option.bind (trailheadlaw01_alive.f k m0 m1) (fun r1 => (bif (!r1) then (K false) else (bif (decide (((List.length a0) : Int) > (1024 : Int))) then (K true) else (Option.bind (digest_Of.f k ([a0] : (List (List Int))) m0 m1) (fun r2 => (Option.bind (trailheadlaw01_DigestTwice.l0.f k a0 (32 : Int) m0 m1 r2 k (0 : Int) ([0, 0, 0, 0, 0, 0, 0, 0, 0, 0, 0, 0, 0, 0, 0, 0, 0, 0, 0, 0, 0, 0, 0, 0, 0, 0, 0, 0, 0, 0, 0, 0] : (List Int))) (fun r3 => (Option.bind (digest_New.f k m0) (fun r4 => (Option.bind (digest_Hasher_Write.f k r4.1 r4.2 ([a0] : (List (List Int))) m1) (fun r5 => (Option.bind (digest_Double.f k ([a0] : (List (List Int))) m0 m1) (fun r6 => (Option.bind (digest_Of.f k ([(toStr r3.2)] : (List (List Int))) m0 m1) (fun r7 => (bif (decide (r6 = r7)) then (Option.bind (digest_Hasher_Sum.f k r5.1 r5.2.1 m1 r5.2.2) (fun r8 => (bif (decide (r8 = r2)) then (Option.bind (digest_Hasher_Sum.f k r5.1 r5.2.1 m1 r5.2.2) (fun r9 => (K (decide (r9 = r2))))) else (K false)))) else (K false))))))))))))))))))
def f (k : Nat) (a0 : (List Int)) (m0 : (List Int)) (m1 : (List Int)) : Option Bool := tree (fun b0 => some b0) k a0 m0 m1
theorem tree_nat {X Y : Type} (h : X → Option Y) (K : Bool → Option X) (k : Nat) (a0 : (List Int)) (m0 : (List Int)) (m1 : (List Int)) : Option.bind (tree K k a0 m0 m1) h = tree (fun b0 => Option.bind (K b0) h) k a0 m0 m1 := by
  simp only [tree, bif_bind, sel_bind', Option.bind_assoc, Option.bind_none, Option.bind_some]
abbrev ps : List Sh := [.data .str]
abbrev hs : List (Nat × ESh) := [(0, .glob 0 (.arr .u32 8)), (1, .glob 1 (.arr .u32 64))]
abbrev hi : List Nat := hs.map (·.1)
abbrev fi : List Nat := [0, 1]
abbrev cl : List (Place × Nat × Hint) := []
abbrev hn : List Hint := [.any]
def val (t : Bool) : AV := Sh.mk (.data .bool) t
def wr (t : Bool) : Heap := []
def callee (k : Nat) : Callee := sigCallee ps hs (fun (d : ((List Int) × Unit)) (e : ((List Int) × (List Int) × Unit)) => f k d.1 e.1 e.2.1) val wr
def E (k : Nat) : Env := ⟨fnTab [(18, [trailheadlaw01_alive.callee k]), (19, [digest_Of.callee k]), (23, [digest_New.callee k]), (24, [digest_Hasher_Write.callee k]), (21, [digest_Double.callee k]), (25, [digest_Hasher_Sum.callee k])], loopTab [(0, l0.sum k)], natsTab [(18, [0, 1]), (19, [0, 1]), (23, [0]), (24, [1]), (21, [0, 1]), (25, [1])], natTab [(0, 0), (1, 1)]⟩
theorem fE (k : Nat) : ∀ f, ∀ c ∈ (E k).fn f, CalleeOK Tryd.prog f c := fnTab_ok ⟨⟨trailheadlaw01_alive.ok k, trivial⟩, ⟨digest_Of.ok k, trivial⟩, ⟨digest_New.ok k, trivial⟩, ⟨digest_Hasher_Write.ok k, trivial⟩, ⟨digest_Double.ok k, trivial⟩, ⟨digest_Hasher_Sum.ok k, trivial⟩, trivial⟩
namespace l0
theorem round (k : Nat) (d : ((List Int) × Unit × Unit × Int × Int × Unit)) (e : ((List Int) × (List Int) × (List Int) × (List Int) × Unit)) (G : St → Option (Ex × St)) : roundK Tryd.prog (E k) 53 0 (subC (bodyOf Tryd.f5) [1, 1, 1, 1, 1, 0, 1, 0, 0]) (recast cl hn kp) (finBy cl hn kp rc rs ri) G ⟨mkS S d, mkH H e⟩ =
    step (fun x18 y800003 => some (.exit 0, KX d e (x18, y800003))) (fun x18 y800003 => G ⟨mkS S (d.1, (), (), d.2.2.2.1, x18, ()), mkH H (e.1, e.2.1, e.2.2.1, y800003, ())⟩) k d.1 d.2.2.2.1 e.1 e.2.1 e.2.2.1 d.2.2.2.2.1 e.2.2.2.1 := by kernel_rfl
theorem it (k n : Nat) (d : ((List Int) × Unit × Unit × Int × Int × Unit)) (e : ((List Int) × (List Int) × (List Int) × (List Int) × Unit)) : loopIt Tryd.prog (E k) 53 0 (subC (bodyOf Tryd.f5) [1, 1, 1, 1, 1, 0, 1, 0, 0]) (recast cl hn kp) (finBy cl hn kp rc rs ri) n ⟨mkS S d, mkH H e⟩ = go (fun x18 y800003 => some (.exit 0, KX d e (x18, y800003))) k d.1 d.2.2.2.1 e.1 e.2.1 e.2.2.1 n d.2.2.2.2.1 e.2.2.2.1 :=
  loopIt_eq (D := ((List Int) × Unit × Unit × Int × Int × Unit) × ((List Int) × (List Int) × (List Int) × (List Int) × Unit)) (fun p => ⟨mkS S p.1, mkH H p.2⟩) (fun F p => step (fun x18 y800003 => some (.exit 0, KX p.1 p.2 (x18, y800003))) (fun x18 y800003 => F ((p.1.1, (), (), p.1.2.2.2.1, x18, ()), (p.2.1, p.2.2.1, p.2.2.2.1, y800003, ()))) k p.1.1 p.1.2.2.2.1 p.2.1 p.2.2.1 p.2.2.2.1 p.1.2.2.2.2.1 p.2.2.2.2.1) (fun n p => go (fun x18 y800003 => some (.exit 0, KX p.1 p.2 (x18, y800003))) k p.1.1 p.1.2.2.2.1 p.2.1 p.2.2.1 p.2.2.2.1 n p.1.2.2.2.2.1 p.2.2.2.2.1) (fun _ => rfl) (fun _ _ => rfl) (fun G p => round k p.1 p.2 G) n (d, e)
theorem ok (k : Nat) : LoopOK Tryd.prog 53 (subC (bodyOf Tryd.f5) [1, 1, 1, 1, 1, 0, 1, 0, 0]) (sum k) :=
  loop_sigX hm (fE k) (loopsOK_of [] (by kernel_rfl) trivial) S cl hn kp H 0 (fun (d : ((List Int) × Unit × Unit × Int × Int × Unit)) (e : ((List Int) × (List Int) × (List Int) × (List Int) × Unit)) => f k d.1 d.2.2.2.1 e.1 e.2.1 e.2.2.1 k d.2.2.2.2.1 e.2.2.2.1) KX cl hn kp rc rs ri k
    (fun d e => (it k k d e).trans (go_nat (fun v => some (Ex.exit 0, KX d e v)) (fun x18 y800003 => some (x18, y800003)) k d.1 d.2.2.2.1 e.1 e.2.1 e.2.2.1 k d.2.2.2.2.1 e.2.2.2.1).symm)
end l0
theorem run (k : Nat) (d : ((List Int) × Unit)) (e : ((List Int) × (List Int) × Unit)) : runFn Tryd.prog (E k) 53 (bodyOf Tryd.f5) Tryd.f5.results.toList cl hn hi (mkL ps d) (mkH hs e) =
    tree (fun b0 => leafFn hs fi e val wr b0) k d.1 e.1 e.2.1 := by kernel_rfl
theorem run_f (k : Nat) (d : ((List Int) × Unit)) (e : ((List Int) × (List Int) × Unit)) : runFn Tryd.prog (E k) 53 (bodyOf Tryd.f5) Tryd.f5.results.toList cl hn hi (mkL ps d) (mkH hs e) = (f k d.1 e.1 e.2.1).bind (leafFn hs fi e val wr) :=
  (run k d e).trans (tree_nat (leafFn hs fi e val wr) (fun b0 => some b0) k d.1 e.1 e.2.1).symm
theorem fnIs : FnIs Tryd.prog 5 Tryd.f5 (bodyOf Tryd.f5) 53 := ⟨by kernel_rfl, by kernel_rfl, by kernel_rfl, by kernel_rfl⟩
theorem ok (k : Nat) : CalleeOK Tryd.prog 5 (callee k) :=
  callee_sig (T := Bool) fnIs hm (fE k) (loopsOK_of [(0, subC (bodyOf Tryd.f5) [1, 1, 1, 1, 1, 0, 1, 0, 0])] (by kernel_rfl) ⟨of_loop (l0.sum k) rfl (l0.ok k), trivial⟩) ps hs cl hn fi (fun (d : ((List Int) × Unit)) (e : ((List Int) × (List Int) × Unit)) => f k d.1 e.1 e.2.1) val wr rfl (fun _ => rfl) (run_f k)
end trailheadlaw01_DigestTwice
end Go.Proofs.YtnnajeoeeefjaaaDoor.Sy
