/- What the Go functions come to, on data: printed by sypr.py. -/
import Derived.Test.YtkgpjplncfginaaGreatDoorWA1
namespace Go.Proofs.YtkgpjplncfginaaGreatDoor.Sy
open Go Go.Proofs
set_option maxRecDepth 100000
set_option linter.unusedVariables false
set_option linter.unusedSimpArgs false
namespace speech_some_api_Hash_v2
namespace l0
def step {X : Type} (K : Int → ((List Int) × Bool) → (List (List Int)) → Option X) (Q : ((List Int) × Bool) → Option X) (G : Int → ((List Int) × Bool) → (List (List Int)) → Option X) (k : Nat) (x11 : Int) (x12 : Int) (y0 : ((List Int) × Bool)) (y800001 : (List (List Int))) : Option X :=
  (bif (decide (x12 < x11)) then (Option.bind (scroll_Eye_Name.f k y0) (fun r2 => (Option.bind (scroll_Eye_Bad.f k r2.2) (fun r3 => (bif r3 then (Q r2.2) else (bif (fits (((List.length y800001) + 1) * 32)) then (G (addI .i64 x12 1) r2.2 (y800001 ++ ([r2.1] : (List (List Int))))) else none)))))) else (K x12 y0 y800001))
def go {X : Type} (K : Int → ((List Int) × Bool) → (List (List Int)) → Option X) (Q : ((List Int) × Bool) → Option X) (k : Nat) (x11 : Int) : Nat → Int → ((List Int) × Bool) → (List (List Int)) → Option X
  | 0, _, _, _ => none
  | n + 1, x12, y0, y800001 => step K Q (go K Q k x11 n) k x11 x12 y0 y800001
def f (k : Nat) (x11 : Int) (n : Nat) (x12 : Int) (y0 : ((List Int) × Bool)) (y800001 : (List (List Int))) : Option ((Int × (((List Int) × Bool) × (List (List Int)))) ⊕ ((List Int) × Bool)) := go (fun x12 y0 y800001 => some (.inl (x12, y0, y800001))) (fun q0 => some (.inr q0)) k x11 n x12 y0 y800001
theorem step_nat {X Y : Type} (h : X → Option Y) (K : Int → ((List Int) × Bool) → (List (List Int)) → Option X) (Q : ((List Int) × Bool) → Option X) (G : Int → ((List Int) × Bool) → (List (List Int)) → Option X) (k : Nat) (x11 : Int) (x12 : Int) (y0 : ((List Int) × Bool)) (y800001 : (List (List Int))) : Option.bind (step K Q G k x11 x12 y0 y800001) h = step (fun x12 y0 y800001 => Option.bind (K x12 y0 y800001) h) (fun q0 => Option.bind (Q q0) h) (fun x12 y0 y800001 => Option.bind (G x12 y0 y800001) h) k x11 x12 y0 y800001 := by
  simp only [step, bif_bind, sel_bind', Option.bind_assoc, Option.bind_none, Option.bind_some]
theorem go_nat {X Y : Type} (h : X → Option Y) (K : Int → ((List Int) × Bool) → (List (List Int)) → Option X) (Q : ((List Int) × Bool) → Option X) (k : Nat) (x11 : Int) (n : Nat) : ∀ (x12 : Int) (y0 : ((List Int) × Bool)) (y800001 : (List (List Int))), Option.bind (go K Q k x11 n x12 y0 y800001) h = go (fun x12 y0 y800001 => Option.bind (K x12 y0 y800001) h) (fun q0 => Option.bind (Q q0) h) k x11 n x12 y0 y800001 := by
  induction n with
  | zero => intros; rfl
  | succ n ih => intro x12 y0 y800001; show Option.bind (step K Q (go K Q k x11 n) k x11 x12 y0 y800001) h = step (fun x12 y0 y800001 => Option.bind (K x12 y0 y800001) h) (fun q0 => Option.bind (Q q0) h) (go (fun x12 y0 y800001 => Option.bind (K x12 y0 y800001) h) (fun q0 => Option.bind (Q q0) h) k x11 n) k x11 x12 y0 y800001; rw [step_nat h]; simp only [ih]
abbrev S : List (Nat × Sh) := [(0, .ptr 0), (2, .fn 31), (7, .vec 800001), (11, .data (.int .i64)), (12, .data (.int .i64))]
abbrev H : List (Nat × ESh) := [(0, .cell (.data (.pair .str .bool))), (800001, .rows 2 24 (.arr .u8 32))]
abbrev cl : List (Place × Nat × Hint) := []
abbrev hn : List (Nat × Hint) := [(0, .any), (2, .any), (7, (.row 2 24 (.arr .u8 32))), (11, .any), (12, .any)]
abbrev kp : List Nat := [0]
abbrev rc : List (Place × Nat × Hint) := []
abbrev rs : List (Nat × Hint) := [(6, .any)]
abbrev ri : List Nat := [0]
def KX (d : (Unit × Unit × Unit × Int × Int × Unit)) (e : (((List Int) × Bool) × (List (List Int)) × Unit)) (v : (Int × (((List Int) × Bool) × (List (List Int))))) : St := ⟨mkS S ((), (), (), d.2.2.2.1, v.1, ()), mkH H (v.2.1, v.2.2, ())⟩
abbrev RS : List (Nat × Sh) := [(6, .nils)]
abbrev RH : List (Nat × ESh) := [(0, .cell (.data (.pair .str .bool)))]
def RX (d : (Unit × Unit × Unit × Int × Int × Unit)) (e : (((List Int) × Bool) × (List (List Int)) × Unit)) (v : ((List Int) × Bool)) : St := ⟨mkS RS ((), ()), mkH RH (v, ())⟩
def sum (k : Nat) : LoopSum := sigLoop S cl hn kp H 0 (fun (d : (Unit × Unit × Unit × Int × Int × Unit)) (e : (((List Int) × Bool) × (List (List Int)) × Unit)) => f k d.2.2.2.1 k d.2.2.2.2.1 e.1 e.2.1) KX RX
end l0
def tree {X : Type} (K : ((List Int) × Bool) → (List (List Int)) → Option X) (k : Nat) (a1 : Int) (m0 : ((List Int) × Bool)) : Option X :=
  (Option.bind (scroll_Eye_Count.f k a1 m0) (fun r1 => (Option.bind (speech_some_api_Hash_v2.l0.f k r1.1 k (0 : Int) r1.2 ([] : (List (List Int)))) (fun r4 => sel r4 (fun v5 => (K v5.2.1 v5.2.2)) (fun q6 => (K q6 ([] : (List (List Int)))))))))
def f (k : Nat) (a1 : Int) (m0 : ((List Int) × Bool)) : Option (((List Int) × Bool) × (List (List Int))) := tree (fun b0 b1 => some (b0, b1)) k a1 m0
theorem tree_nat {X Y : Type} (h : X → Option Y) (K : ((List Int) × Bool) → (List (List Int)) → Option X) (k : Nat) (a1 : Int) (m0 : ((List Int) × Bool)) : Option.bind (tree K k a1 m0) h = tree (fun b0 b1 => Option.bind (K b0 b1) h) k a1 m0 := by
  simp only [tree, bif_bind, sel_bind', Option.bind_assoc, Option.bind_none, Option.bind_some]
abbrev ps : List Sh := [.ptr 0, .data (.int .i64), .fn 31]
abbrev hs : List (Nat × ESh) := [(0, .cell (.data (.pair .str .bool)))]
abbrev hi : List Nat := hs.map (·.1)
abbrev fi : List Nat := [0, 900001]
abbrev cl : List (Place × Nat × Hint) := []
abbrev hn : List Hint := [(.row 2 24 (.arr .u8 32))]
def val (t : (((List Int) × Bool) × (List (List Int)))) : AV := Sh.mk (.vec 900001) ()
def wr (t : (((List Int) × Bool) × (List (List Int)))) : Heap := [(0, ESh.mk (.cell (.data (.pair .str .bool))) t.1), (900001, ESh.mk (.rows 2 24 (.arr .u8 32)) t.2)]
def callee (k : Nat) : Callee := sigCallee ps hs (fun (d : (Unit × Int × Unit × Unit)) (e : (((List Int) × Bool) × Unit)) => f k d.2.1 e.1) val wr
def E (k : Nat) : Env := ⟨fnTab [(53, [scroll_Eye_Count.callee k]), (31, [scroll_Eye_Name.callee k]), (54, [scroll_Eye_Bad.callee k])], loopTab [(0, l0.sum k)], natsTab [], natTab []⟩
theorem fE (k : Nat) : ∀ f, ∀ c ∈ (E k).fn f, CalleeOK Tryz.prog f c := fnTab_ok ⟨⟨scroll_Eye_Count.ok k, trivial⟩, ⟨scroll_Eye_Name.ok k, trivial⟩, ⟨scroll_Eye_Bad.ok k, trivial⟩, trivial⟩
namespace l0
theorem round (k : Nat) (d : (Unit × Unit × Unit × Int × Int × Unit)) (e : (((List Int) × Bool) × (List (List Int)) × Unit)) (G : St → Option (Ex × St)) : roundK Tryz.prog (E k) 25 0 (subC (bodyOf Tryz.f30) [1, 1, 0, 1, 0, 0]) (recast cl hn kp) (finBy cl hn kp rc rs ri) G ⟨mkS S d, mkH H e⟩ =
    step (fun x12 y0 y800001 => some (.exit 0, KX d e (x12, y0, y800001))) (fun q0 => some (.ret, RX d e q0)) (fun x12 y0 y800001 => G ⟨mkS S ((), (), (), d.2.2.2.1, x12, ()), mkH H (y0, y800001, ())⟩) k d.2.2.2.1 d.2.2.2.2.1 e.1 e.2.1 := by kernel_rfl
theorem it (k n : Nat) (d : (Unit × Unit × Unit × Int × Int × Unit)) (e : (((List Int) × Bool) × (List (List Int)) × Unit)) : loopIt Tryz.prog (E k) 25 0 (subC (bodyOf Tryz.f30) [1, 1, 0, 1, 0, 0]) (recast cl hn kp) (finBy cl hn kp rc rs ri) n ⟨mkS S d, mkH H e⟩ = go (fun x12 y0 y800001 => some (.exit 0, KX d e (x12, y0, y800001))) (fun q0 => some (.ret, RX d e q0)) k d.2.2.2.1 n d.2.2.2.2.1 e.1 e.2.1 :=
  loopIt_eq (D := (Unit × Unit × Unit × Int × Int × Unit) × (((List Int) × Bool) × (List (List Int)) × Unit)) (fun p => ⟨mkS S p.1, mkH H p.2⟩) (fun F p => step (fun x12 y0 y800001 => some (.exit 0, KX p.1 p.2 (x12, y0, y800001))) (fun q0 => some (.ret, RX p.1 p.2 q0)) (fun x12 y0 y800001 => F (((), (), (), p.1.2.2.2.1, x12, ()), (y0, y800001, ()))) k p.1.2.2.2.1 p.1.2.2.2.2.1 p.2.1 p.2.2.1) (fun n p => go (fun x12 y0 y800001 => some (.exit 0, KX p.1 p.2 (x12, y0, y800001))) (fun q0 => some (.ret, RX p.1 p.2 q0)) k p.1.2.2.2.1 n p.1.2.2.2.2.1 p.2.1 p.2.2.1) (fun _ => rfl) (fun _ _ => rfl) (fun G p => round k p.1 p.2 G) n (d, e)
theorem ok (k : Nat) : LoopOK Tryz.prog 25 (subC (bodyOf Tryz.f30) [1, 1, 0, 1, 0, 0]) (sum k) :=
  loop_sig hm (fE k) (loopsOK_of [] (by kernel_rfl) trivial) S cl hn kp H 0 (fun (d : (Unit × Unit × Unit × Int × Int × Unit)) (e : (((List Int) × Bool) × (List (List Int)) × Unit)) => f k d.2.2.2.1 k d.2.2.2.2.1 e.1 e.2.1) KX RX cl hn kp rc rs ri k
    (fun d e => (it k k d e).trans (go_nat (exitOf 0 (KX d e) (RX d e)) (fun x12 y0 y800001 => some (.inl (x12, y0, y800001))) (fun q0 => some (.inr q0)) k d.2.2.2.1 k d.2.2.2.2.1 e.1 e.2.1).symm)
end l0
theorem run (k : Nat) (d : (Unit × Int × Unit × Unit)) (e : (((List Int) × Bool) × Unit)) : runFn Tryz.prog (E k) 25 (bodyOf Tryz.f30) Tryz.f30.results.toList cl hn hi (mkL ps d) (mkH hs e) =
    tree (fun b0 b1 => leafFn hs fi e val wr (b0, b1)) k d.2.1 e.1 := by kernel_rfl
theorem run_f (k : Nat) (d : (Unit × Int × Unit × Unit)) (e : (((List Int) × Bool) × Unit)) : runFn Tryz.prog (E k) 25 (bodyOf Tryz.f30) Tryz.f30.results.toList cl hn hi (mkL ps d) (mkH hs e) = (f k d.2.1 e.1).bind (leafFn hs fi e val wr) :=
  (run k d e).trans (tree_nat (leafFn hs fi e val wr) (fun b0 b1 => some (b0, b1)) k d.2.1 e.1).symm
theorem fnIs : FnIs Tryz.prog 30 Tryz.f30 (bodyOf Tryz.f30) 25 := ⟨by kernel_rfl, by kernel_rfl, by kernel_rfl, by kernel_rfl⟩
theorem ok (k : Nat) : CalleeOK Tryz.prog 30 (callee k) :=
  callee_sig (T := (((List Int) × Bool) × (List (List Int)))) fnIs hm (fE k) (loopsOK_of [(0, subC (bodyOf Tryz.f30) [1, 1, 0, 1, 0, 0])] (by kernel_rfl) ⟨of_loop (l0.sum k) rfl (l0.ok k), trivial⟩) ps hs cl hn fi (fun (d : (Unit × Int × Unit × Unit)) (e : (((List Int) × Bool) × Unit)) => f k d.2.1 e.1) val wr rfl (fun _ => rfl) (run_f k)
end speech_some_api_Hash_v2
namespace header_Read
def tree {X : Type} (K : T_3d5633 → ((List Int) × Bool) → Option X) (k : Nat) (m0 : ((List Int) × Bool)) : Option X :=
  (Option.bind (scroll_Eye_Get.f k (4 : Int) m0) (fun r1 => (Option.bind (scroll_Eye_Name.f k r1.2) (fun r2 => (Option.bind (scroll_Eye_Name.f k r2.2) (fun r3 => (Option.bind (scroll_Eye_Get.f k (4 : Int) r3.2) (fun r4 => (Option.bind (scroll_Eye_Get.f k (4 : Int) r4.2) (fun r5 => (Option.bind (scroll_Eye_Get.f k (4 : Int) r5.2) (fun r6 => (Option.bind (scroll_Eye_Bad.f k r6.2) (fun r7 => (bif r7 then (K ((0, ([0, 0, 0, 0, 0, 0, 0, 0, 0, 0, 0, 0, 0, 0, 0, 0, 0, 0, 0, 0, 0, 0, 0, 0, 0, 0, 0, 0, 0, 0, 0, 0], ([0, 0, 0, 0, 0, 0, 0, 0, 0, 0, 0, 0, 0, 0, 0, 0, 0, 0, 0, 0, 0, 0, 0, 0, 0, 0, 0, 0, 0, 0, 0, 0], (0, (0, 0))))) : T_3d5633) r6.2) else (K (((IntKind.wrap .i64 (IntKind.wrap .i32 r1.1)), (r2.1, (r3.1, (r4.1, (r5.1, r6.1))))) : T_3d5633) r6.2))))))))))))))))
def f (k : Nat) (m0 : ((List Int) × Bool)) : Option (T_3d5633 × ((List Int) × Bool)) := tree (fun b0 b1 => some (b0, b1)) k m0
theorem tree_nat {X Y : Type} (h : X → Option Y) (K : T_3d5633 → ((List Int) × Bool) → Option X) (k : Nat) (m0 : ((List Int) × Bool)) : Option.bind (tree K k m0) h = tree (fun b0 b1 => Option.bind (K b0 b1) h) k m0 := by
  simp only [tree, bif_bind, sel_bind', Option.bind_assoc, Option.bind_none, Option.bind_some]
abbrev ps : List Sh := [.ptr 0]
abbrev hs : List (Nat × ESh) := [(0, .cell (.data (.pair .str .bool)))]
abbrev hi : List Nat := hs.map (·.1)
abbrev fi : List Nat := [0]
abbrev cl : List (Place × Nat × Hint) := []
abbrev hn : List Hint := [.any]
def val (t : (T_3d5633 × ((List Int) × Bool))) : AV := Sh.mk (.data (.pair (.int .i64) (.pair (.arr .u8 32) (.pair (.arr .u8 32) (.pair (.int .i64) (.pair (.int .i64) (.int .i64))))))) t.1
def wr (t : (T_3d5633 × ((List Int) × Bool))) : Heap := [(0, ESh.mk (.cell (.data (.pair .str .bool))) t.2)]
def callee (k : Nat) : Callee := sigCallee ps hs (fun (d : (Unit × Unit)) (e : (((List Int) × Bool) × Unit)) => f k e.1) val wr
def E (k : Nat) : Env := ⟨fnTab [(29, [scroll_Eye_Get.callee k]), (31, [scroll_Eye_Name.callee k]), (54, [scroll_Eye_Bad.callee k])], loopTab [], natsTab [], natTab []⟩
theorem fE (k : Nat) : ∀ f, ∀ c ∈ (E k).fn f, CalleeOK Tryz.prog f c := fnTab_ok ⟨⟨scroll_Eye_Get.ok k, trivial⟩, ⟨scroll_Eye_Name.ok k, trivial⟩, ⟨scroll_Eye_Bad.ok k, trivial⟩, trivial⟩
theorem run (k : Nat) (d : (Unit × Unit)) (e : (((List Int) × Bool) × Unit)) : runFn Tryz.prog (E k) 25 (bodyOf Tryz.f55) Tryz.f55.results.toList cl hn hi (mkL ps d) (mkH hs e) =
    tree (fun b0 b1 => leafFn hs fi e val wr (b0, b1)) k e.1 := by kernel_rfl
theorem run_f (k : Nat) (d : (Unit × Unit)) (e : (((List Int) × Bool) × Unit)) : runFn Tryz.prog (E k) 25 (bodyOf Tryz.f55) Tryz.f55.results.toList cl hn hi (mkL ps d) (mkH hs e) = (f k e.1).bind (leafFn hs fi e val wr) :=
  (run k d e).trans (tree_nat (leafFn hs fi e val wr) (fun b0 b1 => some (b0, b1)) k e.1).symm
theorem fnIs : FnIs Tryz.prog 55 Tryz.f55 (bodyOf Tryz.f55) 25 := ⟨by kernel_rfl, by kernel_rfl, by kernel_rfl, by kernel_rfl⟩
theorem ok (k : Nat) : CalleeOK Tryz.prog 55 (callee k) :=
  callee_sig (T := (T_3d5633 × ((List Int) × Bool))) fnIs hm (fE k) (loopsOK_of [] (by kernel_rfl) trivial) ps hs cl hn fi (fun (d : (Unit × Unit)) (e : (((List Int) × Bool) × Unit)) => f k e.1) val wr rfl (fun _ => rfl) (run_f k)
end header_Read
namespace speech_head
def tree {X : Type} (K : T_3d5633 → ((List Int) × Bool) → Option X) (k : Nat) (m0 : ((List Int) × Bool)) : Option X :=
  (Option.bind (header_Read.f k m0) (fun r1 => (Option.bind (scroll_Eye_Count.f k (0 : Int) r1.2) (fun r2 => (K r1.1 r2.2)))))
def f (k : Nat) (m0 : ((List Int) × Bool)) : Option (T_3d5633 × ((List Int) × Bool)) := tree (fun b0 b1 => some (b0, b1)) k m0
theorem tree_nat {X Y : Type} (h : X → Option Y) (K : T_3d5633 → ((List Int) × Bool) → Option X) (k : Nat) (m0 : ((List Int) × Bool)) : Option.bind (tree K k m0) h = tree (fun b0 b1 => Option.bind (K b0 b1) h) k m0 := by
  simp only [tree, bif_bind, sel_bind', Option.bind_assoc, Option.bind_none, Option.bind_some]
abbrev ps : List Sh := [.ptr 0]
abbrev hs : List (Nat × ESh) := [(0, .cell (.data (.pair .str .bool)))]
abbrev hi : List Nat := hs.map (·.1)
abbrev fi : List Nat := [0]
abbrev cl : List (Place × Nat × Hint) := []
abbrev hn : List Hint := [.any]
def val (t : (T_3d5633 × ((List Int) × Bool))) : AV := Sh.mk (.data (.pair (.int .i64) (.pair (.arr .u8 32) (.pair (.arr .u8 32) (.pair (.int .i64) (.pair (.int .i64) (.int .i64))))))) t.1
def wr (t : (T_3d5633 × ((List Int) × Bool))) : Heap := [(0, ESh.mk (.cell (.data (.pair .str .bool))) t.2)]
def callee (k : Nat) : Callee := sigCallee ps hs (fun (d : (Unit × Unit)) (e : (((List Int) × Bool) × Unit)) => f k e.1) val wr
def E (k : Nat) : Env := ⟨fnTab [(55, [header_Read.callee k]), (53, [scroll_Eye_Count.callee k])], loopTab [], natsTab [], natTab []⟩
theorem fE (k : Nat) : ∀ f, ∀ c ∈ (E k).fn f, CalleeOK Tryz.prog f c := fnTab_ok ⟨⟨header_Read.ok k, trivial⟩, ⟨scroll_Eye_Count.ok k, trivial⟩, trivial⟩
theorem run (k : Nat) (d : (Unit × Unit)) (e : (((List Int) × Bool) × Unit)) : runFn Tryz.prog (E k) 9 (bodyOf Tryz.f33) Tryz.f33.results.toList cl hn hi (mkL ps d) (mkH hs e) =
    tree (fun b0 b1 => leafFn hs fi e val wr (b0, b1)) k e.1 := by kernel_rfl
theorem run_f (k : Nat) (d : (Unit × Unit)) (e : (((List Int) × Bool) × Unit)) : runFn Tryz.prog (E k) 9 (bodyOf Tryz.f33) Tryz.f33.results.toList cl hn hi (mkL ps d) (mkH hs e) = (f k e.1).bind (leafFn hs fi e val wr) :=
  (run k d e).trans (tree_nat (leafFn hs fi e val wr) (fun b0 b1 => some (b0, b1)) k e.1).symm
theorem fnIs : FnIs Tryz.prog 33 Tryz.f33 (bodyOf Tryz.f33) 9 := ⟨by kernel_rfl, by kernel_rfl, by kernel_rfl, by kernel_rfl⟩
theorem ok (k : Nat) : CalleeOK Tryz.prog 33 (callee k) :=
  callee_sig (T := (T_3d5633 × ((List Int) × Bool))) fnIs hm (fE k) (loopsOK_of [] (by kernel_rfl) trivial) ps hs cl hn fi (fun (d : (Unit × Unit)) (e : (((List Int) × Bool) × Unit)) => f k e.1) val wr rfl (fun _ => rfl) (run_f k)
end speech_head
namespace speech_some_api_Header_v1
namespace l0
def step {X : Type} (K : Int → ((List Int) × Bool) → (List T_3d5633) → Option X) (Q : ((List Int) × Bool) → Option X) (G : Int → ((List Int) × Bool) → (List T_3d5633) → Option X) (k : Nat) (x11 : Int) (x12 : Int) (y0 : ((List Int) × Bool)) (y800001 : (List T_3d5633)) : Option X :=
  (bif (decide (x12 < x11)) then (Option.bind (speech_head.f k y0) (fun r2 => (Option.bind (scroll_Eye_Bad.f k r2.2) (fun r3 => (bif r3 then (Q r2.2) else (bif (fits (((List.length y800001) + 1) * 96)) then (G (addI .i64 x12 1) r2.2 (y800001 ++ ([r2.1] : (List T_3d5633)))) else none)))))) else (K x12 y0 y800001))
def go {X : Type} (K : Int → ((List Int) × Bool) → (List T_3d5633) → Option X) (Q : ((List Int) × Bool) → Option X) (k : Nat) (x11 : Int) : Nat → Int → ((List Int) × Bool) → (List T_3d5633) → Option X
  | 0, _, _, _ => none
  | n + 1, x12, y0, y800001 => step K Q (go K Q k x11 n) k x11 x12 y0 y800001
def f (k : Nat) (x11 : Int) (n : Nat) (x12 : Int) (y0 : ((List Int) × Bool)) (y800001 : (List T_3d5633)) : Option ((Int × (((List Int) × Bool) × (List T_3d5633))) ⊕ ((List Int) × Bool)) := go (fun x12 y0 y800001 => some (.inl (x12, y0, y800001))) (fun q0 => some (.inr q0)) k x11 n x12 y0 y800001
theorem step_nat {X Y : Type} (h : X → Option Y) (K : Int → ((List Int) × Bool) → (List T_3d5633) → Option X) (Q : ((List Int) × Bool) → Option X) (G : Int → ((List Int) × Bool) → (List T_3d5633) → Option X) (k : Nat) (x11 : Int) (x12 : Int) (y0 : ((List Int) × Bool)) (y800001 : (List T_3d5633)) : Option.bind (step K Q G k x11 x12 y0 y800001) h = step (fun x12 y0 y800001 => Option.bind (K x12 y0 y800001) h) (fun q0 => Option.bind (Q q0) h) (fun x12 y0 y800001 => Option.bind (G x12 y0 y800001) h) k x11 x12 y0 y800001 := by
  simp only [step, bif_bind, sel_bind', Option.bind_assoc, Option.bind_none, Option.bind_some]
theorem go_nat {X Y : Type} (h : X → Option Y) (K : Int → ((List Int) × Bool) → (List T_3d5633) → Option X) (Q : ((List Int) × Bool) → Option X) (k : Nat) (x11 : Int) (n : Nat) : ∀ (x12 : Int) (y0 : ((List Int) × Bool)) (y800001 : (List T_3d5633)), Option.bind (go K Q k x11 n x12 y0 y800001) h = go (fun x12 y0 y800001 => Option.bind (K x12 y0 y800001) h) (fun q0 => Option.bind (Q q0) h) k x11 n x12 y0 y800001 := by
  induction n with
  | zero => intros; rfl
  | succ n ih => intro x12 y0 y800001; show Option.bind (step K Q (go K Q k x11 n) k x11 x12 y0 y800001) h = step (fun x12 y0 y800001 => Option.bind (K x12 y0 y800001) h) (fun q0 => Option.bind (Q q0) h) (go (fun x12 y0 y800001 => Option.bind (K x12 y0 y800001) h) (fun q0 => Option.bind (Q q0) h) k x11 n) k x11 x12 y0 y800001; rw [step_nat h]; simp only [ih]
abbrev S : List (Nat × Sh) := [(0, .ptr 0), (2, .fn 33), (7, .vec 800001), (11, .data (.int .i64)), (12, .data (.int .i64))]
abbrev H : List (Nat × ESh) := [(0, .cell (.data (.pair .str .bool))), (800001, .rows 2 44 (.pair (.int .i64) (.pair (.arr .u8 32) (.pair (.arr .u8 32) (.pair (.int .i64) (.pair (.int .i64) (.int .i64)))))))]
abbrev cl : List (Place × Nat × Hint) := []
abbrev hn : List (Nat × Hint) := [(0, .any), (2, .any), (7, (.row 2 44 (.pair (.int .i64) (.pair (.arr .u8 32) (.pair (.arr .u8 32) (.pair (.int .i64) (.pair (.int .i64) (.int .i64)))))))), (11, .any), (12, .any)]
abbrev kp : List Nat := [0]
abbrev rc : List (Place × Nat × Hint) := []
abbrev rs : List (Nat × Hint) := [(6, .any)]
abbrev ri : List Nat := [0]
def KX (d : (Unit × Unit × Unit × Int × Int × Unit)) (e : (((List Int) × Bool) × (List T_3d5633) × Unit)) (v : (Int × (((List Int) × Bool) × (List T_3d5633)))) : St := ⟨mkS S ((), (), (), d.2.2.2.1, v.1, ()), mkH H (v.2.1, v.2.2, ())⟩
abbrev RS : List (Nat × Sh) := [(6, .nils)]
abbrev RH : List (Nat × ESh) := [(0, .cell (.data (.pair .str .bool)))]
def RX (d : (Unit × Unit × Unit × Int × Int × Unit)) (e : (((List Int) × Bool) × (List T_3d5633) × Unit)) (v : ((List Int) × Bool)) : St := ⟨mkS RS ((), ()), mkH RH (v, ())⟩
def sum (k : Nat) : LoopSum := sigLoop S cl hn kp H 0 (fun (d : (Unit × Unit × Unit × Int × Int × Unit)) (e : (((List Int) × Bool) × (List T_3d5633) × Unit)) => f k d.2.2.2.1 k d.2.2.2.2.1 e.1 e.2.1) KX RX
end l0
def tree {X : Type} (K : ((List Int) × Bool) → (List T_3d5633) → Option X) (k : Nat) (a1 : Int) (m0 : ((List Int) × Bool)) : Option X :=
  (Option.bind (scroll_Eye_Count.f k a1 m0) (fun r1 => (Option.bind (speech_some_api_Header_v1.l0.f k r1.1 k (0 : Int) r1.2 ([] : (List T_3d5633))) (fun r4 => sel r4 (fun v5 => (K v5.2.1 v5.2.2)) (fun q6 => (K q6 ([] : (List T_3d5633))))))))
def f (k : Nat) (a1 : Int) (m0 : ((List Int) × Bool)) : Option (((List Int) × Bool) × (List T_3d5633)) := tree (fun b0 b1 => some (b0, b1)) k a1 m0
theorem tree_nat {X Y : Type} (h : X → Option Y) (K : ((List Int) × Bool) → (List T_3d5633) → Option X) (k : Nat) (a1 : Int) (m0 : ((List Int) × Bool)) : Option.bind (tree K k a1 m0) h = tree (fun b0 b1 => Option.bind (K b0 b1) h) k a1 m0 := by
  simp only [tree, bif_bind, sel_bind', Option.bind_assoc, Option.bind_none, Option.bind_some]
abbrev ps : List Sh := [.ptr 0, .data (.int .i64), .fn 33]
abbrev hs : List (Nat × ESh) := [(0, .cell (.data (.pair .str .bool)))]
abbrev hi : List Nat := hs.map (·.1)
abbrev fi : List Nat := [0, 900001]
abbrev cl : List (Place × Nat × Hint) := []
abbrev hn : List Hint := [(.row 2 44 (.pair (.int .i64) (.pair (.arr .u8 32) (.pair (.arr .u8 32) (.pair (.int .i64) (.pair (.int .i64) (.int .i64)))))))]
def val (t : (((List Int) × Bool) × (List T_3d5633))) : AV := Sh.mk (.vec 900001) ()
def wr (t : (((List Int) × Bool) × (List T_3d5633))) : Heap := [(0, ESh.mk (.cell (.data (.pair .str .bool))) t.1), (900001, ESh.mk (.rows 2 44 (.pair (.int .i64) (.pair (.arr .u8 32) (.pair (.arr .u8 32) (.pair (.int .i64) (.pair (.int .i64) (.int .i64))))))) t.2)]
def callee (k : Nat) : Callee := sigCallee ps hs (fun (d : (Unit × Int × Unit × Unit)) (e : (((List Int) × Bool) × Unit)) => f k d.2.1 e.1) val wr
def E (k : Nat) : Env := ⟨fnTab [(53, [scroll_Eye_Count.callee k]), (33, [speech_head.callee k]), (54, [scroll_Eye_Bad.callee k])], loopTab [(0, l0.sum k)], natsTab [], natTab []⟩
theorem fE (k : Nat) : ∀ f, ∀ c ∈ (E k).fn f, CalleeOK Tryz.prog f c := fnTab_ok ⟨⟨scroll_Eye_Count.ok k, trivial⟩, ⟨speech_head.ok k, trivial⟩, ⟨scroll_Eye_Bad.ok k, trivial⟩, trivial⟩
namespace l0
theorem round (k : Nat) (d : (Unit × Unit × Unit × Int × Int × Unit)) (e : (((List Int) × Bool) × (List T_3d5633) × Unit)) (G : St → Option (Ex × St)) : roundK Tryz.prog (E k) 25 0 (subC (bodyOf Tryz.f32) [1, 1, 0, 1, 0, 0]) (recast cl hn kp) (finBy cl hn kp rc rs ri) G ⟨mkS S d, mkH H e⟩ =
    step (fun x12 y0 y800001 => some (.exit 0, KX d e (x12, y0, y800001))) (fun q0 => some (.ret, RX d e q0)) (fun x12 y0 y800001 => G ⟨mkS S ((), (), (), d.2.2.2.1, x12, ()), mkH H (y0, y800001, ())⟩) k d.2.2.2.1 d.2.2.2.2.1 e.1 e.2.1 := by kernel_rfl
theorem it (k n : Nat) (d : (Unit × Unit × Unit × Int × Int × Unit)) (e : (((List Int) × Bool) × (List T_3d5633) × Unit)) : loopIt Tryz.prog (E k) 25 0 (subC (bodyOf Tryz.f32) [1, 1, 0, 1, 0, 0]) (recast cl hn kp) (finBy cl hn kp rc rs ri) n ⟨mkS S d, mkH H e⟩ = go (fun x12 y0 y800001 => some (.exit 0, KX d e (x12, y0, y800001))) (fun q0 => some (.ret, RX d e q0)) k d.2.2.2.1 n d.2.2.2.2.1 e.1 e.2.1 :=
  loopIt_eq (D := (Unit × Unit × Unit × Int × Int × Unit) × (((List Int) × Bool) × (List T_3d5633) × Unit)) (fun p => ⟨mkS S p.1, mkH H p.2⟩) (fun F p => step (fun x12 y0 y800001 => some (.exit 0, KX p.1 p.2 (x12, y0, y800001))) (fun q0 => some (.ret, RX p.1 p.2 q0)) (fun x12 y0 y800001 => F (((), (), (), p.1.2.2.2.1, x12, ()), (y0, y800001, ()))) k p.1.2.2.2.1 p.1.2.2.2.2.1 p.2.1 p.2.2.1) (fun n p => go (fun x12 y0 y800001 => some (.exit 0, KX p.1 p.2 (x12, y0, y800001))) (fun q0 => some (.ret, RX p.1 p.2 q0)) k p.1.2.2.2.1 n p.1.2.2.2.2.1 p.2.1 p.2.2.1) (fun _ => rfl) (fun _ _ => rfl) (fun G p => round k p.1 p.2 G) n (d, e)
theorem ok (k : Nat) : LoopOK Tryz.prog 25 (subC (bodyOf Tryz.f32) [1, 1, 0, 1, 0, 0]) (sum k) :=
  loop_sig hm (fE k) (loopsOK_of [] (by kernel_rfl) trivial) S cl hn kp H 0 (fun (d : (Unit × Unit × Unit × Int × Int × Unit)) (e : (((List Int) × Bool) × (List T_3d5633) × Unit)) => f k d.2.2.2.1 k d.2.2.2.2.1 e.1 e.2.1) KX RX cl hn kp rc rs ri k
    (fun d e => (it k k d e).trans (go_nat (exitOf 0 (KX d e) (RX d e)) (fun x12 y0 y800001 => some (.inl (x12, y0, y800001))) (fun q0 => some (.inr q0)) k d.2.2.2.1 k d.2.2.2.2.1 e.1 e.2.1).symm)
end l0
theorem run (k : Nat) (d : (Unit × Int × Unit × Unit)) (e : (((List Int) × Bool) × Unit)) : runFn Tryz.prog (E k) 25 (bodyOf Tryz.f32) Tryz.f32.results.toList cl hn hi (mkL ps d) (mkH hs e) =
    tree (fun b0 b1 => leafFn hs fi e val wr (b0, b1)) k d.2.1 e.1 := by kernel_rfl
theorem run_f (k : Nat) (d : (Unit × Int × Unit × Unit)) (e : (((List Int) × Bool) × Unit)) : runFn Tryz.prog (E k) 25 (bodyOf Tryz.f32) Tryz.f32.results.toList cl hn hi (mkL ps d) (mkH hs e) = (f k d.2.1 e.1).bind (leafFn hs fi e val wr) :=
  (run k d e).trans (tree_nat (leafFn hs fi e val wr) (fun b0 b1 => some (b0, b1)) k d.2.1 e.1).symm
theorem fnIs : FnIs Tryz.prog 32 Tryz.f32 (bodyOf Tryz.f32) 25 := ⟨by kernel_rfl, by kernel_rfl, by kernel_rfl, by kernel_rfl⟩
theorem ok (k : Nat) : CalleeOK Tryz.prog 32 (callee k) :=
  callee_sig (T := (((List Int) × Bool) × (List T_3d5633))) fnIs hm (fE k) (loopsOK_of [(0, subC (bodyOf Tryz.f32) [1, 1, 0, 1, 0, 0])] (by kernel_rfl) ⟨of_loop (l0.sum k) rfl (l0.ok k), trivial⟩) ps hs cl hn fi (fun (d : (Unit × Int × Unit × Unit)) (e : (((List Int) × Bool) × Unit)) => f k d.2.1 e.1) val wr rfl (fun _ => rfl) (run_f k)
end speech_some_api_Header_v1
namespace speech_thing
def tree {X : Type} (K : (List Int) → ((List Int) × Bool) → Option X) (k : Nat) (m0 : ((List Int) × Bool)) : Option X :=
  (Option.bind (scroll_Eye_Get.f k (4 : Int) m0) (fun r1 => (bif (r1.1 != (2 : Int)) then (Option.bind (scroll_Eye_Blind.f k r1.2) (fun r2 => (Option.bind (scroll_Eye_Name.f k r2) (fun r3 => (K r3.1 r3.2))))) else (Option.bind (scroll_Eye_Name.f k r1.2) (fun r4 => (K r4.1 r4.2))))))
def f (k : Nat) (m0 : ((List Int) × Bool)) : Option ((List Int) × ((List Int) × Bool)) := tree (fun b0 b1 => some (b0, b1)) k m0
theorem tree_nat {X Y : Type} (h : X → Option Y) (K : (List Int) → ((List Int) × Bool) → Option X) (k : Nat) (m0 : ((List Int) × Bool)) : Option.bind (tree K k m0) h = tree (fun b0 b1 => Option.bind (K b0 b1) h) k m0 := by
  simp only [tree, bif_bind, sel_bind', Option.bind_assoc, Option.bind_none, Option.bind_some]
abbrev ps : List Sh := [.ptr 0]
abbrev hs : List (Nat × ESh) := [(0, .cell (.data (.pair .str .bool)))]
abbrev hi : List Nat := hs.map (·.1)
abbrev fi : List Nat := [0]
abbrev cl : List (Place × Nat × Hint) := []
abbrev hn : List Hint := [.any]
def val (t : ((List Int) × ((List Int) × Bool))) : AV := Sh.mk (.data (.arr .u8 32)) t.1
def wr (t : ((List Int) × ((List Int) × Bool))) : Heap := [(0, ESh.mk (.cell (.data (.pair .str .bool))) t.2)]
def callee (k : Nat) : Callee := sigCallee ps hs (fun (d : (Unit × Unit)) (e : (((List Int) × Bool) × Unit)) => f k e.1) val wr
def E (k : Nat) : Env := ⟨fnTab [(29, [scroll_Eye_Get.callee k]), (56, [scroll_Eye_Blind.callee k]), (31, [scroll_Eye_Name.callee k])], loopTab [], natsTab [], natTab []⟩
theorem fE (k : Nat) : ∀ f, ∀ c ∈ (E k).fn f, CalleeOK Tryz.prog f c := fnTab_ok ⟨⟨scroll_Eye_Get.ok k, trivial⟩, ⟨scroll_Eye_Blind.ok k, trivial⟩, ⟨scroll_Eye_Name.ok k, trivial⟩, trivial⟩
theorem run (k : Nat) (d : (Unit × Unit)) (e : (((List Int) × Bool) × Unit)) : runFn Tryz.prog (E k) 10 (bodyOf Tryz.f34) Tryz.f34.results.toList cl hn hi (mkL ps d) (mkH hs e) =
    tree (fun b0 b1 => leafFn hs fi e val wr (b0, b1)) k e.1 := by kernel_rfl
theorem run_f (k : Nat) (d : (Unit × Unit)) (e : (((List Int) × Bool) × Unit)) : runFn Tryz.prog (E k) 10 (bodyOf Tryz.f34) Tryz.f34.results.toList cl hn hi (mkL ps d) (mkH hs e) = (f k e.1).bind (leafFn hs fi e val wr) :=
  (run k d e).trans (tree_nat (leafFn hs fi e val wr) (fun b0 b1 => some (b0, b1)) k e.1).symm
theorem fnIs : FnIs Tryz.prog 34 Tryz.f34 (bodyOf Tryz.f34) 10 := ⟨by kernel_rfl, by kernel_rfl, by kernel_rfl, by kernel_rfl⟩
theorem ok (k : Nat) : CalleeOK Tryz.prog 34 (callee k) :=
  callee_sig (T := ((List Int) × ((List Int) × Bool))) fnIs hm (fE k) (loopsOK_of [] (by kernel_rfl) trivial) ps hs cl hn fi (fun (d : (Unit × Unit)) (e : (((List Int) × Bool) × Unit)) => f k e.1) val wr rfl (fun _ => rfl) (run_f k)
end speech_thing
namespace speech_some_api_Hash_v3
namespace l0
def step {X : Type} (K : Int → ((List Int) × Bool) → (List (List Int)) → Option X) (Q : ((List Int) × Bool) → Option X) (G : Int → ((List Int) × Bool) → (List (List Int)) → Option X) (k : Nat) (x11 : Int) (x12 : Int) (y0 : ((List Int) × Bool)) (y800001 : (List (List Int))) : Option X :=
  (bif (decide (x12 < x11)) then (Option.bind (speech_thing.f k y0) (fun r2 => (Option.bind (scroll_Eye_Bad.f k r2.2) (fun r3 => (bif r3 then (Q r2.2) else (bif (fits (((List.length y800001) + 1) * 32)) then (G (addI .i64 x12 1) r2.2 (y800001 ++ ([r2.1] : (List (List Int))))) else none)))))) else (K x12 y0 y800001))
def go {X : Type} (K : Int → ((List Int) × Bool) → (List (List Int)) → Option X) (Q : ((List Int) × Bool) → Option X) (k : Nat) (x11 : Int) : Nat → Int → ((List Int) × Bool) → (List (List Int)) → Option X
  | 0, _, _, _ => none
  | n + 1, x12, y0, y800001 => step K Q (go K Q k x11 n) k x11 x12 y0 y800001
def f (k : Nat) (x11 : Int) (n : Nat) (x12 : Int) (y0 : ((List Int) × Bool)) (y800001 : (List (List Int))) : Option ((Int × (((List Int) × Bool) × (List (List Int)))) ⊕ ((List Int) × Bool)) := go (fun x12 y0 y800001 => some (.inl (x12, y0, y800001))) (fun q0 => some (.inr q0)) k x11 n x12 y0 y800001
theorem step_nat {X Y : Type} (h : X → Option Y) (K : Int → ((List Int) × Bool) → (List (List Int)) → Option X) (Q : ((List Int) × Bool) → Option X) (G : Int → ((List Int) × Bool) → (List (List Int)) → Option X) (k : Nat) (x11 : Int) (x12 : Int) (y0 : ((List Int) × Bool)) (y800001 : (List (List Int))) : Option.bind (step K Q G k x11 x12 y0 y800001) h = step (fun x12 y0 y800001 => Option.bind (K x12 y0 y800001) h) (fun q0 => Option.bind (Q q0) h) (fun x12 y0 y800001 => Option.bind (G x12 y0 y800001) h) k x11 x12 y0 y800001 := by
  simp only [step, bif_bind, sel_bind', Option.bind_assoc, Option.bind_none, Option.bind_some]
theorem go_nat {X Y : Type} (h : X → Option Y) (K : Int → ((List Int) × Bool) → (List (List Int)) → Option X) (Q : ((List Int) × Bool) → Option X) (k : Nat) (x11 : Int) (n : Nat) : ∀ (x12 : Int) (y0 : ((List Int) × Bool)) (y800001 : (List (List Int))), Option.bind (go K Q k x11 n x12 y0 y800001) h = go (fun x12 y0 y800001 => Option.bind (K x12 y0 y800001) h) (fun q0 => Option.bind (Q q0) h) k x11 n x12 y0 y800001 := by
  induction n with
  | zero => intros; rfl
  | succ n ih => intro x12 y0 y800001; show Option.bind (step K Q (go K Q k x11 n) k x11 x12 y0 y800001) h = step (fun x12 y0 y800001 => Option.bind (K x12 y0 y800001) h) (fun q0 => Option.bind (Q q0) h) (go (fun x12 y0 y800001 => Option.bind (K x12 y0 y800001) h) (fun q0 => Option.bind (Q q0) h) k x11 n) k x11 x12 y0 y800001; rw [step_nat h]; simp only [ih]
abbrev S : List (Nat × Sh) := [(0, .ptr 0), (2, .fn 34), (7, .vec 800001), (11, .data (.int .i64)), (12, .data (.int .i64))]
abbrev H : List (Nat × ESh) := [(0, .cell (.data (.pair .str .bool))), (800001, .rows 2 24 (.arr .u8 32))]
abbrev cl : List (Place × Nat × Hint) := []
abbrev hn : List (Nat × Hint) := [(0, .any), (2, .any), (7, (.row 2 24 (.arr .u8 32))), (11, .any), (12, .any)]
abbrev kp : List Nat := [0]
abbrev rc : List (Place × Nat × Hint) := []
abbrev rs : List (Nat × Hint) := [(6, .any)]
abbrev ri : List Nat := [0]
def KX (d : (Unit × Unit × Unit × Int × Int × Unit)) (e : (((List Int) × Bool) × (List (List Int)) × Unit)) (v : (Int × (((List Int) × Bool) × (List (List Int))))) : St := ⟨mkS S ((), (), (), d.2.2.2.1, v.1, ()), mkH H (v.2.1, v.2.2, ())⟩
abbrev RS : List (Nat × Sh) := [(6, .nils)]
abbrev RH : List (Nat × ESh) := [(0, .cell (.data (.pair .str .bool)))]
def RX (d : (Unit × Unit × Unit × Int × Int × Unit)) (e : (((List Int) × Bool) × (List (List Int)) × Unit)) (v : ((List Int) × Bool)) : St := ⟨mkS RS ((), ()), mkH RH (v, ())⟩
def sum (k : Nat) : LoopSum := sigLoop S cl hn kp H 0 (fun (d : (Unit × Unit × Unit × Int × Int × Unit)) (e : (((List Int) × Bool) × (List (List Int)) × Unit)) => f k d.2.2.2.1 k d.2.2.2.2.1 e.1 e.2.1) KX RX
end l0
def tree {X : Type} (K : ((List Int) × Bool) → (List (List Int)) → Option X) (k : Nat) (a1 : Int) (m0 : ((List Int) × Bool)) : Option X :=
  (Option.bind (scroll_Eye_Count.f k a1 m0) (fun r1 => (Option.bind (speech_some_api_Hash_v3.l0.f k r1.1 k (0 : Int) r1.2 ([] : (List (List Int)))) (fun r4 => sel r4 (fun v5 => (K v5.2.1 v5.2.2)) (fun q6 => (K q6 ([] : (List (List Int)))))))))
def f (k : Nat) (a1 : Int) (m0 : ((List Int) × Bool)) : Option (((List Int) × Bool) × (List (List Int))) := tree (fun b0 b1 => some (b0, b1)) k a1 m0
theorem tree_nat {X Y : Type} (h : X → Option Y) (K : ((List Int) × Bool) → (List (List Int)) → Option X) (k : Nat) (a1 : Int) (m0 : ((List Int) × Bool)) : Option.bind (tree K k a1 m0) h = tree (fun b0 b1 => Option.bind (K b0 b1) h) k a1 m0 := by
  simp only [tree, bif_bind, sel_bind', Option.bind_assoc, Option.bind_none, Option.bind_some]
abbrev ps : List Sh := [.ptr 0, .data (.int .i64), .fn 34]
abbrev hs : List (Nat × ESh) := [(0, .cell (.data (.pair .str .bool)))]
abbrev hi : List Nat := hs.map (·.1)
abbrev fi : List Nat := [0, 900001]
abbrev cl : List (Place × Nat × Hint) := []
abbrev hn : List Hint := [(.row 2 24 (.arr .u8 32))]
def val (t : (((List Int) × Bool) × (List (List Int)))) : AV := Sh.mk (.vec 900001) ()
def wr (t : (((List Int) × Bool) × (List (List Int)))) : Heap := [(0, ESh.mk (.cell (.data (.pair .str .bool))) t.1), (900001, ESh.mk (.rows 2 24 (.arr .u8 32)) t.2)]
def callee (k : Nat) : Callee := sigCallee ps hs (fun (d : (Unit × Int × Unit × Unit)) (e : (((List Int) × Bool) × Unit)) => f k d.2.1 e.1) val wr
def E (k : Nat) : Env := ⟨fnTab [(53, [scroll_Eye_Count.callee k]), (34, [speech_thing.callee k]), (54, [scroll_Eye_Bad.callee k])], loopTab [(0, l0.sum k)], natsTab [], natTab []⟩
theorem fE (k : Nat) : ∀ f, ∀ c ∈ (E k).fn f, CalleeOK Tryz.prog f c := fnTab_ok ⟨⟨scroll_Eye_Count.ok k, trivial⟩, ⟨speech_thing.ok k, trivial⟩, ⟨scroll_Eye_Bad.ok k, trivial⟩, trivial⟩
namespace l0
theorem round (k : Nat) (d : (Unit × Unit × Unit × Int × Int × Unit)) (e : (((List Int) × Bool) × (List (List Int)) × Unit)) (G : St → Option (Ex × St)) : roundK Tryz.prog (E k) 25 0 (subC (bodyOf Tryz.f30) [1, 1, 0, 1, 0, 0]) (recast cl hn kp) (finBy cl hn kp rc rs ri) G ⟨mkS S d, mkH H e⟩ =
    step (fun x12 y0 y800001 => some (.exit 0, KX d e (x12, y0, y800001))) (fun q0 => some (.ret, RX d e q0)) (fun x12 y0 y800001 => G ⟨mkS S ((), (), (), d.2.2.2.1, x12, ()), mkH H (y0, y800001, ())⟩) k d.2.2.2.1 d.2.2.2.2.1 e.1 e.2.1 := by kernel_rfl
theorem it (k n : Nat) (d : (Unit × Unit × Unit × Int × Int × Unit)) (e : (((List Int) × Bool) × (List (List Int)) × Unit)) : loopIt Tryz.prog (E k) 25 0 (subC (bodyOf Tryz.f30) [1, 1, 0, 1, 0, 0]) (recast cl hn kp) (finBy cl hn kp rc rs ri) n ⟨mkS S d, mkH H e⟩ = go (fun x12 y0 y800001 => some (.exit 0, KX d e (x12, y0, y800001))) (fun q0 => some (.ret, RX d e q0)) k d.2.2.2.1 n d.2.2.2.2.1 e.1 e.2.1 :=
  loopIt_eq (D := (Unit × Unit × Unit × Int × Int × Unit) × (((List Int) × Bool) × (List (List Int)) × Unit)) (fun p => ⟨mkS S p.1, mkH H p.2⟩) (fun F p => step (fun x12 y0 y800001 => some (.exit 0, KX p.1 p.2 (x12, y0, y800001))) (fun q0 => some (.ret, RX p.1 p.2 q0)) (fun x12 y0 y800001 => F (((), (), (), p.1.2.2.2.1, x12, ()), (y0, y800001, ()))) k p.1.2.2.2.1 p.1.2.2.2.2.1 p.2.1 p.2.2.1) (fun n p => go (fun x12 y0 y800001 => some (.exit 0, KX p.1 p.2 (x12, y0, y800001))) (fun q0 => some (.ret, RX p.1 p.2 q0)) k p.1.2.2.2.1 n p.1.2.2.2.2.1 p.2.1 p.2.2.1) (fun _ => rfl) (fun _ _ => rfl) (fun G p => round k p.1 p.2 G) n (d, e)
theorem ok (k : Nat) : LoopOK Tryz.prog 25 (subC (bodyOf Tryz.f30) [1, 1, 0, 1, 0, 0]) (sum k) :=
  loop_sig hm (fE k) (loopsOK_of [] (by kernel_rfl) trivial) S cl hn kp H 0 (fun (d : (Unit × Unit × Unit × Int × Int × Unit)) (e : (((List Int) × Bool) × (List (List Int)) × Unit)) => f k d.2.2.2.1 k d.2.2.2.2.1 e.1 e.2.1) KX RX cl hn kp rc rs ri k
    (fun d e => (it k k d e).trans (go_nat (exitOf 0 (KX d e) (RX d e)) (fun x12 y0 y800001 => some (.inl (x12, y0, y800001))) (fun q0 => some (.inr q0)) k d.2.2.2.1 k d.2.2.2.2.1 e.1 e.2.1).symm)
end l0
theorem run (k : Nat) (d : (Unit × Int × Unit × Unit)) (e : (((List Int) × Bool) × Unit)) : runFn Tryz.prog (E k) 25 (bodyOf Tryz.f30) Tryz.f30.results.toList cl hn hi (mkL ps d) (mkH hs e) =
    tree (fun b0 b1 => leafFn hs fi e val wr (b0, b1)) k d.2.1 e.1 := by kernel_rfl
theorem run_f (k : Nat) (d : (Unit × Int × Unit × Unit)) (e : (((List Int) × Bool) × Unit)) : runFn Tryz.prog (E k) 25 (bodyOf Tryz.f30) Tryz.f30.results.toList cl hn hi (mkL ps d) (mkH hs e) = (f k d.2.1 e.1).bind (leafFn hs fi e val wr) :=
  (run k d e).trans (tree_nat (leafFn hs fi e val wr) (fun b0 b1 => some (b0, b1)) k d.2.1 e.1).symm
theorem fnIs : FnIs Tryz.prog 30 Tryz.f30 (bodyOf Tryz.f30) 25 := ⟨by kernel_rfl, by kernel_rfl, by kernel_rfl, by kernel_rfl⟩
theorem ok (k : Nat) : CalleeOK Tryz.prog 30 (callee k) :=
  callee_sig (T := (((List Int) × Bool) × (List (List Int)))) fnIs hm (fE k) (loopsOK_of [(0, subC (bodyOf Tryz.f30) [1, 1, 0, 1, 0, 0])] (by kernel_rfl) ⟨of_loop (l0.sum k) rfl (l0.ok k), trivial⟩) ps hs cl hn fi (fun (d : (Unit × Int × Unit × Unit)) (e : (((List Int) × Bool) × Unit)) => f k d.2.1 e.1) val wr rfl (fun _ => rfl) (run_f k)
end speech_some_api_Hash_v3
namespace speech_Read
def tree {X : Type} (K : T_85bbee → Int → Option X) (k : Nat) (a0 : ((List Int) × (List Int))) (m0 : T_9fe11e) : Option X :=
  (Option.bind (speech_Kind.f k a0.1 m0) (fun r1 => (bif (r1 == (0 : Int)) then (K ((r1, (0, (0, (0, (0, ([], ([0, 0, 0, 0, 0, 0, 0, 0, 0, 0, 0, 0, 0, 0, 0, 0, 0, 0, 0, 0, 0, 0, 0, 0, 0, 0, 0, 0, 0, 0, 0, 0], []))))))) : T_85bbee) (5 : Int)) else (Option.bind (scroll_On.f k a0.2) (fun r2 => (bif (r1 == (1 : Int)) then (Option.bind (scroll_Eye_Get.f k (4 : Int) r2) (fun r3 => (Option.bind (scroll_Eye_Get.f k (4 : Int) r3.2) (fun r4 => (Option.bind (scroll_Eye_Get.f k (7 : Int) r4.2) (fun r5 => (Option.bind (scroll_Eye_Get.f k (7 : Int) r5.2) (fun r6 => (Option.bind (scroll_Eye_Done.f k r6.2) (fun r7 => (bif (!r7) then (K ((0, (0, (0, (0, (0, ([], ([0, 0, 0, 0, 0, 0, 0, 0, 0, 0, 0, 0, 0, 0, 0, 0, 0, 0, 0, 0, 0, 0, 0, 0, 0, 0, 0, 0, 0, 0, 0, 0], []))))))) : T_85bbee) (4 : Int)) else (K ((r1, (r3.1, (r5.1, (r4.1, (r6.1, ([], ([0, 0, 0, 0, 0, 0, 0, 0, 0, 0, 0, 0, 0, 0, 0, 0, 0, 0, 0, 0, 0, 0, 0, 0, 0, 0, 0, 0, 0, 0, 0, 0], []))))))) : T_85bbee) (0 : Int))))))))))))) else (bif (r1 == (3 : Int)) then (Option.bind (scroll_Eye_Get.f k (4 : Int) r2) (fun r8 => (Option.bind (speech_some_api_Hash_v2.f k (32 : Int) r8.2) (fun r9 => (Option.bind (scroll_Eye_Name.f k r9.1) (fun r10 => (Option.bind (scroll_Eye_Done.f k r10.2) (fun r11 => (bif (!r11) then (K ((0, (0, (0, (0, (0, ([], ([0, 0, 0, 0, 0, 0, 0, 0, 0, 0, 0, 0, 0, 0, 0, 0, 0, 0, 0, 0, 0, 0, 0, 0, 0, 0, 0, 0, 0, 0, 0, 0], []))))))) : T_85bbee) (4 : Int)) else (K ((r1, (r8.1, (0, (0, (0, (r9.2, (r10.1, []))))))) : T_85bbee) (0 : Int))))))))))) else (bif (r1 == (4 : Int)) then (Option.bind (speech_some_api_Header_v1.f k (64 : Int) r2) (fun r12 => (Option.bind (scroll_Eye_Done.f k r12.1) (fun r13 => (bif (!r13) then (K ((0, (0, (0, (0, (0, ([], ([0, 0, 0, 0, 0, 0, 0, 0, 0, 0, 0, 0, 0, 0, 0, 0, 0, 0, 0, 0, 0, 0, 0, 0, 0, 0, 0, 0, 0, 0, 0, 0], []))))))) : T_85bbee) (4 : Int)) else (K ((r1, (0, (0, (0, (0, ([], ([0, 0, 0, 0, 0, 0, 0, 0, 0, 0, 0, 0, 0, 0, 0, 0, 0, 0, 0, 0, 0, 0, 0, 0, 0, 0, 0, 0, 0, 0, 0, 0], r12.2))))))) : T_85bbee) (0 : Int))))))) else (bif (r1 == (5 : Int)) then (Option.bind (speech_some_api_Hash_v3.f k (32 : Int) r2) (fun r14 => (Option.bind (scroll_Eye_Done.f k r14.1) (fun r15 => (bif (!r15) then (K ((0, (0, (0, (0, (0, ([], ([0, 0, 0, 0, 0, 0, 0, 0, 0, 0, 0, 0, 0, 0, 0, 0, 0, 0, 0, 0, 0, 0, 0, 0, 0, 0, 0, 0, 0, 0, 0, 0], []))))))) : T_85bbee) (4 : Int)) else (K ((r1, (0, (0, (0, (0, (r14.2, ([0, 0, 0, 0, 0, 0, 0, 0, 0, 0, 0, 0, 0, 0, 0, 0, 0, 0, 0, 0, 0, 0, 0, 0, 0, 0, 0, 0, 0, 0, 0, 0], []))))))) : T_85bbee) (0 : Int))))))) else (bif (r1 == (6 : Int)) then (bif (r1 == (6 : Int)) then (Option.bind (scroll_Eye_Get.f k (7 : Int) r2) (fun r16 => (Option.bind (scroll_Eye_Done.f k r16.2) (fun r17 => (bif (!r17) then (K ((0, (0, (0, (0, (0, ([], ([0, 0, 0, 0, 0, 0, 0, 0, 0, 0, 0, 0, 0, 0, 0, 0, 0, 0, 0, 0, 0, 0, 0, 0, 0, 0, 0, 0, 0, 0, 0, 0], []))))))) : T_85bbee) (4 : Int)) else (K ((r1, (0, (0, (0, (r16.1, ([], ([0, 0, 0, 0, 0, 0, 0, 0, 0, 0, 0, 0, 0, 0, 0, 0, 0, 0, 0, 0, 0, 0, 0, 0, 0, 0, 0, 0, 0, 0, 0, 0], []))))))) : T_85bbee) (0 : Int))))))) else (Option.bind (scroll_Eye_Done.f k r2) (fun r18 => (bif (!r18) then (K ((0, (0, (0, (0, (0, ([], ([0, 0, 0, 0, 0, 0, 0, 0, 0, 0, 0, 0, 0, 0, 0, 0, 0, 0, 0, 0, 0, 0, 0, 0, 0, 0, 0, 0, 0, 0, 0, 0], []))))))) : T_85bbee) (4 : Int)) else (K ((r1, (0, (0, (0, (0, ([], ([0, 0, 0, 0, 0, 0, 0, 0, 0, 0, 0, 0, 0, 0, 0, 0, 0, 0, 0, 0, 0, 0, 0, 0, 0, 0, 0, 0, 0, 0, 0, 0], []))))))) : T_85bbee) (0 : Int)))))) else (bif (r1 == (7 : Int)) then (Option.bind (scroll_Eye_Get.f k (7 : Int) r2) (fun r19 => (Option.bind (scroll_Eye_Done.f k r19.2) (fun r20 => (bif (!r20) then (K ((0, (0, (0, (0, (0, ([], ([0, 0, 0, 0, 0, 0, 0, 0, 0, 0, 0, 0, 0, 0, 0, 0, 0, 0, 0, 0, 0, 0, 0, 0, 0, 0, 0, 0, 0, 0, 0, 0], []))))))) : T_85bbee) (4 : Int)) else (K ((r1, (0, (0, (0, (r19.1, ([], ([0, 0, 0, 0, 0, 0, 0, 0, 0, 0, 0, 0, 0, 0, 0, 0, 0, 0, 0, 0, 0, 0, 0, 0, 0, 0, 0, 0, 0, 0, 0, 0], []))))))) : T_85bbee) (0 : Int))))))) else (Option.bind (scroll_Eye_Done.f k r2) (fun r21 => (bif (!r21) then (K ((0, (0, (0, (0, (0, ([], ([0, 0, 0, 0, 0, 0, 0, 0, 0, 0, 0, 0, 0, 0, 0, 0, 0, 0, 0, 0, 0, 0, 0, 0, 0, 0, 0, 0, 0, 0, 0, 0], []))))))) : T_85bbee) (4 : Int)) else (K ((r1, (0, (0, (0, (0, ([], ([0, 0, 0, 0, 0, 0, 0, 0, 0, 0, 0, 0, 0, 0, 0, 0, 0, 0, 0, 0, 0, 0, 0, 0, 0, 0, 0, 0, 0, 0, 0, 0], []))))))) : T_85bbee) (0 : Int))))))))))))))))
def f (k : Nat) (a0 : ((List Int) × (List Int))) (m0 : T_9fe11e) : Option (T_85bbee × Int) := tree (fun b0 b1 => some (b0, b1)) k a0 m0
theorem tree_nat {X Y : Type} (h : X → Option Y) (K : T_85bbee → Int → Option X) (k : Nat) (a0 : ((List Int) × (List Int))) (m0 : T_9fe11e) : Option.bind (tree K k a0 m0) h = tree (fun b0 b1 => Option.bind (K b0 b1) h) k a0 m0 := by
  simp only [tree, bif_bind, sel_bind', Option.bind_assoc, Option.bind_none, Option.bind_some]
abbrev ps : List Sh := [.data (.pair .str .str)]
abbrev hs : List (Nat × ESh) := [(0, .glob 0 (.pair .str (.pair .str (.pair .str (.pair .str (.pair .str (.pair .str (.pair .str (.pair .str .str)))))))))]
abbrev hi : List Nat := hs.map (·.1)
abbrev fi : List Nat := [0]
abbrev cl : List (Place × Nat × Hint) := []
abbrev hn : List Hint := [(.norm (.pair (.int .i64) (.pair (.int .i64) (.pair (.int .i64) (.pair (.int .i64) (.pair (.int .i64) (.pair (.row 24 (.arr .u8 32)) (.pair (.arr .u8 32) (.row 44 (.pair (.int .i64) (.pair (.arr .u8 32) (.pair (.arr .u8 32) (.pair (.int .i64) (.pair (.int .i64) (.int .i64))))))))))))))), .any]
def val (t : (T_85bbee × Int)) : AV := .tcons (Sh.mk (.data (.pair (.int .i64) (.pair (.int .i64) (.pair (.int .i64) (.pair (.int .i64) (.pair (.int .i64) (.pair (.row 24 (.arr .u8 32)) (.pair (.arr .u8 32) (.row 44 (.pair (.int .i64) (.pair (.arr .u8 32) (.pair (.arr .u8 32) (.pair (.int .i64) (.pair (.int .i64) (.int .i64))))))))))))))) t.1) (.tcons (Sh.mk (.data (.int .i64)) t.2) .tnil)
def wr (t : (T_85bbee × Int)) : Heap := []
def callee (k : Nat) : Callee := sigCallee ps hs (fun (d : (((List Int) × (List Int)) × Unit)) (e : (T_9fe11e × Unit)) => f k d.1 e.1) val wr
def E (k : Nat) : Env := ⟨fnTab [(14, [speech_Kind.callee k]), (28, [scroll_On.callee k]), (29, [scroll_Eye_Get.callee k]), (35, [scroll_Eye_Done.callee k]), (30, [speech_some_api_Hash_v2.callee k, speech_some_api_Hash_v3.callee k]), (31, [scroll_Eye_Name.callee k]), (32, [speech_some_api_Header_v1.callee k])], loopTab [], natsTab [(14, [0])], natTab [(0, 0)]⟩
theorem fE (k : Nat) : ∀ f, ∀ c ∈ (E k).fn f, CalleeOK Tryz.prog f c := fnTab_ok ⟨⟨speech_Kind.ok k, trivial⟩, ⟨scroll_On.ok k, trivial⟩, ⟨scroll_Eye_Get.ok k, trivial⟩, ⟨scroll_Eye_Done.ok k, trivial⟩, ⟨speech_some_api_Hash_v2.ok k, speech_some_api_Hash_v3.ok k, trivial⟩, ⟨scroll_Eye_Name.ok k, trivial⟩, ⟨speech_some_api_Header_v1.ok k, trivial⟩, trivial⟩
theorem run (k : Nat) (d : (((List Int) × (List Int)) × Unit)) (e : (T_9fe11e × Unit)) : runFn Tryz.prog (E k) 65 (bodyOf Tryz.f11) Tryz.f11.results.toList cl hn hi (mkL ps d) (mkH hs e) =
    tree (fun b0 b1 => leafFn hs fi e val wr (b0, b1)) k d.1 e.1 := by kernel_rfl
theorem run_f (k : Nat) (d : (((List Int) × (List Int)) × Unit)) (e : (T_9fe11e × Unit)) : runFn Tryz.prog (E k) 65 (bodyOf Tryz.f11) Tryz.f11.results.toList cl hn hi (mkL ps d) (mkH hs e) = (f k d.1 e.1).bind (leafFn hs fi e val wr) :=
  (run k d e).trans (tree_nat (leafFn hs fi e val wr) (fun b0 b1 => some (b0, b1)) k d.1 e.1).symm
theorem fnIs : FnIs Tryz.prog 11 Tryz.f11 (bodyOf Tryz.f11) 65 := ⟨by kernel_rfl, by kernel_rfl, by kernel_rfl, by kernel_rfl⟩
theorem ok (k : Nat) : CalleeOK Tryz.prog 11 (callee k) :=
  callee_sig (T := (T_85bbee × Int)) fnIs hm (fE k) (loopsOK_of [] (by kernel_rfl) trivial) ps hs cl hn fi (fun (d : (((List Int) × (List Int)) × Unit)) (e : (T_9fe11e × Unit)) => f k d.1 e.1) val wr rfl (fun _ => rfl) (run_f k)
end speech_Read
namespace speech_bare_v2
def tree {X : Type} (K : T_85bbee → Option X) (k : Nat) (a0 : T_85bbee) : Option X :=
  (bif (a0.1 == (1 : Int)) then (K ((a0.1, (a0.2.1, (a0.2.2.1, (a0.2.2.2.1, (a0.2.2.2.2.1, ([], ([0, 0, 0, 0, 0, 0, 0, 0, 0, 0, 0, 0, 0, 0, 0, 0, 0, 0, 0, 0, 0, 0, 0, 0, 0, 0, 0, 0, 0, 0, 0, 0], []))))))) : T_85bbee)) else (bif (a0.1 == (3 : Int)) then (K ((a0.1, (a0.2.1, (0, (0, (0, (a0.2.2.2.2.2.1, (a0.2.2.2.2.2.2.1, []))))))) : T_85bbee)) else (bif (a0.1 == (4 : Int)) then (K ((a0.1, (0, (0, (0, (0, ([], ([0, 0, 0, 0, 0, 0, 0, 0, 0, 0, 0, 0, 0, 0, 0, 0, 0, 0, 0, 0, 0, 0, 0, 0, 0, 0, 0, 0, 0, 0, 0, 0], a0.2.2.2.2.2.2.2))))))) : T_85bbee)) else (bif (a0.1 == (5 : Int)) then (K ((a0.1, (0, (0, (0, (0, (a0.2.2.2.2.2.1, ([0, 0, 0, 0, 0, 0, 0, 0, 0, 0, 0, 0, 0, 0, 0, 0, 0, 0, 0, 0, 0, 0, 0, 0, 0, 0, 0, 0, 0, 0, 0, 0], []))))))) : T_85bbee)) else (bif (a0.1 == (6 : Int)) then (bif (a0.1 == (6 : Int)) then (K ((a0.1, (0, (0, (0, (a0.2.2.2.2.1, ([], ([0, 0, 0, 0, 0, 0, 0, 0, 0, 0, 0, 0, 0, 0, 0, 0, 0, 0, 0, 0, 0, 0, 0, 0, 0, 0, 0, 0, 0, 0, 0, 0], []))))))) : T_85bbee)) else (K ((a0.1, (0, (0, (0, (0, ([], ([0, 0, 0, 0, 0, 0, 0, 0, 0, 0, 0, 0, 0, 0, 0, 0, 0, 0, 0, 0, 0, 0, 0, 0, 0, 0, 0, 0, 0, 0, 0, 0], []))))))) : T_85bbee))) else (bif (a0.1 == (7 : Int)) then (K ((a0.1, (0, (0, (0, (a0.2.2.2.2.1, ([], ([0, 0, 0, 0, 0, 0, 0, 0, 0, 0, 0, 0, 0, 0, 0, 0, 0, 0, 0, 0, 0, 0, 0, 0, 0, 0, 0, 0, 0, 0, 0, 0], []))))))) : T_85bbee)) else (K ((a0.1, (0, (0, (0, (0, ([], ([0, 0, 0, 0, 0, 0, 0, 0, 0, 0, 0, 0, 0, 0, 0, 0, 0, 0, 0, 0, 0, 0, 0, 0, 0, 0, 0, 0, 0, 0, 0, 0], []))))))) : T_85bbee))))))))
def f (k : Nat) (a0 : T_85bbee) : Option T_85bbee := tree (fun b0 => some b0) k a0
theorem tree_nat {X Y : Type} (h : X → Option Y) (K : T_85bbee → Option X) (k : Nat) (a0 : T_85bbee) : Option.bind (tree K k a0) h = tree (fun b0 => Option.bind (K b0) h) k a0 := by
  simp only [tree, bif_bind, sel_bind', Option.bind_assoc, Option.bind_none, Option.bind_some]
abbrev ps : List Sh := [.data (.pair (.int .i64) (.pair (.int .i64) (.pair (.int .i64) (.pair (.int .i64) (.pair (.int .i64) (.pair (.row 24 (.arr .u8 32)) (.pair (.arr .u8 32) (.row 44 (.pair (.int .i64) (.pair (.arr .u8 32) (.pair (.arr .u8 32) (.pair (.int .i64) (.pair (.int .i64) (.int .i64))))))))))))))]
abbrev hs : List (Nat × ESh) := []
abbrev hi : List Nat := hs.map (·.1)
abbrev fi : List Nat := []
abbrev cl : List (Place × Nat × Hint) := []
abbrev hn : List Hint := [(.norm (.pair (.int .i64) (.pair (.int .i64) (.pair (.int .i64) (.pair (.int .i64) (.pair (.int .i64) (.pair (.row 24 (.arr .u8 32)) (.pair (.arr .u8 32) (.row 44 (.pair (.int .i64) (.pair (.arr .u8 32) (.pair (.arr .u8 32) (.pair (.int .i64) (.pair (.int .i64) (.int .i64)))))))))))))))]
def val (t : T_85bbee) : AV := Sh.mk (.data (.pair (.int .i64) (.pair (.int .i64) (.pair (.int .i64) (.pair (.int .i64) (.pair (.int .i64) (.pair (.row 24 (.arr .u8 32)) (.pair (.arr .u8 32) (.row 44 (.pair (.int .i64) (.pair (.arr .u8 32) (.pair (.arr .u8 32) (.pair (.int .i64) (.pair (.int .i64) (.int .i64))))))))))))))) t
def wr (t : T_85bbee) : Heap := []
def callee (k : Nat) : Callee := sigCallee ps hs (fun (d : (T_85bbee × Unit)) (e : Unit) => f k d.1) val wr
def E (k : Nat) : Env := ⟨fnTab [], loopTab [], natsTab [], natTab []⟩
theorem fE (k : Nat) : ∀ f, ∀ c ∈ (E k).fn f, CalleeOK Tryz.prog f c := fnTab_ok trivial
theorem run (k : Nat) (d : (T_85bbee × Unit)) (e : Unit) : runFn Tryz.prog (E k) 51 (bodyOf Tryz.f37) Tryz.f37.results.toList cl hn hi (mkL ps d) (mkH hs e) =
    tree (fun b0 => leafFn hs fi e val wr b0) k d.1 := by kernel_rfl
theorem run_f (k : Nat) (d : (T_85bbee × Unit)) (e : Unit) : runFn Tryz.prog (E k) 51 (bodyOf Tryz.f37) Tryz.f37.results.toList cl hn hi (mkL ps d) (mkH hs e) = (f k d.1).bind (leafFn hs fi e val wr) :=
  (run k d e).trans (tree_nat (leafFn hs fi e val wr) (fun b0 => some b0) k d.1).symm
theorem fnIs : FnIs Tryz.prog 37 Tryz.f37 (bodyOf Tryz.f37) 51 := ⟨by kernel_rfl, by kernel_rfl, by kernel_rfl, by kernel_rfl⟩
theorem ok (k : Nat) : CalleeOK Tryz.prog 37 (callee k) :=
  callee_sig (T := T_85bbee) fnIs hm (fE k) (loopsOK_of [] (by kernel_rfl) trivial) ps hs cl hn fi (fun (d : (T_85bbee × Unit)) (e : Unit) => f k d.1) val wr rfl (fun _ => rfl) (run_f k)
end speech_bare_v2
namespace slices_Equal_api_Hash_api_Hash_v1
namespace l0
def step {X : Type} (K : Int → Option X) (Q : Bool → Option X) (G : Int → Option X) (k : Nat) (x12 : Int) (y0 : (List (List Int))) (y1 : (List (List Int))) (x13 : Int) : Option X :=
  (bif (decide (x13 < x12)) then (bif (decide (0 ≤ x13)) then (bif (decide (x13 < ((List.length y0) : Int))) then (bif (decide ((Int.toNat x13) < (List.length y0))) then (bif (decide (0 ≤ x13)) then (bif (decide (x13 < ((List.length y1) : Int))) then (bif (decide ((Int.toNat x13) < (List.length y1))) then (bif (!(decide ((List.getD y0 (Int.toNat x13) (List.replicate 32 0 : (List Int))) = (List.getD y1 (Int.toNat x13) (List.replicate 32 0 : (List Int)))))) then (Q false) else (G (addI .i64 x13 1))) else none) else none) else none) else none) else none) else none) else (K x13))
def go {X : Type} (K : Int → Option X) (Q : Bool → Option X) (k : Nat) (x12 : Int) (y0 : (List (List Int))) (y1 : (List (List Int))) : Nat → Int → Option X
  | 0, _ => none
  | n + 1, x13 => step K Q (go K Q k x12 y0 y1 n) k x12 y0 y1 x13
def f (k : Nat) (x12 : Int) (y0 : (List (List Int))) (y1 : (List (List Int))) (n : Nat) (x13 : Int) : Option (Int ⊕ Bool) := go (fun x13 => some (.inl x13)) (fun q0 => some (.inr q0)) k x12 y0 y1 n x13
theorem step_nat {X Y : Type} (h : X → Option Y) (K : Int → Option X) (Q : Bool → Option X) (G : Int → Option X) (k : Nat) (x12 : Int) (y0 : (List (List Int))) (y1 : (List (List Int))) (x13 : Int) : Option.bind (step K Q G k x12 y0 y1 x13) h = step (fun x13 => Option.bind (K x13) h) (fun q0 => Option.bind (Q q0) h) (fun x13 => Option.bind (G x13) h) k x12 y0 y1 x13 := by
  simp only [step, bif_bind, sel_bind', Option.bind_assoc, Option.bind_none, Option.bind_some]
theorem go_nat {X Y : Type} (h : X → Option Y) (K : Int → Option X) (Q : Bool → Option X) (k : Nat) (x12 : Int) (y0 : (List (List Int))) (y1 : (List (List Int))) (n : Nat) : ∀ (x13 : Int), Option.bind (go K Q k x12 y0 y1 n x13) h = go (fun x13 => Option.bind (K x13) h) (fun q0 => Option.bind (Q q0) h) k x12 y0 y1 n x13 := by
  induction n with
  | zero => intros; rfl
  | succ n ih => intro x13; show Option.bind (step K Q (go K Q k x12 y0 y1 n) k x12 y0 y1 x13) h = step (fun x13 => Option.bind (K x13) h) (fun q0 => Option.bind (Q q0) h) (go (fun x13 => Option.bind (K x13) h) (fun q0 => Option.bind (Q q0) h) k x12 y0 y1 n) k x12 y0 y1 x13; rw [step_nat h]; simp only [ih]
abbrev S : List (Nat × Sh) := [(0, .vec 0), (1, .vec 1), (12, .data (.int .i64)), (13, .data (.int .i64))]
abbrev H : List (Nat × ESh) := [(0, .rows 0 24 (.arr .u8 32)), (1, .rows 0 24 (.arr .u8 32))]
abbrev cl : List (Place × Nat × Hint) := []
abbrev hn : List (Nat × Hint) := [(0, .any), (1, .any), (12, .any), (13, .any)]
abbrev kp : List Nat := [0, 1]
abbrev rc : List (Place × Nat × Hint) := []
abbrev rs : List (Nat × Hint) := [(4, .any)]
abbrev ri : List Nat := [0, 1]
def KX (d : (Unit × Unit × Int × Int × Unit)) (e : ((List (List Int)) × (List (List Int)) × Unit)) (v : Int) : St := ⟨mkS S ((), (), d.2.2.1, v, ()), mkH H (e.1, e.2.1, ())⟩
abbrev RS : List (Nat × Sh) := [(4, .data .bool)]
abbrev RH : List (Nat × ESh) := [(0, .rows 0 24 (.arr .u8 32)), (1, .rows 0 24 (.arr .u8 32))]
def RX (d : (Unit × Unit × Int × Int × Unit)) (e : ((List (List Int)) × (List (List Int)) × Unit)) (v : Bool) : St := ⟨mkS RS (v, ()), mkH RH (e.1, e.2.1, ())⟩
def sum (k : Nat) : LoopSum := sigLoop S cl hn kp H 0 (fun (d : (Unit × Unit × Int × Int × Unit)) (e : ((List (List Int)) × (List (List Int)) × Unit)) => f k d.2.2.1 e.1 e.2.1 k d.2.2.2.1) KX RX
end l0
def tree {X : Type} (K : Bool → Option X) (k : Nat) (m0 : (List (List Int))) (m1 : (List (List Int))) : Option X :=
  (bif (((List.length m0) : Int) != ((List.length m1) : Int)) then (K false) else (Option.bind (slices_Equal_api_Hash_api_Hash_v1.l0.f k ((List.length m0) : Int) m0 m1 k (0 : Int)) (fun r1 => sel r1 (fun v2 => (K true)) (fun q3 => (K q3)))))
def f (k : Nat) (m0 : (List (List Int))) (m1 : (List (List Int))) : Option Bool := tree (fun b0 => some b0) k m0 m1
theorem tree_nat {X Y : Type} (h : X → Option Y) (K : Bool → Option X) (k : Nat) (m0 : (List (List Int))) (m1 : (List (List Int))) : Option.bind (tree K k m0 m1) h = tree (fun b0 => Option.bind (K b0) h) k m0 m1 := by
  simp only [tree, bif_bind, sel_bind', Option.bind_assoc, Option.bind_none, Option.bind_some]
abbrev ps : List Sh := [.vec 0, .vec 1]
abbrev hs : List (Nat × ESh) := [(0, .rows 0 24 (.arr .u8 32)), (1, .rows 0 24 (.arr .u8 32))]
abbrev hi : List Nat := hs.map (·.1)
abbrev fi : List Nat := [0, 1]
abbrev cl : List (Place × Nat × Hint) := []
abbrev hn : List Hint := [.any]
def val (t : Bool) : AV := Sh.mk (.data .bool) t
def wr (t : Bool) : Heap := []
def callee (k : Nat) : Callee := sigCallee ps hs (fun (d : (Unit × Unit × Unit)) (e : ((List (List Int)) × (List (List Int)) × Unit)) => f k e.1 e.2.1) val wr
def E (k : Nat) : Env := ⟨fnTab [], loopTab [(0, l0.sum k)], natsTab [], natTab []⟩
theorem fE (k : Nat) : ∀ f, ∀ c ∈ (E k).fn f, CalleeOK Tryz.prog f c := fnTab_ok trivial
namespace l0
theorem round (k : Nat) (d : (Unit × Unit × Int × Int × Unit)) (e : ((List (List Int)) × (List (List Int)) × Unit)) (G : St → Option (Ex × St)) : roundK Tryz.prog (E k) 26 0 (subC (bodyOf Tryz.f38) [1, 1, 0, 1, 0, 0]) (recast cl hn kp) (finBy cl hn kp rc rs ri) G ⟨mkS S d, mkH H e⟩ =
    step (fun x13 => some (.exit 0, KX d e x13)) (fun q0 => some (.ret, RX d e q0)) (fun x13 => G ⟨mkS S ((), (), d.2.2.1, x13, ()), mkH H (e.1, e.2.1, ())⟩) k d.2.2.1 e.1 e.2.1 d.2.2.2.1 := by kernel_rfl
theorem it (k n : Nat) (d : (Unit × Unit × Int × Int × Unit)) (e : ((List (List Int)) × (List (List Int)) × Unit)) : loopIt Tryz.prog (E k) 26 0 (subC (bodyOf Tryz.f38) [1, 1, 0, 1, 0, 0]) (recast cl hn kp) (finBy cl hn kp rc rs ri) n ⟨mkS S d, mkH H e⟩ = go (fun x13 => some (.exit 0, KX d e x13)) (fun q0 => some (.ret, RX d e q0)) k d.2.2.1 e.1 e.2.1 n d.2.2.2.1 :=
  loopIt_eq (D := (Unit × Unit × Int × Int × Unit) × ((List (List Int)) × (List (List Int)) × Unit)) (fun p => ⟨mkS S p.1, mkH H p.2⟩) (fun F p => step (fun x13 => some (.exit 0, KX p.1 p.2 x13)) (fun q0 => some (.ret, RX p.1 p.2 q0)) (fun x13 => F (((), (), p.1.2.2.1, x13, ()), (p.2.1, p.2.2.1, ()))) k p.1.2.2.1 p.2.1 p.2.2.1 p.1.2.2.2.1) (fun n p => go (fun x13 => some (.exit 0, KX p.1 p.2 x13)) (fun q0 => some (.ret, RX p.1 p.2 q0)) k p.1.2.2.1 p.2.1 p.2.2.1 n p.1.2.2.2.1) (fun _ => rfl) (fun _ _ => rfl) (fun G p => round k p.1 p.2 G) n (d, e)
theorem ok (k : Nat) : LoopOK Tryz.prog 26 (subC (bodyOf Tryz.f38) [1, 1, 0, 1, 0, 0]) (sum k) :=
  loop_sig hm (fE k) (loopsOK_of [] (by kernel_rfl) trivial) S cl hn kp H 0 (fun (d : (Unit × Unit × Int × Int × Unit)) (e : ((List (List Int)) × (List (List Int)) × Unit)) => f k d.2.2.1 e.1 e.2.1 k d.2.2.2.1) KX RX cl hn kp rc rs ri k
    (fun d e => (it k k d e).trans (go_nat (exitOf 0 (KX d e) (RX d e)) (fun x13 => some (.inl x13)) (fun q0 => some (.inr q0)) k d.2.2.1 e.1 e.2.1 k d.2.2.2.1).symm)
end l0
theorem run (k : Nat) (d : (Unit × Unit × Unit)) (e : ((List (List Int)) × (List (List Int)) × Unit)) : runFn Tryz.prog (E k) 26 (bodyOf Tryz.f38) Tryz.f38.results.toList cl hn hi (mkL ps d) (mkH hs e) =
    tree (fun b0 => leafFn hs fi e val wr b0) k e.1 e.2.1 := by kernel_rfl
theorem run_f (k : Nat) (d : (Unit × Unit × Unit)) (e : ((List (List Int)) × (List (List Int)) × Unit)) : runFn Tryz.prog (E k) 26 (bodyOf Tryz.f38) Tryz.f38.results.toList cl hn hi (mkL ps d) (mkH hs e) = (f k e.1 e.2.1).bind (leafFn hs fi e val wr) :=
  (run k d e).trans (tree_nat (leafFn hs fi e val wr) (fun b0 => some b0) k e.1 e.2.1).symm
theorem fnIs : FnIs Tryz.prog 38 Tryz.f38 (bodyOf Tryz.f38) 26 := ⟨by kernel_rfl, by kernel_rfl, by kernel_rfl, by kernel_rfl⟩
theorem ok (k : Nat) : CalleeOK Tryz.prog 38 (callee k) :=
  callee_sig (T := Bool) fnIs hm (fE k) (loopsOK_of [(0, subC (bodyOf Tryz.f38) [1, 1, 0, 1, 0, 0])] (by kernel_rfl) ⟨of_loop (l0.sum k) rfl (l0.ok k), trivial⟩) ps hs cl hn fi (fun (d : (Unit × Unit × Unit)) (e : ((List (List Int)) × (List (List Int)) × Unit)) => f k e.1 e.2.1) val wr rfl (fun _ => rfl) (run_f k)
end slices_Equal_api_Hash_api_Hash_v1
namespace slices_Equal_api_Header_api_Header_v1
namespace l0
def step {X : Type} (K : Int → Option X) (Q : Bool → Option X) (G : Int → Option X) (k : Nat) (x12 : Int) (y0 : (List T_3d5633)) (y1 : (List T_3d5633)) (x13 : Int) : Option X :=
  (bif (decide (x13 < x12)) then (bif (decide (0 ≤ x13)) then (bif (decide (x13 < ((List.length y0) : Int))) then (bif (decide ((Int.toNat x13) < (List.length y0))) then (bif (decide (0 ≤ x13)) then (bif (decide (x13 < ((List.length y1) : Int))) then (bif (decide ((Int.toNat x13) < (List.length y1))) then (bif (!(eqDen (.pair (.int .i64) (.pair (.arr .u8 32) (.pair (.arr .u8 32) (.pair (.int .i64) (.pair (.int .i64) (.int .i64)))))) ((((List.getD y0 (Int.toNat x13) dfl_31f8ee)).1, ((((List.getD y0 (Int.toNat x13) dfl_31f8ee)).2).1, (((((List.getD y0 (Int.toNat x13) dfl_31f8ee)).2).2).1, ((((((List.getD y0 (Int.toNat x13) dfl_31f8ee)).2).2).2).1, ((((((List.getD y0 (Int.toNat x13) dfl_31f8ee)).2).2).2).2))))) : T_3d5633) ((((List.getD y1 (Int.toNat x13) dfl_31f8ee)).1, ((((List.getD y1 (Int.toNat x13) dfl_31f8ee)).2).1, (((((List.getD y1 (Int.toNat x13) dfl_31f8ee)).2).2).1, ((((((List.getD y1 (Int.toNat x13) dfl_31f8ee)).2).2).2).1, ((((((List.getD y1 (Int.toNat x13) dfl_31f8ee)).2).2).2).2))))) : T_3d5633))) then (Q false) else (G (addI .i64 x13 1))) else none) else none) else none) else none) else none) else none) else (K x13))
def go {X : Type} (K : Int → Option X) (Q : Bool → Option X) (k : Nat) (x12 : Int) (y0 : (List T_3d5633)) (y1 : (List T_3d5633)) : Nat → Int → Option X
  | 0, _ => none
  | n + 1, x13 => step K Q (go K Q k x12 y0 y1 n) k x12 y0 y1 x13
def f (k : Nat) (x12 : Int) (y0 : (List T_3d5633)) (y1 : (List T_3d5633)) (n : Nat) (x13 : Int) : Option (Int ⊕ Bool) := go (fun x13 => some (.inl x13)) (fun q0 => some (.inr q0)) k x12 y0 y1 n x13
theorem step_nat {X Y : Type} (h : X → Option Y) (K : Int → Option X) (Q : Bool → Option X) (G : Int → Option X) (k : Nat) (x12 : Int) (y0 : (List T_3d5633)) (y1 : (List T_3d5633)) (x13 : Int) : Option.bind (step K Q G k x12 y0 y1 x13) h = step (fun x13 => Option.bind (K x13) h) (fun q0 => Option.bind (Q q0) h) (fun x13 => Option.bind (G x13) h) k x12 y0 y1 x13 := by
  simp only [step, bif_bind, sel_bind', Option.bind_assoc, Option.bind_none, Option.bind_some]
theorem go_nat {X Y : Type} (h : X → Option Y) (K : Int → Option X) (Q : Bool → Option X) (k : Nat) (x12 : Int) (y0 : (List T_3d5633)) (y1 : (List T_3d5633)) (n : Nat) : ∀ (x13 : Int), Option.bind (go K Q k x12 y0 y1 n x13) h = go (fun x13 => Option.bind (K x13) h) (fun q0 => Option.bind (Q q0) h) k x12 y0 y1 n x13 := by
  induction n with
  | zero => intros; rfl
  | succ n ih => intro x13; show Option.bind (step K Q (go K Q k x12 y0 y1 n) k x12 y0 y1 x13) h = step (fun x13 => Option.bind (K x13) h) (fun q0 => Option.bind (Q q0) h) (go (fun x13 => Option.bind (K x13) h) (fun q0 => Option.bind (Q q0) h) k x12 y0 y1 n) k x12 y0 y1 x13; rw [step_nat h]; simp only [ih]
abbrev S : List (Nat × Sh) := [(0, .vec 0), (1, .vec 1), (12, .data (.int .i64)), (13, .data (.int .i64))]
abbrev H : List (Nat × ESh) := [(0, .rows 0 44 (.pair (.int .i64) (.pair (.arr .u8 32) (.pair (.arr .u8 32) (.pair (.int .i64) (.pair (.int .i64) (.int .i64))))))), (1, .rows 0 44 (.pair (.int .i64) (.pair (.arr .u8 32) (.pair (.arr .u8 32) (.pair (.int .i64) (.pair (.int .i64) (.int .i64)))))))]
abbrev cl : List (Place × Nat × Hint) := []
abbrev hn : List (Nat × Hint) := [(0, .any), (1, .any), (12, .any), (13, .any)]
abbrev kp : List Nat := [0, 1]
abbrev rc : List (Place × Nat × Hint) := []
abbrev rs : List (Nat × Hint) := [(4, .any)]
abbrev ri : List Nat := [0, 1]
def KX (d : (Unit × Unit × Int × Int × Unit)) (e : ((List T_3d5633) × (List T_3d5633) × Unit)) (v : Int) : St := ⟨mkS S ((), (), d.2.2.1, v, ()), mkH H (e.1, e.2.1, ())⟩
abbrev RS : List (Nat × Sh) := [(4, .data .bool)]
abbrev RH : List (Nat × ESh) := [(0, .rows 0 44 (.pair (.int .i64) (.pair (.arr .u8 32) (.pair (.arr .u8 32) (.pair (.int .i64) (.pair (.int .i64) (.int .i64))))))), (1, .rows 0 44 (.pair (.int .i64) (.pair (.arr .u8 32) (.pair (.arr .u8 32) (.pair (.int .i64) (.pair (.int .i64) (.int .i64)))))))]
def RX (d : (Unit × Unit × Int × Int × Unit)) (e : ((List T_3d5633) × (List T_3d5633) × Unit)) (v : Bool) : St := ⟨mkS RS (v, ()), mkH RH (e.1, e.2.1, ())⟩
def sum (k : Nat) : LoopSum := sigLoop S cl hn kp H 0 (fun (d : (Unit × Unit × Int × Int × Unit)) (e : ((List T_3d5633) × (List T_3d5633) × Unit)) => f k d.2.2.1 e.1 e.2.1 k d.2.2.2.1) KX RX
end l0
def tree {X : Type} (K : Bool → Option X) (k : Nat) (m0 : (List T_3d5633)) (m1 : (List T_3d5633)) : Option X :=
  (bif (((List.length m0) : Int) != ((List.length m1) : Int)) then (K false) else (Option.bind (slices_Equal_api_Header_api_Header_v1.l0.f k ((List.length m0) : Int) m0 m1 k (0 : Int)) (fun r1 => sel r1 (fun v2 => (K true)) (fun q3 => (K q3)))))
def f (k : Nat) (m0 : (List T_3d5633)) (m1 : (List T_3d5633)) : Option Bool := tree (fun b0 => some b0) k m0 m1
theorem tree_nat {X Y : Type} (h : X → Option Y) (K : Bool → Option X) (k : Nat) (m0 : (List T_3d5633)) (m1 : (List T_3d5633)) : Option.bind (tree K k m0 m1) h = tree (fun b0 => Option.bind (K b0) h) k m0 m1 := by
  simp only [tree, bif_bind, sel_bind', Option.bind_assoc, Option.bind_none, Option.bind_some]
abbrev ps : List Sh := [.vec 0, .vec 1]
abbrev hs : List (Nat × ESh) := [(0, .rows 0 44 (.pair (.int .i64) (.pair (.arr .u8 32) (.pair (.arr .u8 32) (.pair (.int .i64) (.pair (.int .i64) (.int .i64))))))), (1, .rows 0 44 (.pair (.int .i64) (.pair (.arr .u8 32) (.pair (.arr .u8 32) (.pair (.int .i64) (.pair (.int .i64) (.int .i64)))))))]
abbrev hi : List Nat := hs.map (·.1)
abbrev fi : List Nat := [0, 1]
abbrev cl : List (Place × Nat × Hint) := []
abbrev hn : List Hint := [.any]
def val (t : Bool) : AV := Sh.mk (.data .bool) t
def wr (t : Bool) : Heap := []
def callee (k : Nat) : Callee := sigCallee ps hs (fun (d : (Unit × Unit × Unit)) (e : ((List T_3d5633) × (List T_3d5633) × Unit)) => f k e.1 e.2.1) val wr
def E (k : Nat) : Env := ⟨fnTab [], loopTab [(0, l0.sum k)], natsTab [], natTab []⟩
theorem fE (k : Nat) : ∀ f, ∀ c ∈ (E k).fn f, CalleeOK Tryz.prog f c := fnTab_ok trivial
namespace l0
theorem round (k : Nat) (d : (Unit × Unit × Int × Int × Unit)) (e : ((List T_3d5633) × (List T_3d5633) × Unit)) (G : St → Option (Ex × St)) : roundK Tryz.prog (E k) 26 0 (subC (bodyOf Tryz.f39) [1, 1, 0, 1, 0, 0]) (recast cl hn kp) (finBy cl hn kp rc rs ri) G ⟨mkS S d, mkH H e⟩ =
    step (fun x13 => some (.exit 0, KX d e x13)) (fun q0 => some (.ret, RX d e q0)) (fun x13 => G ⟨mkS S ((), (), d.2.2.1, x13, ()), mkH H (e.1, e.2.1, ())⟩) k d.2.2.1 e.1 e.2.1 d.2.2.2.1 := by kernel_rfl
theorem it (k n : Nat) (d : (Unit × Unit × Int × Int × Unit)) (e : ((List T_3d5633) × (List T_3d5633) × Unit)) : loopIt Tryz.prog (E k) 26 0 (subC (bodyOf Tryz.f39) [1, 1, 0, 1, 0, 0]) (recast cl hn kp) (finBy cl hn kp rc rs ri) n ⟨mkS S d, mkH H e⟩ = go (fun x13 => some (.exit 0, KX d e x13)) (fun q0 => some (.ret, RX d e q0)) k d.2.2.1 e.1 e.2.1 n d.2.2.2.1 :=
  loopIt_eq (D := (Unit × Unit × Int × Int × Unit) × ((List T_3d5633) × (List T_3d5633) × Unit)) (fun p => ⟨mkS S p.1, mkH H p.2⟩) (fun F p => step (fun x13 => some (.exit 0, KX p.1 p.2 x13)) (fun q0 => some (.ret, RX p.1 p.2 q0)) (fun x13 => F (((), (), p.1.2.2.1, x13, ()), (p.2.1, p.2.2.1, ()))) k p.1.2.2.1 p.2.1 p.2.2.1 p.1.2.2.2.1) (fun n p => go (fun x13 => some (.exit 0, KX p.1 p.2 x13)) (fun q0 => some (.ret, RX p.1 p.2 q0)) k p.1.2.2.1 p.2.1 p.2.2.1 n p.1.2.2.2.1) (fun _ => rfl) (fun _ _ => rfl) (fun G p => round k p.1 p.2 G) n (d, e)
theorem ok (k : Nat) : LoopOK Tryz.prog 26 (subC (bodyOf Tryz.f39) [1, 1, 0, 1, 0, 0]) (sum k) :=
  loop_sig hm (fE k) (loopsOK_of [] (by kernel_rfl) trivial) S cl hn kp H 0 (fun (d : (Unit × Unit × Int × Int × Unit)) (e : ((List T_3d5633) × (List T_3d5633) × Unit)) => f k d.2.2.1 e.1 e.2.1 k d.2.2.2.1) KX RX cl hn kp rc rs ri k
    (fun d e => (it k k d e).trans (go_nat (exitOf 0 (KX d e) (RX d e)) (fun x13 => some (.inl x13)) (fun q0 => some (.inr q0)) k d.2.2.1 e.1 e.2.1 k d.2.2.2.1).symm)
end l0
theorem run (k : Nat) (d : (Unit × Unit × Unit)) (e : ((List T_3d5633) × (List T_3d5633) × Unit)) : runFn Tryz.prog (E k) 26 (bodyOf Tryz.f39) Tryz.f39.results.toList cl hn hi (mkL ps d) (mkH hs e) =
    tree (fun b0 => leafFn hs fi e val wr b0) k e.1 e.2.1 := by kernel_rfl
theorem run_f (k : Nat) (d : (Unit × Unit × Unit)) (e : ((List T_3d5633) × (List T_3d5633) × Unit)) : runFn Tryz.prog (E k) 26 (bodyOf Tryz.f39) Tryz.f39.results.toList cl hn hi (mkL ps d) (mkH hs e) = (f k e.1 e.2.1).bind (leafFn hs fi e val wr) :=
  (run k d e).trans (tree_nat (leafFn hs fi e val wr) (fun b0 => some b0) k e.1 e.2.1).symm
theorem fnIs : FnIs Tryz.prog 39 Tryz.f39 (bodyOf Tryz.f39) 26 := ⟨by kernel_rfl, by kernel_rfl, by kernel_rfl, by kernel_rfl⟩
theorem ok (k : Nat) : CalleeOK Tryz.prog 39 (callee k) :=
  callee_sig (T := Bool) fnIs hm (fE k) (loopsOK_of [(0, subC (bodyOf Tryz.f39) [1, 1, 0, 1, 0, 0])] (by kernel_rfl) ⟨of_loop (l0.sum k) rfl (l0.ok k), trivial⟩) ps hs cl hn fi (fun (d : (Unit × Unit × Unit)) (e : ((List T_3d5633) × (List T_3d5633) × Unit)) => f k e.1 e.2.1) val wr rfl (fun _ => rfl) (run_f k)
end slices_Equal_api_Header_api_Header_v1
namespace speech_Same_v1
def tree {X : Type} (K : Bool → Option X) (k : Nat) (a0 : T_85bbee) (a1 : T_85bbee) : Option X :=
  (Option.bind (speech_bare_v2.f k a0) (fun r1 => (Option.bind (speech_bare_v2.f k a1) (fun r2 => (bif (r1.1 == r2.1) then (bif (r1.2.1 == r2.2.1) then (bif (r1.2.2.1 == r2.2.2.1) then (bif (r1.2.2.2.1 == r2.2.2.2.1) then (bif (r1.2.2.2.2.1 == r2.2.2.2.2.1) then (bif (decide (r1.2.2.2.2.2.2.1 = r2.2.2.2.2.2.2.1)) then (Option.bind (slices_Equal_api_Hash_api_Hash_v1.f k r1.2.2.2.2.2.1 r2.2.2.2.2.2.1) (fun r3 => (bif r3 then (Option.bind (slices_Equal_api_Header_api_Header_v1.f k r1.2.2.2.2.2.2.2 r2.2.2.2.2.2.2.2) (fun r4 => (K r4))) else (K false)))) else (K false)) else (K false)) else (K false)) else (K false)) else (K false)) else (K false))))))
def f (k : Nat) (a0 : T_85bbee) (a1 : T_85bbee) : Option Bool := tree (fun b0 => some b0) k a0 a1
theorem tree_nat {X Y : Type} (h : X → Option Y) (K : Bool → Option X) (k : Nat) (a0 : T_85bbee) (a1 : T_85bbee) : Option.bind (tree K k a0 a1) h = tree (fun b0 => Option.bind (K b0) h) k a0 a1 := by
  simp only [tree, bif_bind, sel_bind', Option.bind_assoc, Option.bind_none, Option.bind_some]
abbrev ps : List Sh := [.data (.pair (.int .i64) (.pair (.int .i64) (.pair (.int .i64) (.pair (.int .i64) (.pair (.int .i64) (.pair (.row 24 (.arr .u8 32)) (.pair (.arr .u8 32) (.row 44 (.pair (.int .i64) (.pair (.arr .u8 32) (.pair (.arr .u8 32) (.pair (.int .i64) (.pair (.int .i64) (.int .i64)))))))))))))), .data (.pair (.int .i64) (.pair (.int .i64) (.pair (.int .i64) (.pair (.int .i64) (.pair (.int .i64) (.pair (.row 24 (.arr .u8 32)) (.pair (.arr .u8 32) (.row 44 (.pair (.int .i64) (.pair (.arr .u8 32) (.pair (.arr .u8 32) (.pair (.int .i64) (.pair (.int .i64) (.int .i64))))))))))))))]
abbrev hs : List (Nat × ESh) := []
abbrev hi : List Nat := hs.map (·.1)
abbrev fi : List Nat := []
abbrev cl : List (Place × Nat × Hint) := []
abbrev hn : List Hint := [.any]
def val (t : Bool) : AV := Sh.mk (.data .bool) t
def wr (t : Bool) : Heap := []
def callee (k : Nat) : Callee := sigCallee ps hs (fun (d : (T_85bbee × T_85bbee × Unit)) (e : Unit) => f k d.1 d.2.1) val wr
def E (k : Nat) : Env := ⟨fnTab [(37, [speech_bare_v2.callee k]), (38, [slices_Equal_api_Hash_api_Hash_v1.callee k]), (39, [slices_Equal_api_Header_api_Header_v1.callee k])], loopTab [], natsTab [], natTab []⟩
theorem fE (k : Nat) : ∀ f, ∀ c ∈ (E k).fn f, CalleeOK Tryz.prog f c := fnTab_ok ⟨⟨speech_bare_v2.ok k, trivial⟩, ⟨slices_Equal_api_Hash_api_Hash_v1.ok k, trivial⟩, ⟨slices_Equal_api_Header_api_Header_v1.ok k, trivial⟩, trivial⟩
theorem run (k : Nat) (d : (T_85bbee × T_85bbee × Unit)) (e : Unit) : runFn Tryz.prog (E k) 63 (bodyOf Tryz.f13) Tryz.f13.results.toList cl hn hi (mkL ps d) (mkH hs e) =
    tree (fun b0 => leafFn hs fi e val wr b0) k d.1 d.2.1 := by kernel_rfl
theorem run_f (k : Nat) (d : (T_85bbee × T_85bbee × Unit)) (e : Unit) : runFn Tryz.prog (E k) 63 (bodyOf Tryz.f13) Tryz.f13.results.toList cl hn hi (mkL ps d) (mkH hs e) = (f k d.1 d.2.1).bind (leafFn hs fi e val wr) :=
  (run k d e).trans (tree_nat (leafFn hs fi e val wr) (fun b0 => some b0) k d.1 d.2.1).symm
theorem fnIs : FnIs Tryz.prog 13 Tryz.f13 (bodyOf Tryz.f13) 63 := ⟨by kernel_rfl, by kernel_rfl, by kernel_rfl, by kernel_rfl⟩
theorem ok (k : Nat) : CalleeOK Tryz.prog 13 (callee k) :=
  callee_sig (T := Bool) fnIs hm (fE k) (loopsOK_of [] (by kernel_rfl) trivial) ps hs cl hn fi (fun (d : (T_85bbee × T_85bbee × Unit)) (e : Unit) => f k d.1 d.2.1) val wr rfl (fun _ => rfl) (run_f k)
end speech_Same_v1
namespace trailheadlaw08_SpeechBytes
def tree {X : Type} (K : Bool → Option X) (k : Nat) (a0 : T_85bbee) (m0 : T_9fe11e) (m1 : (List Int)) (m2 : (List Int)) : Option X :=
  (Option.bind (trailheadlaw08_alive.f k m0 m1 m2) (fun r1 => (bif (!r1) then (K false) else (Option.bind (trailheadlaw08_great.f k a0) (fun r2 => (bif r2 then (K true) else (Option.bind (trailheadref08_Good.f k a0) (fun r3 => (Option.bind (speech_Bytes.f k a0 m0 m1 m2) (fun r4 => (Option.bind (speech_Good.f k a0) (fun r5 => (bif (!(r5 == r3)) then (K false) else (bif (!r3) then (bif (r4.2 != (1 : Int)) then (K false) else (bif (!(decide (r4.1 = ([] : (List Int))))) then (K false) else (bif (!r3) then (K true) else (Option.bind (trailheadref08_Payload.f k a0) (fun r6 => (Option.bind (trailheadref08_Word.f k a0.1) (fun r7 => (Option.bind (speech_Read.f k ((r7, r6) : ((List Int) × (List Int))) m0) (fun r8 => (bif (r4.2 == (0 : Int)) then (Option.bind (trailheadref07_Bytes.f k r7 r6) (fun r9 => (bif (decide (r4.1 = r9)) then (bif (r8.2 == (0 : Int)) then (bif (r8.1.1 == a0.1) then (Option.bind (trailheadref08_Payload.f k r8.1) (fun r10 => (bif (decide (r10 = r6)) then (Option.bind (speech_Same_v1.f k r8.1 a0) (fun r11 => (K r11))) else (K false)))) else (K false)) else (K false)) else (K false)))) else (K false))))))))))) else (bif (!r3) then (K true) else (Option.bind (trailheadref08_Payload.f k a0) (fun r12 => (Option.bind (trailheadref08_Word.f k a0.1) (fun r13 => (Option.bind (speech_Read.f k ((r13, r12) : ((List Int) × (List Int))) m0) (fun r14 => (bif (r4.2 == (0 : Int)) then (Option.bind (trailheadref07_Bytes.f k r13 r12) (fun r15 => (bif (decide (r4.1 = r15)) then (bif (r14.2 == (0 : Int)) then (bif (r14.1.1 == a0.1) then (Option.bind (trailheadref08_Payload.f k r14.1) (fun r16 => (bif (decide (r16 = r12)) then (Option.bind (speech_Same_v1.f k r14.1 a0) (fun r17 => (K r17))) else (K false)))) else (K false)) else (K false)) else (K false)))) else (K false)))))))))))))))))))))))
def f (k : Nat) (a0 : T_85bbee) (m0 : T_9fe11e) (m1 : (List Int)) (m2 : (List Int)) : Option Bool := tree (fun b0 => some b0) k a0 m0 m1 m2
theorem tree_nat {X Y : Type} (h : X → Option Y) (K : Bool → Option X) (k : Nat) (a0 : T_85bbee) (m0 : T_9fe11e) (m1 : (List Int)) (m2 : (List Int)) : Option.bind (tree K k a0 m0 m1 m2) h = tree (fun b0 => Option.bind (K b0) h) k a0 m0 m1 m2 := by
  simp only [tree, bif_bind, sel_bind', Option.bind_assoc, Option.bind_none, Option.bind_some]
abbrev ps : List Sh := [.data (.pair (.int .i64) (.pair (.int .i64) (.pair (.int .i64) (.pair (.int .i64) (.pair (.int .i64) (.pair (.row 24 (.arr .u8 32)) (.pair (.arr .u8 32) (.row 44 (.pair (.int .i64) (.pair (.arr .u8 32) (.pair (.arr .u8 32) (.pair (.int .i64) (.pair (.int .i64) (.int .i64))))))))))))))]
abbrev hs : List (Nat × ESh) := [(0, .glob 0 (.pair .str (.pair .str (.pair .str (.pair .str (.pair .str (.pair .str (.pair .str (.pair .str .str))))))))), (1, .glob 2 (.arr .u32 8)), (2, .glob 3 (.arr .u32 64))]
abbrev hi : List Nat := hs.map (·.1)
abbrev fi : List Nat := [0, 1, 2]
abbrev cl : List (Place × Nat × Hint) := []
abbrev hn : List Hint := [.any]
def val (t : Bool) : AV := Sh.mk (.data .bool) t
def wr (t : Bool) : Heap := []
def callee (k : Nat) : Callee := sigCallee ps hs (fun (d : (T_85bbee × Unit)) (e : (T_9fe11e × (List Int) × (List Int) × Unit)) => f k d.1 e.1 e.2.1 e.2.2.1) val wr
def E (k : Nat) : Env := ⟨fnTab [(4, [trailheadlaw08_alive.callee k]), (5, [trailheadlaw08_great.callee k]), (6, [trailheadref08_Good.callee k]), (7, [speech_Bytes.callee k]), (8, [speech_Good.callee k]), (9, [trailheadref08_Payload.callee k]), (10, [trailheadref08_Word.callee k]), (11, [speech_Read.callee k]), (12, [trailheadref07_Bytes.callee k]), (13, [speech_Same_v1.callee k])], loopTab [], natsTab [(4, [0, 1, 2]), (7, [0, 1, 2]), (11, [0])], natTab [(0, 0), (2, 1), (3, 2)]⟩
theorem fE (k : Nat) : ∀ f, ∀ c ∈ (E k).fn f, CalleeOK Tryz.prog f c := fnTab_ok ⟨⟨trailheadlaw08_alive.ok k, trivial⟩, ⟨trailheadlaw08_great.ok k, trivial⟩, ⟨trailheadref08_Good.ok k, trivial⟩, ⟨speech_Bytes.ok k, trivial⟩, ⟨speech_Good.ok k, trivial⟩, ⟨trailheadref08_Payload.ok k, trivial⟩, ⟨trailheadref08_Word.ok k, trivial⟩, ⟨speech_Read.ok k, trivial⟩, ⟨trailheadref07_Bytes.ok k, trivial⟩, ⟨speech_Same_v1.ok k, trivial⟩, trivial⟩
theorem run (k : Nat) (d : (T_85bbee × Unit)) (e : (T_9fe11e × (List Int) × (List Int) × Unit)) : runFn Tryz.prog (E k) 82 (bodyOf Tryz.f3) Tryz.f3.results.toList cl hn hi (mkL ps d) (mkH hs e) =
    tree (fun b0 => leafFn hs fi e val wr b0) k d.1 e.1 e.2.1 e.2.2.1 := by kernel_rfl
theorem run_f (k : Nat) (d : (T_85bbee × Unit)) (e : (T_9fe11e × (List Int) × (List Int) × Unit)) : runFn Tryz.prog (E k) 82 (bodyOf Tryz.f3) Tryz.f3.results.toList cl hn hi (mkL ps d) (mkH hs e) = (f k d.1 e.1 e.2.1 e.2.2.1).bind (leafFn hs fi e val wr) :=
  (run k d e).trans (tree_nat (leafFn hs fi e val wr) (fun b0 => some b0) k d.1 e.1 e.2.1 e.2.2.1).symm
theorem fnIs : FnIs Tryz.prog 3 Tryz.f3 (bodyOf Tryz.f3) 82 := ⟨by kernel_rfl, by kernel_rfl, by kernel_rfl, by kernel_rfl⟩
theorem ok (k : Nat) : CalleeOK Tryz.prog 3 (callee k) :=
  callee_sig (T := Bool) fnIs hm (fE k) (loopsOK_of [] (by kernel_rfl) trivial) ps hs cl hn fi (fun (d : (T_85bbee × Unit)) (e : (T_9fe11e × (List Int) × (List Int) × Unit)) => f k d.1 e.1 e.2.1 e.2.2.1) val wr rfl (fun _ => rfl) (run_f k)
end trailheadlaw08_SpeechBytes
end Go.Proofs.YtkgpjplncfginaaGreatDoor.Sy
