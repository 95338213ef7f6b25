/- What the Go functions come to, on data: printed by sypr.py. -/
import Derived.Test.YtodjcmbkbijliaaSy18
import Derived.Test.YtodjcmbkbijliaaProg
namespace Go.Proofs.Ytodjcmbkbijliaa.Sy
open Go Go.Proofs
set_option maxRecDepth 100000
set_option linter.unusedVariables false
set_option linter.unusedSimpArgs false

theorem hm : Try.prog.follows .mixedOrders = true := by kernel_rfl
abbrev T_99b111 : Type := (Bool × (Bool × (Bool × (Int × (Int × Int)))))
abbrev T_a91478 : Type := (Bool × T_99b111)
abbrev T_61c67c : Type := (Int × T_a91478)
abbrev T_c8c884 : Type := (Bool × T_61c67c)
abbrev T_dd9637 : Type := ((Int × (Int × (Int × Int))) × T_c8c884)
abbrev T_c2cd00 : Type := (Int × (Int × (Value × ((List Int) × Value))))
abbrev T_2d5364 : Type := (Int × T_c2cd00)
abbrev T_5205bb : Type := (Int × T_2d5364)
abbrev T_c7162a : Type := (Int × T_5205bb)
abbrev T_dd8bd0 : Type := (T_c7162a × (Int × Int))
abbrev T_4272cd : Type := (Int × T_dd8bd0)
abbrev T_35aea6 : Type := (Int × (Int × (Bool × (Int × (Int × Int)))))
abbrev T_33315a : Type := (Int × T_35aea6)
abbrev T_0b0752 : Type := (Bool × T_33315a)
abbrev dfl_c5f4e7 : T_c7162a := ((0 : Int), (((0 : Int), (((0 : Int), (((0 : Int), (((0 : Int), ((((Value.slice none 0 0) : Value), (((List.replicate 32 0 : (List Int)), ((Value.slice none 0 0) : Value)) : ((List Int) × Value))) : (Value × ((List Int) × Value)))) : (Int × (Value × ((List Int) × Value))))) : T_c2cd00)) : T_2d5364)) : T_5205bb))
abbrev dfl_c64a9c : T_4272cd := ((0 : Int), (((((0 : Int), (((0 : Int), (((0 : Int), (((0 : Int), (((0 : Int), ((((Value.slice none 0 0) : Value), (((List.replicate 32 0 : (List Int)), ((Value.slice none 0 0) : Value)) : ((List Int) × Value))) : (Value × ((List Int) × Value)))) : (Int × (Value × ((List Int) × Value))))) : T_c2cd00)) : T_2d5364)) : T_5205bb)) : T_c7162a), (((0 : Int), (0 : Int)) : (Int × Int))) : T_dd8bd0))
namespace shake_Own_hello
def tree {X : Type} (K : Int → Int → Int → Int → Int → (List Int) → Option X) (k : Nat) (a0 : (Int × (Int × (Int × Int)))) : Option X :=
  (K (1 : Int) a0.1 a0.2.1 a0.2.2.1 a0.2.2.2 ([0, 0, 0, 0, 0, 0, 0, 0, 0, 0, 0, 0, 0, 0, 0, 0, 0, 0, 0, 0, 0, 0, 0, 0, 0, 0, 0, 0, 0, 0, 0, 0] : (List Int)))
def f (k : Nat) (a0 : (Int × (Int × (Int × Int)))) : Option (Int × (Int × (Int × (Int × (Int × (List Int)))))) := tree (fun b0 b1 b2 b3 b4 b5 => some (b0, b1, b2, b3, b4, b5)) k a0
theorem tree_nat {X Y : Type} (h : X → Option Y) (K : Int → Int → Int → Int → Int → (List Int) → Option X) (k : Nat) (a0 : (Int × (Int × (Int × Int)))) : Option.bind (tree K k a0) h = tree (fun b0 b1 b2 b3 b4 b5 => Option.bind (K b0 b1 b2 b3 b4 b5) h) k a0 := by
  simp only [tree, bif_bind, sel_bind', Option.bind_assoc, Option.bind_none, Option.bind_some]
abbrev ps : List Sh := [.data (.pair (.int .i64) (.pair (.int .i64) (.pair (.int .i64) (.int .i64))))]
abbrev hs : List (Nat × ESh) := []
abbrev hi : List Nat := hs.map (·.1)
abbrev fi : List Nat := []
abbrev cl : List (Place × Nat × Hint) := []
abbrev hn : List Hint := [.any]
def val (t : (Int × (Int × (Int × (Int × (Int × (List Int))))))) : AV := Sh.mk (.pair (.data (.int .i64)) (.pair (.data (.int .i64)) (.pair (.data (.int .i64)) (.pair (.data (.int .i64)) (.pair (.data (.int .i64)) (.pair .nils (.pair (.data (.arr .u8 32)) .nils))))))) (t.1, (t.2.1, (t.2.2.1, (t.2.2.2.1, (t.2.2.2.2.1, ((), (t.2.2.2.2.2, ())))))))
def wr (t : (Int × (Int × (Int × (Int × (Int × (List Int))))))) : Heap := []
def callee (k : Nat) : Callee := sigCallee ps hs (fun (d : ((Int × (Int × (Int × Int))) × Unit)) (e : Unit) => f k d.1) val wr
def E (k : Nat) : Env := ⟨fnTab [], loopTab [], natsTab [], natTab []⟩
theorem fE (k : Nat) : ∀ f, ∀ c ∈ (E k).fn f, CalleeOK Try.prog f c := fnTab_ok trivial
theorem run (k : Nat) (d : ((Int × (Int × (Int × Int))) × Unit)) (e : Unit) : runFn Try.prog (E k) 12 (bodyOf Try.f50) Try.f50.results.toList cl hn hi (mkL ps d) (mkH hs e) =
    tree (fun b0 b1 b2 b3 b4 b5 => leafFn hs fi e val wr (b0, b1, b2, b3, b4, b5)) k d.1 := by kernel_rfl
theorem run_f (k : Nat) (d : ((Int × (Int × (Int × Int))) × Unit)) (e : Unit) : runFn Try.prog (E k) 12 (bodyOf Try.f50) Try.f50.results.toList cl hn hi (mkL ps d) (mkH hs e) = (f k d.1).bind (leafFn hs fi e val wr) :=
  (run k d e).trans (tree_nat (leafFn hs fi e val wr) (fun b0 b1 b2 b3 b4 b5 => some (b0, b1, b2, b3, b4, b5)) k d.1).symm
theorem fnIs : FnIs Try.prog 50 Try.f50 (bodyOf Try.f50) 12 := ⟨by kernel_rfl, by kernel_rfl, by kernel_rfl, by kernel_rfl⟩
theorem ok (k : Nat) : CalleeOK Try.prog 50 (callee k) :=
  callee_sig (T := (Int × (Int × (Int × (Int × (Int × (List Int))))))) fnIs hm (fE k) (loopsOK_of [] (by kernel_rfl) trivial) ps hs cl hn fi (fun (d : ((Int × (Int × (Int × Int))) × Unit)) (e : Unit) => f k d.1) val wr rfl (fun _ => rfl) (run_f k)
end shake_Own_hello
namespace shake_Open
def tree {X : Type} (K : T_dd9637 → (List T_c7162a) → Option X) (k : Nat) (a0 : (Int × (Int × (Int × Int)))) (a1 : Bool) (a2 : Int) : Option X :=
  (bif a1 then (K ((a0, (a1, (a2, (false, (false, (false, (false, (0, (0, 0))))))))) : T_dd9637) ([] : (List T_c7162a))) else (Option.bind (shake_Own_hello.f k a0) (fun r1 => (K ((a0, (a1, (a2, (false, (false, (false, (false, (0, (0, 0))))))))) : T_dd9637) ([(r1.1, (r1.2.1, (r1.2.2.1, (r1.2.2.2.1, (r1.2.2.2.2.1, ((Value.slice none 0 0), (r1.2.2.2.2.2, (Value.slice none 0 0))))))))] : (List T_c7162a))))))
def f (k : Nat) (a0 : (Int × (Int × (Int × Int)))) (a1 : Bool) (a2 : Int) : Option (T_dd9637 × (List T_c7162a)) := tree (fun b0 b1 => some (b0, b1)) k a0 a1 a2
theorem tree_nat {X Y : Type} (h : X → Option Y) (K : T_dd9637 → (List T_c7162a) → Option X) (k : Nat) (a0 : (Int × (Int × (Int × Int)))) (a1 : Bool) (a2 : Int) : Option.bind (tree K k a0 a1 a2) h = tree (fun b0 b1 => Option.bind (K b0 b1) h) k a0 a1 a2 := by
  simp only [tree, bif_bind, sel_bind', Option.bind_assoc, Option.bind_none, Option.bind_some]
abbrev ps : List Sh := [.data (.pair (.int .i64) (.pair (.int .i64) (.pair (.int .i64) (.int .i64)))), .data .bool, .data (.int .i64)]
abbrev hs : List (Nat × ESh) := []
abbrev hi : List Nat := hs.map (·.1)
abbrev fi : List Nat := [900000, 900001]
abbrev cl : List (Place × Nat × Hint) := []
abbrev hn : List Hint := [.any, (.row 2 71 (.pair (.int .i64) (.pair (.int .i64) (.pair (.int .i64) (.pair (.int .i64) (.pair (.int .i64) (.pair .opq (.pair (.arr .u8 32) .opq))))))))]
def val (t : (T_dd9637 × (List T_c7162a))) : AV := .tcons (Sh.mk (.ptr 900000) ()) (.tcons (Sh.mk (.vec 900001) ()) .tnil)
def wr (t : (T_dd9637 × (List T_c7162a))) : Heap := [(900000, ESh.mk (.cell (.data (.pair (.pair (.int .i64) (.pair (.int .i64) (.pair (.int .i64) (.int .i64)))) (.pair .bool (.pair (.int .i64) (.pair .bool (.pair .bool (.pair .bool (.pair .bool (.pair (.int .i64) (.pair (.int .i64) (.int .i64)))))))))))) t.1), (900001, ESh.mk (.rows 2 71 (.pair (.int .i64) (.pair (.int .i64) (.pair (.int .i64) (.pair (.int .i64) (.pair (.int .i64) (.pair .opq (.pair (.arr .u8 32) .opq)))))))) t.2)]
def callee (k : Nat) : Callee := sigCallee ps hs (fun (d : ((Int × (Int × (Int × Int))) × Bool × Int × Unit)) (e : Unit) => f k d.1 d.2.1 d.2.2.1) val wr
def E (k : Nat) : Env := ⟨fnTab [(50, [shake_Own_hello.callee k])], loopTab [], natsTab [], natTab []⟩
theorem fE (k : Nat) : ∀ f, ∀ c ∈ (E k).fn f, CalleeOK Try.prog f c := fnTab_ok ⟨⟨shake_Own_hello.ok k, trivial⟩, trivial⟩
theorem run (k : Nat) (d : ((Int × (Int × (Int × Int))) × Bool × Int × Unit)) (e : Unit) : runFn Try.prog (E k) 20 (bodyOf Try.f26) Try.f26.results.toList cl hn hi (mkL ps d) (mkH hs e) =
    tree (fun b0 b1 => leafFn hs fi e val wr (b0, b1)) k d.1 d.2.1 d.2.2.1 := by kernel_rfl
theorem run_f (k : Nat) (d : ((Int × (Int × (Int × Int))) × Bool × Int × Unit)) (e : Unit) : runFn Try.prog (E k) 20 (bodyOf Try.f26) Try.f26.results.toList cl hn hi (mkL ps d) (mkH hs e) = (f k d.1 d.2.1 d.2.2.1).bind (leafFn hs fi e val wr) :=
  (run k d e).trans (tree_nat (leafFn hs fi e val wr) (fun b0 b1 => some (b0, b1)) k d.1 d.2.1 d.2.2.1).symm
theorem fnIs : FnIs Try.prog 26 Try.f26 (bodyOf Try.f26) 20 := ⟨by kernel_rfl, by kernel_rfl, by kernel_rfl, by kernel_rfl⟩
theorem ok (k : Nat) : CalleeOK Try.prog 26 (callee k) :=
  callee_sig (T := (T_dd9637 × (List T_c7162a))) fnIs hm (fE k) (loopsOK_of [] (by kernel_rfl) trivial) ps hs cl hn fi (fun (d : ((Int × (Int × (Int × Int))) × Bool × Int × Unit)) (e : Unit) => f k d.1 d.2.1 d.2.2.1) val wr rfl (fun _ => rfl) (run_f k)
end shake_Open
namespace shake_Hand_drop
def tree {X : Type} (K : Int → T_dd9637 → Option X) (k : Nat) (a1 : Int) (m0 : T_dd9637) : Option X :=
  (K a1 ((m0.1, (m0.2.1, (m0.2.2.1, (m0.2.2.2.1, (m0.2.2.2.2.1, (true, m0.2.2.2.2.2.2)))))) : T_dd9637))
def f (k : Nat) (a1 : Int) (m0 : T_dd9637) : Option (Int × T_dd9637) := tree (fun b0 b1 => some (b0, b1)) k a1 m0
theorem tree_nat {X Y : Type} (h : X → Option Y) (K : Int → T_dd9637 → Option X) (k : Nat) (a1 : Int) (m0 : T_dd9637) : Option.bind (tree K k a1 m0) h = tree (fun b0 b1 => Option.bind (K b0 b1) h) k a1 m0 := by
  simp only [tree, bif_bind, sel_bind', Option.bind_assoc, Option.bind_none, Option.bind_some]
abbrev ps : List Sh := [.ptr 0, .data (.int .i64)]
abbrev hs : List (Nat × ESh) := [(0, .cell (.data (.pair (.pair (.int .i64) (.pair (.int .i64) (.pair (.int .i64) (.int .i64)))) (.pair .bool (.pair (.int .i64) (.pair .bool (.pair .bool (.pair .bool (.pair .bool (.pair (.int .i64) (.pair (.int .i64) (.int .i64))))))))))))]
abbrev hi : List Nat := hs.map (·.1)
abbrev fi : List Nat := [0]
abbrev cl : List (Place × Nat × Hint) := []
abbrev hn : List Hint := [.any, .any]
def val (t : (Int × T_dd9637)) : AV := .tcons (Sh.mk .nils ()) (.tcons (Sh.mk (.data (.int .i64)) t.1) .tnil)
def wr (t : (Int × T_dd9637)) : Heap := [(0, ESh.mk (.cell (.data (.pair (.pair (.int .i64) (.pair (.int .i64) (.pair (.int .i64) (.int .i64)))) (.pair .bool (.pair (.int .i64) (.pair .bool (.pair .bool (.pair .bool (.pair .bool (.pair (.int .i64) (.pair (.int .i64) (.int .i64)))))))))))) t.2)]
def callee (k : Nat) : Callee := sigCallee ps hs (fun (d : (Unit × Int × Unit)) (e : (T_dd9637 × Unit)) => f k d.2.1 e.1) val wr
def E (k : Nat) : Env := ⟨fnTab [], loopTab [], natsTab [], natTab []⟩
theorem fE (k : Nat) : ∀ f, ∀ c ∈ (E k).fn f, CalleeOK Try.prog f c := fnTab_ok trivial
theorem run (k : Nat) (d : (Unit × Int × Unit)) (e : (T_dd9637 × Unit)) : runFn Try.prog (E k) 10 (bodyOf Try.f53) Try.f53.results.toList cl hn hi (mkL ps d) (mkH hs e) =
    tree (fun b0 b1 => leafFn hs fi e val wr (b0, b1)) k d.2.1 e.1 := by kernel_rfl
theorem run_f (k : Nat) (d : (Unit × Int × Unit)) (e : (T_dd9637 × Unit)) : runFn Try.prog (E k) 10 (bodyOf Try.f53) Try.f53.results.toList cl hn hi (mkL ps d) (mkH hs e) = (f k d.2.1 e.1).bind (leafFn hs fi e val wr) :=
  (run k d e).trans (tree_nat (leafFn hs fi e val wr) (fun b0 b1 => some (b0, b1)) k d.2.1 e.1).symm
theorem fnIs : FnIs Try.prog 53 Try.f53 (bodyOf Try.f53) 10 := ⟨by kernel_rfl, by kernel_rfl, by kernel_rfl, by kernel_rfl⟩
theorem ok (k : Nat) : CalleeOK Try.prog 53 (callee k) :=
  callee_sig (T := (Int × T_dd9637)) fnIs hm (fE k) (loopsOK_of [] (by kernel_rfl) trivial) ps hs cl hn fi (fun (d : (Unit × Int × Unit)) (e : (T_dd9637 × Unit)) => f k d.2.1 e.1) val wr rfl (fun _ => rfl) (run_f k)
end shake_Hand_drop
namespace shake_Hand_version
def tree {X : Type} (K : Int → T_dd9637 → (List T_c7162a) → Option X) (k : Nat) (a1_0 : Int) (a1_1 : Int) (a1_2 : Int) (a1_3 : Int) (a1_4 : Int) (a1_5 : (List Int)) (m0 : T_dd9637) : Option X :=
  (bif m0.2.2.2.1 then (Option.bind (shake_Hand_drop.f k (3 : Int) m0) (fun r1 => (K r1.1 r1.2 ([] : (List T_c7162a))))) else (bif (a1_4 == m0.1.2.2.2) then (Option.bind (shake_Hand_drop.f k (0 : Int) m0) (fun r2 => (K r2.1 r2.2 ([] : (List T_c7162a))))) else (bif (decide (a1_1 < (31800 : Int))) then (Option.bind (shake_Hand_drop.f k (0 : Int) m0) (fun r3 => (K r3.1 r3.2 ([] : (List T_c7162a))))) else (bif m0.2.1 then (Option.bind (shake_Own_hello.f k m0.1) (fun r4 => (K (0 : Int) ((m0.1, (m0.2.1, (m0.2.2.1, (true, (m0.2.2.2.2.1, (m0.2.2.2.2.2.1, (m0.2.2.2.2.2.2.1, (a1_3, m0.2.2.2.2.2.2.2.2)))))))) : T_dd9637) ([(r4.1, (r4.2.1, (r4.2.2.1, (r4.2.2.2.1, (r4.2.2.2.2.1, ((Value.slice none 0 0), (r4.2.2.2.2.2, (Value.slice none 0 0)))))))), (2, (0, (0, (0, (0, ((Value.slice none 0 0), ([0, 0, 0, 0, 0, 0, 0, 0, 0, 0, 0, 0, 0, 0, 0, 0, 0, 0, 0, 0, 0, 0, 0, 0, 0, 0, 0, 0, 0, 0, 0, 0], (Value.slice none 0 0))))))))] : (List T_c7162a))))) else (K (0 : Int) ((m0.1, (m0.2.1, (m0.2.2.1, (true, (m0.2.2.2.2.1, (m0.2.2.2.2.2.1, (m0.2.2.2.2.2.2.1, (a1_3, m0.2.2.2.2.2.2.2.2)))))))) : T_dd9637) ([(2, (0, (0, (0, (0, ((Value.slice none 0 0), ([0, 0, 0, 0, 0, 0, 0, 0, 0, 0, 0, 0, 0, 0, 0, 0, 0, 0, 0, 0, 0, 0, 0, 0, 0, 0, 0, 0, 0, 0, 0, 0], (Value.slice none 0 0))))))))] : (List T_c7162a)))))))
def f (k : Nat) (a1_0 : Int) (a1_1 : Int) (a1_2 : Int) (a1_3 : Int) (a1_4 : Int) (a1_5 : (List Int)) (m0 : T_dd9637) : Option (Int × (T_dd9637 × (List T_c7162a))) := tree (fun b0 b1 b2 => some (b0, b1, b2)) k a1_0 a1_1 a1_2 a1_3 a1_4 a1_5 m0
theorem tree_nat {X Y : Type} (h : X → Option Y) (K : Int → T_dd9637 → (List T_c7162a) → Option X) (k : Nat) (a1_0 : Int) (a1_1 : Int) (a1_2 : Int) (a1_3 : Int) (a1_4 : Int) (a1_5 : (List Int)) (m0 : T_dd9637) : Option.bind (tree K k a1_0 a1_1 a1_2 a1_3 a1_4 a1_5 m0) h = tree (fun b0 b1 b2 => Option.bind (K b0 b1 b2) h) k a1_0 a1_1 a1_2 a1_3 a1_4 a1_5 m0 := by
  simp only [tree, bif_bind, sel_bind', Option.bind_assoc, Option.bind_none, Option.bind_some]
abbrev ps : List Sh := [.ptr 0, .pair (.data (.int .i64)) (.pair (.data (.int .i64)) (.pair (.data (.int .i64)) (.pair (.data (.int .i64)) (.pair (.data (.int .i64)) (.pair .nils (.pair (.data (.arr .u8 32)) .nils))))))]
abbrev hs : List (Nat × ESh) := [(0, .cell (.data (.pair (.pair (.int .i64) (.pair (.int .i64) (.pair (.int .i64) (.int .i64)))) (.pair .bool (.pair (.int .i64) (.pair .bool (.pair .bool (.pair .bool (.pair .bool (.pair (.int .i64) (.pair (.int .i64) (.int .i64))))))))))))]
abbrev hi : List Nat := hs.map (·.1)
abbrev fi : List Nat := [0, 900001]
abbrev cl : List (Place × Nat × Hint) := []
abbrev hn : List Hint := [(.row 2 71 (.pair (.int .i64) (.pair (.int .i64) (.pair (.int .i64) (.pair (.int .i64) (.pair (.int .i64) (.pair .opq (.pair (.arr .u8 32) .opq)))))))), .any]
def val (t : (Int × (T_dd9637 × (List T_c7162a)))) : AV := .tcons (Sh.mk (.vec 900001) ()) (.tcons (Sh.mk (.data (.int .i64)) t.1) .tnil)
def wr (t : (Int × (T_dd9637 × (List T_c7162a)))) : Heap := [(0, ESh.mk (.cell (.data (.pair (.pair (.int .i64) (.pair (.int .i64) (.pair (.int .i64) (.int .i64)))) (.pair .bool (.pair (.int .i64) (.pair .bool (.pair .bool (.pair .bool (.pair .bool (.pair (.int .i64) (.pair (.int .i64) (.int .i64)))))))))))) t.2.1), (900001, ESh.mk (.rows 2 71 (.pair (.int .i64) (.pair (.int .i64) (.pair (.int .i64) (.pair (.int .i64) (.pair (.int .i64) (.pair .opq (.pair (.arr .u8 32) .opq)))))))) t.2.2)]
def callee (k : Nat) : Callee := sigCallee ps hs (fun (d : (Unit × (Int × (Int × (Int × (Int × (Int × (Unit × ((List Int) × Unit))))))) × Unit)) (e : (T_dd9637 × Unit)) => f k d.2.1.1 d.2.1.2.1 d.2.1.2.2.1 d.2.1.2.2.2.1 d.2.1.2.2.2.2.1 d.2.1.2.2.2.2.2.2.1 e.1) val wr
def E (k : Nat) : Env := ⟨fnTab [(53, [shake_Hand_drop.callee k]), (50, [shake_Own_hello.callee k])], loopTab [], natsTab [], natTab []⟩
theorem fE (k : Nat) : ∀ f, ∀ c ∈ (E k).fn f, CalleeOK Try.prog f c := fnTab_ok ⟨⟨shake_Hand_drop.ok k, trivial⟩, ⟨shake_Own_hello.ok k, trivial⟩, trivial⟩
theorem run (k : Nat) (d : (Unit × (Int × (Int × (Int × (Int × (Int × (Unit × ((List Int) × Unit))))))) × Unit)) (e : (T_dd9637 × Unit)) : runFn Try.prog (E k) 57 (bodyOf Try.f51) Try.f51.results.toList cl hn hi (mkL ps d) (mkH hs e) =
    tree (fun b0 b1 b2 => leafFn hs fi e val wr (b0, b1, b2)) k d.2.1.1 d.2.1.2.1 d.2.1.2.2.1 d.2.1.2.2.2.1 d.2.1.2.2.2.2.1 d.2.1.2.2.2.2.2.2.1 e.1 := by kernel_rfl
theorem run_f (k : Nat) (d : (Unit × (Int × (Int × (Int × (Int × (Int × (Unit × ((List Int) × Unit))))))) × Unit)) (e : (T_dd9637 × Unit)) : runFn Try.prog (E k) 57 (bodyOf Try.f51) Try.f51.results.toList cl hn hi (mkL ps d) (mkH hs e) = (f k d.2.1.1 d.2.1.2.1 d.2.1.2.2.1 d.2.1.2.2.2.1 d.2.1.2.2.2.2.1 d.2.1.2.2.2.2.2.2.1 e.1).bind (leafFn hs fi e val wr) :=
  (run k d e).trans (tree_nat (leafFn hs fi e val wr) (fun b0 b1 b2 => some (b0, b1, b2)) k d.2.1.1 d.2.1.2.1 d.2.1.2.2.1 d.2.1.2.2.2.1 d.2.1.2.2.2.2.1 d.2.1.2.2.2.2.2.2.1 e.1).symm
theorem fnIs : FnIs Try.prog 51 Try.f51 (bodyOf Try.f51) 57 := ⟨by kernel_rfl, by kernel_rfl, by kernel_rfl, by kernel_rfl⟩
theorem ok (k : Nat) : CalleeOK Try.prog 51 (callee k) :=
  callee_sig (T := (Int × (T_dd9637 × (List T_c7162a)))) fnIs hm (fE k) (loopsOK_of [] (by kernel_rfl) trivial) ps hs cl hn fi (fun (d : (Unit × (Int × (Int × (Int × (Int × (Int × (Unit × ((List Int) × Unit))))))) × Unit)) (e : (T_dd9637 × Unit)) => f k d.2.1.1 d.2.1.2.1 d.2.1.2.2.1 d.2.1.2.2.2.1 d.2.1.2.2.2.2.1 d.2.1.2.2.2.2.2.2.1 e.1) val wr rfl (fun _ => rfl) (run_f k)
end shake_Hand_version
namespace shake_Hand_verack
def tree {X : Type} (K : Int → T_dd9637 → (List T_c7162a) → Option X) (k : Nat) (m0 : T_dd9637) : Option X :=
  (bif (!m0.2.2.2.1) then (Option.bind (shake_Hand_drop.f k (3 : Int) m0) (fun r1 => (K r1.1 r1.2 ([] : (List T_c7162a))))) else (bif m0.2.2.2.2.1 then (Option.bind (shake_Hand_drop.f k (3 : Int) m0) (fun r2 => (K r2.1 r2.2 ([] : (List T_c7162a))))) else (K (0 : Int) ((m0.1, (m0.2.1, (m0.2.2.1, (m0.2.2.2.1, (true, m0.2.2.2.2.2))))) : T_dd9637) ([(8, (0, (0, (0, (0, ((Value.slice none 0 0), ([0, 0, 0, 0, 0, 0, 0, 0, 0, 0, 0, 0, 0, 0, 0, 0, 0, 0, 0, 0, 0, 0, 0, 0, 0, 0, 0, 0, 0, 0, 0, 0], (Value.slice none 0 0))))))))] : (List T_c7162a)))))
def f (k : Nat) (m0 : T_dd9637) : Option (Int × (T_dd9637 × (List T_c7162a))) := tree (fun b0 b1 b2 => some (b0, b1, b2)) k m0
theorem tree_nat {X Y : Type} (h : X → Option Y) (K : Int → T_dd9637 → (List T_c7162a) → Option X) (k : Nat) (m0 : T_dd9637) : Option.bind (tree K k m0) h = tree (fun b0 b1 b2 => Option.bind (K b0 b1 b2) h) k m0 := by
  simp only [tree, bif_bind, sel_bind', Option.bind_assoc, Option.bind_none, Option.bind_some]
abbrev ps : List Sh := [.ptr 0]
abbrev hs : List (Nat × ESh) := [(0, .cell (.data (.pair (.pair (.int .i64) (.pair (.int .i64) (.pair (.int .i64) (.int .i64)))) (.pair .bool (.pair (.int .i64) (.pair .bool (.pair .bool (.pair .bool (.pair .bool (.pair (.int .i64) (.pair (.int .i64) (.int .i64))))))))))))]
abbrev hi : List Nat := hs.map (·.1)
abbrev fi : List Nat := [0, 900001]
abbrev cl : List (Place × Nat × Hint) := []
abbrev hn : List Hint := [(.row 2 71 (.pair (.int .i64) (.pair (.int .i64) (.pair (.int .i64) (.pair (.int .i64) (.pair (.int .i64) (.pair .opq (.pair (.arr .u8 32) .opq)))))))), .any]
def val (t : (Int × (T_dd9637 × (List T_c7162a)))) : AV := .tcons (Sh.mk (.vec 900001) ()) (.tcons (Sh.mk (.data (.int .i64)) t.1) .tnil)
def wr (t : (Int × (T_dd9637 × (List T_c7162a)))) : Heap := [(0, ESh.mk (.cell (.data (.pair (.pair (.int .i64) (.pair (.int .i64) (.pair (.int .i64) (.int .i64)))) (.pair .bool (.pair (.int .i64) (.pair .bool (.pair .bool (.pair .bool (.pair .bool (.pair (.int .i64) (.pair (.int .i64) (.int .i64)))))))))))) t.2.1), (900001, ESh.mk (.rows 2 71 (.pair (.int .i64) (.pair (.int .i64) (.pair (.int .i64) (.pair (.int .i64) (.pair (.int .i64) (.pair .opq (.pair (.arr .u8 32) .opq)))))))) t.2.2)]
def callee (k : Nat) : Callee := sigCallee ps hs (fun (d : (Unit × Unit)) (e : (T_dd9637 × Unit)) => f k e.1) val wr
def E (k : Nat) : Env := ⟨fnTab [(53, [shake_Hand_drop.callee k])], loopTab [], natsTab [], natTab []⟩
theorem fE (k : Nat) : ∀ f, ∀ c ∈ (E k).fn f, CalleeOK Try.prog f c := fnTab_ok ⟨⟨shake_Hand_drop.ok k, trivial⟩, trivial⟩
theorem run (k : Nat) (d : (Unit × Unit)) (e : (T_dd9637 × Unit)) : runFn Try.prog (E k) 24 (bodyOf Try.f52) Try.f52.results.toList cl hn hi (mkL ps d) (mkH hs e) =
    tree (fun b0 b1 b2 => leafFn hs fi e val wr (b0, b1, b2)) k e.1 := by kernel_rfl
theorem run_f (k : Nat) (d : (Unit × Unit)) (e : (T_dd9637 × Unit)) : runFn Try.prog (E k) 24 (bodyOf Try.f52) Try.f52.results.toList cl hn hi (mkL ps d) (mkH hs e) = (f k e.1).bind (leafFn hs fi e val wr) :=
  (run k d e).trans (tree_nat (leafFn hs fi e val wr) (fun b0 b1 b2 => some (b0, b1, b2)) k e.1).symm
theorem fnIs : FnIs Try.prog 52 Try.f52 (bodyOf Try.f52) 24 := ⟨by kernel_rfl, by kernel_rfl, by kernel_rfl, by kernel_rfl⟩
theorem ok (k : Nat) : CalleeOK Try.prog 52 (callee k) :=
  callee_sig (T := (Int × (T_dd9637 × (List T_c7162a)))) fnIs hm (fE k) (loopsOK_of [] (by kernel_rfl) trivial) ps hs cl hn fi (fun (d : (Unit × Unit)) (e : (T_dd9637 × Unit)) => f k e.1) val wr rfl (fun _ => rfl) (run_f k)
end shake_Hand_verack
namespace shake_Hand_pong
def tree {X : Type} (K : Int → T_dd9637 → Option X) (k : Nat) (a1_0 : Int) (a1_1 : Int) (a1_2 : Int) (a1_3 : Int) (a1_4 : Int) (a1_5 : (List Int)) (m0 : T_dd9637) : Option X :=
  (bif (m0.2.2.2.2.2.2.2.2.1 == (0 : Int)) then (K (7 : Int) m0) else (bif (a1_4 != m0.2.2.2.2.2.2.2.2.1) then (K (7 : Int) m0) else (K (0 : Int) ((m0.1, (m0.2.1, (m0.2.2.1, (m0.2.2.2.1, (m0.2.2.2.2.1, (m0.2.2.2.2.2.1, (m0.2.2.2.2.2.2.1, (m0.2.2.2.2.2.2.2.1, (0, m0.2.2.2.2.2.2.2.2.2))))))))) : T_dd9637))))
def f (k : Nat) (a1_0 : Int) (a1_1 : Int) (a1_2 : Int) (a1_3 : Int) (a1_4 : Int) (a1_5 : (List Int)) (m0 : T_dd9637) : Option (Int × T_dd9637) := tree (fun b0 b1 => some (b0, b1)) k a1_0 a1_1 a1_2 a1_3 a1_4 a1_5 m0
theorem tree_nat {X Y : Type} (h : X → Option Y) (K : Int → T_dd9637 → Option X) (k : Nat) (a1_0 : Int) (a1_1 : Int) (a1_2 : Int) (a1_3 : Int) (a1_4 : Int) (a1_5 : (List Int)) (m0 : T_dd9637) : Option.bind (tree K k a1_0 a1_1 a1_2 a1_3 a1_4 a1_5 m0) h = tree (fun b0 b1 => Option.bind (K b0 b1) h) k a1_0 a1_1 a1_2 a1_3 a1_4 a1_5 m0 := by
  simp only [tree, bif_bind, sel_bind', Option.bind_assoc, Option.bind_none, Option.bind_some]
abbrev ps : List Sh := [.ptr 0, .pair (.data (.int .i64)) (.pair (.data (.int .i64)) (.pair (.data (.int .i64)) (.pair (.data (.int .i64)) (.pair (.data (.int .i64)) (.pair .nils (.pair (.data (.arr .u8 32)) .nils))))))]
abbrev hs : List (Nat × ESh) := [(0, .cell (.data (.pair (.pair (.int .i64) (.pair (.int .i64) (.pair (.int .i64) (.int .i64)))) (.pair .bool (.pair (.int .i64) (.pair .bool (.pair .bool (.pair .bool (.pair .bool (.pair (.int .i64) (.pair (.int .i64) (.int .i64))))))))))))]
abbrev hi : List Nat := hs.map (·.1)
abbrev fi : List Nat := [0]
abbrev cl : List (Place × Nat × Hint) := []
abbrev hn : List Hint := [.any, .any]
def val (t : (Int × T_dd9637)) : AV := .tcons (Sh.mk .nils ()) (.tcons (Sh.mk (.data (.int .i64)) t.1) .tnil)
def wr (t : (Int × T_dd9637)) : Heap := [(0, ESh.mk (.cell (.data (.pair (.pair (.int .i64) (.pair (.int .i64) (.pair (.int .i64) (.int .i64)))) (.pair .bool (.pair (.int .i64) (.pair .bool (.pair .bool (.pair .bool (.pair .bool (.pair (.int .i64) (.pair (.int .i64) (.int .i64)))))))))))) t.2)]
def callee (k : Nat) : Callee := sigCallee ps hs (fun (d : (Unit × (Int × (Int × (Int × (Int × (Int × (Unit × ((List Int) × Unit))))))) × Unit)) (e : (T_dd9637 × Unit)) => f k d.2.1.1 d.2.1.2.1 d.2.1.2.2.1 d.2.1.2.2.2.1 d.2.1.2.2.2.2.1 d.2.1.2.2.2.2.2.2.1 e.1) val wr
def E (k : Nat) : Env := ⟨fnTab [], loopTab [], natsTab [], natTab []⟩
theorem fE (k : Nat) : ∀ f, ∀ c ∈ (E k).fn f, CalleeOK Try.prog f c := fnTab_ok trivial
theorem run (k : Nat) (d : (Unit × (Int × (Int × (Int × (Int × (Int × (Unit × ((List Int) × Unit))))))) × Unit)) (e : (T_dd9637 × Unit)) : runFn Try.prog (E k) 23 (bodyOf Try.f54) Try.f54.results.toList cl hn hi (mkL ps d) (mkH hs e) =
    tree (fun b0 b1 => leafFn hs fi e val wr (b0, b1)) k d.2.1.1 d.2.1.2.1 d.2.1.2.2.1 d.2.1.2.2.2.1 d.2.1.2.2.2.2.1 d.2.1.2.2.2.2.2.2.1 e.1 := by kernel_rfl
theorem run_f (k : Nat) (d : (Unit × (Int × (Int × (Int × (Int × (Int × (Unit × ((List Int) × Unit))))))) × Unit)) (e : (T_dd9637 × Unit)) : runFn Try.prog (E k) 23 (bodyOf Try.f54) Try.f54.results.toList cl hn hi (mkL ps d) (mkH hs e) = (f k d.2.1.1 d.2.1.2.1 d.2.1.2.2.1 d.2.1.2.2.2.1 d.2.1.2.2.2.2.1 d.2.1.2.2.2.2.2.2.1 e.1).bind (leafFn hs fi e val wr) :=
  (run k d e).trans (tree_nat (leafFn hs fi e val wr) (fun b0 b1 => some (b0, b1)) k d.2.1.1 d.2.1.2.1 d.2.1.2.2.1 d.2.1.2.2.2.1 d.2.1.2.2.2.2.1 d.2.1.2.2.2.2.2.2.1 e.1).symm
theorem fnIs : FnIs Try.prog 54 Try.f54 (bodyOf Try.f54) 23 := ⟨by kernel_rfl, by kernel_rfl, by kernel_rfl, by kernel_rfl⟩
theorem ok (k : Nat) : CalleeOK Try.prog 54 (callee k) :=
  callee_sig (T := (Int × T_dd9637)) fnIs hm (fE k) (loopsOK_of [] (by kernel_rfl) trivial) ps hs cl hn fi (fun (d : (Unit × (Int × (Int × (Int × (Int × (Int × (Unit × ((List Int) × Unit))))))) × Unit)) (e : (T_dd9637 × Unit)) => f k d.2.1.1 d.2.1.2.1 d.2.1.2.2.1 d.2.1.2.2.2.1 d.2.1.2.2.2.2.1 d.2.1.2.2.2.2.2.2.1 e.1) val wr rfl (fun _ => rfl) (run_f k)
end shake_Hand_pong
namespace shake_Hand_In
def tree {X : Type} (K : Int → T_dd9637 → (List T_c7162a) → Option X) (k : Nat) (a1_0 : Int) (a1_1 : Int) (a1_2 : Int) (a1_3 : Int) (a1_4 : Int) (a1_5 : (List Int)) (m0 : T_dd9637) : Option X :=
  (bif m0.2.2.2.2.2.1 then (K (0 : Int) m0 ([] : (List T_c7162a))) else (bif (a1_0 == (1 : Int)) then (Option.bind (shake_Hand_version.f k a1_0 a1_1 a1_2 a1_3 a1_4 a1_5 m0) (fun r1 => (K r1.1 r1.2.1 r1.2.2))) else (bif (a1_0 == (2 : Int)) then (Option.bind (shake_Hand_verack.f k m0) (fun r2 => (K r2.1 r2.2.1 r2.2.2))) else (bif (!m0.2.2.2.2.1) then (Option.bind (shake_Hand_drop.f k (3 : Int) m0) (fun r3 => (K r3.1 r3.2 ([] : (List T_c7162a))))) else (bif (a1_0 == (6 : Int)) then (K (0 : Int) m0 ([(7, (0, (0, (0, (a1_4, ((Value.slice none 0 0), ([0, 0, 0, 0, 0, 0, 0, 0, 0, 0, 0, 0, 0, 0, 0, 0, 0, 0, 0, 0, 0, 0, 0, 0, 0, 0, 0, 0, 0, 0, 0, 0], (Value.slice none 0 0))))))))] : (List T_c7162a))) else (bif (a1_0 == (7 : Int)) then (Option.bind (shake_Hand_pong.f k a1_0 a1_1 a1_2 a1_3 a1_4 a1_5 m0) (fun r4 => (K r4.1 r4.2 ([] : (List T_c7162a))))) else (bif (a1_0 == (8 : Int)) then (K (0 : Int) ((m0.1, (m0.2.1, (m0.2.2.1, (m0.2.2.2.1, (m0.2.2.2.2.1, (m0.2.2.2.2.2.1, (true, m0.2.2.2.2.2.2.2))))))) : T_dd9637) ([] : (List T_c7162a))) else (K (0 : Int) m0 ([] : (List T_c7162a))))))))))
def f (k : Nat) (a1_0 : Int) (a1_1 : Int) (a1_2 : Int) (a1_3 : Int) (a1_4 : Int) (a1_5 : (List Int)) (m0 : T_dd9637) : Option (Int × (T_dd9637 × (List T_c7162a))) := tree (fun b0 b1 b2 => some (b0, b1, b2)) k a1_0 a1_1 a1_2 a1_3 a1_4 a1_5 m0
theorem tree_nat {X Y : Type} (h : X → Option Y) (K : Int → T_dd9637 → (List T_c7162a) → Option X) (k : Nat) (a1_0 : Int) (a1_1 : Int) (a1_2 : Int) (a1_3 : Int) (a1_4 : Int) (a1_5 : (List Int)) (m0 : T_dd9637) : Option.bind (tree K k a1_0 a1_1 a1_2 a1_3 a1_4 a1_5 m0) h = tree (fun b0 b1 b2 => Option.bind (K b0 b1 b2) h) k a1_0 a1_1 a1_2 a1_3 a1_4 a1_5 m0 := by
  simp only [tree, bif_bind, sel_bind', Option.bind_assoc, Option.bind_none, Option.bind_some]
abbrev ps : List Sh := [.ptr 0, .pair (.data (.int .i64)) (.pair (.data (.int .i64)) (.pair (.data (.int .i64)) (.pair (.data (.int .i64)) (.pair (.data (.int .i64)) (.pair .nils (.pair (.data (.arr .u8 32)) .nils))))))]
abbrev hs : List (Nat × ESh) := [(0, .cell (.data (.pair (.pair (.int .i64) (.pair (.int .i64) (.pair (.int .i64) (.int .i64)))) (.pair .bool (.pair (.int .i64) (.pair .bool (.pair .bool (.pair .bool (.pair .bool (.pair (.int .i64) (.pair (.int .i64) (.int .i64))))))))))))]
abbrev hi : List Nat := hs.map (·.1)
abbrev fi : List Nat := [0, 900001]
abbrev cl : List (Place × Nat × Hint) := []
abbrev hn : List Hint := [(.row 2 71 (.pair (.int .i64) (.pair (.int .i64) (.pair (.int .i64) (.pair (.int .i64) (.pair (.int .i64) (.pair .opq (.pair (.arr .u8 32) .opq)))))))), .any]
def val (t : (Int × (T_dd9637 × (List T_c7162a)))) : AV := .tcons (Sh.mk (.vec 900001) ()) (.tcons (Sh.mk (.data (.int .i64)) t.1) .tnil)
def wr (t : (Int × (T_dd9637 × (List T_c7162a)))) : Heap := [(0, ESh.mk (.cell (.data (.pair (.pair (.int .i64) (.pair (.int .i64) (.pair (.int .i64) (.int .i64)))) (.pair .bool (.pair (.int .i64) (.pair .bool (.pair .bool (.pair .bool (.pair .bool (.pair (.int .i64) (.pair (.int .i64) (.int .i64)))))))))))) t.2.1), (900001, ESh.mk (.rows 2 71 (.pair (.int .i64) (.pair (.int .i64) (.pair (.int .i64) (.pair (.int .i64) (.pair (.int .i64) (.pair .opq (.pair (.arr .u8 32) .opq)))))))) t.2.2)]
def callee (k : Nat) : Callee := sigCallee ps hs (fun (d : (Unit × (Int × (Int × (Int × (Int × (Int × (Unit × ((List Int) × Unit))))))) × Unit)) (e : (T_dd9637 × Unit)) => f k d.2.1.1 d.2.1.2.1 d.2.1.2.2.1 d.2.1.2.2.2.1 d.2.1.2.2.2.2.1 d.2.1.2.2.2.2.2.2.1 e.1) val wr
def E (k : Nat) : Env := ⟨fnTab [(51, [shake_Hand_version.callee k]), (52, [shake_Hand_verack.callee k]), (53, [shake_Hand_drop.callee k]), (54, [shake_Hand_pong.callee k])], loopTab [], natsTab [], natTab []⟩
theorem fE (k : Nat) : ∀ f, ∀ c ∈ (E k).fn f, CalleeOK Try.prog f c := fnTab_ok ⟨⟨shake_Hand_version.ok k, trivial⟩, ⟨shake_Hand_verack.ok k, trivial⟩, ⟨shake_Hand_drop.ok k, trivial⟩, ⟨shake_Hand_pong.ok k, trivial⟩, trivial⟩
theorem run (k : Nat) (d : (Unit × (Int × (Int × (Int × (Int × (Int × (Unit × ((List Int) × Unit))))))) × Unit)) (e : (T_dd9637 × Unit)) : runFn Try.prog (E k) 58 (bodyOf Try.f37) Try.f37.results.toList cl hn hi (mkL ps d) (mkH hs e) =
    tree (fun b0 b1 b2 => leafFn hs fi e val wr (b0, b1, b2)) k d.2.1.1 d.2.1.2.1 d.2.1.2.2.1 d.2.1.2.2.2.1 d.2.1.2.2.2.2.1 d.2.1.2.2.2.2.2.2.1 e.1 := by kernel_rfl
theorem run_f (k : Nat) (d : (Unit × (Int × (Int × (Int × (Int × (Int × (Unit × ((List Int) × Unit))))))) × Unit)) (e : (T_dd9637 × Unit)) : runFn Try.prog (E k) 58 (bodyOf Try.f37) Try.f37.results.toList cl hn hi (mkL ps d) (mkH hs e) = (f k d.2.1.1 d.2.1.2.1 d.2.1.2.2.1 d.2.1.2.2.2.1 d.2.1.2.2.2.2.1 d.2.1.2.2.2.2.2.2.1 e.1).bind (leafFn hs fi e val wr) :=
  (run k d e).trans (tree_nat (leafFn hs fi e val wr) (fun b0 b1 b2 => some (b0, b1, b2)) k d.2.1.1 d.2.1.2.1 d.2.1.2.2.1 d.2.1.2.2.2.1 d.2.1.2.2.2.2.1 d.2.1.2.2.2.2.2.2.1 e.1).symm
theorem fnIs : FnIs Try.prog 37 Try.f37 (bodyOf Try.f37) 58 := ⟨by kernel_rfl, by kernel_rfl, by kernel_rfl, by kernel_rfl⟩
theorem ok (k : Nat) : CalleeOK Try.prog 37 (callee k) :=
  callee_sig (T := (Int × (T_dd9637 × (List T_c7162a)))) fnIs hm (fE k) (loopsOK_of [] (by kernel_rfl) trivial) ps hs cl hn fi (fun (d : (Unit × (Int × (Int × (Int × (Int × (Int × (Unit × ((List Int) × Unit))))))) × Unit)) (e : (T_dd9637 × Unit)) => f k d.2.1.1 d.2.1.2.1 d.2.1.2.2.1 d.2.1.2.2.2.1 d.2.1.2.2.2.2.1 d.2.1.2.2.2.2.2.2.1 e.1) val wr rfl (fun _ => rfl) (run_f k)
end shake_Hand_In
namespace trailheadlaw21_alive
def tree {X : Type} (K : Bool → Option X) (k : Nat) : Option X :=
  (Option.bind (shake_Open.f k ((70016, (0, (0, 5))) : (Int × (Int × (Int × Int)))) false (1 : Int)) (fun r1 => (bif (((List.length r1.2) : Int) != (1 : Int)) then (K false) else (bif (decide (0 < ((List.length r1.2) : Int))) then (bif (decide (0 < (List.length r1.2))) then (bif (((List.getD r1.2 0 dfl_c5f4e7)).1 != (1 : Int)) then (K false) else (Option.bind (shake_Hand_In.f k (1 : Int) (70016 : Int) (0 : Int) (0 : Int) (6 : Int) ([0, 0, 0, 0, 0, 0, 0, 0, 0, 0, 0, 0, 0, 0, 0, 0, 0, 0, 0, 0, 0, 0, 0, 0, 0, 0, 0, 0, 0, 0, 0, 0] : (List Int)) r1.1) (fun r2 => (bif (((List.length r2.2.2) : Int) == (1 : Int)) then (bif (decide (0 < ((List.length r2.2.2) : Int))) then (bif (decide (0 < (List.length r2.2.2))) then (bif (((List.getD r2.2.2 0 dfl_c5f4e7)).1 == (2 : Int)) then (K (r2.1 == (0 : Int))) else (K false)) else none) else none) else (K false))))) else none) else none))))
def f (k : Nat) : Option Bool := tree (fun b0 => some b0) k
theorem tree_nat {X Y : Type} (h : X → Option Y) (K : Bool → Option X) (k : Nat) : Option.bind (tree K k) h = tree (fun b0 => Option.bind (K b0) h) k := by
  simp only [tree, bif_bind, sel_bind', Option.bind_assoc, Option.bind_none, Option.bind_some]
abbrev ps : List Sh := []
abbrev hs : List (Nat × ESh) := []
abbrev hi : List Nat := hs.map (·.1)
abbrev fi : List Nat := []
abbrev cl : List (Place × Nat × Hint) := []
abbrev hn : List Hint := [.any]
def val (t : Bool) : AV := Sh.mk (.data .bool) t
def wr (t : Bool) : Heap := []
def callee (k : Nat) : Callee := sigCallee ps hs (fun (d : Unit) (e : Unit) => f k) val wr
def E (k : Nat) : Env := ⟨fnTab [(26, [shake_Open.callee k]), (37, [shake_Hand_In.callee k])], loopTab [], natsTab [], natTab []⟩
theorem fE (k : Nat) : ∀ f, ∀ c ∈ (E k).fn f, CalleeOK Try.prog f c := fnTab_ok ⟨⟨shake_Open.ok k, trivial⟩, ⟨shake_Hand_In.ok k, trivial⟩, trivial⟩
theorem run (k : Nat) (d : Unit) (e : Unit) : runFn Try.prog (E k) 40 (bodyOf Try.f25) Try.f25.results.toList cl hn hi (mkL ps d) (mkH hs e) =
    tree (fun b0 => leafFn hs fi e val wr b0) k := by kernel_rfl
theorem run_f (k : Nat) (d : Unit) (e : Unit) : runFn Try.prog (E k) 40 (bodyOf Try.f25) Try.f25.results.toList cl hn hi (mkL ps d) (mkH hs e) = (f k).bind (leafFn hs fi e val wr) :=
  (run k d e).trans (tree_nat (leafFn hs fi e val wr) (fun b0 => some b0) k).symm
theorem fnIs : FnIs Try.prog 25 Try.f25 (bodyOf Try.f25) 40 := ⟨by kernel_rfl, by kernel_rfl, by kernel_rfl, by kernel_rfl⟩
theorem ok (k : Nat) : CalleeOK Try.prog 25 (callee k) :=
  callee_sig (T := Bool) fnIs hm (fE k) (loopsOK_of [] (by kernel_rfl) trivial) ps hs cl hn fi (fun (d : Unit) (e : Unit) => f k) val wr rfl (fun _ => rfl) (run_f k)
end trailheadlaw21_alive
namespace speech_bare
def tree {X : Type} (K : Int → Int → Int → Int → Int → Value → (List Int) → Value → Option X) (k : Nat) (a0_0 : Int) (a0_1 : Int) (a0_2 : Int) (a0_3 : Int) (a0_4 : Int) (a0_5 : Value) (a0_6 : (List Int)) (a0_7 : Value) : Option X :=
  (bif (a0_0 == (1 : Int)) then (K a0_0 a0_1 a0_2 a0_3 a0_4 (Value.slice none 0 0) ([0, 0, 0, 0, 0, 0, 0, 0, 0, 0, 0, 0, 0, 0, 0, 0, 0, 0, 0, 0, 0, 0, 0, 0, 0, 0, 0, 0, 0, 0, 0, 0] : (List Int)) (Value.slice none 0 0)) else (bif (a0_0 == (3 : Int)) then (K a0_0 a0_1 (0 : Int) (0 : Int) (0 : Int) a0_5 a0_6 (Value.slice none 0 0)) else (bif (a0_0 == (4 : Int)) then (K a0_0 (0 : Int) (0 : Int) (0 : Int) (0 : Int) (Value.slice none 0 0) ([0, 0, 0, 0, 0, 0, 0, 0, 0, 0, 0, 0, 0, 0, 0, 0, 0, 0, 0, 0, 0, 0, 0, 0, 0, 0, 0, 0, 0, 0, 0, 0] : (List Int)) a0_7) else (bif (a0_0 == (5 : Int)) then (K a0_0 (0 : Int) (0 : Int) (0 : Int) (0 : Int) a0_5 ([0, 0, 0, 0, 0, 0, 0, 0, 0, 0, 0, 0, 0, 0, 0, 0, 0, 0, 0, 0, 0, 0, 0, 0, 0, 0, 0, 0, 0, 0, 0, 0] : (List Int)) (Value.slice none 0 0)) else (bif (a0_0 == (6 : Int)) then (bif (a0_0 == (6 : Int)) then (K a0_0 (0 : Int) (0 : Int) (0 : Int) a0_4 (Value.slice none 0 0) ([0, 0, 0, 0, 0, 0, 0, 0, 0, 0, 0, 0, 0, 0, 0, 0, 0, 0, 0, 0, 0, 0, 0, 0, 0, 0, 0, 0, 0, 0, 0, 0] : (List Int)) (Value.slice none 0 0)) else (K a0_0 (0 : Int) (0 : Int) (0 : Int) (0 : Int) (Value.slice none 0 0) ([0, 0, 0, 0, 0, 0, 0, 0, 0, 0, 0, 0, 0, 0, 0, 0, 0, 0, 0, 0, 0, 0, 0, 0, 0, 0, 0, 0, 0, 0, 0, 0] : (List Int)) (Value.slice none 0 0))) else (bif (a0_0 == (7 : Int)) then (K a0_0 (0 : Int) (0 : Int) (0 : Int) a0_4 (Value.slice none 0 0) ([0, 0, 0, 0, 0, 0, 0, 0, 0, 0, 0, 0, 0, 0, 0, 0, 0, 0, 0, 0, 0, 0, 0, 0, 0, 0, 0, 0, 0, 0, 0, 0] : (List Int)) (Value.slice none 0 0)) else (K a0_0 (0 : Int) (0 : Int) (0 : Int) (0 : Int) (Value.slice none 0 0) ([0, 0, 0, 0, 0, 0, 0, 0, 0, 0, 0, 0, 0, 0, 0, 0, 0, 0, 0, 0, 0, 0, 0, 0, 0, 0, 0, 0, 0, 0, 0, 0] : (List Int)) (Value.slice none 0 0))))))))
def f (k : Nat) (a0_0 : Int) (a0_1 : Int) (a0_2 : Int) (a0_3 : Int) (a0_4 : Int) (a0_5 : Value) (a0_6 : (List Int)) (a0_7 : Value) : Option (Int × (Int × (Int × (Int × (Int × (Value × ((List Int) × Value))))))) := tree (fun b0 b1 b2 b3 b4 b5 b6 b7 => some (b0, b1, b2, b3, b4, b5, b6, b7)) k a0_0 a0_1 a0_2 a0_3 a0_4 a0_5 a0_6 a0_7
theorem tree_nat {X Y : Type} (h : X → Option Y) (K : Int → Int → Int → Int → Int → Value → (List Int) → Value → Option X) (k : Nat) (a0_0 : Int) (a0_1 : Int) (a0_2 : Int) (a0_3 : Int) (a0_4 : Int) (a0_5 : Value) (a0_6 : (List Int)) (a0_7 : Value) : Option.bind (tree K k a0_0 a0_1 a0_2 a0_3 a0_4 a0_5 a0_6 a0_7) h = tree (fun b0 b1 b2 b3 b4 b5 b6 b7 => Option.bind (K b0 b1 b2 b3 b4 b5 b6 b7) h) k a0_0 a0_1 a0_2 a0_3 a0_4 a0_5 a0_6 a0_7 := by
  simp only [tree, bif_bind, sel_bind', Option.bind_assoc, Option.bind_none, Option.bind_some]
abbrev ps : List Sh := [.pair (.data (.int .i64)) (.pair (.data (.int .i64)) (.pair (.data (.int .i64)) (.pair (.data (.int .i64)) (.pair (.data (.int .i64)) (.pair .opq (.pair (.data (.arr .u8 32)) .opq))))))]
abbrev hs : List (Nat × ESh) := []
abbrev hi : List Nat := hs.map (·.1)
abbrev fi : List Nat := []
abbrev cl : List (Place × Nat × Hint) := []
abbrev hn : List Hint := [(.norm (.pair (.int .i64) (.pair (.int .i64) (.pair (.int .i64) (.pair (.int .i64) (.pair (.int .i64) (.pair .opq (.pair (.arr .u8 32) .opq))))))))]
def val (t : (Int × (Int × (Int × (Int × (Int × (Value × ((List Int) × Value)))))))) : AV := Sh.mk (.pair (.data (.int .i64)) (.pair (.data (.int .i64)) (.pair (.data (.int .i64)) (.pair (.data (.int .i64)) (.pair (.data (.int .i64)) (.pair .opq (.pair (.data (.arr .u8 32)) .opq))))))) (t.1, (t.2.1, (t.2.2.1, (t.2.2.2.1, (t.2.2.2.2.1, (t.2.2.2.2.2.1, (t.2.2.2.2.2.2.1, t.2.2.2.2.2.2.2)))))))
def wr (t : (Int × (Int × (Int × (Int × (Int × (Value × ((List Int) × Value)))))))) : Heap := []
def callee (k : Nat) : Callee := sigCallee ps hs (fun (d : ((Int × (Int × (Int × (Int × (Int × (Value × ((List Int) × Value))))))) × Unit)) (e : Unit) => f k d.1.1 d.1.2.1 d.1.2.2.1 d.1.2.2.2.1 d.1.2.2.2.2.1 d.1.2.2.2.2.2.1 d.1.2.2.2.2.2.2.1 d.1.2.2.2.2.2.2.2) val wr
def E (k : Nat) : Env := ⟨fnTab [], loopTab [], natsTab [], natTab []⟩
theorem fE (k : Nat) : ∀ f, ∀ c ∈ (E k).fn f, CalleeOK Try.prog f c := fnTab_ok trivial
theorem run (k : Nat) (d : ((Int × (Int × (Int × (Int × (Int × (Value × ((List Int) × Value))))))) × Unit)) (e : Unit) : runFn Try.prog (E k) 51 (bodyOf Try.f56) Try.f56.results.toList cl hn hi (mkL ps d) (mkH hs e) =
    tree (fun b0 b1 b2 b3 b4 b5 b6 b7 => leafFn hs fi e val wr (b0, b1, b2, b3, b4, b5, b6, b7)) k d.1.1 d.1.2.1 d.1.2.2.1 d.1.2.2.2.1 d.1.2.2.2.2.1 d.1.2.2.2.2.2.1 d.1.2.2.2.2.2.2.1 d.1.2.2.2.2.2.2.2 := by kernel_rfl
theorem run_f (k : Nat) (d : ((Int × (Int × (Int × (Int × (Int × (Value × ((List Int) × Value))))))) × Unit)) (e : Unit) : runFn Try.prog (E k) 51 (bodyOf Try.f56) Try.f56.results.toList cl hn hi (mkL ps d) (mkH hs e) = (f k d.1.1 d.1.2.1 d.1.2.2.1 d.1.2.2.2.1 d.1.2.2.2.2.1 d.1.2.2.2.2.2.1 d.1.2.2.2.2.2.2.1 d.1.2.2.2.2.2.2.2).bind (leafFn hs fi e val wr) :=
  (run k d e).trans (tree_nat (leafFn hs fi e val wr) (fun b0 b1 b2 b3 b4 b5 b6 b7 => some (b0, b1, b2, b3, b4, b5, b6, b7)) k d.1.1 d.1.2.1 d.1.2.2.1 d.1.2.2.2.1 d.1.2.2.2.2.1 d.1.2.2.2.2.2.1 d.1.2.2.2.2.2.2.1 d.1.2.2.2.2.2.2.2).symm
theorem fnIs : FnIs Try.prog 56 Try.f56 (bodyOf Try.f56) 51 := ⟨by kernel_rfl, by kernel_rfl, by kernel_rfl, by kernel_rfl⟩
theorem ok (k : Nat) : CalleeOK Try.prog 56 (callee k) :=
  callee_sig (T := (Int × (Int × (Int × (Int × (Int × (Value × ((List Int) × Value)))))))) fnIs hm (fE k) (loopsOK_of [] (by kernel_rfl) trivial) ps hs cl hn fi (fun (d : ((Int × (Int × (Int × (Int × (Int × (Value × ((List Int) × Value))))))) × Unit)) (e : Unit) => f k d.1.1 d.1.2.1 d.1.2.2.1 d.1.2.2.2.1 d.1.2.2.2.2.1 d.1.2.2.2.2.2.1 d.1.2.2.2.2.2.2.1 d.1.2.2.2.2.2.2.2) val wr rfl (fun _ => rfl) (run_f k)
end speech_bare
namespace speech_bare_v1
def tree {X : Type} (K : Int → Int → Int → Int → Int → (List Int) → Option X) (k : Nat) (a0_0 : Int) (a0_1 : Int) (a0_2 : Int) (a0_3 : Int) (a0_4 : Int) (a0_5 : (List Int)) : Option X :=
  (bif (a0_0 == (1 : Int)) then (K a0_0 a0_1 a0_2 a0_3 a0_4 ([0, 0, 0, 0, 0, 0, 0, 0, 0, 0, 0, 0, 0, 0, 0, 0, 0, 0, 0, 0, 0, 0, 0, 0, 0, 0, 0, 0, 0, 0, 0, 0] : (List Int))) else (bif (a0_0 == (3 : Int)) then (K a0_0 a0_1 (0 : Int) (0 : Int) (0 : Int) a0_5) else (bif (a0_0 == (4 : Int)) then (K a0_0 (0 : Int) (0 : Int) (0 : Int) (0 : Int) ([0, 0, 0, 0, 0, 0, 0, 0, 0, 0, 0, 0, 0, 0, 0, 0, 0, 0, 0, 0, 0, 0, 0, 0, 0, 0, 0, 0, 0, 0, 0, 0] : (List Int))) else (bif (a0_0 == (5 : Int)) then (K a0_0 (0 : Int) (0 : Int) (0 : Int) (0 : Int) ([0, 0, 0, 0, 0, 0, 0, 0, 0, 0, 0, 0, 0, 0, 0, 0, 0, 0, 0, 0, 0, 0, 0, 0, 0, 0, 0, 0, 0, 0, 0, 0] : (List Int))) else (bif (a0_0 == (6 : Int)) then (bif (a0_0 == (6 : Int)) then (K a0_0 (0 : Int) (0 : Int) (0 : Int) a0_4 ([0, 0, 0, 0, 0, 0, 0, 0, 0, 0, 0, 0, 0, 0, 0, 0, 0, 0, 0, 0, 0, 0, 0, 0, 0, 0, 0, 0, 0, 0, 0, 0] : (List Int))) else (K a0_0 (0 : Int) (0 : Int) (0 : Int) (0 : Int) ([0, 0, 0, 0, 0, 0, 0, 0, 0, 0, 0, 0, 0, 0, 0, 0, 0, 0, 0, 0, 0, 0, 0, 0, 0, 0, 0, 0, 0, 0, 0, 0] : (List Int)))) else (bif (a0_0 == (7 : Int)) then (K a0_0 (0 : Int) (0 : Int) (0 : Int) a0_4 ([0, 0, 0, 0, 0, 0, 0, 0, 0, 0, 0, 0, 0, 0, 0, 0, 0, 0, 0, 0, 0, 0, 0, 0, 0, 0, 0, 0, 0, 0, 0, 0] : (List Int))) else (K a0_0 (0 : Int) (0 : Int) (0 : Int) (0 : Int) ([0, 0, 0, 0, 0, 0, 0, 0, 0, 0, 0, 0, 0, 0, 0, 0, 0, 0, 0, 0, 0, 0, 0, 0, 0, 0, 0, 0, 0, 0, 0, 0] : (List Int)))))))))
def f (k : Nat) (a0_0 : Int) (a0_1 : Int) (a0_2 : Int) (a0_3 : Int) (a0_4 : Int) (a0_5 : (List Int)) : Option (Int × (Int × (Int × (Int × (Int × (List Int)))))) := tree (fun b0 b1 b2 b3 b4 b5 => some (b0, b1, b2, b3, b4, b5)) k a0_0 a0_1 a0_2 a0_3 a0_4 a0_5
theorem tree_nat {X Y : Type} (h : X → Option Y) (K : Int → Int → Int → Int → Int → (List Int) → Option X) (k : Nat) (a0_0 : Int) (a0_1 : Int) (a0_2 : Int) (a0_3 : Int) (a0_4 : Int) (a0_5 : (List Int)) : Option.bind (tree K k a0_0 a0_1 a0_2 a0_3 a0_4 a0_5) h = tree (fun b0 b1 b2 b3 b4 b5 => Option.bind (K b0 b1 b2 b3 b4 b5) h) k a0_0 a0_1 a0_2 a0_3 a0_4 a0_5 := by
  simp only [tree, bif_bind, sel_bind', Option.bind_assoc, Option.bind_none, Option.bind_some]
abbrev ps : List Sh := [.pair (.data (.int .i64)) (.pair (.data (.int .i64)) (.pair (.data (.int .i64)) (.pair (.data (.int .i64)) (.pair (.data (.int .i64)) (.pair .nils (.pair (.data (.arr .u8 32)) .nils))))))]
abbrev hs : List (Nat × ESh) := []
abbrev hi : List Nat := hs.map (·.1)
abbrev fi : List Nat := []
abbrev cl : List (Place × Nat × Hint) := []
abbrev hn : List Hint := [.any]
def val (t : (Int × (Int × (Int × (Int × (Int × (List Int))))))) : AV := Sh.mk (.pair (.data (.int .i64)) (.pair (.data (.int .i64)) (.pair (.data (.int .i64)) (.pair (.data (.int .i64)) (.pair (.data (.int .i64)) (.pair .nils (.pair (.data (.arr .u8 32)) .nils))))))) (t.1, (t.2.1, (t.2.2.1, (t.2.2.2.1, (t.2.2.2.2.1, ((), (t.2.2.2.2.2, ())))))))
def wr (t : (Int × (Int × (Int × (Int × (Int × (List Int))))))) : Heap := []
def callee (k : Nat) : Callee := sigCallee ps hs (fun (d : ((Int × (Int × (Int × (Int × (Int × (Unit × ((List Int) × Unit))))))) × Unit)) (e : Unit) => f k d.1.1 d.1.2.1 d.1.2.2.1 d.1.2.2.2.1 d.1.2.2.2.2.1 d.1.2.2.2.2.2.2.1) val wr
def E (k : Nat) : Env := ⟨fnTab [], loopTab [], natsTab [], natTab []⟩
theorem fE (k : Nat) : ∀ f, ∀ c ∈ (E k).fn f, CalleeOK Try.prog f c := fnTab_ok trivial
theorem run (k : Nat) (d : ((Int × (Int × (Int × (Int × (Int × (Unit × ((List Int) × Unit))))))) × Unit)) (e : Unit) : runFn Try.prog (E k) 51 (bodyOf Try.f56) Try.f56.results.toList cl hn hi (mkL ps d) (mkH hs e) =
    tree (fun b0 b1 b2 b3 b4 b5 => leafFn hs fi e val wr (b0, b1, b2, b3, b4, b5)) k d.1.1 d.1.2.1 d.1.2.2.1 d.1.2.2.2.1 d.1.2.2.2.2.1 d.1.2.2.2.2.2.2.1 := by kernel_rfl
theorem run_f (k : Nat) (d : ((Int × (Int × (Int × (Int × (Int × (Unit × ((List Int) × Unit))))))) × Unit)) (e : Unit) : runFn Try.prog (E k) 51 (bodyOf Try.f56) Try.f56.results.toList cl hn hi (mkL ps d) (mkH hs e) = (f k d.1.1 d.1.2.1 d.1.2.2.1 d.1.2.2.2.1 d.1.2.2.2.2.1 d.1.2.2.2.2.2.2.1).bind (leafFn hs fi e val wr) :=
  (run k d e).trans (tree_nat (leafFn hs fi e val wr) (fun b0 b1 b2 b3 b4 b5 => some (b0, b1, b2, b3, b4, b5)) k d.1.1 d.1.2.1 d.1.2.2.1 d.1.2.2.2.1 d.1.2.2.2.2.1 d.1.2.2.2.2.2.2.1).symm
theorem fnIs : FnIs Try.prog 56 Try.f56 (bodyOf Try.f56) 51 := ⟨by kernel_rfl, by kernel_rfl, by kernel_rfl, by kernel_rfl⟩
theorem ok (k : Nat) : CalleeOK Try.prog 56 (callee k) :=
  callee_sig (T := (Int × (Int × (Int × (Int × (Int × (List Int))))))) fnIs hm (fE k) (loopsOK_of [] (by kernel_rfl) trivial) ps hs cl hn fi (fun (d : ((Int × (Int × (Int × (Int × (Int × (Unit × ((List Int) × Unit))))))) × Unit)) (e : Unit) => f k d.1.1 d.1.2.1 d.1.2.2.1 d.1.2.2.2.1 d.1.2.2.2.2.1 d.1.2.2.2.2.2.2.1) val wr rfl (fun _ => rfl) (run_f k)
end speech_bare_v1
namespace slices_Equal_api_Hash_api_Hash
namespace l0
def step {X : Type} (K : Option X) (G : Option X) (k : Nat) (x0 : Value) (x12 : Int) (x13 : Int) : Option X :=
  (bif (decide (x13 < x12)) then none else (K))
def go {X : Type} (K : Option X) (k : Nat) (x0 : Value) (x12 : Int) (x13 : Int) : Nat → Option X
  | 0 => none
  | n + 1 => step K (go K k x0 x12 x13 n) k x0 x12 x13
def f (k : Nat) (x0 : Value) (x12 : Int) (x13 : Int) (n : Nat) : Option Unit := go (some ()) k x0 x12 x13 n
theorem step_nat {X Y : Type} (h : X → Option Y) (K : Option X) (G : Option X) (k : Nat) (x0 : Value) (x12 : Int) (x13 : Int) : Option.bind (step K G k x0 x12 x13) h = step (Option.bind (K) h) (Option.bind (G) h) k x0 x12 x13 := by
  simp only [step, bif_bind, sel_bind', Option.bind_assoc, Option.bind_none, Option.bind_some]
theorem go_nat {X Y : Type} (h : X → Option Y) (K : Option X) (k : Nat) (x0 : Value) (x12 : Int) (x13 : Int) (n : Nat) : Option.bind (go K k x0 x12 x13 n) h = go (Option.bind (K) h) k x0 x12 x13 n := by
  induction n with
  | zero => rfl
  | succ n ih => show Option.bind (step K (go K k x0 x12 x13 n) k x0 x12 x13) h = step (Option.bind (K) h) (go (Option.bind (K) h) k x0 x12 x13 n) k x0 x12 x13; rw [step_nat h]; simp only [ih]
abbrev S : List (Nat × Sh) := [(0, .opq), (1, .nils), (12, .data (.int .i64)), (13, .data (.int .i64))]
abbrev H : List (Nat × ESh) := []
abbrev cl : List (Place × Nat × Hint) := []
abbrev hn : List (Nat × Hint) := [(0, .any), (1, .any), (12, .any), (13, .any)]
abbrev kp : List Nat := []
abbrev rc : List (Place × Nat × Hint) := []
abbrev rs : List (Nat × Hint) := []
abbrev ri : List Nat := []
def KX (d : (Value × Unit × Int × Int × Unit)) (e : Unit) (v : Unit) : St := ⟨mkS S (d.1, (), d.2.2.1, d.2.2.2.1, ()), mkH H (())⟩
def sum (k : Nat) : LoopSum := sigLoopX S cl hn kp H 0 (fun (d : (Value × Unit × Int × Int × Unit)) (e : Unit) => f k d.1 d.2.2.1 d.2.2.2.1 k) KX
end l0
def tree {X : Type} (K : Bool → Option X) (k : Nat) (a0 : Value) : Option X :=
  (Option.bind (opqLen a0) (fun n1 => (bif (n1 != (0 : Int)) then (K false) else (Option.bind (opqLen a0) (fun n2 => (Option.bind (slices_Equal_api_Hash_api_Hash.l0.f k a0 n2 (0 : Int) k) (fun r3 => (K true))))))))
def f (k : Nat) (a0 : Value) : Option Bool := tree (fun b0 => some b0) k a0
theorem tree_nat {X Y : Type} (h : X → Option Y) (K : Bool → Option X) (k : Nat) (a0 : Value) : Option.bind (tree K k a0) h = tree (fun b0 => Option.bind (K b0) h) k a0 := by
  simp only [tree, bif_bind, sel_bind', Option.bind_assoc, Option.bind_none, Option.bind_some]
abbrev ps : List Sh := [.opq, .nils]
abbrev hs : List (Nat × ESh) := []
abbrev hi : List Nat := hs.map (·.1)
abbrev fi : List Nat := []
abbrev cl : List (Place × Nat × Hint) := []
abbrev hn : List Hint := [.any]
def val (t : Bool) : AV := Sh.mk (.data .bool) t
def wr (t : Bool) : Heap := []
def callee (k : Nat) : Callee := sigCallee ps hs (fun (d : (Value × Unit × Unit)) (e : Unit) => f k d.1) val wr
def E (k : Nat) : Env := ⟨fnTab [], loopTab [(0, l0.sum k)], natsTab [], natTab []⟩
theorem fE (k : Nat) : ∀ f, ∀ c ∈ (E k).fn f, CalleeOK Try.prog f c := fnTab_ok trivial
namespace l0
theorem round (k : Nat) (d : (Value × Unit × Int × Int × Unit)) (e : Unit) (G : St → Option (Ex × St)) : roundK Try.prog (E k) 26 0 (subC (bodyOf Try.f57) [1, 1, 0, 1, 0, 0]) (recast cl hn kp) (finBy cl hn kp rc rs ri) G ⟨mkS S d, mkH H e⟩ =
    step (some (.exit 0, KX d e ())) (G ⟨mkS S (d.1, (), d.2.2.1, d.2.2.2.1, ()), mkH H (())⟩) k d.1 d.2.2.1 d.2.2.2.1 := by kernel_rfl
theorem it (k n : Nat) (d : (Value × Unit × Int × Int × Unit)) (e : Unit) : loopIt Try.prog (E k) 26 0 (subC (bodyOf Try.f57) [1, 1, 0, 1, 0, 0]) (recast cl hn kp) (finBy cl hn kp rc rs ri) n ⟨mkS S d, mkH H e⟩ = go (some (.exit 0, KX d e ())) k d.1 d.2.2.1 d.2.2.2.1 n :=
  loopIt_eq (D := (Value × Unit × Int × Int × Unit) × Unit) (fun p => ⟨mkS S p.1, mkH H p.2⟩) (fun F p => step (some (.exit 0, KX p.1 p.2 ())) (F ((p.1.1, (), p.1.2.2.1, p.1.2.2.2.1, ()), (()))) k p.1.1 p.1.2.2.1 p.1.2.2.2.1) (fun n p => go (some (.exit 0, KX p.1 p.2 ())) k p.1.1 p.1.2.2.1 p.1.2.2.2.1 n) (fun _ => rfl) (fun _ _ => rfl) (fun G p => round k p.1 p.2 G) n (d, e)
theorem ok (k : Nat) : LoopOK Try.prog 26 (subC (bodyOf Try.f57) [1, 1, 0, 1, 0, 0]) (sum k) :=
  loop_sigX hm (fE k) (loopsOK_of [] (by kernel_rfl) trivial) S cl hn kp H 0 (fun (d : (Value × Unit × Int × Int × Unit)) (e : Unit) => f k d.1 d.2.2.1 d.2.2.2.1 k) KX cl hn kp rc rs ri k
    (fun d e => (it k k d e).trans (go_nat (fun v => some (Ex.exit 0, KX d e v)) (some ()) k d.1 d.2.2.1 d.2.2.2.1 k).symm)
end l0
theorem run (k : Nat) (d : (Value × Unit × Unit)) (e : Unit) : runFn Try.prog (E k) 26 (bodyOf Try.f57) Try.f57.results.toList cl hn hi (mkL ps d) (mkH hs e) =
    tree (fun b0 => leafFn hs fi e val wr b0) k d.1 := by kernel_rfl
theorem run_f (k : Nat) (d : (Value × Unit × Unit)) (e : Unit) : runFn Try.prog (E k) 26 (bodyOf Try.f57) Try.f57.results.toList cl hn hi (mkL ps d) (mkH hs e) = (f k d.1).bind (leafFn hs fi e val wr) :=
  (run k d e).trans (tree_nat (leafFn hs fi e val wr) (fun b0 => some b0) k d.1).symm
theorem fnIs : FnIs Try.prog 57 Try.f57 (bodyOf Try.f57) 26 := ⟨by kernel_rfl, by kernel_rfl, by kernel_rfl, by kernel_rfl⟩
theorem ok (k : Nat) : CalleeOK Try.prog 57 (callee k) :=
  callee_sig (T := Bool) fnIs hm (fE k) (loopsOK_of [(0, subC (bodyOf Try.f57) [1, 1, 0, 1, 0, 0])] (by kernel_rfl) ⟨of_loop (l0.sum k) rfl (l0.ok k), trivial⟩) ps hs cl hn fi (fun (d : (Value × Unit × Unit)) (e : Unit) => f k d.1) val wr rfl (fun _ => rfl) (run_f k)
end slices_Equal_api_Hash_api_Hash
namespace slices_Equal_api_Header_api_Header
namespace l0
def step {X : Type} (K : Option X) (G : Option X) (k : Nat) (x0 : Value) (x12 : Int) (x13 : Int) : Option X :=
  (bif (decide (x13 < x12)) then none else (K))
def go {X : Type} (K : Option X) (k : Nat) (x0 : Value) (x12 : Int) (x13 : Int) : Nat → Option X
  | 0 => none
  | n + 1 => step K (go K k x0 x12 x13 n) k x0 x12 x13
def f (k : Nat) (x0 : Value) (x12 : Int) (x13 : Int) (n : Nat) : Option Unit := go (some ()) k x0 x12 x13 n
theorem step_nat {X Y : Type} (h : X → Option Y) (K : Option X) (G : Option X) (k : Nat) (x0 : Value) (x12 : Int) (x13 : Int) : Option.bind (step K G k x0 x12 x13) h = step (Option.bind (K) h) (Option.bind (G) h) k x0 x12 x13 := by
  simp only [step, bif_bind, sel_bind', Option.bind_assoc, Option.bind_none, Option.bind_some]
theorem go_nat {X Y : Type} (h : X → Option Y) (K : Option X) (k : Nat) (x0 : Value) (x12 : Int) (x13 : Int) (n : Nat) : Option.bind (go K k x0 x12 x13 n) h = go (Option.bind (K) h) k x0 x12 x13 n := by
  induction n with
  | zero => rfl
  | succ n ih => show Option.bind (step K (go K k x0 x12 x13 n) k x0 x12 x13) h = step (Option.bind (K) h) (go (Option.bind (K) h) k x0 x12 x13 n) k x0 x12 x13; rw [step_nat h]; simp only [ih]
abbrev S : List (Nat × Sh) := [(0, .opq), (1, .nils), (12, .data (.int .i64)), (13, .data (.int .i64))]
abbrev H : List (Nat × ESh) := []
abbrev cl : List (Place × Nat × Hint) := []
abbrev hn : List (Nat × Hint) := [(0, .any), (1, .any), (12, .any), (13, .any)]
abbrev kp : List Nat := []
abbrev rc : List (Place × Nat × Hint) := []
abbrev rs : List (Nat × Hint) := []
abbrev ri : List Nat := []
def KX (d : (Value × Unit × Int × Int × Unit)) (e : Unit) (v : Unit) : St := ⟨mkS S (d.1, (), d.2.2.1, d.2.2.2.1, ()), mkH H (())⟩
def sum (k : Nat) : LoopSum := sigLoopX S cl hn kp H 0 (fun (d : (Value × Unit × Int × Int × Unit)) (e : Unit) => f k d.1 d.2.2.1 d.2.2.2.1 k) KX
end l0
def tree {X : Type} (K : Bool → Option X) (k : Nat) (a0 : Value) : Option X :=
  (Option.bind (opqLen a0) (fun n1 => (bif (n1 != (0 : Int)) then (K false) else (Option.bind (opqLen a0) (fun n2 => (Option.bind (slices_Equal_api_Header_api_Header.l0.f k a0 n2 (0 : Int) k) (fun r3 => (K true))))))))
def f (k : Nat) (a0 : Value) : Option Bool := tree (fun b0 => some b0) k a0
theorem tree_nat {X Y : Type} (h : X → Option Y) (K : Bool → Option X) (k : Nat) (a0 : Value) : Option.bind (tree K k a0) h = tree (fun b0 => Option.bind (K b0) h) k a0 := by
  simp only [tree, bif_bind, sel_bind', Option.bind_assoc, Option.bind_none, Option.bind_some]
abbrev ps : List Sh := [.opq, .nils]
abbrev hs : List (Nat × ESh) := []
abbrev hi : List Nat := hs.map (·.1)
abbrev fi : List Nat := []
abbrev cl : List (Place × Nat × Hint) := []
abbrev hn : List Hint := [.any]
def val (t : Bool) : AV := Sh.mk (.data .bool) t
def wr (t : Bool) : Heap := []
def callee (k : Nat) : Callee := sigCallee ps hs (fun (d : (Value × Unit × Unit)) (e : Unit) => f k d.1) val wr
def E (k : Nat) : Env := ⟨fnTab [], loopTab [(0, l0.sum k)], natsTab [], natTab []⟩
theorem fE (k : Nat) : ∀ f, ∀ c ∈ (E k).fn f, CalleeOK Try.prog f c := fnTab_ok trivial
namespace l0
theorem round (k : Nat) (d : (Value × Unit × Int × Int × Unit)) (e : Unit) (G : St → Option (Ex × St)) : roundK Try.prog (E k) 26 0 (subC (bodyOf Try.f58) [1, 1, 0, 1, 0, 0]) (recast cl hn kp) (finBy cl hn kp rc rs ri) G ⟨mkS S d, mkH H e⟩ =
    step (some (.exit 0, KX d e ())) (G ⟨mkS S (d.1, (), d.2.2.1, d.2.2.2.1, ()), mkH H (())⟩) k d.1 d.2.2.1 d.2.2.2.1 := by kernel_rfl
theorem it (k n : Nat) (d : (Value × Unit × Int × Int × Unit)) (e : Unit) : loopIt Try.prog (E k) 26 0 (subC (bodyOf Try.f58) [1, 1, 0, 1, 0, 0]) (recast cl hn kp) (finBy cl hn kp rc rs ri) n ⟨mkS S d, mkH H e⟩ = go (some (.exit 0, KX d e ())) k d.1 d.2.2.1 d.2.2.2.1 n :=
  loopIt_eq (D := (Value × Unit × Int × Int × Unit) × Unit) (fun p => ⟨mkS S p.1, mkH H p.2⟩) (fun F p => step (some (.exit 0, KX p.1 p.2 ())) (F ((p.1.1, (), p.1.2.2.1, p.1.2.2.2.1, ()), (()))) k p.1.1 p.1.2.2.1 p.1.2.2.2.1) (fun n p => go (some (.exit 0, KX p.1 p.2 ())) k p.1.1 p.1.2.2.1 p.1.2.2.2.1 n) (fun _ => rfl) (fun _ _ => rfl) (fun G p => round k p.1 p.2 G) n (d, e)
theorem ok (k : Nat) : LoopOK Try.prog 26 (subC (bodyOf Try.f58) [1, 1, 0, 1, 0, 0]) (sum k) :=
  loop_sigX hm (fE k) (loopsOK_of [] (by kernel_rfl) trivial) S cl hn kp H 0 (fun (d : (Value × Unit × Int × Int × Unit)) (e : Unit) => f k d.1 d.2.2.1 d.2.2.2.1 k) KX cl hn kp rc rs ri k
    (fun d e => (it k k d e).trans (go_nat (fun v => some (Ex.exit 0, KX d e v)) (some ()) k d.1 d.2.2.1 d.2.2.2.1 k).symm)
end l0
theorem run (k : Nat) (d : (Value × Unit × Unit)) (e : Unit) : runFn Try.prog (E k) 26 (bodyOf Try.f58) Try.f58.results.toList cl hn hi (mkL ps d) (mkH hs e) =
    tree (fun b0 => leafFn hs fi e val wr b0) k d.1 := by kernel_rfl
theorem run_f (k : Nat) (d : (Value × Unit × Unit)) (e : Unit) : runFn Try.prog (E k) 26 (bodyOf Try.f58) Try.f58.results.toList cl hn hi (mkL ps d) (mkH hs e) = (f k d.1).bind (leafFn hs fi e val wr) :=
  (run k d e).trans (tree_nat (leafFn hs fi e val wr) (fun b0 => some b0) k d.1).symm
theorem fnIs : FnIs Try.prog 58 Try.f58 (bodyOf Try.f58) 26 := ⟨by kernel_rfl, by kernel_rfl, by kernel_rfl, by kernel_rfl⟩
theorem ok (k : Nat) : CalleeOK Try.prog 58 (callee k) :=
  callee_sig (T := Bool) fnIs hm (fE k) (loopsOK_of [(0, subC (bodyOf Try.f58) [1, 1, 0, 1, 0, 0])] (by kernel_rfl) ⟨of_loop (l0.sum k) rfl (l0.ok k), trivial⟩) ps hs cl hn fi (fun (d : (Value × Unit × Unit)) (e : Unit) => f k d.1) val wr rfl (fun _ => rfl) (run_f k)
end slices_Equal_api_Header_api_Header
namespace speech_Same
def tree {X : Type} (K : Bool → Option X) (k : Nat) (a0_0 : Int) (a0_1 : Int) (a0_2 : Int) (a0_3 : Int) (a0_4 : Int) (a0_5 : Value) (a0_6 : (List Int)) (a0_7 : Value) (a1_0 : Int) (a1_1 : Int) (a1_2 : Int) (a1_3 : Int) (a1_4 : Int) (a1_5 : (List Int)) : Option X :=
  (Option.bind (speech_bare.f k a0_0 a0_1 a0_2 a0_3 a0_4 a0_5 a0_6 a0_7) (fun r1 => (Option.bind (speech_bare_v1.f k a1_0 a1_1 a1_2 a1_3 a1_4 a1_5) (fun r2 => (bif (r1.1 == r2.1) then (bif (r1.2.1 == r2.2.1) then (bif (r1.2.2.1 == r2.2.2.1) then (bif (r1.2.2.2.1 == r2.2.2.2.1) then (bif (r1.2.2.2.2.1 == r2.2.2.2.2.1) then (bif (decide (r1.2.2.2.2.2.2.1 = r2.2.2.2.2.2)) then (Option.bind (slices_Equal_api_Hash_api_Hash.f k r1.2.2.2.2.2.1) (fun r3 => (bif r3 then (Option.bind (slices_Equal_api_Header_api_Header.f k r1.2.2.2.2.2.2.2) (fun r4 => (K r4))) else (K false)))) else (K false)) else (K false)) else (K false)) else (K false)) else (K false)) else (K false))))))
def f (k : Nat) (a0_0 : Int) (a0_1 : Int) (a0_2 : Int) (a0_3 : Int) (a0_4 : Int) (a0_5 : Value) (a0_6 : (List Int)) (a0_7 : Value) (a1_0 : Int) (a1_1 : Int) (a1_2 : Int) (a1_3 : Int) (a1_4 : Int) (a1_5 : (List Int)) : Option Bool := tree (fun b0 => some b0) k a0_0 a0_1 a0_2 a0_3 a0_4 a0_5 a0_6 a0_7 a1_0 a1_1 a1_2 a1_3 a1_4 a1_5
theorem tree_nat {X Y : Type} (h : X → Option Y) (K : Bool → Option X) (k : Nat) (a0_0 : Int) (a0_1 : Int) (a0_2 : Int) (a0_3 : Int) (a0_4 : Int) (a0_5 : Value) (a0_6 : (List Int)) (a0_7 : Value) (a1_0 : Int) (a1_1 : Int) (a1_2 : Int) (a1_3 : Int) (a1_4 : Int) (a1_5 : (List Int)) : Option.bind (tree K k a0_0 a0_1 a0_2 a0_3 a0_4 a0_5 a0_6 a0_7 a1_0 a1_1 a1_2 a1_3 a1_4 a1_5) h = tree (fun b0 => Option.bind (K b0) h) k a0_0 a0_1 a0_2 a0_3 a0_4 a0_5 a0_6 a0_7 a1_0 a1_1 a1_2 a1_3 a1_4 a1_5 := by
  simp only [tree, bif_bind, sel_bind', Option.bind_assoc, Option.bind_none, Option.bind_some]
abbrev ps : List Sh := [.pair (.data (.int .i64)) (.pair (.data (.int .i64)) (.pair (.data (.int .i64)) (.pair (.data (.int .i64)) (.pair (.data (.int .i64)) (.pair .opq (.pair (.data (.arr .u8 32)) .opq)))))), .pair (.data (.int .i64)) (.pair (.data (.int .i64)) (.pair (.data (.int .i64)) (.pair (.data (.int .i64)) (.pair (.data (.int .i64)) (.pair .nils (.pair (.data (.arr .u8 32)) .nils))))))]
abbrev hs : List (Nat × ESh) := []
abbrev hi : List Nat := hs.map (·.1)
abbrev fi : List Nat := []
abbrev cl : List (Place × Nat × Hint) := []
abbrev hn : List Hint := [.any]
def val (t : Bool) : AV := Sh.mk (.data .bool) t
def wr (t : Bool) : Heap := []
def callee (k : Nat) : Callee := sigCallee ps hs (fun (d : ((Int × (Int × (Int × (Int × (Int × (Value × ((List Int) × Value))))))) × (Int × (Int × (Int × (Int × (Int × (Unit × ((List Int) × Unit))))))) × Unit)) (e : Unit) => f k d.1.1 d.1.2.1 d.1.2.2.1 d.1.2.2.2.1 d.1.2.2.2.2.1 d.1.2.2.2.2.2.1 d.1.2.2.2.2.2.2.1 d.1.2.2.2.2.2.2.2 d.2.1.1 d.2.1.2.1 d.2.1.2.2.1 d.2.1.2.2.2.1 d.2.1.2.2.2.2.1 d.2.1.2.2.2.2.2.2.1) val wr
def E (k : Nat) : Env := ⟨fnTab [(56, [speech_bare.callee k, speech_bare_v1.callee k]), (57, [slices_Equal_api_Hash_api_Hash.callee k]), (58, [slices_Equal_api_Header_api_Header.callee k])], loopTab [], natsTab [], natTab []⟩
theorem fE (k : Nat) : ∀ f, ∀ c ∈ (E k).fn f, CalleeOK Try.prog f c := fnTab_ok ⟨⟨speech_bare.ok k, speech_bare_v1.ok k, trivial⟩, ⟨slices_Equal_api_Hash_api_Hash.ok k, trivial⟩, ⟨slices_Equal_api_Header_api_Header.ok k, trivial⟩, trivial⟩
theorem run (k : Nat) (d : ((Int × (Int × (Int × (Int × (Int × (Value × ((List Int) × Value))))))) × (Int × (Int × (Int × (Int × (Int × (Unit × ((List Int) × Unit))))))) × Unit)) (e : Unit) : runFn Try.prog (E k) 63 (bodyOf Try.f55) Try.f55.results.toList cl hn hi (mkL ps d) (mkH hs e) =
    tree (fun b0 => leafFn hs fi e val wr b0) k d.1.1 d.1.2.1 d.1.2.2.1 d.1.2.2.2.1 d.1.2.2.2.2.1 d.1.2.2.2.2.2.1 d.1.2.2.2.2.2.2.1 d.1.2.2.2.2.2.2.2 d.2.1.1 d.2.1.2.1 d.2.1.2.2.1 d.2.1.2.2.2.1 d.2.1.2.2.2.2.1 d.2.1.2.2.2.2.2.2.1 := by kernel_rfl
theorem run_f (k : Nat) (d : ((Int × (Int × (Int × (Int × (Int × (Value × ((List Int) × Value))))))) × (Int × (Int × (Int × (Int × (Int × (Unit × ((List Int) × Unit))))))) × Unit)) (e : Unit) : runFn Try.prog (E k) 63 (bodyOf Try.f55) Try.f55.results.toList cl hn hi (mkL ps d) (mkH hs e) = (f k d.1.1 d.1.2.1 d.1.2.2.1 d.1.2.2.2.1 d.1.2.2.2.2.1 d.1.2.2.2.2.2.1 d.1.2.2.2.2.2.2.1 d.1.2.2.2.2.2.2.2 d.2.1.1 d.2.1.2.1 d.2.1.2.2.1 d.2.1.2.2.2.1 d.2.1.2.2.2.2.1 d.2.1.2.2.2.2.2.2.1).bind (leafFn hs fi e val wr) :=
  (run k d e).trans (tree_nat (leafFn hs fi e val wr) (fun b0 => some b0) k d.1.1 d.1.2.1 d.1.2.2.1 d.1.2.2.2.1 d.1.2.2.2.2.1 d.1.2.2.2.2.2.1 d.1.2.2.2.2.2.2.1 d.1.2.2.2.2.2.2.2 d.2.1.1 d.2.1.2.1 d.2.1.2.2.1 d.2.1.2.2.2.1 d.2.1.2.2.2.2.1 d.2.1.2.2.2.2.2.2.1).symm
theorem fnIs : FnIs Try.prog 55 Try.f55 (bodyOf Try.f55) 63 := ⟨by kernel_rfl, by kernel_rfl, by kernel_rfl, by kernel_rfl⟩
theorem ok (k : Nat) : CalleeOK Try.prog 55 (callee k) :=
  callee_sig (T := Bool) fnIs hm (fE k) (loopsOK_of [] (by kernel_rfl) trivial) ps hs cl hn fi (fun (d : ((Int × (Int × (Int × (Int × (Int × (Value × ((List Int) × Value))))))) × (Int × (Int × (Int × (Int × (Int × (Unit × ((List Int) × Unit))))))) × Unit)) (e : Unit) => f k d.1.1 d.1.2.1 d.1.2.2.1 d.1.2.2.2.1 d.1.2.2.2.2.1 d.1.2.2.2.2.2.1 d.1.2.2.2.2.2.2.1 d.1.2.2.2.2.2.2.2 d.2.1.1 d.2.1.2.1 d.2.1.2.2.1 d.2.1.2.2.2.1 d.2.1.2.2.2.2.1 d.2.1.2.2.2.2.2.2.1) val wr rfl (fun _ => rfl) (run_f k)
end speech_Same
namespace trailheadlaw21_hello
def tree {X : Type} (K : Bool → Option X) (k : Nat) (a0_0 : Int) (a0_1 : Int) (a0_2 : Int) (a0_3 : Int) (a0_4 : Int) (a0_5 : Value) (a0_6 : (List Int)) (a0_7 : Value) (a1 : (Int × (Int × (Int × Int)))) : Option X :=
  (Option.bind (speech_Same.f k a0_0 a0_1 a0_2 a0_3 a0_4 a0_5 a0_6 a0_7 (1 : Int) a1.1 a1.2.1 a1.2.2.1 a1.2.2.2 ([0, 0, 0, 0, 0, 0, 0, 0, 0, 0, 0, 0, 0, 0, 0, 0, 0, 0, 0, 0, 0, 0, 0, 0, 0, 0, 0, 0, 0, 0, 0, 0] : (List Int))) (fun r1 => (K r1)))
def f (k : Nat) (a0_0 : Int) (a0_1 : Int) (a0_2 : Int) (a0_3 : Int) (a0_4 : Int) (a0_5 : Value) (a0_6 : (List Int)) (a0_7 : Value) (a1 : (Int × (Int × (Int × Int)))) : Option Bool := tree (fun b0 => some b0) k a0_0 a0_1 a0_2 a0_3 a0_4 a0_5 a0_6 a0_7 a1
theorem tree_nat {X Y : Type} (h : X → Option Y) (K : Bool → Option X) (k : Nat) (a0_0 : Int) (a0_1 : Int) (a0_2 : Int) (a0_3 : Int) (a0_4 : Int) (a0_5 : Value) (a0_6 : (List Int)) (a0_7 : Value) (a1 : (Int × (Int × (Int × Int)))) : Option.bind (tree K k a0_0 a0_1 a0_2 a0_3 a0_4 a0_5 a0_6 a0_7 a1) h = tree (fun b0 => Option.bind (K b0) h) k a0_0 a0_1 a0_2 a0_3 a0_4 a0_5 a0_6 a0_7 a1 := by
  simp only [tree, bif_bind, sel_bind', Option.bind_assoc, Option.bind_none, Option.bind_some]
abbrev ps : List Sh := [.pair (.data (.int .i64)) (.pair (.data (.int .i64)) (.pair (.data (.int .i64)) (.pair (.data (.int .i64)) (.pair (.data (.int .i64)) (.pair .opq (.pair (.data (.arr .u8 32)) .opq)))))), .data (.pair (.int .i64) (.pair (.int .i64) (.pair (.int .i64) (.int .i64))))]
abbrev hs : List (Nat × ESh) := []
abbrev hi : List Nat := hs.map (·.1)
abbrev fi : List Nat := []
abbrev cl : List (Place × Nat × Hint) := []
abbrev hn : List Hint := [.any]
def val (t : Bool) : AV := Sh.mk (.data .bool) t
def wr (t : Bool) : Heap := []
def callee (k : Nat) : Callee := sigCallee ps hs (fun (d : ((Int × (Int × (Int × (Int × (Int × (Value × ((List Int) × Value))))))) × (Int × (Int × (Int × Int))) × Unit)) (e : Unit) => f k d.1.1 d.1.2.1 d.1.2.2.1 d.1.2.2.2.1 d.1.2.2.2.2.1 d.1.2.2.2.2.2.1 d.1.2.2.2.2.2.2.1 d.1.2.2.2.2.2.2.2 d.2.1) val wr
def E (k : Nat) : Env := ⟨fnTab [(55, [speech_Same.callee k])], loopTab [], natsTab [], natTab []⟩
theorem fE (k : Nat) : ∀ f, ∀ c ∈ (E k).fn f, CalleeOK Try.prog f c := fnTab_ok ⟨⟨speech_Same.ok k, trivial⟩, trivial⟩
theorem run (k : Nat) (d : ((Int × (Int × (Int × (Int × (Int × (Value × ((List Int) × Value))))))) × (Int × (Int × (Int × Int))) × Unit)) (e : Unit) : runFn Try.prog (E k) 16 (bodyOf Try.f43) Try.f43.results.toList cl hn hi (mkL ps d) (mkH hs e) =
    tree (fun b0 => leafFn hs fi e val wr b0) k d.1.1 d.1.2.1 d.1.2.2.1 d.1.2.2.2.1 d.1.2.2.2.2.1 d.1.2.2.2.2.2.1 d.1.2.2.2.2.2.2.1 d.1.2.2.2.2.2.2.2 d.2.1 := by kernel_rfl
theorem run_f (k : Nat) (d : ((Int × (Int × (Int × (Int × (Int × (Value × ((List Int) × Value))))))) × (Int × (Int × (Int × Int))) × Unit)) (e : Unit) : runFn Try.prog (E k) 16 (bodyOf Try.f43) Try.f43.results.toList cl hn hi (mkL ps d) (mkH hs e) = (f k d.1.1 d.1.2.1 d.1.2.2.1 d.1.2.2.2.1 d.1.2.2.2.2.1 d.1.2.2.2.2.2.1 d.1.2.2.2.2.2.2.1 d.1.2.2.2.2.2.2.2 d.2.1).bind (leafFn hs fi e val wr) :=
  (run k d e).trans (tree_nat (leafFn hs fi e val wr) (fun b0 => some b0) k d.1.1 d.1.2.1 d.1.2.2.1 d.1.2.2.2.1 d.1.2.2.2.2.1 d.1.2.2.2.2.2.1 d.1.2.2.2.2.2.2.1 d.1.2.2.2.2.2.2.2 d.2.1).symm
theorem fnIs : FnIs Try.prog 43 Try.f43 (bodyOf Try.f43) 16 := ⟨by kernel_rfl, by kernel_rfl, by kernel_rfl, by kernel_rfl⟩
theorem ok (k : Nat) : CalleeOK Try.prog 43 (callee k) :=
  callee_sig (T := Bool) fnIs hm (fE k) (loopsOK_of [] (by kernel_rfl) trivial) ps hs cl hn fi (fun (d : ((Int × (Int × (Int × (Int × (Int × (Value × ((List Int) × Value))))))) × (Int × (Int × (Int × Int))) × Unit)) (e : Unit) => f k d.1.1 d.1.2.1 d.1.2.2.1 d.1.2.2.2.1 d.1.2.2.2.2.1 d.1.2.2.2.2.2.1 d.1.2.2.2.2.2.2.1 d.1.2.2.2.2.2.2.2 d.2.1) val wr rfl (fun _ => rfl) (run_f k)
end trailheadlaw21_hello
namespace shake_Hand_version_v1
def tree {X : Type} (K : Int → T_dd9637 → (List T_c7162a) → Option X) (k : Nat) (a1_0 : Int) (a1_1 : Int) (a1_2 : Int) (a1_3 : Int) (a1_4 : Int) (a1_5 : Value) (a1_6 : (List Int)) (a1_7 : Value) (m0 : T_dd9637) : Option X :=
  (bif m0.2.2.2.1 then (Option.bind (shake_Hand_drop.f k (3 : Int) m0) (fun r1 => (K r1.1 r1.2 ([] : (List T_c7162a))))) else (bif (a1_4 == m0.1.2.2.2) then (Option.bind (shake_Hand_drop.f k (0 : Int) m0) (fun r2 => (K r2.1 r2.2 ([] : (List T_c7162a))))) else (bif (decide (a1_1 < (31800 : Int))) then (Option.bind (shake_Hand_drop.f k (0 : Int) m0) (fun r3 => (K r3.1 r3.2 ([] : (List T_c7162a))))) else (bif m0.2.1 then (Option.bind (shake_Own_hello.f k m0.1) (fun r4 => (K (0 : Int) ((m0.1, (m0.2.1, (m0.2.2.1, (true, (m0.2.2.2.2.1, (m0.2.2.2.2.2.1, (m0.2.2.2.2.2.2.1, (a1_3, m0.2.2.2.2.2.2.2.2)))))))) : T_dd9637) ([(r4.1, (r4.2.1, (r4.2.2.1, (r4.2.2.2.1, (r4.2.2.2.2.1, ((Value.slice none 0 0), (r4.2.2.2.2.2, (Value.slice none 0 0)))))))), (2, (0, (0, (0, (0, ((Value.slice none 0 0), ([0, 0, 0, 0, 0, 0, 0, 0, 0, 0, 0, 0, 0, 0, 0, 0, 0, 0, 0, 0, 0, 0, 0, 0, 0, 0, 0, 0, 0, 0, 0, 0], (Value.slice none 0 0))))))))] : (List T_c7162a))))) else (K (0 : Int) ((m0.1, (m0.2.1, (m0.2.2.1, (true, (m0.2.2.2.2.1, (m0.2.2.2.2.2.1, (m0.2.2.2.2.2.2.1, (a1_3, m0.2.2.2.2.2.2.2.2)))))))) : T_dd9637) ([(2, (0, (0, (0, (0, ((Value.slice none 0 0), ([0, 0, 0, 0, 0, 0, 0, 0, 0, 0, 0, 0, 0, 0, 0, 0, 0, 0, 0, 0, 0, 0, 0, 0, 0, 0, 0, 0, 0, 0, 0, 0], (Value.slice none 0 0))))))))] : (List T_c7162a)))))))
def f (k : Nat) (a1_0 : Int) (a1_1 : Int) (a1_2 : Int) (a1_3 : Int) (a1_4 : Int) (a1_5 : Value) (a1_6 : (List Int)) (a1_7 : Value) (m0 : T_dd9637) : Option (Int × (T_dd9637 × (List T_c7162a))) := tree (fun b0 b1 b2 => some (b0, b1, b2)) k a1_0 a1_1 a1_2 a1_3 a1_4 a1_5 a1_6 a1_7 m0
theorem tree_nat {X Y : Type} (h : X → Option Y) (K : Int → T_dd9637 → (List T_c7162a) → Option X) (k : Nat) (a1_0 : Int) (a1_1 : Int) (a1_2 : Int) (a1_3 : Int) (a1_4 : Int) (a1_5 : Value) (a1_6 : (List Int)) (a1_7 : Value) (m0 : T_dd9637) : Option.bind (tree K k a1_0 a1_1 a1_2 a1_3 a1_4 a1_5 a1_6 a1_7 m0) h = tree (fun b0 b1 b2 => Option.bind (K b0 b1 b2) h) k a1_0 a1_1 a1_2 a1_3 a1_4 a1_5 a1_6 a1_7 m0 := by
  simp only [tree, bif_bind, sel_bind', Option.bind_assoc, Option.bind_none, Option.bind_some]
abbrev ps : List Sh := [.ptr 0, .pair (.data (.int .i64)) (.pair (.data (.int .i64)) (.pair (.data (.int .i64)) (.pair (.data (.int .i64)) (.pair (.data (.int .i64)) (.pair .opq (.pair (.data (.arr .u8 32)) .opq))))))]
abbrev hs : List (Nat × ESh) := [(0, .cell (.data (.pair (.pair (.int .i64) (.pair (.int .i64) (.pair (.int .i64) (.int .i64)))) (.pair .bool (.pair (.int .i64) (.pair .bool (.pair .bool (.pair .bool (.pair .bool (.pair (.int .i64) (.pair (.int .i64) (.int .i64))))))))))))]
abbrev hi : List Nat := hs.map (·.1)
abbrev fi : List Nat := [0, 900001]
abbrev cl : List (Place × Nat × Hint) := []
abbrev hn : List Hint := [(.row 2 71 (.pair (.int .i64) (.pair (.int .i64) (.pair (.int .i64) (.pair (.int .i64) (.pair (.int .i64) (.pair .opq (.pair (.arr .u8 32) .opq)))))))), .any]
def val (t : (Int × (T_dd9637 × (List T_c7162a)))) : AV := .tcons (Sh.mk (.vec 900001) ()) (.tcons (Sh.mk (.data (.int .i64)) t.1) .tnil)
def wr (t : (Int × (T_dd9637 × (List T_c7162a)))) : Heap := [(0, ESh.mk (.cell (.data (.pair (.pair (.int .i64) (.pair (.int .i64) (.pair (.int .i64) (.int .i64)))) (.pair .bool (.pair (.int .i64) (.pair .bool (.pair .bool (.pair .bool (.pair .bool (.pair (.int .i64) (.pair (.int .i64) (.int .i64)))))))))))) t.2.1), (900001, ESh.mk (.rows 2 71 (.pair (.int .i64) (.pair (.int .i64) (.pair (.int .i64) (.pair (.int .i64) (.pair (.int .i64) (.pair .opq (.pair (.arr .u8 32) .opq)))))))) t.2.2)]
def callee (k : Nat) : Callee := sigCallee ps hs (fun (d : (Unit × (Int × (Int × (Int × (Int × (Int × (Value × ((List Int) × Value))))))) × Unit)) (e : (T_dd9637 × Unit)) => f k d.2.1.1 d.2.1.2.1 d.2.1.2.2.1 d.2.1.2.2.2.1 d.2.1.2.2.2.2.1 d.2.1.2.2.2.2.2.1 d.2.1.2.2.2.2.2.2.1 d.2.1.2.2.2.2.2.2.2 e.1) val wr
def E (k : Nat) : Env := ⟨fnTab [(53, [shake_Hand_drop.callee k]), (50, [shake_Own_hello.callee k])], loopTab [], natsTab [], natTab []⟩
theorem fE (k : Nat) : ∀ f, ∀ c ∈ (E k).fn f, CalleeOK Try.prog f c := fnTab_ok ⟨⟨shake_Hand_drop.ok k, trivial⟩, ⟨shake_Own_hello.ok k, trivial⟩, trivial⟩
theorem run (k : Nat) (d : (Unit × (Int × (Int × (Int × (Int × (Int × (Value × ((List Int) × Value))))))) × Unit)) (e : (T_dd9637 × Unit)) : runFn Try.prog (E k) 57 (bodyOf Try.f51) Try.f51.results.toList cl hn hi (mkL ps d) (mkH hs e) =
    tree (fun b0 b1 b2 => leafFn hs fi e val wr (b0, b1, b2)) k d.2.1.1 d.2.1.2.1 d.2.1.2.2.1 d.2.1.2.2.2.1 d.2.1.2.2.2.2.1 d.2.1.2.2.2.2.2.1 d.2.1.2.2.2.2.2.2.1 d.2.1.2.2.2.2.2.2.2 e.1 := by kernel_rfl
theorem run_f (k : Nat) (d : (Unit × (Int × (Int × (Int × (Int × (Int × (Value × ((List Int) × Value))))))) × Unit)) (e : (T_dd9637 × Unit)) : runFn Try.prog (E k) 57 (bodyOf Try.f51) Try.f51.results.toList cl hn hi (mkL ps d) (mkH hs e) = (f k d.2.1.1 d.2.1.2.1 d.2.1.2.2.1 d.2.1.2.2.2.1 d.2.1.2.2.2.2.1 d.2.1.2.2.2.2.2.1 d.2.1.2.2.2.2.2.2.1 d.2.1.2.2.2.2.2.2.2 e.1).bind (leafFn hs fi e val wr) :=
  (run k d e).trans (tree_nat (leafFn hs fi e val wr) (fun b0 b1 b2 => some (b0, b1, b2)) k d.2.1.1 d.2.1.2.1 d.2.1.2.2.1 d.2.1.2.2.2.1 d.2.1.2.2.2.2.1 d.2.1.2.2.2.2.2.1 d.2.1.2.2.2.2.2.2.1 d.2.1.2.2.2.2.2.2.2 e.1).symm
theorem fnIs : FnIs Try.prog 51 Try.f51 (bodyOf Try.f51) 57 := ⟨by kernel_rfl, by kernel_rfl, by kernel_rfl, by kernel_rfl⟩
theorem ok (k : Nat) : CalleeOK Try.prog 51 (callee k) :=
  callee_sig (T := (Int × (T_dd9637 × (List T_c7162a)))) fnIs hm (fE k) (loopsOK_of [] (by kernel_rfl) trivial) ps hs cl hn fi (fun (d : (Unit × (Int × (Int × (Int × (Int × (Int × (Value × ((List Int) × Value))))))) × Unit)) (e : (T_dd9637 × Unit)) => f k d.2.1.1 d.2.1.2.1 d.2.1.2.2.1 d.2.1.2.2.2.1 d.2.1.2.2.2.2.1 d.2.1.2.2.2.2.2.1 d.2.1.2.2.2.2.2.2.1 d.2.1.2.2.2.2.2.2.2 e.1) val wr rfl (fun _ => rfl) (run_f k)
end shake_Hand_version_v1
namespace shake_Hand_pong_v1
def tree {X : Type} (K : Int → T_dd9637 → Option X) (k : Nat) (a1_0 : Int) (a1_1 : Int) (a1_2 : Int) (a1_3 : Int) (a1_4 : Int) (a1_5 : Value) (a1_6 : (List Int)) (a1_7 : Value) (m0 : T_dd9637) : Option X :=
  (bif (m0.2.2.2.2.2.2.2.2.1 == (0 : Int)) then (K (7 : Int) m0) else (bif (a1_4 != m0.2.2.2.2.2.2.2.2.1) then (K (7 : Int) m0) else (K (0 : Int) ((m0.1, (m0.2.1, (m0.2.2.1, (m0.2.2.2.1, (m0.2.2.2.2.1, (m0.2.2.2.2.2.1, (m0.2.2.2.2.2.2.1, (m0.2.2.2.2.2.2.2.1, (0, m0.2.2.2.2.2.2.2.2.2))))))))) : T_dd9637))))
def f (k : Nat) (a1_0 : Int) (a1_1 : Int) (a1_2 : Int) (a1_3 : Int) (a1_4 : Int) (a1_5 : Value) (a1_6 : (List Int)) (a1_7 : Value) (m0 : T_dd9637) : Option (Int × T_dd9637) := tree (fun b0 b1 => some (b0, b1)) k a1_0 a1_1 a1_2 a1_3 a1_4 a1_5 a1_6 a1_7 m0
theorem tree_nat {X Y : Type} (h : X → Option Y) (K : Int → T_dd9637 → Option X) (k : Nat) (a1_0 : Int) (a1_1 : Int) (a1_2 : Int) (a1_3 : Int) (a1_4 : Int) (a1_5 : Value) (a1_6 : (List Int)) (a1_7 : Value) (m0 : T_dd9637) : Option.bind (tree K k a1_0 a1_1 a1_2 a1_3 a1_4 a1_5 a1_6 a1_7 m0) h = tree (fun b0 b1 => Option.bind (K b0 b1) h) k a1_0 a1_1 a1_2 a1_3 a1_4 a1_5 a1_6 a1_7 m0 := by
  simp only [tree, bif_bind, sel_bind', Option.bind_assoc, Option.bind_none, Option.bind_some]
abbrev ps : List Sh := [.ptr 0, .pair (.data (.int .i64)) (.pair (.data (.int .i64)) (.pair (.data (.int .i64)) (.pair (.data (.int .i64)) (.pair (.data (.int .i64)) (.pair .opq (.pair (.data (.arr .u8 32)) .opq))))))]
abbrev hs : List (Nat × ESh) := [(0, .cell (.data (.pair (.pair (.int .i64) (.pair (.int .i64) (.pair (.int .i64) (.int .i64)))) (.pair .bool (.pair (.int .i64) (.pair .bool (.pair .bool (.pair .bool (.pair .bool (.pair (.int .i64) (.pair (.int .i64) (.int .i64))))))))))))]
abbrev hi : List Nat := hs.map (·.1)
abbrev fi : List Nat := [0]
abbrev cl : List (Place × Nat × Hint) := []
abbrev hn : List Hint := [.any, .any]
def val (t : (Int × T_dd9637)) : AV := .tcons (Sh.mk .nils ()) (.tcons (Sh.mk (.data (.int .i64)) t.1) .tnil)
def wr (t : (Int × T_dd9637)) : Heap := [(0, ESh.mk (.cell (.data (.pair (.pair (.int .i64) (.pair (.int .i64) (.pair (.int .i64) (.int .i64)))) (.pair .bool (.pair (.int .i64) (.pair .bool (.pair .bool (.pair .bool (.pair .bool (.pair (.int .i64) (.pair (.int .i64) (.int .i64)))))))))))) t.2)]
def callee (k : Nat) : Callee := sigCallee ps hs (fun (d : (Unit × (Int × (Int × (Int × (Int × (Int × (Value × ((List Int) × Value))))))) × Unit)) (e : (T_dd9637 × Unit)) => f k d.2.1.1 d.2.1.2.1 d.2.1.2.2.1 d.2.1.2.2.2.1 d.2.1.2.2.2.2.1 d.2.1.2.2.2.2.2.1 d.2.1.2.2.2.2.2.2.1 d.2.1.2.2.2.2.2.2.2 e.1) val wr
def E (k : Nat) : Env := ⟨fnTab [], loopTab [], natsTab [], natTab []⟩
theorem fE (k : Nat) : ∀ f, ∀ c ∈ (E k).fn f, CalleeOK Try.prog f c := fnTab_ok trivial
theorem run (k : Nat) (d : (Unit × (Int × (Int × (Int × (Int × (Int × (Value × ((List Int) × Value))))))) × Unit)) (e : (T_dd9637 × Unit)) : runFn Try.prog (E k) 23 (bodyOf Try.f54) Try.f54.results.toList cl hn hi (mkL ps d) (mkH hs e) =
    tree (fun b0 b1 => leafFn hs fi e val wr (b0, b1)) k d.2.1.1 d.2.1.2.1 d.2.1.2.2.1 d.2.1.2.2.2.1 d.2.1.2.2.2.2.1 d.2.1.2.2.2.2.2.1 d.2.1.2.2.2.2.2.2.1 d.2.1.2.2.2.2.2.2.2 e.1 := by kernel_rfl
theorem run_f (k : Nat) (d : (Unit × (Int × (Int × (Int × (Int × (Int × (Value × ((List Int) × Value))))))) × Unit)) (e : (T_dd9637 × Unit)) : runFn Try.prog (E k) 23 (bodyOf Try.f54) Try.f54.results.toList cl hn hi (mkL ps d) (mkH hs e) = (f k d.2.1.1 d.2.1.2.1 d.2.1.2.2.1 d.2.1.2.2.2.1 d.2.1.2.2.2.2.1 d.2.1.2.2.2.2.2.1 d.2.1.2.2.2.2.2.2.1 d.2.1.2.2.2.2.2.2.2 e.1).bind (leafFn hs fi e val wr) :=
  (run k d e).trans (tree_nat (leafFn hs fi e val wr) (fun b0 b1 => some (b0, b1)) k d.2.1.1 d.2.1.2.1 d.2.1.2.2.1 d.2.1.2.2.2.1 d.2.1.2.2.2.2.1 d.2.1.2.2.2.2.2.1 d.2.1.2.2.2.2.2.2.1 d.2.1.2.2.2.2.2.2.2 e.1).symm
theorem fnIs : FnIs Try.prog 54 Try.f54 (bodyOf Try.f54) 23 := ⟨by kernel_rfl, by kernel_rfl, by kernel_rfl, by kernel_rfl⟩
theorem ok (k : Nat) : CalleeOK Try.prog 54 (callee k) :=
  callee_sig (T := (Int × T_dd9637)) fnIs hm (fE k) (loopsOK_of [] (by kernel_rfl) trivial) ps hs cl hn fi (fun (d : (Unit × (Int × (Int × (Int × (Int × (Int × (Value × ((List Int) × Value))))))) × Unit)) (e : (T_dd9637 × Unit)) => f k d.2.1.1 d.2.1.2.1 d.2.1.2.2.1 d.2.1.2.2.2.1 d.2.1.2.2.2.2.1 d.2.1.2.2.2.2.2.1 d.2.1.2.2.2.2.2.2.1 d.2.1.2.2.2.2.2.2.2 e.1) val wr rfl (fun _ => rfl) (run_f k)
end shake_Hand_pong_v1
namespace shake_Hand_In_v1
def tree {X : Type} (K : Int → T_dd9637 → (List T_c7162a) → Option X) (k : Nat) (a1_0 : Int) (a1_1 : Int) (a1_2 : Int) (a1_3 : Int) (a1_4 : Int) (a1_5 : Value) (a1_6 : (List Int)) (a1_7 : Value) (m0 : T_dd9637) : Option X :=
  (bif m0.2.2.2.2.2.1 then (K (0 : Int) m0 ([] : (List T_c7162a))) else (bif (a1_0 == (1 : Int)) then (Option.bind (shake_Hand_version_v1.f k a1_0 a1_1 a1_2 a1_3 a1_4 a1_5 a1_6 a1_7 m0) (fun r1 => (K r1.1 r1.2.1 r1.2.2))) else (bif (a1_0 == (2 : Int)) then (Option.bind (shake_Hand_verack.f k m0) (fun r2 => (K r2.1 r2.2.1 r2.2.2))) else (bif (!m0.2.2.2.2.1) then (Option.bind (shake_Hand_drop.f k (3 : Int) m0) (fun r3 => (K r3.1 r3.2 ([] : (List T_c7162a))))) else (bif (a1_0 == (6 : Int)) then (K (0 : Int) m0 ([(7, (0, (0, (0, (a1_4, ((Value.slice none 0 0), ([0, 0, 0, 0, 0, 0, 0, 0, 0, 0, 0, 0, 0, 0, 0, 0, 0, 0, 0, 0, 0, 0, 0, 0, 0, 0, 0, 0, 0, 0, 0, 0], (Value.slice none 0 0))))))))] : (List T_c7162a))) else (bif (a1_0 == (7 : Int)) then (Option.bind (shake_Hand_pong_v1.f k a1_0 a1_1 a1_2 a1_3 a1_4 a1_5 a1_6 a1_7 m0) (fun r4 => (K r4.1 r4.2 ([] : (List T_c7162a))))) else (bif (a1_0 == (8 : Int)) then (K (0 : Int) ((m0.1, (m0.2.1, (m0.2.2.1, (m0.2.2.2.1, (m0.2.2.2.2.1, (m0.2.2.2.2.2.1, (true, m0.2.2.2.2.2.2.2))))))) : T_dd9637) ([] : (List T_c7162a))) else (K (0 : Int) m0 ([] : (List T_c7162a))))))))))
def f (k : Nat) (a1_0 : Int) (a1_1 : Int) (a1_2 : Int) (a1_3 : Int) (a1_4 : Int) (a1_5 : Value) (a1_6 : (List Int)) (a1_7 : Value) (m0 : T_dd9637) : Option (Int × (T_dd9637 × (List T_c7162a))) := tree (fun b0 b1 b2 => some (b0, b1, b2)) k a1_0 a1_1 a1_2 a1_3 a1_4 a1_5 a1_6 a1_7 m0
theorem tree_nat {X Y : Type} (h : X → Option Y) (K : Int → T_dd9637 → (List T_c7162a) → Option X) (k : Nat) (a1_0 : Int) (a1_1 : Int) (a1_2 : Int) (a1_3 : Int) (a1_4 : Int) (a1_5 : Value) (a1_6 : (List Int)) (a1_7 : Value) (m0 : T_dd9637) : Option.bind (tree K k a1_0 a1_1 a1_2 a1_3 a1_4 a1_5 a1_6 a1_7 m0) h = tree (fun b0 b1 b2 => Option.bind (K b0 b1 b2) h) k a1_0 a1_1 a1_2 a1_3 a1_4 a1_5 a1_6 a1_7 m0 := by
  simp only [tree, bif_bind, sel_bind', Option.bind_assoc, Option.bind_none, Option.bind_some]
abbrev ps : List Sh := [.ptr 0, .pair (.data (.int .i64)) (.pair (.data (.int .i64)) (.pair (.data (.int .i64)) (.pair (.data (.int .i64)) (.pair (.data (.int .i64)) (.pair .opq (.pair (.data (.arr .u8 32)) .opq))))))]
abbrev hs : List (Nat × ESh) := [(0, .cell (.data (.pair (.pair (.int .i64) (.pair (.int .i64) (.pair (.int .i64) (.int .i64)))) (.pair .bool (.pair (.int .i64) (.pair .bool (.pair .bool (.pair .bool (.pair .bool (.pair (.int .i64) (.pair (.int .i64) (.int .i64))))))))))))]
abbrev hi : List Nat := hs.map (·.1)
abbrev fi : List Nat := [0, 900001]
abbrev cl : List (Place × Nat × Hint) := []
abbrev hn : List Hint := [(.row 2 71 (.pair (.int .i64) (.pair (.int .i64) (.pair (.int .i64) (.pair (.int .i64) (.pair (.int .i64) (.pair .opq (.pair (.arr .u8 32) .opq)))))))), .any]
def val (t : (Int × (T_dd9637 × (List T_c7162a)))) : AV := .tcons (Sh.mk (.vec 900001) ()) (.tcons (Sh.mk (.data (.int .i64)) t.1) .tnil)
def wr (t : (Int × (T_dd9637 × (List T_c7162a)))) : Heap := [(0, ESh.mk (.cell (.data (.pair (.pair (.int .i64) (.pair (.int .i64) (.pair (.int .i64) (.int .i64)))) (.pair .bool (.pair (.int .i64) (.pair .bool (.pair .bool (.pair .bool (.pair .bool (.pair (.int .i64) (.pair (.int .i64) (.int .i64)))))))))))) t.2.1), (900001, ESh.mk (.rows 2 71 (.pair (.int .i64) (.pair (.int .i64) (.pair (.int .i64) (.pair (.int .i64) (.pair (.int .i64) (.pair .opq (.pair (.arr .u8 32) .opq)))))))) t.2.2)]
def callee (k : Nat) : Callee := sigCallee ps hs (fun (d : (Unit × (Int × (Int × (Int × (Int × (Int × (Value × ((List Int) × Value))))))) × Unit)) (e : (T_dd9637 × Unit)) => f k d.2.1.1 d.2.1.2.1 d.2.1.2.2.1 d.2.1.2.2.2.1 d.2.1.2.2.2.2.1 d.2.1.2.2.2.2.2.1 d.2.1.2.2.2.2.2.2.1 d.2.1.2.2.2.2.2.2.2 e.1) val wr
def E (k : Nat) : Env := ⟨fnTab [(51, [shake_Hand_version_v1.callee k]), (52, [shake_Hand_verack.callee k]), (53, [shake_Hand_drop.callee k]), (54, [shake_Hand_pong_v1.callee k])], loopTab [], natsTab [], natTab []⟩
theorem fE (k : Nat) : ∀ f, ∀ c ∈ (E k).fn f, CalleeOK Try.prog f c := fnTab_ok ⟨⟨shake_Hand_version_v1.ok k, trivial⟩, ⟨shake_Hand_verack.ok k, trivial⟩, ⟨shake_Hand_drop.ok k, trivial⟩, ⟨shake_Hand_pong_v1.ok k, trivial⟩, trivial⟩
theorem run (k : Nat) (d : (Unit × (Int × (Int × (Int × (Int × (Int × (Value × ((List Int) × Value))))))) × Unit)) (e : (T_dd9637 × Unit)) : runFn Try.prog (E k) 58 (bodyOf Try.f37) Try.f37.results.toList cl hn hi (mkL ps d) (mkH hs e) =
    tree (fun b0 b1 b2 => leafFn hs fi e val wr (b0, b1, b2)) k d.2.1.1 d.2.1.2.1 d.2.1.2.2.1 d.2.1.2.2.2.1 d.2.1.2.2.2.2.1 d.2.1.2.2.2.2.2.1 d.2.1.2.2.2.2.2.2.1 d.2.1.2.2.2.2.2.2.2 e.1 := by kernel_rfl
theorem run_f (k : Nat) (d : (Unit × (Int × (Int × (Int × (Int × (Int × (Value × ((List Int) × Value))))))) × Unit)) (e : (T_dd9637 × Unit)) : runFn Try.prog (E k) 58 (bodyOf Try.f37) Try.f37.results.toList cl hn hi (mkL ps d) (mkH hs e) = (f k d.2.1.1 d.2.1.2.1 d.2.1.2.2.1 d.2.1.2.2.2.1 d.2.1.2.2.2.2.1 d.2.1.2.2.2.2.2.1 d.2.1.2.2.2.2.2.2.1 d.2.1.2.2.2.2.2.2.2 e.1).bind (leafFn hs fi e val wr) :=
  (run k d e).trans (tree_nat (leafFn hs fi e val wr) (fun b0 b1 b2 => some (b0, b1, b2)) k d.2.1.1 d.2.1.2.1 d.2.1.2.2.1 d.2.1.2.2.2.1 d.2.1.2.2.2.2.1 d.2.1.2.2.2.2.2.1 d.2.1.2.2.2.2.2.2.1 d.2.1.2.2.2.2.2.2.2 e.1).symm
theorem fnIs : FnIs Try.prog 37 Try.f37 (bodyOf Try.f37) 58 := ⟨by kernel_rfl, by kernel_rfl, by kernel_rfl, by kernel_rfl⟩
theorem ok (k : Nat) : CalleeOK Try.prog 37 (callee k) :=
  callee_sig (T := (Int × (T_dd9637 × (List T_c7162a)))) fnIs hm (fE k) (loopsOK_of [] (by kernel_rfl) trivial) ps hs cl hn fi (fun (d : (Unit × (Int × (Int × (Int × (Int × (Int × (Value × ((List Int) × Value))))))) × Unit)) (e : (T_dd9637 × Unit)) => f k d.2.1.1 d.2.1.2.1 d.2.1.2.2.1 d.2.1.2.2.2.1 d.2.1.2.2.2.2.1 d.2.1.2.2.2.2.2.1 d.2.1.2.2.2.2.2.2.1 d.2.1.2.2.2.2.2.2.2 e.1) val wr rfl (fun _ => rfl) (run_f k)
end shake_Hand_In_v1
namespace trailheadref21_Hand_In
def tree {X : Type} (K : Int → T_0b0752 → (List Int) → Option X) (k : Nat) (a1_0 : Int) (a1_1 : Int) (a1_2 : Int) (a1_3 : Int) (a1_4 : Int) (a1_5 : Value) (a1_6 : (List Int)) (a1_7 : Value) (m0 : T_0b0752) : Option X :=
  (bif (m0.2.2.2.1 == (3 : Int)) then (K (0 : Int) m0 ([] : (List Int))) else (bif (a1_0 == (1 : Int)) then (bif (decide (m0.2.2.2.1 > (0 : Int))) then (K (3 : Int) ((m0.1, (m0.2.1, (m0.2.2.1, (3, m0.2.2.2.2)))) : T_0b0752) ([] : (List Int))) else (bif (a1_4 == m0.2.1) then (K (0 : Int) ((m0.1, (m0.2.1, (m0.2.2.1, (3, m0.2.2.2.2)))) : T_0b0752) ([] : (List Int))) else (bif (decide (a1_1 < (31800 : Int))) then (K (0 : Int) ((m0.1, (m0.2.1, (m0.2.2.1, (3, m0.2.2.2.2)))) : T_0b0752) ([] : (List Int))) else (bif m0.1 then (K (0 : Int) ((m0.1, (m0.2.1, (m0.2.2.1, (1, (m0.2.2.2.2.1, (a1_3, m0.2.2.2.2.2.2)))))) : T_0b0752) ([1, 2] : (List Int))) else (K (0 : Int) ((m0.1, (m0.2.1, (m0.2.2.1, (1, (m0.2.2.2.2.1, (a1_3, m0.2.2.2.2.2.2)))))) : T_0b0752) ([2] : (List Int))))))) else (bif (a1_0 == (2 : Int)) then (bif (m0.2.2.2.1 == (1 : Int)) then (K (0 : Int) ((m0.1, (m0.2.1, (m0.2.2.1, (2, m0.2.2.2.2)))) : T_0b0752) ([8] : (List Int))) else (bif (a1_0 == (2 : Int)) then (K (3 : Int) ((m0.1, (m0.2.1, (m0.2.2.1, (3, m0.2.2.2.2)))) : T_0b0752) ([] : (List Int))) else (bif (decide (m0.2.2.2.1 < (2 : Int))) then (K (3 : Int) ((m0.1, (m0.2.1, (m0.2.2.1, (3, m0.2.2.2.2)))) : T_0b0752) ([] : (List Int))) else (bif (a1_0 == (6 : Int)) then (K (0 : Int) m0 ([7] : (List Int))) else (bif (a1_0 == (7 : Int)) then (bif (m0.2.2.2.2.2.2.1 == (0 : Int)) then (K (7 : Int) m0 ([] : (List Int))) else (bif (m0.2.2.2.2.2.2.1 != a1_4) then (K (7 : Int) m0 ([] : (List Int))) else (K (0 : Int) ((m0.1, (m0.2.1, (m0.2.2.1, (m0.2.2.2.1, (m0.2.2.2.2.1, (m0.2.2.2.2.2.1, (0, m0.2.2.2.2.2.2.2))))))) : T_0b0752) ([] : (List Int))))) else (bif (a1_0 == (8 : Int)) then (K (0 : Int) ((m0.1, (m0.2.1, (m0.2.2.1, (m0.2.2.2.1, (true, m0.2.2.2.2.2))))) : T_0b0752) ([] : (List Int))) else (K (0 : Int) m0 ([] : (List Int))))))))) else (bif (a1_0 == (2 : Int)) then (K (3 : Int) ((m0.1, (m0.2.1, (m0.2.2.1, (3, m0.2.2.2.2)))) : T_0b0752) ([] : (List Int))) else (bif (decide (m0.2.2.2.1 < (2 : Int))) then (K (3 : Int) ((m0.1, (m0.2.1, (m0.2.2.1, (3, m0.2.2.2.2)))) : T_0b0752) ([] : (List Int))) else (bif (a1_0 == (6 : Int)) then (K (0 : Int) m0 ([7] : (List Int))) else (bif (a1_0 == (7 : Int)) then (bif (m0.2.2.2.2.2.2.1 == (0 : Int)) then (K (7 : Int) m0 ([] : (List Int))) else (bif (m0.2.2.2.2.2.2.1 != a1_4) then (K (7 : Int) m0 ([] : (List Int))) else (K (0 : Int) ((m0.1, (m0.2.1, (m0.2.2.1, (m0.2.2.2.1, (m0.2.2.2.2.1, (m0.2.2.2.2.2.1, (0, m0.2.2.2.2.2.2.2))))))) : T_0b0752) ([] : (List Int))))) else (bif (a1_0 == (8 : Int)) then (K (0 : Int) ((m0.1, (m0.2.1, (m0.2.2.1, (m0.2.2.2.1, (true, m0.2.2.2.2.2))))) : T_0b0752) ([] : (List Int))) else (K (0 : Int) m0 ([] : (List Int)))))))))))
def f (k : Nat) (a1_0 : Int) (a1_1 : Int) (a1_2 : Int) (a1_3 : Int) (a1_4 : Int) (a1_5 : Value) (a1_6 : (List Int)) (a1_7 : Value) (m0 : T_0b0752) : Option (Int × (T_0b0752 × (List Int))) := tree (fun b0 b1 b2 => some (b0, b1, b2)) k a1_0 a1_1 a1_2 a1_3 a1_4 a1_5 a1_6 a1_7 m0
theorem tree_nat {X Y : Type} (h : X → Option Y) (K : Int → T_0b0752 → (List Int) → Option X) (k : Nat) (a1_0 : Int) (a1_1 : Int) (a1_2 : Int) (a1_3 : Int) (a1_4 : Int) (a1_5 : Value) (a1_6 : (List Int)) (a1_7 : Value) (m0 : T_0b0752) : Option.bind (tree K k a1_0 a1_1 a1_2 a1_3 a1_4 a1_5 a1_6 a1_7 m0) h = tree (fun b0 b1 b2 => Option.bind (K b0 b1 b2) h) k a1_0 a1_1 a1_2 a1_3 a1_4 a1_5 a1_6 a1_7 m0 := by
  simp only [tree, bif_bind, sel_bind', Option.bind_assoc, Option.bind_none, Option.bind_some]
abbrev ps : List Sh := [.ptr 0, .pair (.data (.int .i64)) (.pair (.data (.int .i64)) (.pair (.data (.int .i64)) (.pair (.data (.int .i64)) (.pair (.data (.int .i64)) (.pair .opq (.pair (.data (.arr .u8 32)) .opq))))))]
abbrev hs : List (Nat × ESh) := [(0, .cell (.data (.pair .bool (.pair (.int .i64) (.pair (.int .i64) (.pair (.int .i64) (.pair .bool (.pair (.int .i64) (.pair (.int .i64) (.int .i64))))))))))]
abbrev hi : List Nat := hs.map (·.1)
abbrev fi : List Nat := [0, 900001]
abbrev cl : List (Place × Nat × Hint) := []
abbrev hn : List Hint := [(.row 2 3 (.int .i64)), .any]
def val (t : (Int × (T_0b0752 × (List Int)))) : AV := .tcons (Sh.mk (.vec 900001) ()) (.tcons (Sh.mk (.data (.int .i64)) t.1) .tnil)
def wr (t : (Int × (T_0b0752 × (List Int)))) : Heap := [(0, ESh.mk (.cell (.data (.pair .bool (.pair (.int .i64) (.pair (.int .i64) (.pair (.int .i64) (.pair .bool (.pair (.int .i64) (.pair (.int .i64) (.int .i64)))))))))) t.2.1), (900001, ESh.mk (.rows 2 3 (.int .i64)) t.2.2)]
def callee (k : Nat) : Callee := sigCallee ps hs (fun (d : (Unit × (Int × (Int × (Int × (Int × (Int × (Value × ((List Int) × Value))))))) × Unit)) (e : (T_0b0752 × Unit)) => f k d.2.1.1 d.2.1.2.1 d.2.1.2.2.1 d.2.1.2.2.2.1 d.2.1.2.2.2.2.1 d.2.1.2.2.2.2.2.1 d.2.1.2.2.2.2.2.2.1 d.2.1.2.2.2.2.2.2.2 e.1) val wr
def E (k : Nat) : Env := ⟨fnTab [], loopTab [], natsTab [], natTab []⟩
theorem fE (k : Nat) : ∀ f, ∀ c ∈ (E k).fn f, CalleeOK Try.prog f c := fnTab_ok trivial
theorem run (k : Nat) (d : (Unit × (Int × (Int × (Int × (Int × (Int × (Value × ((List Int) × Value))))))) × Unit)) (e : (T_0b0752 × Unit)) : runFn Try.prog (E k) 107 (bodyOf Try.f44) Try.f44.results.toList cl hn hi (mkL ps d) (mkH hs e) =
    tree (fun b0 b1 b2 => leafFn hs fi e val wr (b0, b1, b2)) k d.2.1.1 d.2.1.2.1 d.2.1.2.2.1 d.2.1.2.2.2.1 d.2.1.2.2.2.2.1 d.2.1.2.2.2.2.2.1 d.2.1.2.2.2.2.2.2.1 d.2.1.2.2.2.2.2.2.2 e.1 := by kernel_rfl
theorem run_f (k : Nat) (d : (Unit × (Int × (Int × (Int × (Int × (Int × (Value × ((List Int) × Value))))))) × Unit)) (e : (T_0b0752 × Unit)) : runFn Try.prog (E k) 107 (bodyOf Try.f44) Try.f44.results.toList cl hn hi (mkL ps d) (mkH hs e) = (f k d.2.1.1 d.2.1.2.1 d.2.1.2.2.1 d.2.1.2.2.2.1 d.2.1.2.2.2.2.1 d.2.1.2.2.2.2.2.1 d.2.1.2.2.2.2.2.2.1 d.2.1.2.2.2.2.2.2.2 e.1).bind (leafFn hs fi e val wr) :=
  (run k d e).trans (tree_nat (leafFn hs fi e val wr) (fun b0 b1 b2 => some (b0, b1, b2)) k d.2.1.1 d.2.1.2.1 d.2.1.2.2.1 d.2.1.2.2.2.1 d.2.1.2.2.2.2.1 d.2.1.2.2.2.2.2.1 d.2.1.2.2.2.2.2.2.1 d.2.1.2.2.2.2.2.2.2 e.1).symm
theorem fnIs : FnIs Try.prog 44 Try.f44 (bodyOf Try.f44) 107 := ⟨by kernel_rfl, by kernel_rfl, by kernel_rfl, by kernel_rfl⟩
theorem ok (k : Nat) : CalleeOK Try.prog 44 (callee k) :=
  callee_sig (T := (Int × (T_0b0752 × (List Int)))) fnIs hm (fE k) (loopsOK_of [] (by kernel_rfl) trivial) ps hs cl hn fi (fun (d : (Unit × (Int × (Int × (Int × (Int × (Int × (Value × ((List Int) × Value))))))) × Unit)) (e : (T_0b0752 × Unit)) => f k d.2.1.1 d.2.1.2.1 d.2.1.2.2.1 d.2.1.2.2.2.1 d.2.1.2.2.2.2.1 d.2.1.2.2.2.2.2.1 d.2.1.2.2.2.2.2.2.1 d.2.1.2.2.2.2.2.2.2 e.1) val wr rfl (fun _ => rfl) (run_f k)
end trailheadref21_Hand_In
namespace shake_Hand_Ready
def tree {X : Type} (K : Bool → Option X) (k : Nat) (m0 : T_dd9637) : Option X :=
  (bif m0.2.2.2.2.1 then (K (!m0.2.2.2.2.2.1)) else (K false))
def f (k : Nat) (m0 : T_dd9637) : Option Bool := tree (fun b0 => some b0) k m0
theorem tree_nat {X Y : Type} (h : X → Option Y) (K : Bool → Option X) (k : Nat) (m0 : T_dd9637) : Option.bind (tree K k m0) h = tree (fun b0 => Option.bind (K b0) h) k m0 := by
  simp only [tree, bif_bind, sel_bind', Option.bind_assoc, Option.bind_none, Option.bind_some]
abbrev ps : List Sh := [.ptr 0]
abbrev hs : List (Nat × ESh) := [(0, .cell (.data (.pair (.pair (.int .i64) (.pair (.int .i64) (.pair (.int .i64) (.int .i64)))) (.pair .bool (.pair (.int .i64) (.pair .bool (.pair .bool (.pair .bool (.pair .bool (.pair (.int .i64) (.pair (.int .i64) (.int .i64))))))))))))]
abbrev hi : List Nat := hs.map (·.1)
abbrev fi : List Nat := [0]
abbrev cl : List (Place × Nat × Hint) := []
abbrev hn : List Hint := [.any]
def val (t : Bool) : AV := Sh.mk (.data .bool) t
def wr (t : Bool) : Heap := []
def callee (k : Nat) : Callee := sigCallee ps hs (fun (d : (Unit × Unit)) (e : (T_dd9637 × Unit)) => f k e.1) val wr
def E (k : Nat) : Env := ⟨fnTab [], loopTab [], natsTab [], natTab []⟩
theorem fE (k : Nat) : ∀ f, ∀ c ∈ (E k).fn f, CalleeOK Try.prog f c := fnTab_ok trivial
theorem run (k : Nat) (d : (Unit × Unit)) (e : (T_dd9637 × Unit)) : runFn Try.prog (E k) 18 (bodyOf Try.f38) Try.f38.results.toList cl hn hi (mkL ps d) (mkH hs e) =
    tree (fun b0 => leafFn hs fi e val wr b0) k e.1 := by kernel_rfl
theorem run_f (k : Nat) (d : (Unit × Unit)) (e : (T_dd9637 × Unit)) : runFn Try.prog (E k) 18 (bodyOf Try.f38) Try.f38.results.toList cl hn hi (mkL ps d) (mkH hs e) = (f k e.1).bind (leafFn hs fi e val wr) :=
  (run k d e).trans (tree_nat (leafFn hs fi e val wr) (fun b0 => some b0) k e.1).symm
theorem fnIs : FnIs Try.prog 38 Try.f38 (bodyOf Try.f38) 18 := ⟨by kernel_rfl, by kernel_rfl, by kernel_rfl, by kernel_rfl⟩
theorem ok (k : Nat) : CalleeOK Try.prog 38 (callee k) :=
  callee_sig (T := Bool) fnIs hm (fE k) (loopsOK_of [] (by kernel_rfl) trivial) ps hs cl hn fi (fun (d : (Unit × Unit)) (e : (T_dd9637 × Unit)) => f k e.1) val wr rfl (fun _ => rfl) (run_f k)
end shake_Hand_Ready
namespace shake_Hand_Gone
def tree {X : Type} (K : Bool → Option X) (k : Nat) (m0 : T_dd9637) : Option X :=
  (K m0.2.2.2.2.2.1)
def f (k : Nat) (m0 : T_dd9637) : Option Bool := tree (fun b0 => some b0) k m0
theorem tree_nat {X Y : Type} (h : X → Option Y) (K : Bool → Option X) (k : Nat) (m0 : T_dd9637) : Option.bind (tree K k m0) h = tree (fun b0 => Option.bind (K b0) h) k m0 := by
  simp only [tree, bif_bind, sel_bind', Option.bind_assoc, Option.bind_none, Option.bind_some]
abbrev ps : List Sh := [.ptr 0]
abbrev hs : List (Nat × ESh) := [(0, .cell (.data (.pair (.pair (.int .i64) (.pair (.int .i64) (.pair (.int .i64) (.int .i64)))) (.pair .bool (.pair (.int .i64) (.pair .bool (.pair .bool (.pair .bool (.pair .bool (.pair (.int .i64) (.pair (.int .i64) (.int .i64))))))))))))]
abbrev hi : List Nat := hs.map (·.1)
abbrev fi : List Nat := [0]
abbrev cl : List (Place × Nat × Hint) := []
abbrev hn : List Hint := [.any]
def val (t : Bool) : AV := Sh.mk (.data .bool) t
def wr (t : Bool) : Heap := []
def callee (k : Nat) : Callee := sigCallee ps hs (fun (d : (Unit × Unit)) (e : (T_dd9637 × Unit)) => f k e.1) val wr
def E (k : Nat) : Env := ⟨fnTab [], loopTab [], natsTab [], natTab []⟩
theorem fE (k : Nat) : ∀ f, ∀ c ∈ (E k).fn f, CalleeOK Try.prog f c := fnTab_ok trivial
theorem run (k : Nat) (d : (Unit × Unit)) (e : (T_dd9637 × Unit)) : runFn Try.prog (E k) 11 (bodyOf Try.f28) Try.f28.results.toList cl hn hi (mkL ps d) (mkH hs e) =
    tree (fun b0 => leafFn hs fi e val wr b0) k e.1 := by kernel_rfl
theorem run_f (k : Nat) (d : (Unit × Unit)) (e : (T_dd9637 × Unit)) : runFn Try.prog (E k) 11 (bodyOf Try.f28) Try.f28.results.toList cl hn hi (mkL ps d) (mkH hs e) = (f k e.1).bind (leafFn hs fi e val wr) :=
  (run k d e).trans (tree_nat (leafFn hs fi e val wr) (fun b0 => some b0) k e.1).symm
theorem fnIs : FnIs Try.prog 28 Try.f28 (bodyOf Try.f28) 11 := ⟨by kernel_rfl, by kernel_rfl, by kernel_rfl, by kernel_rfl⟩
theorem ok (k : Nat) : CalleeOK Try.prog 28 (callee k) :=
  callee_sig (T := Bool) fnIs hm (fE k) (loopsOK_of [] (by kernel_rfl) trivial) ps hs cl hn fi (fun (d : (Unit × Unit)) (e : (T_dd9637 × Unit)) => f k e.1) val wr rfl (fun _ => rfl) (run_f k)
end shake_Hand_Gone
namespace shake_Hand_Direct
def tree {X : Type} (K : Bool → Option X) (k : Nat) (m0 : T_dd9637) : Option X :=
  (Option.bind (shake_Hand_Ready.f k m0) (fun r1 => (bif r1 then (K m0.2.2.2.2.2.2.1) else (K false))))
def f (k : Nat) (m0 : T_dd9637) : Option Bool := tree (fun b0 => some b0) k m0
theorem tree_nat {X Y : Type} (h : X → Option Y) (K : Bool → Option X) (k : Nat) (m0 : T_dd9637) : Option.bind (tree K k m0) h = tree (fun b0 => Option.bind (K b0) h) k m0 := by
  simp only [tree, bif_bind, sel_bind', Option.bind_assoc, Option.bind_none, Option.bind_some]
abbrev ps : List Sh := [.ptr 0]
abbrev hs : List (Nat × ESh) := [(0, .cell (.data (.pair (.pair (.int .i64) (.pair (.int .i64) (.pair (.int .i64) (.int .i64)))) (.pair .bool (.pair (.int .i64) (.pair .bool (.pair .bool (.pair .bool (.pair .bool (.pair (.int .i64) (.pair (.int .i64) (.int .i64))))))))))))]
abbrev hi : List Nat := hs.map (·.1)
abbrev fi : List Nat := [0]
abbrev cl : List (Place × Nat × Hint) := []
abbrev hn : List Hint := [.any]
def val (t : Bool) : AV := Sh.mk (.data .bool) t
def wr (t : Bool) : Heap := []
def callee (k : Nat) : Callee := sigCallee ps hs (fun (d : (Unit × Unit)) (e : (T_dd9637 × Unit)) => f k e.1) val wr
def E (k : Nat) : Env := ⟨fnTab [(38, [shake_Hand_Ready.callee k])], loopTab [], natsTab [], natTab []⟩
theorem fE (k : Nat) : ∀ f, ∀ c ∈ (E k).fn f, CalleeOK Try.prog f c := fnTab_ok ⟨⟨shake_Hand_Ready.ok k, trivial⟩, trivial⟩
theorem run (k : Nat) (d : (Unit × Unit)) (e : (T_dd9637 × Unit)) : runFn Try.prog (E k) 11 (bodyOf Try.f39) Try.f39.results.toList cl hn hi (mkL ps d) (mkH hs e) =
    tree (fun b0 => leafFn hs fi e val wr b0) k e.1 := by kernel_rfl
theorem run_f (k : Nat) (d : (Unit × Unit)) (e : (T_dd9637 × Unit)) : runFn Try.prog (E k) 11 (bodyOf Try.f39) Try.f39.results.toList cl hn hi (mkL ps d) (mkH hs e) = (f k e.1).bind (leafFn hs fi e val wr) :=
  (run k d e).trans (tree_nat (leafFn hs fi e val wr) (fun b0 => some b0) k e.1).symm
theorem fnIs : FnIs Try.prog 39 Try.f39 (bodyOf Try.f39) 11 := ⟨by kernel_rfl, by kernel_rfl, by kernel_rfl, by kernel_rfl⟩
theorem ok (k : Nat) : CalleeOK Try.prog 39 (callee k) :=
  callee_sig (T := Bool) fnIs hm (fE k) (loopsOK_of [] (by kernel_rfl) trivial) ps hs cl hn fi (fun (d : (Unit × Unit)) (e : (T_dd9637 × Unit)) => f k e.1) val wr rfl (fun _ => rfl) (run_f k)
end shake_Hand_Direct
namespace shake_Hand_Height
def tree {X : Type} (K : Int → Option X) (k : Nat) (m0 : T_dd9637) : Option X :=
  (K m0.2.2.2.2.2.2.2.1)
def f (k : Nat) (m0 : T_dd9637) : Option Int := tree (fun b0 => some b0) k m0
theorem tree_nat {X Y : Type} (h : X → Option Y) (K : Int → Option X) (k : Nat) (m0 : T_dd9637) : Option.bind (tree K k m0) h = tree (fun b0 => Option.bind (K b0) h) k m0 := by
  simp only [tree, bif_bind, sel_bind', Option.bind_assoc, Option.bind_none, Option.bind_some]
abbrev ps : List Sh := [.ptr 0]
abbrev hs : List (Nat × ESh) := [(0, .cell (.data (.pair (.pair (.int .i64) (.pair (.int .i64) (.pair (.int .i64) (.int .i64)))) (.pair .bool (.pair (.int .i64) (.pair .bool (.pair .bool (.pair .bool (.pair .bool (.pair (.int .i64) (.pair (.int .i64) (.int .i64))))))))))))]
abbrev hi : List Nat := hs.map (·.1)
abbrev fi : List Nat := [0]
abbrev cl : List (Place × Nat × Hint) := []
abbrev hn : List Hint := [.any]
def val (t : Int) : AV := Sh.mk (.data (.int .i64)) t
def wr (t : Int) : Heap := []
def callee (k : Nat) : Callee := sigCallee ps hs (fun (d : (Unit × Unit)) (e : (T_dd9637 × Unit)) => f k e.1) val wr
def E (k : Nat) : Env := ⟨fnTab [], loopTab [], natsTab [], natTab []⟩
theorem fE (k : Nat) : ∀ f, ∀ c ∈ (E k).fn f, CalleeOK Try.prog f c := fnTab_ok trivial
theorem run (k : Nat) (d : (Unit × Unit)) (e : (T_dd9637 × Unit)) : runFn Try.prog (E k) 9 (bodyOf Try.f40) Try.f40.results.toList cl hn hi (mkL ps d) (mkH hs e) =
    tree (fun b0 => leafFn hs fi e val wr b0) k e.1 := by kernel_rfl
theorem run_f (k : Nat) (d : (Unit × Unit)) (e : (T_dd9637 × Unit)) : runFn Try.prog (E k) 9 (bodyOf Try.f40) Try.f40.results.toList cl hn hi (mkL ps d) (mkH hs e) = (f k e.1).bind (leafFn hs fi e val wr) :=
  (run k d e).trans (tree_nat (leafFn hs fi e val wr) (fun b0 => some b0) k e.1).symm
theorem fnIs : FnIs Try.prog 40 Try.f40 (bodyOf Try.f40) 9 := ⟨by kernel_rfl, by kernel_rfl, by kernel_rfl, by kernel_rfl⟩
theorem ok (k : Nat) : CalleeOK Try.prog 40 (callee k) :=
  callee_sig (T := Int) fnIs hm (fE k) (loopsOK_of [] (by kernel_rfl) trivial) ps hs cl hn fi (fun (d : (Unit × Unit)) (e : (T_dd9637 × Unit)) => f k e.1) val wr rfl (fun _ => rfl) (run_f k)
end shake_Hand_Height
namespace shake_Hand_Ping
def tree {X : Type} (K : T_dd9637 → (List T_c7162a) → Option X) (k : Nat) (a1 : Int) (a2 : Int) (m0 : T_dd9637) : Option X :=
  (Option.bind (shake_Hand_Ready.f k m0) (fun r1 => (bif (!r1) then (K m0 ([] : (List T_c7162a))) else (bif (m0.2.2.2.2.2.2.2.2.1 != (0 : Int)) then (K m0 ([] : (List T_c7162a))) else (bif (decide (a1 < (1 : Int))) then (K m0 ([] : (List T_c7162a))) else (bif (decide (a1 ≥ (72057594037927936 : Int))) then (K m0 ([] : (List T_c7162a))) else (K ((m0.1, (m0.2.1, (m0.2.2.1, (m0.2.2.2.1, (m0.2.2.2.2.1, (m0.2.2.2.2.2.1, (m0.2.2.2.2.2.2.1, (m0.2.2.2.2.2.2.2.1, (a1, a2))))))))) : T_dd9637) ([(6, (0, (0, (0, (a1, ((Value.slice none 0 0), ([0, 0, 0, 0, 0, 0, 0, 0, 0, 0, 0, 0, 0, 0, 0, 0, 0, 0, 0, 0, 0, 0, 0, 0, 0, 0, 0, 0, 0, 0, 0, 0], (Value.slice none 0 0))))))))] : (List T_c7162a)))))))))
def f (k : Nat) (a1 : Int) (a2 : Int) (m0 : T_dd9637) : Option (T_dd9637 × (List T_c7162a)) := tree (fun b0 b1 => some (b0, b1)) k a1 a2 m0
theorem tree_nat {X Y : Type} (h : X → Option Y) (K : T_dd9637 → (List T_c7162a) → Option X) (k : Nat) (a1 : Int) (a2 : Int) (m0 : T_dd9637) : Option.bind (tree K k a1 a2 m0) h = tree (fun b0 b1 => Option.bind (K b0 b1) h) k a1 a2 m0 := by
  simp only [tree, bif_bind, sel_bind', Option.bind_assoc, Option.bind_none, Option.bind_some]
abbrev ps : List Sh := [.ptr 0, .data (.int .i64), .data (.int .i64)]
abbrev hs : List (Nat × ESh) := [(0, .cell (.data (.pair (.pair (.int .i64) (.pair (.int .i64) (.pair (.int .i64) (.int .i64)))) (.pair .bool (.pair (.int .i64) (.pair .bool (.pair .bool (.pair .bool (.pair .bool (.pair (.int .i64) (.pair (.int .i64) (.int .i64))))))))))))]
abbrev hi : List Nat := hs.map (·.1)
abbrev fi : List Nat := [0, 900001]
abbrev cl : List (Place × Nat × Hint) := []
abbrev hn : List Hint := [(.row 2 71 (.pair (.int .i64) (.pair (.int .i64) (.pair (.int .i64) (.pair (.int .i64) (.pair (.int .i64) (.pair .opq (.pair (.arr .u8 32) .opq))))))))]
def val (t : (T_dd9637 × (List T_c7162a))) : AV := Sh.mk (.vec 900001) ()
def wr (t : (T_dd9637 × (List T_c7162a))) : Heap := [(0, ESh.mk (.cell (.data (.pair (.pair (.int .i64) (.pair (.int .i64) (.pair (.int .i64) (.int .i64)))) (.pair .bool (.pair (.int .i64) (.pair .bool (.pair .bool (.pair .bool (.pair .bool (.pair (.int .i64) (.pair (.int .i64) (.int .i64)))))))))))) t.1), (900001, ESh.mk (.rows 2 71 (.pair (.int .i64) (.pair (.int .i64) (.pair (.int .i64) (.pair (.int .i64) (.pair (.int .i64) (.pair .opq (.pair (.arr .u8 32) .opq)))))))) t.2)]
def callee (k : Nat) : Callee := sigCallee ps hs (fun (d : (Unit × Int × Int × Unit)) (e : (T_dd9637 × Unit)) => f k d.2.1 d.2.2.1 e.1) val wr
def E (k : Nat) : Env := ⟨fnTab [(38, [shake_Hand_Ready.callee k])], loopTab [], natsTab [], natTab []⟩
theorem fE (k : Nat) : ∀ f, ∀ c ∈ (E k).fn f, CalleeOK Try.prog f c := fnTab_ok ⟨⟨shake_Hand_Ready.ok k, trivial⟩, trivial⟩
theorem run (k : Nat) (d : (Unit × Int × Int × Unit)) (e : (T_dd9637 × Unit)) : runFn Try.prog (E k) 36 (bodyOf Try.f41) Try.f41.results.toList cl hn hi (mkL ps d) (mkH hs e) =
    tree (fun b0 b1 => leafFn hs fi e val wr (b0, b1)) k d.2.1 d.2.2.1 e.1 := by kernel_rfl
theorem run_f (k : Nat) (d : (Unit × Int × Int × Unit)) (e : (T_dd9637 × Unit)) : runFn Try.prog (E k) 36 (bodyOf Try.f41) Try.f41.results.toList cl hn hi (mkL ps d) (mkH hs e) = (f k d.2.1 d.2.2.1 e.1).bind (leafFn hs fi e val wr) :=
  (run k d e).trans (tree_nat (leafFn hs fi e val wr) (fun b0 b1 => some (b0, b1)) k d.2.1 d.2.2.1 e.1).symm
theorem fnIs : FnIs Try.prog 41 Try.f41 (bodyOf Try.f41) 36 := ⟨by kernel_rfl, by kernel_rfl, by kernel_rfl, by kernel_rfl⟩
theorem ok (k : Nat) : CalleeOK Try.prog 41 (callee k) :=
  callee_sig (T := (T_dd9637 × (List T_c7162a))) fnIs hm (fE k) (loopsOK_of [] (by kernel_rfl) trivial) ps hs cl hn fi (fun (d : (Unit × Int × Int × Unit)) (e : (T_dd9637 × Unit)) => f k d.2.1 d.2.2.1 e.1) val wr rfl (fun _ => rfl) (run_f k)
end shake_Hand_Ping
namespace trailheadref21_Hand_Ping
def tree {X : Type} (K : Bool → T_0b0752 → Option X) (k : Nat) (a1 : Int) (a2 : Int) (m0 : T_0b0752) : Option X :=
  (bif (m0.2.2.2.1 != (2 : Int)) then (K false m0) else (bif (m0.2.2.2.2.2.2.1 != (0 : Int)) then (K false m0) else (bif (decide (a1 ≤ (0 : Int))) then (K false m0) else (bif (decide (a1 > (72057594037927935 : Int))) then (K false m0) else (K true ((m0.1, (m0.2.1, (m0.2.2.1, (m0.2.2.2.1, (m0.2.2.2.2.1, (m0.2.2.2.2.2.1, (a1, a2))))))) : T_0b0752))))))
def f (k : Nat) (a1 : Int) (a2 : Int) (m0 : T_0b0752) : Option (Bool × T_0b0752) := tree (fun b0 b1 => some (b0, b1)) k a1 a2 m0
theorem tree_nat {X Y : Type} (h : X → Option Y) (K : Bool → T_0b0752 → Option X) (k : Nat) (a1 : Int) (a2 : Int) (m0 : T_0b0752) : Option.bind (tree K k a1 a2 m0) h = tree (fun b0 b1 => Option.bind (K b0 b1) h) k a1 a2 m0 := by
  simp only [tree, bif_bind, sel_bind', Option.bind_assoc, Option.bind_none, Option.bind_some]
abbrev ps : List Sh := [.ptr 0, .data (.int .i64), .data (.int .i64)]
abbrev hs : List (Nat × ESh) := [(0, .cell (.data (.pair .bool (.pair (.int .i64) (.pair (.int .i64) (.pair (.int .i64) (.pair .bool (.pair (.int .i64) (.pair (.int .i64) (.int .i64))))))))))]
abbrev hi : List Nat := hs.map (·.1)
abbrev fi : List Nat := [0]
abbrev cl : List (Place × Nat × Hint) := []
abbrev hn : List Hint := [.any]
def val (t : (Bool × T_0b0752)) : AV := Sh.mk (.data .bool) t.1
def wr (t : (Bool × T_0b0752)) : Heap := [(0, ESh.mk (.cell (.data (.pair .bool (.pair (.int .i64) (.pair (.int .i64) (.pair (.int .i64) (.pair .bool (.pair (.int .i64) (.pair (.int .i64) (.int .i64)))))))))) t.2)]
def callee (k : Nat) : Callee := sigCallee ps hs (fun (d : (Unit × Int × Int × Unit)) (e : (T_0b0752 × Unit)) => f k d.2.1 d.2.2.1 e.1) val wr
def E (k : Nat) : Env := ⟨fnTab [], loopTab [], natsTab [], natTab []⟩
theorem fE (k : Nat) : ∀ f, ∀ c ∈ (E k).fn f, CalleeOK Try.prog f c := fnTab_ok trivial
theorem run (k : Nat) (d : (Unit × Int × Int × Unit)) (e : (T_0b0752 × Unit)) : runFn Try.prog (E k) 35 (bodyOf Try.f45) Try.f45.results.toList cl hn hi (mkL ps d) (mkH hs e) =
    tree (fun b0 b1 => leafFn hs fi e val wr (b0, b1)) k d.2.1 d.2.2.1 e.1 := by kernel_rfl
theorem run_f (k : Nat) (d : (Unit × Int × Int × Unit)) (e : (T_0b0752 × Unit)) : runFn Try.prog (E k) 35 (bodyOf Try.f45) Try.f45.results.toList cl hn hi (mkL ps d) (mkH hs e) = (f k d.2.1 d.2.2.1 e.1).bind (leafFn hs fi e val wr) :=
  (run k d e).trans (tree_nat (leafFn hs fi e val wr) (fun b0 b1 => some (b0, b1)) k d.2.1 d.2.2.1 e.1).symm
theorem fnIs : FnIs Try.prog 45 Try.f45 (bodyOf Try.f45) 35 := ⟨by kernel_rfl, by kernel_rfl, by kernel_rfl, by kernel_rfl⟩
theorem ok (k : Nat) : CalleeOK Try.prog 45 (callee k) :=
  callee_sig (T := (Bool × T_0b0752)) fnIs hm (fE k) (loopsOK_of [] (by kernel_rfl) trivial) ps hs cl hn fi (fun (d : (Unit × Int × Int × Unit)) (e : (T_0b0752 × Unit)) => f k d.2.1 d.2.2.1 e.1) val wr rfl (fun _ => rfl) (run_f k)
end trailheadref21_Hand_Ping
namespace shake_Hand_Tick
def tree {X : Type} (K : Bool → T_dd9637 → Option X) (k : Nat) (a1 : Int) (m0 : T_dd9637) : Option X :=
  (bif m0.2.2.2.2.2.1 then (K false m0) else (bif (!m0.2.2.2.2.1) then (bif (decide ((subI .i64 a1 m0.2.2.1) > (60 : Int))) then (K false ((m0.1, (m0.2.1, (m0.2.2.1, (m0.2.2.2.1, (m0.2.2.2.2.1, (true, m0.2.2.2.2.2.2)))))) : T_dd9637)) else (bif (m0.2.2.2.2.2.2.2.2.1 != (0 : Int)) then (bif (decide ((subI .i64 a1 m0.2.2.2.2.2.2.2.2.2) > (60 : Int))) then (K false ((m0.1, (m0.2.1, (m0.2.2.1, (m0.2.2.2.1, (m0.2.2.2.2.1, (true, m0.2.2.2.2.2.2)))))) : T_dd9637)) else (K (!m0.2.2.2.2.2.1) m0)) else (K (!m0.2.2.2.2.2.1) m0))) else (bif (m0.2.2.2.2.2.2.2.2.1 != (0 : Int)) then (bif (decide ((subI .i64 a1 m0.2.2.2.2.2.2.2.2.2) > (60 : Int))) then (K false ((m0.1, (m0.2.1, (m0.2.2.1, (m0.2.2.2.1, (m0.2.2.2.2.1, (true, m0.2.2.2.2.2.2)))))) : T_dd9637)) else (K (!m0.2.2.2.2.2.1) m0)) else (K (!m0.2.2.2.2.2.1) m0))))
def f (k : Nat) (a1 : Int) (m0 : T_dd9637) : Option (Bool × T_dd9637) := tree (fun b0 b1 => some (b0, b1)) k a1 m0
theorem tree_nat {X Y : Type} (h : X → Option Y) (K : Bool → T_dd9637 → Option X) (k : Nat) (a1 : Int) (m0 : T_dd9637) : Option.bind (tree K k a1 m0) h = tree (fun b0 b1 => Option.bind (K b0 b1) h) k a1 m0 := by
  simp only [tree, bif_bind, sel_bind', Option.bind_assoc, Option.bind_none, Option.bind_some]
abbrev ps : List Sh := [.ptr 0, .data (.int .i64)]
abbrev hs : List (Nat × ESh) := [(0, .cell (.data (.pair (.pair (.int .i64) (.pair (.int .i64) (.pair (.int .i64) (.int .i64)))) (.pair .bool (.pair (.int .i64) (.pair .bool (.pair .bool (.pair .bool (.pair .bool (.pair (.int .i64) (.pair (.int .i64) (.int .i64))))))))))))]
abbrev hi : List Nat := hs.map (·.1)
abbrev fi : List Nat := [0]
abbrev cl : List (Place × Nat × Hint) := []
abbrev hn : List Hint := [.any]
def val (t : (Bool × T_dd9637)) : AV := Sh.mk (.data .bool) t.1
def wr (t : (Bool × T_dd9637)) : Heap := [(0, ESh.mk (.cell (.data (.pair (.pair (.int .i64) (.pair (.int .i64) (.pair (.int .i64) (.int .i64)))) (.pair .bool (.pair (.int .i64) (.pair .bool (.pair .bool (.pair .bool (.pair .bool (.pair (.int .i64) (.pair (.int .i64) (.int .i64)))))))))))) t.2)]
def callee (k : Nat) : Callee := sigCallee ps hs (fun (d : (Unit × Int × Unit)) (e : (T_dd9637 × Unit)) => f k d.2.1 e.1) val wr
def E (k : Nat) : Env := ⟨fnTab [], loopTab [], natsTab [], natTab []⟩
theorem fE (k : Nat) : ∀ f, ∀ c ∈ (E k).fn f, CalleeOK Try.prog f c := fnTab_ok trivial
theorem run (k : Nat) (d : (Unit × Int × Unit)) (e : (T_dd9637 × Unit)) : runFn Try.prog (E k) 51 (bodyOf Try.f27) Try.f27.results.toList cl hn hi (mkL ps d) (mkH hs e) =
    tree (fun b0 b1 => leafFn hs fi e val wr (b0, b1)) k d.2.1 e.1 := by kernel_rfl
theorem run_f (k : Nat) (d : (Unit × Int × Unit)) (e : (T_dd9637 × Unit)) : runFn Try.prog (E k) 51 (bodyOf Try.f27) Try.f27.results.toList cl hn hi (mkL ps d) (mkH hs e) = (f k d.2.1 e.1).bind (leafFn hs fi e val wr) :=
  (run k d e).trans (tree_nat (leafFn hs fi e val wr) (fun b0 b1 => some (b0, b1)) k d.2.1 e.1).symm
theorem fnIs : FnIs Try.prog 27 Try.f27 (bodyOf Try.f27) 51 := ⟨by kernel_rfl, by kernel_rfl, by kernel_rfl, by kernel_rfl⟩
theorem ok (k : Nat) : CalleeOK Try.prog 27 (callee k) :=
  callee_sig (T := (Bool × T_dd9637)) fnIs hm (fE k) (loopsOK_of [] (by kernel_rfl) trivial) ps hs cl hn fi (fun (d : (Unit × Int × Unit)) (e : (T_dd9637 × Unit)) => f k d.2.1 e.1) val wr rfl (fun _ => rfl) (run_f k)
end shake_Hand_Tick
namespace trailheadref21_Hand_Tick
def tree {X : Type} (K : Bool → T_0b0752 → Option X) (k : Nat) (a1 : Int) (m0 : T_0b0752) : Option X :=
  (bif (decide (m0.2.2.2.1 < (2 : Int))) then (bif (decide ((subI .i64 a1 m0.2.2.1) > (60 : Int))) then (K false ((m0.1, (m0.2.1, (m0.2.2.1, (3, m0.2.2.2.2)))) : T_0b0752)) else (bif (decide (m0.2.2.2.1 < (3 : Int))) then (bif (m0.2.2.2.2.2.2.1 != (0 : Int)) then (bif (decide ((subI .i64 a1 m0.2.2.2.2.2.2.2) > (60 : Int))) then (K false ((m0.1, (m0.2.1, (m0.2.2.1, (3, m0.2.2.2.2)))) : T_0b0752)) else (K (decide (m0.2.2.2.1 < (3 : Int))) m0)) else (K (decide (m0.2.2.2.1 < (3 : Int))) m0)) else (K (decide (m0.2.2.2.1 < (3 : Int))) m0))) else (bif (decide (m0.2.2.2.1 < (3 : Int))) then (bif (m0.2.2.2.2.2.2.1 != (0 : Int)) then (bif (decide ((subI .i64 a1 m0.2.2.2.2.2.2.2) > (60 : Int))) then (K false ((m0.1, (m0.2.1, (m0.2.2.1, (3, m0.2.2.2.2)))) : T_0b0752)) else (K (decide (m0.2.2.2.1 < (3 : Int))) m0)) else (K (decide (m0.2.2.2.1 < (3 : Int))) m0)) else (K (decide (m0.2.2.2.1 < (3 : Int))) m0)))
def f (k : Nat) (a1 : Int) (m0 : T_0b0752) : Option (Bool × T_0b0752) := tree (fun b0 b1 => some (b0, b1)) k a1 m0
theorem tree_nat {X Y : Type} (h : X → Option Y) (K : Bool → T_0b0752 → Option X) (k : Nat) (a1 : Int) (m0 : T_0b0752) : Option.bind (tree K k a1 m0) h = tree (fun b0 b1 => Option.bind (K b0 b1) h) k a1 m0 := by
  simp only [tree, bif_bind, sel_bind', Option.bind_assoc, Option.bind_none, Option.bind_some]
abbrev ps : List Sh := [.ptr 0, .data (.int .i64)]
abbrev hs : List (Nat × ESh) := [(0, .cell (.data (.pair .bool (.pair (.int .i64) (.pair (.int .i64) (.pair (.int .i64) (.pair .bool (.pair (.int .i64) (.pair (.int .i64) (.int .i64))))))))))]
abbrev hi : List Nat := hs.map (·.1)
abbrev fi : List Nat := [0]
abbrev cl : List (Place × Nat × Hint) := []
abbrev hn : List Hint := [.any]
def val (t : (Bool × T_0b0752)) : AV := Sh.mk (.data .bool) t.1
def wr (t : (Bool × T_0b0752)) : Heap := [(0, ESh.mk (.cell (.data (.pair .bool (.pair (.int .i64) (.pair (.int .i64) (.pair (.int .i64) (.pair .bool (.pair (.int .i64) (.pair (.int .i64) (.int .i64)))))))))) t.2)]
def callee (k : Nat) : Callee := sigCallee ps hs (fun (d : (Unit × Int × Unit)) (e : (T_0b0752 × Unit)) => f k d.2.1 e.1) val wr
def E (k : Nat) : Env := ⟨fnTab [], loopTab [], natsTab [], natTab []⟩
theorem fE (k : Nat) : ∀ f, ∀ c ∈ (E k).fn f, CalleeOK Try.prog f c := fnTab_ok trivial
theorem run (k : Nat) (d : (Unit × Int × Unit)) (e : (T_0b0752 × Unit)) : runFn Try.prog (E k) 51 (bodyOf Try.f46) Try.f46.results.toList cl hn hi (mkL ps d) (mkH hs e) =
    tree (fun b0 b1 => leafFn hs fi e val wr (b0, b1)) k d.2.1 e.1 := by kernel_rfl
theorem run_f (k : Nat) (d : (Unit × Int × Unit)) (e : (T_0b0752 × Unit)) : runFn Try.prog (E k) 51 (bodyOf Try.f46) Try.f46.results.toList cl hn hi (mkL ps d) (mkH hs e) = (f k d.2.1 e.1).bind (leafFn hs fi e val wr) :=
  (run k d e).trans (tree_nat (leafFn hs fi e val wr) (fun b0 b1 => some (b0, b1)) k d.2.1 e.1).symm
theorem fnIs : FnIs Try.prog 46 Try.f46 (bodyOf Try.f46) 51 := ⟨by kernel_rfl, by kernel_rfl, by kernel_rfl, by kernel_rfl⟩
theorem ok (k : Nat) : CalleeOK Try.prog 46 (callee k) :=
  callee_sig (T := (Bool × T_0b0752)) fnIs hm (fE k) (loopsOK_of [] (by kernel_rfl) trivial) ps hs cl hn fi (fun (d : (Unit × Int × Unit)) (e : (T_0b0752 × Unit)) => f k d.2.1 e.1) val wr rfl (fun _ => rfl) (run_f k)
end trailheadref21_Hand_Tick
namespace shake_Hand_End
def tree {X : Type} (K : T_dd9637 → Option X) (k : Nat) (m0 : T_dd9637) : Option X :=
  (K ((m0.1, (m0.2.1, (m0.2.2.1, (m0.2.2.2.1, (m0.2.2.2.2.1, (true, m0.2.2.2.2.2.2)))))) : T_dd9637))
def f (k : Nat) (m0 : T_dd9637) : Option T_dd9637 := tree (fun b0 => some b0) k m0
theorem tree_nat {X Y : Type} (h : X → Option Y) (K : T_dd9637 → Option X) (k : Nat) (m0 : T_dd9637) : Option.bind (tree K k m0) h = tree (fun b0 => Option.bind (K b0) h) k m0 := by
  simp only [tree, bif_bind, sel_bind', Option.bind_assoc, Option.bind_none, Option.bind_some]
abbrev ps : List Sh := [.ptr 0]
abbrev hs : List (Nat × ESh) := [(0, .cell (.data (.pair (.pair (.int .i64) (.pair (.int .i64) (.pair (.int .i64) (.int .i64)))) (.pair .bool (.pair (.int .i64) (.pair .bool (.pair .bool (.pair .bool (.pair .bool (.pair (.int .i64) (.pair (.int .i64) (.int .i64))))))))))))]
abbrev hi : List Nat := hs.map (·.1)
abbrev fi : List Nat := [0]
abbrev cl : List (Place × Nat × Hint) := []
abbrev hn : List Hint := []
def val (t : T_dd9637) : AV := .tnil
def wr (t : T_dd9637) : Heap := [(0, ESh.mk (.cell (.data (.pair (.pair (.int .i64) (.pair (.int .i64) (.pair (.int .i64) (.int .i64)))) (.pair .bool (.pair (.int .i64) (.pair .bool (.pair .bool (.pair .bool (.pair .bool (.pair (.int .i64) (.pair (.int .i64) (.int .i64)))))))))))) t)]
def callee (k : Nat) : Callee := sigCallee ps hs (fun (d : (Unit × Unit)) (e : (T_dd9637 × Unit)) => f k e.1) val wr
def E (k : Nat) : Env := ⟨fnTab [], loopTab [], natsTab [], natTab []⟩
theorem fE (k : Nat) : ∀ f, ∀ c ∈ (E k).fn f, CalleeOK Try.prog f c := fnTab_ok trivial
theorem run (k : Nat) (d : (Unit × Unit)) (e : (T_dd9637 × Unit)) : runFn Try.prog (E k) 7 (bodyOf Try.f42) Try.f42.results.toList cl hn hi (mkL ps d) (mkH hs e) =
    tree (fun b0 => leafFn hs fi e val wr b0) k e.1 := by kernel_rfl
theorem run_f (k : Nat) (d : (Unit × Unit)) (e : (T_dd9637 × Unit)) : runFn Try.prog (E k) 7 (bodyOf Try.f42) Try.f42.results.toList cl hn hi (mkL ps d) (mkH hs e) = (f k e.1).bind (leafFn hs fi e val wr) :=
  (run k d e).trans (tree_nat (leafFn hs fi e val wr) (fun b0 => some b0) k e.1).symm
theorem fnIs : FnIs Try.prog 42 Try.f42 (bodyOf Try.f42) 7 := ⟨by kernel_rfl, by kernel_rfl, by kernel_rfl, by kernel_rfl⟩
theorem ok (k : Nat) : CalleeOK Try.prog 42 (callee k) :=
  callee_sig (T := T_dd9637) fnIs hm (fE k) (loopsOK_of [] (by kernel_rfl) trivial) ps hs cl hn fi (fun (d : (Unit × Unit)) (e : (T_dd9637 × Unit)) => f k e.1) val wr rfl (fun _ => rfl) (run_f k)
end shake_Hand_End
namespace shake_Hand_End_v1
def tree {X : Type} (K : Option X) (k : Nat) : Option X :=
  (K)
def f (k : Nat) : Option Unit := tree (some ()) k
theorem tree_nat {X Y : Type} (h : X → Option Y) (K : Option X) (k : Nat) : Option.bind (tree K k) h = tree (Option.bind (K) h) k := by
  simp only [tree, bif_bind, sel_bind', Option.bind_assoc, Option.bind_none, Option.bind_some]
abbrev ps : List Sh := [.nilp]
abbrev hs : List (Nat × ESh) := []
abbrev hi : List Nat := hs.map (·.1)
abbrev fi : List Nat := []
abbrev cl : List (Place × Nat × Hint) := []
abbrev hn : List Hint := []
def val (t : Unit) : AV := .tnil
def wr (t : Unit) : Heap := []
def callee (k : Nat) : Callee := sigCallee ps hs (fun (d : (Unit × Unit)) (e : Unit) => f k) val wr
def E (k : Nat) : Env := ⟨fnTab [], loopTab [], natsTab [], natTab []⟩
theorem fE (k : Nat) : ∀ f, ∀ c ∈ (E k).fn f, CalleeOK Try.prog f c := fnTab_ok trivial
theorem run (k : Nat) (d : (Unit × Unit)) (e : Unit) : runFn Try.prog (E k) 7 (bodyOf Try.f42) Try.f42.results.toList cl hn hi (mkL ps d) (mkH hs e) =
    tree (leafFn hs fi e val wr ()) k := by kernel_rfl
theorem run_f (k : Nat) (d : (Unit × Unit)) (e : Unit) : runFn Try.prog (E k) 7 (bodyOf Try.f42) Try.f42.results.toList cl hn hi (mkL ps d) (mkH hs e) = (f k).bind (leafFn hs fi e val wr) :=
  (run k d e).trans (tree_nat (leafFn hs fi e val wr) (some ()) k).symm
theorem fnIs : FnIs Try.prog 42 Try.f42 (bodyOf Try.f42) 7 := ⟨by kernel_rfl, by kernel_rfl, by kernel_rfl, by kernel_rfl⟩
theorem ok (k : Nat) : CalleeOK Try.prog 42 (callee k) :=
  callee_sig (T := Unit) fnIs hm (fE k) (loopsOK_of [] (by kernel_rfl) trivial) ps hs cl hn fi (fun (d : (Unit × Unit)) (e : Unit) => f k) val wr rfl (fun _ => rfl) (run_f k)
end shake_Hand_End_v1
namespace shake_Hand_In_v2
def tree {X : Type} (K : Int → Option X) (k : Nat) (a1_0 : Int) (a1_1 : Int) (a1_2 : Int) (a1_3 : Int) (a1_4 : Int) (a1_5 : (List Int)) : Option X :=
  (K (0 : Int))
def f (k : Nat) (a1_0 : Int) (a1_1 : Int) (a1_2 : Int) (a1_3 : Int) (a1_4 : Int) (a1_5 : (List Int)) : Option Int := tree (fun b0 => some b0) k a1_0 a1_1 a1_2 a1_3 a1_4 a1_5
theorem tree_nat {X Y : Type} (h : X → Option Y) (K : Int → Option X) (k : Nat) (a1_0 : Int) (a1_1 : Int) (a1_2 : Int) (a1_3 : Int) (a1_4 : Int) (a1_5 : (List Int)) : Option.bind (tree K k a1_0 a1_1 a1_2 a1_3 a1_4 a1_5) h = tree (fun b0 => Option.bind (K b0) h) k a1_0 a1_1 a1_2 a1_3 a1_4 a1_5 := by
  simp only [tree, bif_bind, sel_bind', Option.bind_assoc, Option.bind_none, Option.bind_some]
abbrev ps : List Sh := [.nilp, .pair (.data (.int .i64)) (.pair (.data (.int .i64)) (.pair (.data (.int .i64)) (.pair (.data (.int .i64)) (.pair (.data (.int .i64)) (.pair .nils (.pair (.data (.arr .u8 32)) .nils))))))]
abbrev hs : List (Nat × ESh) := []
abbrev hi : List Nat := hs.map (·.1)
abbrev fi : List Nat := []
abbrev cl : List (Place × Nat × Hint) := []
abbrev hn : List Hint := [.any, .any]
def val (t : Int) : AV := .tcons (Sh.mk .nils ()) (.tcons (Sh.mk (.data (.int .i64)) t) .tnil)
def wr (t : Int) : Heap := []
def callee (k : Nat) : Callee := sigCallee ps hs (fun (d : (Unit × (Int × (Int × (Int × (Int × (Int × (Unit × ((List Int) × Unit))))))) × Unit)) (e : Unit) => f k d.2.1.1 d.2.1.2.1 d.2.1.2.2.1 d.2.1.2.2.2.1 d.2.1.2.2.2.2.1 d.2.1.2.2.2.2.2.2.1) val wr
def E (k : Nat) : Env := ⟨fnTab [], loopTab [], natsTab [], natTab []⟩
theorem fE (k : Nat) : ∀ f, ∀ c ∈ (E k).fn f, CalleeOK Try.prog f c := fnTab_ok trivial
theorem run (k : Nat) (d : (Unit × (Int × (Int × (Int × (Int × (Int × (Unit × ((List Int) × Unit))))))) × Unit)) (e : Unit) : runFn Try.prog (E k) 58 (bodyOf Try.f37) Try.f37.results.toList cl hn hi (mkL ps d) (mkH hs e) =
    tree (fun b0 => leafFn hs fi e val wr b0) k d.2.1.1 d.2.1.2.1 d.2.1.2.2.1 d.2.1.2.2.2.1 d.2.1.2.2.2.2.1 d.2.1.2.2.2.2.2.2.1 := by kernel_rfl
theorem run_f (k : Nat) (d : (Unit × (Int × (Int × (Int × (Int × (Int × (Unit × ((List Int) × Unit))))))) × Unit)) (e : Unit) : runFn Try.prog (E k) 58 (bodyOf Try.f37) Try.f37.results.toList cl hn hi (mkL ps d) (mkH hs e) = (f k d.2.1.1 d.2.1.2.1 d.2.1.2.2.1 d.2.1.2.2.2.1 d.2.1.2.2.2.2.1 d.2.1.2.2.2.2.2.2.1).bind (leafFn hs fi e val wr) :=
  (run k d e).trans (tree_nat (leafFn hs fi e val wr) (fun b0 => some b0) k d.2.1.1 d.2.1.2.1 d.2.1.2.2.1 d.2.1.2.2.2.1 d.2.1.2.2.2.2.1 d.2.1.2.2.2.2.2.2.1).symm
theorem fnIs : FnIs Try.prog 37 Try.f37 (bodyOf Try.f37) 58 := ⟨by kernel_rfl, by kernel_rfl, by kernel_rfl, by kernel_rfl⟩
theorem ok (k : Nat) : CalleeOK Try.prog 37 (callee k) :=
  callee_sig (T := Int) fnIs hm (fE k) (loopsOK_of [] (by kernel_rfl) trivial) ps hs cl hn fi (fun (d : (Unit × (Int × (Int × (Int × (Int × (Int × (Unit × ((List Int) × Unit))))))) × Unit)) (e : Unit) => f k d.2.1.1 d.2.1.2.1 d.2.1.2.2.1 d.2.1.2.2.2.1 d.2.1.2.2.2.2.1 d.2.1.2.2.2.2.2.2.1) val wr rfl (fun _ => rfl) (run_f k)
end shake_Hand_In_v2
namespace shake_Hand_Ready_v1
def tree {X : Type} (K : Bool → Option X) (k : Nat) : Option X :=
  (K false)
def f (k : Nat) : Option Bool := tree (fun b0 => some b0) k
theorem tree_nat {X Y : Type} (h : X → Option Y) (K : Bool → Option X) (k : Nat) : Option.bind (tree K k) h = tree (fun b0 => Option.bind (K b0) h) k := by
  simp only [tree, bif_bind, sel_bind', Option.bind_assoc, Option.bind_none, Option.bind_some]
abbrev ps : List Sh := [.nilp]
abbrev hs : List (Nat × ESh) := []
abbrev hi : List Nat := hs.map (·.1)
abbrev fi : List Nat := []
abbrev cl : List (Place × Nat × Hint) := []
abbrev hn : List Hint := [.any]
def val (t : Bool) : AV := Sh.mk (.data .bool) t
def wr (t : Bool) : Heap := []
def callee (k : Nat) : Callee := sigCallee ps hs (fun (d : (Unit × Unit)) (e : Unit) => f k) val wr
def E (k : Nat) : Env := ⟨fnTab [], loopTab [], natsTab [], natTab []⟩
theorem fE (k : Nat) : ∀ f, ∀ c ∈ (E k).fn f, CalleeOK Try.prog f c := fnTab_ok trivial
theorem run (k : Nat) (d : (Unit × Unit)) (e : Unit) : runFn Try.prog (E k) 18 (bodyOf Try.f38) Try.f38.results.toList cl hn hi (mkL ps d) (mkH hs e) =
    tree (fun b0 => leafFn hs fi e val wr b0) k := by kernel_rfl
theorem run_f (k : Nat) (d : (Unit × Unit)) (e : Unit) : runFn Try.prog (E k) 18 (bodyOf Try.f38) Try.f38.results.toList cl hn hi (mkL ps d) (mkH hs e) = (f k).bind (leafFn hs fi e val wr) :=
  (run k d e).trans (tree_nat (leafFn hs fi e val wr) (fun b0 => some b0) k).symm
theorem fnIs : FnIs Try.prog 38 Try.f38 (bodyOf Try.f38) 18 := ⟨by kernel_rfl, by kernel_rfl, by kernel_rfl, by kernel_rfl⟩
theorem ok (k : Nat) : CalleeOK Try.prog 38 (callee k) :=
  callee_sig (T := Bool) fnIs hm (fE k) (loopsOK_of [] (by kernel_rfl) trivial) ps hs cl hn fi (fun (d : (Unit × Unit)) (e : Unit) => f k) val wr rfl (fun _ => rfl) (run_f k)
end shake_Hand_Ready_v1
namespace shake_Hand_Ping_v1
def tree {X : Type} (K : Option X) (k : Nat) (a1 : Int) (a2 : Int) : Option X :=
  (Option.bind (shake_Hand_Ready_v1.f k) (fun r1 => (bif (!r1) then (K) else none)))
def f (k : Nat) (a1 : Int) (a2 : Int) : Option Unit := tree (some ()) k a1 a2
theorem tree_nat {X Y : Type} (h : X → Option Y) (K : Option X) (k : Nat) (a1 : Int) (a2 : Int) : Option.bind (tree K k a1 a2) h = tree (Option.bind (K) h) k a1 a2 := by
  simp only [tree, bif_bind, sel_bind', Option.bind_assoc, Option.bind_none, Option.bind_some]
abbrev ps : List Sh := [.nilp, .data (.int .i64), .data (.int .i64)]
abbrev hs : List (Nat × ESh) := []
abbrev hi : List Nat := hs.map (·.1)
abbrev fi : List Nat := []
abbrev cl : List (Place × Nat × Hint) := []
abbrev hn : List Hint := [.any]
def val (t : Unit) : AV := Sh.mk .nils ()
def wr (t : Unit) : Heap := []
def callee (k : Nat) : Callee := sigCallee ps hs (fun (d : (Unit × Int × Int × Unit)) (e : Unit) => f k d.2.1 d.2.2.1) val wr
def E (k : Nat) : Env := ⟨fnTab [(38, [shake_Hand_Ready_v1.callee k])], loopTab [], natsTab [], natTab []⟩
theorem fE (k : Nat) : ∀ f, ∀ c ∈ (E k).fn f, CalleeOK Try.prog f c := fnTab_ok ⟨⟨shake_Hand_Ready_v1.ok k, trivial⟩, trivial⟩
theorem run (k : Nat) (d : (Unit × Int × Int × Unit)) (e : Unit) : runFn Try.prog (E k) 36 (bodyOf Try.f41) Try.f41.results.toList cl hn hi (mkL ps d) (mkH hs e) =
    tree (leafFn hs fi e val wr ()) k d.2.1 d.2.2.1 := by kernel_rfl
theorem run_f (k : Nat) (d : (Unit × Int × Int × Unit)) (e : Unit) : runFn Try.prog (E k) 36 (bodyOf Try.f41) Try.f41.results.toList cl hn hi (mkL ps d) (mkH hs e) = (f k d.2.1 d.2.2.1).bind (leafFn hs fi e val wr) :=
  (run k d e).trans (tree_nat (leafFn hs fi e val wr) (some ()) k d.2.1 d.2.2.1).symm
theorem fnIs : FnIs Try.prog 41 Try.f41 (bodyOf Try.f41) 36 := ⟨by kernel_rfl, by kernel_rfl, by kernel_rfl, by kernel_rfl⟩
theorem ok (k : Nat) : CalleeOK Try.prog 41 (callee k) :=
  callee_sig (T := Unit) fnIs hm (fE k) (loopsOK_of [] (by kernel_rfl) trivial) ps hs cl hn fi (fun (d : (Unit × Int × Int × Unit)) (e : Unit) => f k d.2.1 d.2.2.1) val wr rfl (fun _ => rfl) (run_f k)
end shake_Hand_Ping_v1
namespace shake_Hand_Tick_v1
def tree {X : Type} (K : Bool → Option X) (k : Nat) (a1 : Int) : Option X :=
  (K false)
def f (k : Nat) (a1 : Int) : Option Bool := tree (fun b0 => some b0) k a1
theorem tree_nat {X Y : Type} (h : X → Option Y) (K : Bool → Option X) (k : Nat) (a1 : Int) : Option.bind (tree K k a1) h = tree (fun b0 => Option.bind (K b0) h) k a1 := by
  simp only [tree, bif_bind, sel_bind', Option.bind_assoc, Option.bind_none, Option.bind_some]
abbrev ps : List Sh := [.nilp, .data (.int .i64)]
abbrev hs : List (Nat × ESh) := []
abbrev hi : List Nat := hs.map (·.1)
abbrev fi : List Nat := []
abbrev cl : List (Place × Nat × Hint) := []
abbrev hn : List Hint := [.any]
def val (t : Bool) : AV := Sh.mk (.data .bool) t
def wr (t : Bool) : Heap := []
def callee (k : Nat) : Callee := sigCallee ps hs (fun (d : (Unit × Int × Unit)) (e : Unit) => f k d.2.1) val wr
def E (k : Nat) : Env := ⟨fnTab [], loopTab [], natsTab [], natTab []⟩
theorem fE (k : Nat) : ∀ f, ∀ c ∈ (E k).fn f, CalleeOK Try.prog f c := fnTab_ok trivial
theorem run (k : Nat) (d : (Unit × Int × Unit)) (e : Unit) : runFn Try.prog (E k) 51 (bodyOf Try.f27) Try.f27.results.toList cl hn hi (mkL ps d) (mkH hs e) =
    tree (fun b0 => leafFn hs fi e val wr b0) k d.2.1 := by kernel_rfl
theorem run_f (k : Nat) (d : (Unit × Int × Unit)) (e : Unit) : runFn Try.prog (E k) 51 (bodyOf Try.f27) Try.f27.results.toList cl hn hi (mkL ps d) (mkH hs e) = (f k d.2.1).bind (leafFn hs fi e val wr) :=
  (run k d e).trans (tree_nat (leafFn hs fi e val wr) (fun b0 => some b0) k d.2.1).symm
theorem fnIs : FnIs Try.prog 27 Try.f27 (bodyOf Try.f27) 51 := ⟨by kernel_rfl, by kernel_rfl, by kernel_rfl, by kernel_rfl⟩
theorem ok (k : Nat) : CalleeOK Try.prog 27 (callee k) :=
  callee_sig (T := Bool) fnIs hm (fE k) (loopsOK_of [] (by kernel_rfl) trivial) ps hs cl hn fi (fun (d : (Unit × Int × Unit)) (e : Unit) => f k d.2.1) val wr rfl (fun _ => rfl) (run_f k)
end shake_Hand_Tick_v1
namespace shake_Hand_Gone_v1
def tree {X : Type} (K : Bool → Option X) (k : Nat) : Option X :=
  (K true)
def f (k : Nat) : Option Bool := tree (fun b0 => some b0) k
theorem tree_nat {X Y : Type} (h : X → Option Y) (K : Bool → Option X) (k : Nat) : Option.bind (tree K k) h = tree (fun b0 => Option.bind (K b0) h) k := by
  simp only [tree, bif_bind, sel_bind', Option.bind_assoc, Option.bind_none, Option.bind_some]
abbrev ps : List Sh := [.nilp]
abbrev hs : List (Nat × ESh) := []
abbrev hi : List Nat := hs.map (·.1)
abbrev fi : List Nat := []
abbrev cl : List (Place × Nat × Hint) := []
abbrev hn : List Hint := [.any]
def val (t : Bool) : AV := Sh.mk (.data .bool) t
def wr (t : Bool) : Heap := []
def callee (k : Nat) : Callee := sigCallee ps hs (fun (d : (Unit × Unit)) (e : Unit) => f k) val wr
def E (k : Nat) : Env := ⟨fnTab [], loopTab [], natsTab [], natTab []⟩
theorem fE (k : Nat) : ∀ f, ∀ c ∈ (E k).fn f, CalleeOK Try.prog f c := fnTab_ok trivial
theorem run (k : Nat) (d : (Unit × Unit)) (e : Unit) : runFn Try.prog (E k) 11 (bodyOf Try.f28) Try.f28.results.toList cl hn hi (mkL ps d) (mkH hs e) =
    tree (fun b0 => leafFn hs fi e val wr b0) k := by kernel_rfl
theorem run_f (k : Nat) (d : (Unit × Unit)) (e : Unit) : runFn Try.prog (E k) 11 (bodyOf Try.f28) Try.f28.results.toList cl hn hi (mkL ps d) (mkH hs e) = (f k).bind (leafFn hs fi e val wr) :=
  (run k d e).trans (tree_nat (leafFn hs fi e val wr) (fun b0 => some b0) k).symm
theorem fnIs : FnIs Try.prog 28 Try.f28 (bodyOf Try.f28) 11 := ⟨by kernel_rfl, by kernel_rfl, by kernel_rfl, by kernel_rfl⟩
theorem ok (k : Nat) : CalleeOK Try.prog 28 (callee k) :=
  callee_sig (T := Bool) fnIs hm (fE k) (loopsOK_of [] (by kernel_rfl) trivial) ps hs cl hn fi (fun (d : (Unit × Unit)) (e : Unit) => f k) val wr rfl (fun _ => rfl) (run_f k)
end shake_Hand_Gone_v1
namespace shake_Hand_Direct_v1
def tree {X : Type} (K : Bool → Option X) (k : Nat) : Option X :=
  (Option.bind (shake_Hand_Ready_v1.f k) (fun r1 => (bif r1 then none else (K false))))
def f (k : Nat) : Option Bool := tree (fun b0 => some b0) k
theorem tree_nat {X Y : Type} (h : X → Option Y) (K : Bool → Option X) (k : Nat) : Option.bind (tree K k) h = tree (fun b0 => Option.bind (K b0) h) k := by
  simp only [tree, bif_bind, sel_bind', Option.bind_assoc, Option.bind_none, Option.bind_some]
abbrev ps : List Sh := [.nilp]
abbrev hs : List (Nat × ESh) := []
abbrev hi : List Nat := hs.map (·.1)
abbrev fi : List Nat := []
abbrev cl : List (Place × Nat × Hint) := []
abbrev hn : List Hint := [.any]
def val (t : Bool) : AV := Sh.mk (.data .bool) t
def wr (t : Bool) : Heap := []
def callee (k : Nat) : Callee := sigCallee ps hs (fun (d : (Unit × Unit)) (e : Unit) => f k) val wr
def E (k : Nat) : Env := ⟨fnTab [(38, [shake_Hand_Ready_v1.callee k])], loopTab [], natsTab [], natTab []⟩
theorem fE (k : Nat) : ∀ f, ∀ c ∈ (E k).fn f, CalleeOK Try.prog f c := fnTab_ok ⟨⟨shake_Hand_Ready_v1.ok k, trivial⟩, trivial⟩
theorem run (k : Nat) (d : (Unit × Unit)) (e : Unit) : runFn Try.prog (E k) 11 (bodyOf Try.f39) Try.f39.results.toList cl hn hi (mkL ps d) (mkH hs e) =
    tree (fun b0 => leafFn hs fi e val wr b0) k := by kernel_rfl
theorem run_f (k : Nat) (d : (Unit × Unit)) (e : Unit) : runFn Try.prog (E k) 11 (bodyOf Try.f39) Try.f39.results.toList cl hn hi (mkL ps d) (mkH hs e) = (f k).bind (leafFn hs fi e val wr) :=
  (run k d e).trans (tree_nat (leafFn hs fi e val wr) (fun b0 => some b0) k).symm
theorem fnIs : FnIs Try.prog 39 Try.f39 (bodyOf Try.f39) 11 := ⟨by kernel_rfl, by kernel_rfl, by kernel_rfl, by kernel_rfl⟩
theorem ok (k : Nat) : CalleeOK Try.prog 39 (callee k) :=
  callee_sig (T := Bool) fnIs hm (fE k) (loopsOK_of [] (by kernel_rfl) trivial) ps hs cl hn fi (fun (d : (Unit × Unit)) (e : Unit) => f k) val wr rfl (fun _ => rfl) (run_f k)
end shake_Hand_Direct_v1
namespace shake_Hand_Height_v1
def tree {X : Type} (K : Int → Option X) (k : Nat) : Option X :=
  (K (0 : Int))
def f (k : Nat) : Option Int := tree (fun b0 => some b0) k
theorem tree_nat {X Y : Type} (h : X → Option Y) (K : Int → Option X) (k : Nat) : Option.bind (tree K k) h = tree (fun b0 => Option.bind (K b0) h) k := by
  simp only [tree, bif_bind, sel_bind', Option.bind_assoc, Option.bind_none, Option.bind_some]
abbrev ps : List Sh := [.nilp]
abbrev hs : List (Nat × ESh) := []
abbrev hi : List Nat := hs.map (·.1)
abbrev fi : List Nat := []
abbrev cl : List (Place × Nat × Hint) := []
abbrev hn : List Hint := [.any]
def val (t : Int) : AV := Sh.mk (.data (.int .i64)) t
def wr (t : Int) : Heap := []
def callee (k : Nat) : Callee := sigCallee ps hs (fun (d : (Unit × Unit)) (e : Unit) => f k) val wr
def E (k : Nat) : Env := ⟨fnTab [], loopTab [], natsTab [], natTab []⟩
theorem fE (k : Nat) : ∀ f, ∀ c ∈ (E k).fn f, CalleeOK Try.prog f c := fnTab_ok trivial
theorem run (k : Nat) (d : (Unit × Unit)) (e : Unit) : runFn Try.prog (E k) 9 (bodyOf Try.f40) Try.f40.results.toList cl hn hi (mkL ps d) (mkH hs e) =
    tree (fun b0 => leafFn hs fi e val wr b0) k := by kernel_rfl
theorem run_f (k : Nat) (d : (Unit × Unit)) (e : Unit) : runFn Try.prog (E k) 9 (bodyOf Try.f40) Try.f40.results.toList cl hn hi (mkL ps d) (mkH hs e) = (f k).bind (leafFn hs fi e val wr) :=
  (run k d e).trans (tree_nat (leafFn hs fi e val wr) (fun b0 => some b0) k).symm
theorem fnIs : FnIs Try.prog 40 Try.f40 (bodyOf Try.f40) 9 := ⟨by kernel_rfl, by kernel_rfl, by kernel_rfl, by kernel_rfl⟩
theorem ok (k : Nat) : CalleeOK Try.prog 40 (callee k) :=
  callee_sig (T := Int) fnIs hm (fE k) (loopsOK_of [] (by kernel_rfl) trivial) ps hs cl hn fi (fun (d : (Unit × Unit)) (e : Unit) => f k) val wr rfl (fun _ => rfl) (run_f k)
end shake_Hand_Height_v1
namespace trailheadlaw21_ShakeDoes
namespace l3
def step {X : Type} (K : Int → Option X) (Q : Bool → Option X) (G : Int → Option X) (k : Nat) (x67 : Int) (x68 : Int) (x101 : Int) (y0 : (List T_4272cd)) (y800001 : (Int × (Int × (Int × Int)))) (y800002 : T_dd9637) (y800003 : T_0b0752) (y800004_0 : Int) (y800004_1 : Int) (y800004_2 : Int) (y800004_3 : Int) (y800004_4 : Int) (y800004_5 : Int) (y800004_6 : Value) (y800004_7 : (List Int)) (y800004_8 : Value) (y800004_9 : (Int × Int)) (y800005 : (List Int)) (y800006 : (List T_c7162a)) (x102 : Int) : Option X :=
  (bif (decide (x102 < x101)) then (bif (decide (0 ≤ x102)) then (bif (decide (x102 < ((List.length y800006) : Int))) then (bif (decide ((Int.toNat x102) < (List.length y800006))) then (bif (decide (0 ≤ x102)) then (bif (decide (x102 < ((List.length y800005) : Int))) then (bif (decide ((Int.toNat x102) < (List.length y800005))) then (bif (((List.getD y800006 (Int.toNat x102) dfl_c5f4e7)).1 != (List.getD y800005 (Int.toNat x102) (0 : Int))) then (Q false) else (bif (((List.getD y800006 (Int.toNat x102) dfl_c5f4e7)).1 == (1 : Int)) then (Option.bind (trailheadlaw21_hello.f k ((List.getD y800006 (Int.toNat x102) dfl_c5f4e7)).1 (((List.getD y800006 (Int.toNat x102) dfl_c5f4e7)).2).1 ((((List.getD y800006 (Int.toNat x102) dfl_c5f4e7)).2).2).1 (((((List.getD y800006 (Int.toNat x102) dfl_c5f4e7)).2).2).2).1 ((((((List.getD y800006 (Int.toNat x102) dfl_c5f4e7)).2).2).2).2).1 (((((((List.getD y800006 (Int.toNat x102) dfl_c5f4e7)).2).2).2).2).2).1 ((((((((List.getD y800006 (Int.toNat x102) dfl_c5f4e7)).2).2).2).2).2).2).1 ((((((((List.getD y800006 (Int.toNat x102) dfl_c5f4e7)).2).2).2).2).2).2).2 y800001) (fun r6 => (bif (!r6) then (Q false) else (bif (((List.getD y800006 (Int.toNat x102) dfl_c5f4e7)).1 == (7 : Int)) then (bif (((((((List.getD y800006 (Int.toNat x102) dfl_c5f4e7)).2).2).2).2).1 != y800004_5) then (Q false) else (G (addI .i64 x102 1))) else (G (addI .i64 x102 1)))))) else (bif (((List.getD y800006 (Int.toNat x102) dfl_c5f4e7)).1 == (7 : Int)) then (bif (((((((List.getD y800006 (Int.toNat x102) dfl_c5f4e7)).2).2).2).2).1 != y800004_5) then (Q false) else (G (addI .i64 x102 1))) else (G (addI .i64 x102 1))))) else none) else none) else none) else none) else none) else none) else (K x102))
def go {X : Type} (K : Int → Option X) (Q : Bool → Option X) (k : Nat) (x67 : Int) (x68 : Int) (x101 : Int) (y0 : (List T_4272cd)) (y800001 : (Int × (Int × (Int × Int)))) (y800002 : T_dd9637) (y800003 : T_0b0752) (y800004_0 : Int) (y800004_1 : Int) (y800004_2 : Int) (y800004_3 : Int) (y800004_4 : Int) (y800004_5 : Int) (y800004_6 : Value) (y800004_7 : (List Int)) (y800004_8 : Value) (y800004_9 : (Int × Int)) (y800005 : (List Int)) (y800006 : (List T_c7162a)) : Nat → Int → Option X
  | 0, _ => none
  | n + 1, x102 => step K Q (go K Q k x67 x68 x101 y0 y800001 y800002 y800003 y800004_0 y800004_1 y800004_2 y800004_3 y800004_4 y800004_5 y800004_6 y800004_7 y800004_8 y800004_9 y800005 y800006 n) k x67 x68 x101 y0 y800001 y800002 y800003 y800004_0 y800004_1 y800004_2 y800004_3 y800004_4 y800004_5 y800004_6 y800004_7 y800004_8 y800004_9 y800005 y800006 x102
def f (k : Nat) (x67 : Int) (x68 : Int) (x101 : Int) (y0 : (List T_4272cd)) (y800001 : (Int × (Int × (Int × Int)))) (y800002 : T_dd9637) (y800003 : T_0b0752) (y800004_0 : Int) (y800004_1 : Int) (y800004_2 : Int) (y800004_3 : Int) (y800004_4 : Int) (y800004_5 : Int) (y800004_6 : Value) (y800004_7 : (List Int)) (y800004_8 : Value) (y800004_9 : (Int × Int)) (y800005 : (List Int)) (y800006 : (List T_c7162a)) (n : Nat) (x102 : Int) : Option (Int ⊕ Bool) := go (fun x102 => some (.inl x102)) (fun q0 => some (.inr q0)) k x67 x68 x101 y0 y800001 y800002 y800003 y800004_0 y800004_1 y800004_2 y800004_3 y800004_4 y800004_5 y800004_6 y800004_7 y800004_8 y800004_9 y800005 y800006 n x102
theorem step_nat {X Y : Type} (h : X → Option Y) (K : Int → Option X) (Q : Bool → Option X) (G : Int → Option X) (k : Nat) (x67 : Int) (x68 : Int) (x101 : Int) (y0 : (List T_4272cd)) (y800001 : (Int × (Int × (Int × Int)))) (y800002 : T_dd9637) (y800003 : T_0b0752) (y800004_0 : Int) (y800004_1 : Int) (y800004_2 : Int) (y800004_3 : Int) (y800004_4 : Int) (y800004_5 : Int) (y800004_6 : Value) (y800004_7 : (List Int)) (y800004_8 : Value) (y800004_9 : (Int × Int)) (y800005 : (List Int)) (y800006 : (List T_c7162a)) (x102 : Int) : Option.bind (step K Q G k x67 x68 x101 y0 y800001 y800002 y800003 y800004_0 y800004_1 y800004_2 y800004_3 y800004_4 y800004_5 y800004_6 y800004_7 y800004_8 y800004_9 y800005 y800006 x102) h = step (fun x102 => Option.bind (K x102) h) (fun q0 => Option.bind (Q q0) h) (fun x102 => Option.bind (G x102) h) k x67 x68 x101 y0 y800001 y800002 y800003 y800004_0 y800004_1 y800004_2 y800004_3 y800004_4 y800004_5 y800004_6 y800004_7 y800004_8 y800004_9 y800005 y800006 x102 := by
  simp only [step, bif_bind, sel_bind', Option.bind_assoc, Option.bind_none, Option.bind_some]
theorem go_nat {X Y : Type} (h : X → Option Y) (K : Int → Option X) (Q : Bool → Option X) (k : Nat) (x67 : Int) (x68 : Int) (x101 : Int) (y0 : (List T_4272cd)) (y800001 : (Int × (Int × (Int × Int)))) (y800002 : T_dd9637) (y800003 : T_0b0752) (y800004_0 : Int) (y800004_1 : Int) (y800004_2 : Int) (y800004_3 : Int) (y800004_4 : Int) (y800004_5 : Int) (y800004_6 : Value) (y800004_7 : (List Int)) (y800004_8 : Value) (y800004_9 : (Int × Int)) (y800005 : (List Int)) (y800006 : (List T_c7162a)) (n : Nat) : ∀ (x102 : Int), Option.bind (go K Q k x67 x68 x101 y0 y800001 y800002 y800003 y800004_0 y800004_1 y800004_2 y800004_3 y800004_4 y800004_5 y800004_6 y800004_7 y800004_8 y800004_9 y800005 y800006 n x102) h = go (fun x102 => Option.bind (K x102) h) (fun q0 => Option.bind (Q q0) h) k x67 x68 x101 y0 y800001 y800002 y800003 y800004_0 y800004_1 y800004_2 y800004_3 y800004_4 y800004_5 y800004_6 y800004_7 y800004_8 y800004_9 y800005 y800006 n x102 := by
  induction n with
  | zero => intros; rfl
  | succ n ih => intro x102; show Option.bind (step K Q (go K Q k x67 x68 x101 y0 y800001 y800002 y800003 y800004_0 y800004_1 y800004_2 y800004_3 y800004_4 y800004_5 y800004_6 y800004_7 y800004_8 y800004_9 y800005 y800006 n) k x67 x68 x101 y0 y800001 y800002 y800003 y800004_0 y800004_1 y800004_2 y800004_3 y800004_4 y800004_5 y800004_6 y800004_7 y800004_8 y800004_9 y800005 y800006 x102) h = step (fun x102 => Option.bind (K x102) h) (fun q0 => Option.bind (Q q0) h) (go (fun x102 => Option.bind (K x102) h) (fun q0 => Option.bind (Q q0) h) k x67 x68 x101 y0 y800001 y800002 y800003 y800004_0 y800004_1 y800004_2 y800004_3 y800004_4 y800004_5 y800004_6 y800004_7 y800004_8 y800004_9 y800005 y800006 n) k x67 x68 x101 y0 y800001 y800002 y800003 y800004_0 y800004_1 y800004_2 y800004_3 y800004_4 y800004_5 y800004_6 y800004_7 y800004_8 y800004_9 y800005 y800006 x102; rw [step_nat h]; simp only [ih]
abbrev S : List (Nat × Sh) := [(4, .ptr 800001), (9, .ptr 800002), (11, .ptr 800003), (13, .ptr 800004), (16, .vec 800005), (66, .vec 0), (67, .data (.int .i64)), (68, .data (.int .i64)), (100, .vec 800006), (101, .data (.int .i64)), (102, .data (.int .i64))]
abbrev H : List (Nat × ESh) := [(0, .rows 0 76 (.pair (.int .i64) (.pair (.pair (.int .i64) (.pair (.int .i64) (.pair (.int .i64) (.pair (.int .i64) (.pair (.int .i64) (.pair .opq (.pair (.arr .u8 32) .opq))))))) (.pair (.int .i64) (.int .i64))))), (800001, .cell (.data (.pair (.int .i64) (.pair (.int .i64) (.pair (.int .i64) (.int .i64)))))), (800002, .cell (.data (.pair (.pair (.int .i64) (.pair (.int .i64) (.pair (.int .i64) (.int .i64)))) (.pair .bool (.pair (.int .i64) (.pair .bool (.pair .bool (.pair .bool (.pair .bool (.pair (.int .i64) (.pair (.int .i64) (.int .i64)))))))))))), (800003, .cell (.data (.pair .bool (.pair (.int .i64) (.pair (.int .i64) (.pair (.int .i64) (.pair .bool (.pair (.int .i64) (.pair (.int .i64) (.int .i64)))))))))), (800004, .cell (.pair (.data (.int .i64)) (.pair (.pair (.data (.int .i64)) (.pair (.data (.int .i64)) (.pair (.data (.int .i64)) (.pair (.data (.int .i64)) (.pair (.data (.int .i64)) (.pair .opq (.pair (.data (.arr .u8 32)) .opq))))))) (.data (.pair (.int .i64) (.int .i64)))))), (800005, .rows 2 3 (.int .i64)), (800006, .rows 2 71 (.pair (.int .i64) (.pair (.int .i64) (.pair (.int .i64) (.pair (.int .i64) (.pair (.int .i64) (.pair .opq (.pair (.arr .u8 32) .opq))))))))]
abbrev cl : List (Place × Nat × Hint) := []
abbrev hn : List (Nat × Hint) := [(4, .any), (9, .any), (11, .any), (13, .any), (16, .any), (66, .any), (67, .any), (68, .any), (100, .any), (101, .any), (102, .any)]
abbrev kp : List Nat := [0]
abbrev rc : List (Place × Nat × Hint) := []
abbrev rs : List (Nat × Hint) := [(8, .any)]
abbrev ri : List Nat := [0]
def KX (d : (Unit × Unit × Unit × Unit × Unit × Unit × Int × Int × Unit × Int × Int × Unit)) (e : ((List T_4272cd) × (Int × (Int × (Int × Int))) × T_dd9637 × T_0b0752 × (Int × ((Int × (Int × (Int × (Int × (Int × (Value × ((List Int) × Value))))))) × (Int × Int))) × (List Int) × (List T_c7162a) × Unit)) (v : Int) : St := ⟨mkS S ((), (), (), (), (), (), d.2.2.2.2.2.2.1, d.2.2.2.2.2.2.2.1, (), d.2.2.2.2.2.2.2.2.2.1, v, ()), mkH H (e.1, e.2.1, e.2.2.1, e.2.2.2.1, (e.2.2.2.2.1.1, ((e.2.2.2.2.1.2.1.1, (e.2.2.2.2.1.2.1.2.1, (e.2.2.2.2.1.2.1.2.2.1, (e.2.2.2.2.1.2.1.2.2.2.1, (e.2.2.2.2.1.2.1.2.2.2.2.1, (e.2.2.2.2.1.2.1.2.2.2.2.2.1, (e.2.2.2.2.1.2.1.2.2.2.2.2.2.1, e.2.2.2.2.1.2.1.2.2.2.2.2.2.2))))))), e.2.2.2.2.1.2.2)), e.2.2.2.2.2.1, e.2.2.2.2.2.2.1, ())⟩
abbrev RS : List (Nat × Sh) := [(8, .data .bool)]
abbrev RH : List (Nat × ESh) := [(0, .rows 0 76 (.pair (.int .i64) (.pair (.pair (.int .i64) (.pair (.int .i64) (.pair (.int .i64) (.pair (.int .i64) (.pair (.int .i64) (.pair .opq (.pair (.arr .u8 32) .opq))))))) (.pair (.int .i64) (.int .i64)))))]
def RX (d : (Unit × Unit × Unit × Unit × Unit × Unit × Int × Int × Unit × Int × Int × Unit)) (e : ((List T_4272cd) × (Int × (Int × (Int × Int))) × T_dd9637 × T_0b0752 × (Int × ((Int × (Int × (Int × (Int × (Int × (Value × ((List Int) × Value))))))) × (Int × Int))) × (List Int) × (List T_c7162a) × Unit)) (v : Bool) : St := ⟨mkS RS (v, ()), mkH RH (e.1, ())⟩
def sum (k : Nat) : LoopSum := sigLoop S cl hn kp H 3 (fun (d : (Unit × Unit × Unit × Unit × Unit × Unit × Int × Int × Unit × Int × Int × Unit)) (e : ((List T_4272cd) × (Int × (Int × (Int × Int))) × T_dd9637 × T_0b0752 × (Int × ((Int × (Int × (Int × (Int × (Int × (Value × ((List Int) × Value))))))) × (Int × Int))) × (List Int) × (List T_c7162a) × Unit)) => f k d.2.2.2.2.2.2.1 d.2.2.2.2.2.2.2.1 d.2.2.2.2.2.2.2.2.2.1 e.1 e.2.1 e.2.2.1 e.2.2.2.1 e.2.2.2.2.1.1 e.2.2.2.2.1.2.1.1 e.2.2.2.2.1.2.1.2.1 e.2.2.2.2.1.2.1.2.2.1 e.2.2.2.2.1.2.1.2.2.2.1 e.2.2.2.2.1.2.1.2.2.2.2.1 e.2.2.2.2.1.2.1.2.2.2.2.2.1 e.2.2.2.2.1.2.1.2.2.2.2.2.2.1 e.2.2.2.2.1.2.1.2.2.2.2.2.2.2 e.2.2.2.2.1.2.2 e.2.2.2.2.2.1 e.2.2.2.2.2.2.1 k d.2.2.2.2.2.2.2.2.2.2.1) KX RX
end l3
namespace l0
def step {X : Type} (K : Int → T_dd9637 → T_0b0752 → Option X) (Q : Bool → Option X) (G : Int → T_dd9637 → T_0b0752 → Option X) (k : Nat) (x67 : Int) (y0 : (List T_4272cd)) (y800001 : (Int × (Int × (Int × Int)))) (x68 : Int) (y800002 : T_dd9637) (y800003 : T_0b0752) : Option X :=
  (bif (decide (x68 < x67)) then (bif (decide (0 ≤ x68)) then (bif (decide (x68 < ((List.length y0) : Int))) then (bif (decide ((Int.toNat x68) < (List.length y0))) then (bif (((List.getD y0 (Int.toNat x68) dfl_c64a9c)).1 == (0 : Int)) then (Option.bind (shake_Hand_In_v1.f k ((((List.getD y0 (Int.toNat x68) dfl_c64a9c)).2).1).1 (((((List.getD y0 (Int.toNat x68) dfl_c64a9c)).2).1).2).1 ((((((List.getD y0 (Int.toNat x68) dfl_c64a9c)).2).1).2).2).1 (((((((List.getD y0 (Int.toNat x68) dfl_c64a9c)).2).1).2).2).2).1 ((((((((List.getD y0 (Int.toNat x68) dfl_c64a9c)).2).1).2).2).2).2).1 (((((((((List.getD y0 (Int.toNat x68) dfl_c64a9c)).2).1).2).2).2).2).2).1 ((((((((((List.getD y0 (Int.toNat x68) dfl_c64a9c)).2).1).2).2).2).2).2).2).1 ((((((((((List.getD y0 (Int.toNat x68) dfl_c64a9c)).2).1).2).2).2).2).2).2).2 y800002) (fun r4 => (Option.bind (trailheadref21_Hand_In.f k ((((List.getD y0 (Int.toNat x68) dfl_c64a9c)).2).1).1 (((((List.getD y0 (Int.toNat x68) dfl_c64a9c)).2).1).2).1 ((((((List.getD y0 (Int.toNat x68) dfl_c64a9c)).2).1).2).2).1 (((((((List.getD y0 (Int.toNat x68) dfl_c64a9c)).2).1).2).2).2).1 ((((((((List.getD y0 (Int.toNat x68) dfl_c64a9c)).2).1).2).2).2).2).1 (((((((((List.getD y0 (Int.toNat x68) dfl_c64a9c)).2).1).2).2).2).2).2).1 ((((((((((List.getD y0 (Int.toNat x68) dfl_c64a9c)).2).1).2).2).2).2).2).2).1 ((((((((((List.getD y0 (Int.toNat x68) dfl_c64a9c)).2).1).2).2).2).2).2).2).2 y800003) (fun r5 => (bif (r4.1 != r5.1) then (Q false) else (bif (((List.length r4.2.2) : Int) != ((List.length r5.2.2) : Int)) then (Q false) else (Option.bind (trailheadlaw21_ShakeDoes.l3.f k x67 x68 ((List.length r4.2.2) : Int) y0 y800001 r4.2.1 r5.2.1 ((List.getD y0 (Int.toNat x68) dfl_c64a9c)).1 ((((List.getD y0 (Int.toNat x68) dfl_c64a9c)).2).1).1 (((((List.getD y0 (Int.toNat x68) dfl_c64a9c)).2).1).2).1 ((((((List.getD y0 (Int.toNat x68) dfl_c64a9c)).2).1).2).2).1 (((((((List.getD y0 (Int.toNat x68) dfl_c64a9c)).2).1).2).2).2).1 ((((((((List.getD y0 (Int.toNat x68) dfl_c64a9c)).2).1).2).2).2).2).1 (((((((((List.getD y0 (Int.toNat x68) dfl_c64a9c)).2).1).2).2).2).2).2).1 ((((((((((List.getD y0 (Int.toNat x68) dfl_c64a9c)).2).1).2).2).2).2).2).2).1 ((((((((((List.getD y0 (Int.toNat x68) dfl_c64a9c)).2).1).2).2).2).2).2).2).2 ((((List.getD y0 (Int.toNat x68) dfl_c64a9c)).2).2) r5.2.2 r4.2.2 k (0 : Int)) (fun r7 => sel r7 (fun v8 => (Option.bind (shake_Hand_Ready.f k r4.2.1) (fun r10 => (bif (!(r10 == (r5.2.1.2.2.2.1 == (2 : Int)))) then (Q false) else (Option.bind (shake_Hand_Gone.f k r4.2.1) (fun r11 => (bif (!(r11 == (r5.2.1.2.2.2.1 == (3 : Int)))) then (Q false) else (Option.bind (shake_Hand_Direct.f k r4.2.1) (fun r12 => (bif (r5.2.1.2.2.2.1 == (2 : Int)) then (bif (!(r12 == r5.2.1.2.2.2.2.1)) then (Q false) else (Option.bind (shake_Hand_Height.f k r4.2.1) (fun r13 => (bif (r13 != r5.2.1.2.2.2.2.2.1) then (Q false) else (G (addI .i64 x68 1) r4.2.1 r5.2.1))))) else (bif (!(r12 == false)) then (Q false) else (Option.bind (shake_Hand_Height.f k r4.2.1) (fun r14 => (bif (r14 != r5.2.1.2.2.2.2.2.1) then (Q false) else (G (addI .i64 x68 1) r4.2.1 r5.2.1))))))))))))))) (fun q9 => (Q q9)))))))))) else (bif (((List.getD y0 (Int.toNat x68) dfl_c64a9c)).1 == (1 : Int)) then (Option.bind (shake_Hand_Ping.f k ((((List.getD y0 (Int.toNat x68) dfl_c64a9c)).2).2).1 ((((List.getD y0 (Int.toNat x68) dfl_c64a9c)).2).2).2 y800002) (fun r15 => (Option.bind (trailheadref21_Hand_Ping.f k ((((List.getD y0 (Int.toNat x68) dfl_c64a9c)).2).2).1 ((((List.getD y0 (Int.toNat x68) dfl_c64a9c)).2).2).2 y800003) (fun r16 => (bif (!((((List.length r15.2) : Int) == (1 : Int)) == r16.1)) then (Q false) else (bif (decide (((List.length r15.2) : Int) > (1 : Int))) then (Q false) else (bif r16.1 then (bif (decide (0 < ((List.length r15.2) : Int))) then (bif (decide (0 < (List.length r15.2))) then (bif (((List.getD r15.2 0 dfl_c5f4e7)).1 != (6 : Int)) then (Q false) else (bif (decide (0 < ((List.length r15.2) : Int))) then (bif (decide (0 < (List.length r15.2))) then (bif (((((((List.getD r15.2 0 dfl_c5f4e7)).2).2).2).2).1 != ((((List.getD y0 (Int.toNat x68) dfl_c64a9c)).2).2).1) then (Q false) else (Option.bind (shake_Hand_Ready.f k r15.1) (fun r17 => (bif (!(r17 == (r16.2.2.2.2.1 == (2 : Int)))) then (Q false) else (Option.bind (shake_Hand_Gone.f k r15.1) (fun r18 => (bif (!(r18 == (r16.2.2.2.2.1 == (3 : Int)))) then (Q false) else (Option.bind (shake_Hand_Direct.f k r15.1) (fun r19 => (bif (r16.2.2.2.2.1 == (2 : Int)) then (bif (!(r19 == r16.2.2.2.2.2.1)) then (Q false) else (Option.bind (shake_Hand_Height.f k r15.1) (fun r20 => (bif (r20 != r16.2.2.2.2.2.2.1) then (Q false) else (G (addI .i64 x68 1) r15.1 r16.2))))) else (bif (!(r19 == false)) then (Q false) else (Option.bind (shake_Hand_Height.f k r15.1) (fun r21 => (bif (r21 != r16.2.2.2.2.2.2.1) then (Q false) else (G (addI .i64 x68 1) r15.1 r16.2))))))))))))))) else none) else none)) else none) else none) else (Option.bind (shake_Hand_Ready.f k r15.1) (fun r22 => (bif (!(r22 == (r16.2.2.2.2.1 == (2 : Int)))) then (Q false) else (Option.bind (shake_Hand_Gone.f k r15.1) (fun r23 => (bif (!(r23 == (r16.2.2.2.2.1 == (3 : Int)))) then (Q false) else (Option.bind (shake_Hand_Direct.f k r15.1) (fun r24 => (bif (r16.2.2.2.2.1 == (2 : Int)) then (bif (!(r24 == r16.2.2.2.2.2.1)) then (Q false) else (Option.bind (shake_Hand_Height.f k r15.1) (fun r25 => (bif (r25 != r16.2.2.2.2.2.2.1) then (Q false) else (G (addI .i64 x68 1) r15.1 r16.2))))) else (bif (!(r24 == false)) then (Q false) else (Option.bind (shake_Hand_Height.f k r15.1) (fun r26 => (bif (r26 != r16.2.2.2.2.2.2.1) then (Q false) else (G (addI .i64 x68 1) r15.1 r16.2))))))))))))))))))))) else (bif (((List.getD y0 (Int.toNat x68) dfl_c64a9c)).1 == (2 : Int)) then (Option.bind (shake_Hand_Tick.f k ((((List.getD y0 (Int.toNat x68) dfl_c64a9c)).2).2).2 y800002) (fun r27 => (Option.bind (trailheadref21_Hand_Tick.f k ((((List.getD y0 (Int.toNat x68) dfl_c64a9c)).2).2).2 y800003) (fun r28 => (bif (!(r27.1 == r28.1)) then (Q false) else (Option.bind (shake_Hand_Ready.f k r27.2) (fun r29 => (bif (!(r29 == (r28.2.2.2.2.1 == (2 : Int)))) then (Q false) else (Option.bind (shake_Hand_Gone.f k r27.2) (fun r30 => (bif (!(r30 == (r28.2.2.2.2.1 == (3 : Int)))) then (Q false) else (Option.bind (shake_Hand_Direct.f k r27.2) (fun r31 => (bif (r28.2.2.2.2.1 == (2 : Int)) then (bif (!(r31 == r28.2.2.2.2.2.1)) then (Q false) else (Option.bind (shake_Hand_Height.f k r27.2) (fun r32 => (bif (r32 != r28.2.2.2.2.2.2.1) then (Q false) else (G (addI .i64 x68 1) r27.2 r28.2))))) else (bif (!(r31 == false)) then (Q false) else (Option.bind (shake_Hand_Height.f k r27.2) (fun r33 => (bif (r33 != r28.2.2.2.2.2.2.1) then (Q false) else (G (addI .i64 x68 1) r27.2 r28.2))))))))))))))))))) else (bif (((List.getD y0 (Int.toNat x68) dfl_c64a9c)).1 == (3 : Int)) then (Option.bind (shake_Hand_End.f k y800002) (fun r34 => (Option.bind (shake_Hand_Ready.f k r34) (fun r35 => (bif (!(r35 == false)) then (Q false) else (Option.bind (shake_Hand_Gone.f k r34) (fun r36 => (bif (!(r36 == true)) then (Q false) else (Option.bind (shake_Hand_Direct.f k r34) (fun r37 => (bif (!(r37 == false)) then (Q false) else (Option.bind (shake_Hand_Height.f k r34) (fun r38 => (bif (r38 != y800003.2.2.2.2.2.1) then (Q false) else (G (addI .i64 x68 1) r34 ((y800003.1, (y800003.2.1, (y800003.2.2.1, (3, y800003.2.2.2.2)))) : T_0b0752)))))))))))))))) else (Option.bind (shake_Hand_Ready.f k y800002) (fun r39 => (bif (!(r39 == (y800003.2.2.2.1 == (2 : Int)))) then (Q false) else (Option.bind (shake_Hand_Gone.f k y800002) (fun r40 => (bif (!(r40 == (y800003.2.2.2.1 == (3 : Int)))) then (Q false) else (Option.bind (shake_Hand_Direct.f k y800002) (fun r41 => (bif (y800003.2.2.2.1 == (2 : Int)) then (bif (!(r41 == y800003.2.2.2.2.1)) then (Q false) else (Option.bind (shake_Hand_Height.f k y800002) (fun r42 => (bif (r42 != y800003.2.2.2.2.2.1) then (Q false) else (G (addI .i64 x68 1) y800002 y800003))))) else (bif (!(r41 == false)) then (Q false) else (Option.bind (shake_Hand_Height.f k y800002) (fun r43 => (bif (r43 != y800003.2.2.2.2.2.1) then (Q false) else (G (addI .i64 x68 1) y800002 y800003)))))))))))))))))) else none) else none) else none) else (K x68 y800002 y800003))
def go {X : Type} (K : Int → T_dd9637 → T_0b0752 → Option X) (Q : Bool → Option X) (k : Nat) (x67 : Int) (y0 : (List T_4272cd)) (y800001 : (Int × (Int × (Int × Int)))) : Nat → Int → T_dd9637 → T_0b0752 → Option X
  | 0, _, _, _ => none
  | n + 1, x68, y800002, y800003 => step K Q (go K Q k x67 y0 y800001 n) k x67 y0 y800001 x68 y800002 y800003
def f (k : Nat) (x67 : Int) (y0 : (List T_4272cd)) (y800001 : (Int × (Int × (Int × Int)))) (n : Nat) (x68 : Int) (y800002 : T_dd9637) (y800003 : T_0b0752) : Option ((Int × (T_dd9637 × T_0b0752)) ⊕ Bool) := go (fun x68 y800002 y800003 => some (.inl (x68, y800002, y800003))) (fun q0 => some (.inr q0)) k x67 y0 y800001 n x68 y800002 y800003
theorem step_nat {X Y : Type} (h : X → Option Y) (K : Int → T_dd9637 → T_0b0752 → Option X) (Q : Bool → Option X) (G : Int → T_dd9637 → T_0b0752 → Option X) (k : Nat) (x67 : Int) (y0 : (List T_4272cd)) (y800001 : (Int × (Int × (Int × Int)))) (x68 : Int) (y800002 : T_dd9637) (y800003 : T_0b0752) : Option.bind (step K Q G k x67 y0 y800001 x68 y800002 y800003) h = step (fun x68 y800002 y800003 => Option.bind (K x68 y800002 y800003) h) (fun q0 => Option.bind (Q q0) h) (fun x68 y800002 y800003 => Option.bind (G x68 y800002 y800003) h) k x67 y0 y800001 x68 y800002 y800003 := by
  simp only [step, bif_bind, sel_bind', Option.bind_assoc, Option.bind_none, Option.bind_some]
theorem go_nat {X Y : Type} (h : X → Option Y) (K : Int → T_dd9637 → T_0b0752 → Option X) (Q : Bool → Option X) (k : Nat) (x67 : Int) (y0 : (List T_4272cd)) (y800001 : (Int × (Int × (Int × Int)))) (n : Nat) : ∀ (x68 : Int) (y800002 : T_dd9637) (y800003 : T_0b0752), Option.bind (go K Q k x67 y0 y800001 n x68 y800002 y800003) h = go (fun x68 y800002 y800003 => Option.bind (K x68 y800002 y800003) h) (fun q0 => Option.bind (Q q0) h) k x67 y0 y800001 n x68 y800002 y800003 := by
  induction n with
  | zero => intros; rfl
  | succ n ih => intro x68 y800002 y800003; show Option.bind (step K Q (go K Q k x67 y0 y800001 n) k x67 y0 y800001 x68 y800002 y800003) h = step (fun x68 y800002 y800003 => Option.bind (K x68 y800002 y800003) h) (fun q0 => Option.bind (Q q0) h) (go (fun x68 y800002 y800003 => Option.bind (K x68 y800002 y800003) h) (fun q0 => Option.bind (Q q0) h) k x67 y0 y800001 n) k x67 y0 y800001 x68 y800002 y800003; rw [step_nat h]; simp only [ih]
abbrev S : List (Nat × Sh) := [(4, .ptr 800001), (9, .ptr 800002), (11, .ptr 800003), (66, .vec 0), (67, .data (.int .i64)), (68, .data (.int .i64))]
abbrev H : List (Nat × ESh) := [(0, .rows 0 76 (.pair (.int .i64) (.pair (.pair (.int .i64) (.pair (.int .i64) (.pair (.int .i64) (.pair (.int .i64) (.pair (.int .i64) (.pair .opq (.pair (.arr .u8 32) .opq))))))) (.pair (.int .i64) (.int .i64))))), (800001, .cell (.data (.pair (.int .i64) (.pair (.int .i64) (.pair (.int .i64) (.int .i64)))))), (800002, .cell (.data (.pair (.pair (.int .i64) (.pair (.int .i64) (.pair (.int .i64) (.int .i64)))) (.pair .bool (.pair (.int .i64) (.pair .bool (.pair .bool (.pair .bool (.pair .bool (.pair (.int .i64) (.pair (.int .i64) (.int .i64)))))))))))), (800003, .cell (.data (.pair .bool (.pair (.int .i64) (.pair (.int .i64) (.pair (.int .i64) (.pair .bool (.pair (.int .i64) (.pair (.int .i64) (.int .i64))))))))))]
abbrev cl : List (Place × Nat × Hint) := []
abbrev hn : List (Nat × Hint) := [(4, .any), (9, .any), (11, .any), (66, .any), (67, .any), (68, .any)]
abbrev kp : List Nat := [0]
abbrev rc : List (Place × Nat × Hint) := []
abbrev rs : List (Nat × Hint) := [(8, .any)]
abbrev ri : List Nat := [0]
def KX (d : (Unit × Unit × Unit × Unit × Int × Int × Unit)) (e : ((List T_4272cd) × (Int × (Int × (Int × Int))) × T_dd9637 × T_0b0752 × Unit)) (v : (Int × (T_dd9637 × T_0b0752))) : St := ⟨mkS S ((), (), (), (), d.2.2.2.2.1, v.1, ()), mkH H (e.1, e.2.1, v.2.1, v.2.2, ())⟩
abbrev RS : List (Nat × Sh) := [(8, .data .bool)]
abbrev RH : List (Nat × ESh) := [(0, .rows 0 76 (.pair (.int .i64) (.pair (.pair (.int .i64) (.pair (.int .i64) (.pair (.int .i64) (.pair (.int .i64) (.pair (.int .i64) (.pair .opq (.pair (.arr .u8 32) .opq))))))) (.pair (.int .i64) (.int .i64)))))]
def RX (d : (Unit × Unit × Unit × Unit × Int × Int × Unit)) (e : ((List T_4272cd) × (Int × (Int × (Int × Int))) × T_dd9637 × T_0b0752 × Unit)) (v : Bool) : St := ⟨mkS RS (v, ()), mkH RH (e.1, ())⟩
def sum (k : Nat) : LoopSum := sigLoop S cl hn kp H 0 (fun (d : (Unit × Unit × Unit × Unit × Int × Int × Unit)) (e : ((List T_4272cd) × (Int × (Int × (Int × Int))) × T_dd9637 × T_0b0752 × Unit)) => f k d.2.2.2.2.1 e.1 e.2.1 k d.2.2.2.2.2.1 e.2.2.1 e.2.2.2.1) KX RX
end l0
def tree {X : Type} (K : Bool → Option X) (k : Nat) (a0 : (Int × (Int × (Int × Int)))) (a1 : Bool) (a2 : Int) (m0 : (List T_4272cd)) : Option X :=
  (Option.bind (trailheadlaw21_alive.f k) (fun r1 => (bif (!r1) then (K false) else (bif (decide (((List.length m0) : Int) > (60 : Int))) then (K true) else (Option.bind (shake_Open.f k a0 a1 a2) (fun r2 => (bif a1 then (bif (((List.length r2.2) : Int) != (0 : Int)) then (K false) else (bif (!a1) then (bif (((List.length r2.2) : Int) != (1 : Int)) then (K false) else (bif (decide (0 < ((List.length r2.2) : Int))) then (bif (decide (0 < (List.length r2.2))) then (Option.bind (trailheadlaw21_hello.f k ((List.getD r2.2 0 dfl_c5f4e7)).1 (((List.getD r2.2 0 dfl_c5f4e7)).2).1 ((((List.getD r2.2 0 dfl_c5f4e7)).2).2).1 (((((List.getD r2.2 0 dfl_c5f4e7)).2).2).2).1 ((((((List.getD r2.2 0 dfl_c5f4e7)).2).2).2).2).1 (((((((List.getD r2.2 0 dfl_c5f4e7)).2).2).2).2).2).1 ((((((((List.getD r2.2 0 dfl_c5f4e7)).2).2).2).2).2).2).1 ((((((((List.getD r2.2 0 dfl_c5f4e7)).2).2).2).2).2).2).2 a0) (fun r3 => (bif (!r3) then (K false) else (Option.bind (trailheadlaw21_ShakeDoes.l0.f k ((List.length m0) : Int) m0 a0 k (0 : Int) r2.1 ((a1, (a0.2.2.2, (a2, (0, (false, (0, (0, 0))))))) : T_0b0752)) (fun r44 => sel r44 (fun v45 => (Option.bind (shake_Hand_End_v1.f k) (fun r47 => (Option.bind (shake_Hand_In_v2.f k (0 : Int) (0 : Int) (0 : Int) (0 : Int) (0 : Int) ([0, 0, 0, 0, 0, 0, 0, 0, 0, 0, 0, 0, 0, 0, 0, 0, 0, 0, 0, 0, 0, 0, 0, 0, 0, 0, 0, 0, 0, 0, 0, 0] : (List Int))) (fun r48 => (bif (r48 == (0 : Int)) then (Option.bind (shake_Hand_Ping_v1.f k (1 : Int) (1 : Int)) (fun r49 => (Option.bind (shake_Hand_Tick_v1.f k (1 : Int)) (fun r50 => (bif (!r50) then (Option.bind (shake_Hand_Ready_v1.f k) (fun r51 => (bif (!r51) then (Option.bind (shake_Hand_Gone_v1.f k) (fun r52 => (bif r52 then (Option.bind (shake_Hand_Direct_v1.f k) (fun r53 => (bif (!r53) then (Option.bind (shake_Hand_Height_v1.f k) (fun r54 => (K (r54 == (0 : Int))))) else (K false)))) else (K false)))) else (K false)))) else (K false)))))) else (K false))))))) (fun q46 => (K q46))))))) else none) else none)) else (Option.bind (trailheadlaw21_ShakeDoes.l0.f k ((List.length m0) : Int) m0 a0 k (0 : Int) r2.1 ((a1, (a0.2.2.2, (a2, (0, (false, (0, (0, 0))))))) : T_0b0752)) (fun r55 => sel r55 (fun v56 => (Option.bind (shake_Hand_End_v1.f k) (fun r58 => (Option.bind (shake_Hand_In_v2.f k (0 : Int) (0 : Int) (0 : Int) (0 : Int) (0 : Int) ([0, 0, 0, 0, 0, 0, 0, 0, 0, 0, 0, 0, 0, 0, 0, 0, 0, 0, 0, 0, 0, 0, 0, 0, 0, 0, 0, 0, 0, 0, 0, 0] : (List Int))) (fun r59 => (bif (r59 == (0 : Int)) then (Option.bind (shake_Hand_Ping_v1.f k (1 : Int) (1 : Int)) (fun r60 => (Option.bind (shake_Hand_Tick_v1.f k (1 : Int)) (fun r61 => (bif (!r61) then (Option.bind (shake_Hand_Ready_v1.f k) (fun r62 => (bif (!r62) then (Option.bind (shake_Hand_Gone_v1.f k) (fun r63 => (bif r63 then (Option.bind (shake_Hand_Direct_v1.f k) (fun r64 => (bif (!r64) then (Option.bind (shake_Hand_Height_v1.f k) (fun r65 => (K (r65 == (0 : Int))))) else (K false)))) else (K false)))) else (K false)))) else (K false)))))) else (K false))))))) (fun q57 => (K q57)))))) else (bif (!a1) then (bif (((List.length r2.2) : Int) != (1 : Int)) then (K false) else (bif (decide (0 < ((List.length r2.2) : Int))) then (bif (decide (0 < (List.length r2.2))) then (Option.bind (trailheadlaw21_hello.f k ((List.getD r2.2 0 dfl_c5f4e7)).1 (((List.getD r2.2 0 dfl_c5f4e7)).2).1 ((((List.getD r2.2 0 dfl_c5f4e7)).2).2).1 (((((List.getD r2.2 0 dfl_c5f4e7)).2).2).2).1 ((((((List.getD r2.2 0 dfl_c5f4e7)).2).2).2).2).1 (((((((List.getD r2.2 0 dfl_c5f4e7)).2).2).2).2).2).1 ((((((((List.getD r2.2 0 dfl_c5f4e7)).2).2).2).2).2).2).1 ((((((((List.getD r2.2 0 dfl_c5f4e7)).2).2).2).2).2).2).2 a0) (fun r66 => (bif (!r66) then (K false) else (Option.bind (trailheadlaw21_ShakeDoes.l0.f k ((List.length m0) : Int) m0 a0 k (0 : Int) r2.1 ((a1, (a0.2.2.2, (a2, (0, (false, (0, (0, 0))))))) : T_0b0752)) (fun r67 => sel r67 (fun v68 => (Option.bind (shake_Hand_End_v1.f k) (fun r70 => (Option.bind (shake_Hand_In_v2.f k (0 : Int) (0 : Int) (0 : Int) (0 : Int) (0 : Int) ([0, 0, 0, 0, 0, 0, 0, 0, 0, 0, 0, 0, 0, 0, 0, 0, 0, 0, 0, 0, 0, 0, 0, 0, 0, 0, 0, 0, 0, 0, 0, 0] : (List Int))) (fun r71 => (bif (r71 == (0 : Int)) then (Option.bind (shake_Hand_Ping_v1.f k (1 : Int) (1 : Int)) (fun r72 => (Option.bind (shake_Hand_Tick_v1.f k (1 : Int)) (fun r73 => (bif (!r73) then (Option.bind (shake_Hand_Ready_v1.f k) (fun r74 => (bif (!r74) then (Option.bind (shake_Hand_Gone_v1.f k) (fun r75 => (bif r75 then (Option.bind (shake_Hand_Direct_v1.f k) (fun r76 => (bif (!r76) then (Option.bind (shake_Hand_Height_v1.f k) (fun r77 => (K (r77 == (0 : Int))))) else (K false)))) else (K false)))) else (K false)))) else (K false)))))) else (K false))))))) (fun q69 => (K q69))))))) else none) else none)) else (Option.bind (trailheadlaw21_ShakeDoes.l0.f k ((List.length m0) : Int) m0 a0 k (0 : Int) r2.1 ((a1, (a0.2.2.2, (a2, (0, (false, (0, (0, 0))))))) : T_0b0752)) (fun r78 => sel r78 (fun v79 => (Option.bind (shake_Hand_End_v1.f k) (fun r81 => (Option.bind (shake_Hand_In_v2.f k (0 : Int) (0 : Int) (0 : Int) (0 : Int) (0 : Int) ([0, 0, 0, 0, 0, 0, 0, 0, 0, 0, 0, 0, 0, 0, 0, 0, 0, 0, 0, 0, 0, 0, 0, 0, 0, 0, 0, 0, 0, 0, 0, 0] : (List Int))) (fun r82 => (bif (r82 == (0 : Int)) then (Option.bind (shake_Hand_Ping_v1.f k (1 : Int) (1 : Int)) (fun r83 => (Option.bind (shake_Hand_Tick_v1.f k (1 : Int)) (fun r84 => (bif (!r84) then (Option.bind (shake_Hand_Ready_v1.f k) (fun r85 => (bif (!r85) then (Option.bind (shake_Hand_Gone_v1.f k) (fun r86 => (bif r86 then (Option.bind (shake_Hand_Direct_v1.f k) (fun r87 => (bif (!r87) then (Option.bind (shake_Hand_Height_v1.f k) (fun r88 => (K (r88 == (0 : Int))))) else (K false)))) else (K false)))) else (K false)))) else (K false)))))) else (K false))))))) (fun q80 => (K q80))))))))))))
def f (k : Nat) (a0 : (Int × (Int × (Int × Int)))) (a1 : Bool) (a2 : Int) (m0 : (List T_4272cd)) : Option Bool := tree (fun b0 => some b0) k a0 a1 a2 m0
theorem tree_nat {X Y : Type} (h : X → Option Y) (K : Bool → Option X) (k : Nat) (a0 : (Int × (Int × (Int × Int)))) (a1 : Bool) (a2 : Int) (m0 : (List T_4272cd)) : Option.bind (tree K k a0 a1 a2 m0) h = tree (fun b0 => Option.bind (K b0) h) k a0 a1 a2 m0 := by
  simp only [tree, bif_bind, sel_bind', Option.bind_assoc, Option.bind_none, Option.bind_some]
abbrev ps : List Sh := [.data (.pair (.int .i64) (.pair (.int .i64) (.pair (.int .i64) (.int .i64)))), .data .bool, .data (.int .i64), .vec 0]
abbrev hs : List (Nat × ESh) := [(0, .rows 0 76 (.pair (.int .i64) (.pair (.pair (.int .i64) (.pair (.int .i64) (.pair (.int .i64) (.pair (.int .i64) (.pair (.int .i64) (.pair .opq (.pair (.arr .u8 32) .opq))))))) (.pair (.int .i64) (.int .i64)))))]
abbrev hi : List Nat := hs.map (·.1)
abbrev fi : List Nat := [0]
abbrev cl : List (Place × Nat × Hint) := []
abbrev hn : List Hint := [.any]
def val (t : Bool) : AV := Sh.mk (.data .bool) t
def wr (t : Bool) : Heap := []
def callee (k : Nat) : Callee := sigCallee ps hs (fun (d : ((Int × (Int × (Int × Int))) × Bool × Int × Unit × Unit)) (e : ((List T_4272cd) × Unit)) => f k d.1 d.2.1 d.2.2.1 e.1) val wr
def E (k : Nat) : Env := ⟨fnTab [(25, [trailheadlaw21_alive.callee k]), (26, [shake_Open.callee k]), (43, [trailheadlaw21_hello.callee k]), (37, [shake_Hand_In_v1.callee k, shake_Hand_In_v2.callee k]), (44, [trailheadref21_Hand_In.callee k]), (38, [shake_Hand_Ready.callee k, shake_Hand_Ready_v1.callee k]), (28, [shake_Hand_Gone.callee k, shake_Hand_Gone_v1.callee k]), (39, [shake_Hand_Direct.callee k, shake_Hand_Direct_v1.callee k]), (40, [shake_Hand_Height.callee k, shake_Hand_Height_v1.callee k]), (41, [shake_Hand_Ping.callee k, shake_Hand_Ping_v1.callee k]), (45, [trailheadref21_Hand_Ping.callee k]), (27, [shake_Hand_Tick.callee k, shake_Hand_Tick_v1.callee k]), (46, [trailheadref21_Hand_Tick.callee k]), (42, [shake_Hand_End.callee k, shake_Hand_End_v1.callee k])], loopTab [(3, l3.sum k), (0, l0.sum k)], natsTab [], natTab []⟩
theorem fE (k : Nat) : ∀ f, ∀ c ∈ (E k).fn f, CalleeOK Try.prog f c := fnTab_ok ⟨⟨trailheadlaw21_alive.ok k, trivial⟩, ⟨shake_Open.ok k, trivial⟩, ⟨trailheadlaw21_hello.ok k, trivial⟩, ⟨shake_Hand_In_v1.ok k, shake_Hand_In_v2.ok k, trivial⟩, ⟨trailheadref21_Hand_In.ok k, trivial⟩, ⟨shake_Hand_Ready.ok k, shake_Hand_Ready_v1.ok k, trivial⟩, ⟨shake_Hand_Gone.ok k, shake_Hand_Gone_v1.ok k, trivial⟩, ⟨shake_Hand_Direct.ok k, shake_Hand_Direct_v1.ok k, trivial⟩, ⟨shake_Hand_Height.ok k, shake_Hand_Height_v1.ok k, trivial⟩, ⟨shake_Hand_Ping.ok k, shake_Hand_Ping_v1.ok k, trivial⟩, ⟨trailheadref21_Hand_Ping.ok k, trivial⟩, ⟨shake_Hand_Tick.ok k, shake_Hand_Tick_v1.ok k, trivial⟩, ⟨trailheadref21_Hand_Tick.ok k, trivial⟩, ⟨shake_Hand_End.ok k, shake_Hand_End_v1.ok k, trivial⟩, trivial⟩
namespace l3
theorem round (k : Nat) (d : (Unit × Unit × Unit × Unit × Unit × Unit × Int × Int × Unit × Int × Int × Unit)) (e : ((List T_4272cd) × (Int × (Int × (Int × Int))) × T_dd9637 × T_0b0752 × (Int × ((Int × (Int × (Int × (Int × (Int × (Value × ((List Int) × Value))))))) × (Int × Int))) × (List Int) × (List T_c7162a) × Unit)) (G : St → Option (Ex × St)) : roundK Try.prog (E k) 289 3 (subC (bodyOf Try.f11) [1, 1, 1, 1, 1, 1, 0, 1, 0, 0, 1, 1, 0, 0, 1, 0, 1, 0, 1, 0, 1, 1, 1, 1, 0, 0]) (recast cl hn kp) (finBy cl hn kp rc rs ri) G ⟨mkS S d, mkH H e⟩ =
    step (fun x102 => some (.exit 3, KX d e x102)) (fun q0 => some (.ret, RX d e q0)) (fun x102 => G ⟨mkS S ((), (), (), (), (), (), d.2.2.2.2.2.2.1, d.2.2.2.2.2.2.2.1, (), d.2.2.2.2.2.2.2.2.2.1, x102, ()), mkH H (e.1, e.2.1, e.2.2.1, e.2.2.2.1, (e.2.2.2.2.1.1, ((e.2.2.2.2.1.2.1.1, (e.2.2.2.2.1.2.1.2.1, (e.2.2.2.2.1.2.1.2.2.1, (e.2.2.2.2.1.2.1.2.2.2.1, (e.2.2.2.2.1.2.1.2.2.2.2.1, (e.2.2.2.2.1.2.1.2.2.2.2.2.1, (e.2.2.2.2.1.2.1.2.2.2.2.2.2.1, e.2.2.2.2.1.2.1.2.2.2.2.2.2.2))))))), e.2.2.2.2.1.2.2)), e.2.2.2.2.2.1, e.2.2.2.2.2.2.1, ())⟩) k d.2.2.2.2.2.2.1 d.2.2.2.2.2.2.2.1 d.2.2.2.2.2.2.2.2.2.1 e.1 e.2.1 e.2.2.1 e.2.2.2.1 e.2.2.2.2.1.1 e.2.2.2.2.1.2.1.1 e.2.2.2.2.1.2.1.2.1 e.2.2.2.2.1.2.1.2.2.1 e.2.2.2.2.1.2.1.2.2.2.1 e.2.2.2.2.1.2.1.2.2.2.2.1 e.2.2.2.2.1.2.1.2.2.2.2.2.1 e.2.2.2.2.1.2.1.2.2.2.2.2.2.1 e.2.2.2.2.1.2.1.2.2.2.2.2.2.2 e.2.2.2.2.1.2.2 e.2.2.2.2.2.1 e.2.2.2.2.2.2.1 d.2.2.2.2.2.2.2.2.2.2.1 := by kernel_rfl
theorem it (k n : Nat) (d : (Unit × Unit × Unit × Unit × Unit × Unit × Int × Int × Unit × Int × Int × Unit)) (e : ((List T_4272cd) × (Int × (Int × (Int × Int))) × T_dd9637 × T_0b0752 × (Int × ((Int × (Int × (Int × (Int × (Int × (Value × ((List Int) × Value))))))) × (Int × Int))) × (List Int) × (List T_c7162a) × Unit)) : loopIt Try.prog (E k) 289 3 (subC (bodyOf Try.f11) [1, 1, 1, 1, 1, 1, 0, 1, 0, 0, 1, 1, 0, 0, 1, 0, 1, 0, 1, 0, 1, 1, 1, 1, 0, 0]) (recast cl hn kp) (finBy cl hn kp rc rs ri) n ⟨mkS S d, mkH H e⟩ = go (fun x102 => some (.exit 3, KX d e x102)) (fun q0 => some (.ret, RX d e q0)) k d.2.2.2.2.2.2.1 d.2.2.2.2.2.2.2.1 d.2.2.2.2.2.2.2.2.2.1 e.1 e.2.1 e.2.2.1 e.2.2.2.1 e.2.2.2.2.1.1 e.2.2.2.2.1.2.1.1 e.2.2.2.2.1.2.1.2.1 e.2.2.2.2.1.2.1.2.2.1 e.2.2.2.2.1.2.1.2.2.2.1 e.2.2.2.2.1.2.1.2.2.2.2.1 e.2.2.2.2.1.2.1.2.2.2.2.2.1 e.2.2.2.2.1.2.1.2.2.2.2.2.2.1 e.2.2.2.2.1.2.1.2.2.2.2.2.2.2 e.2.2.2.2.1.2.2 e.2.2.2.2.2.1 e.2.2.2.2.2.2.1 n d.2.2.2.2.2.2.2.2.2.2.1 :=
  loopIt_eq (D := (Unit × Unit × Unit × Unit × Unit × Unit × Int × Int × Unit × Int × Int × Unit) × ((List T_4272cd) × (Int × (Int × (Int × Int))) × T_dd9637 × T_0b0752 × (Int × ((Int × (Int × (Int × (Int × (Int × (Value × ((List Int) × Value))))))) × (Int × Int))) × (List Int) × (List T_c7162a) × Unit)) (fun p => ⟨mkS S p.1, mkH H p.2⟩) (fun F p => step (fun x102 => some (.exit 3, KX p.1 p.2 x102)) (fun q0 => some (.ret, RX p.1 p.2 q0)) (fun x102 => F (((), (), (), (), (), (), p.1.2.2.2.2.2.2.1, p.1.2.2.2.2.2.2.2.1, (), p.1.2.2.2.2.2.2.2.2.2.1, x102, ()), (p.2.1, p.2.2.1, p.2.2.2.1, p.2.2.2.2.1, (p.2.2.2.2.2.1.1, ((p.2.2.2.2.2.1.2.1.1, (p.2.2.2.2.2.1.2.1.2.1, (p.2.2.2.2.2.1.2.1.2.2.1, (p.2.2.2.2.2.1.2.1.2.2.2.1, (p.2.2.2.2.2.1.2.1.2.2.2.2.1, (p.2.2.2.2.2.1.2.1.2.2.2.2.2.1, (p.2.2.2.2.2.1.2.1.2.2.2.2.2.2.1, p.2.2.2.2.2.1.2.1.2.2.2.2.2.2.2))))))), p.2.2.2.2.2.1.2.2)), p.2.2.2.2.2.2.1, p.2.2.2.2.2.2.2.1, ()))) k p.1.2.2.2.2.2.2.1 p.1.2.2.2.2.2.2.2.1 p.1.2.2.2.2.2.2.2.2.2.1 p.2.1 p.2.2.1 p.2.2.2.1 p.2.2.2.2.1 p.2.2.2.2.2.1.1 p.2.2.2.2.2.1.2.1.1 p.2.2.2.2.2.1.2.1.2.1 p.2.2.2.2.2.1.2.1.2.2.1 p.2.2.2.2.2.1.2.1.2.2.2.1 p.2.2.2.2.2.1.2.1.2.2.2.2.1 p.2.2.2.2.2.1.2.1.2.2.2.2.2.1 p.2.2.2.2.2.1.2.1.2.2.2.2.2.2.1 p.2.2.2.2.2.1.2.1.2.2.2.2.2.2.2 p.2.2.2.2.2.1.2.2 p.2.2.2.2.2.2.1 p.2.2.2.2.2.2.2.1 p.1.2.2.2.2.2.2.2.2.2.2.1) (fun n p => go (fun x102 => some (.exit 3, KX p.1 p.2 x102)) (fun q0 => some (.ret, RX p.1 p.2 q0)) k p.1.2.2.2.2.2.2.1 p.1.2.2.2.2.2.2.2.1 p.1.2.2.2.2.2.2.2.2.2.1 p.2.1 p.2.2.1 p.2.2.2.1 p.2.2.2.2.1 p.2.2.2.2.2.1.1 p.2.2.2.2.2.1.2.1.1 p.2.2.2.2.2.1.2.1.2.1 p.2.2.2.2.2.1.2.1.2.2.1 p.2.2.2.2.2.1.2.1.2.2.2.1 p.2.2.2.2.2.1.2.1.2.2.2.2.1 p.2.2.2.2.2.1.2.1.2.2.2.2.2.1 p.2.2.2.2.2.1.2.1.2.2.2.2.2.2.1 p.2.2.2.2.2.1.2.1.2.2.2.2.2.2.2 p.2.2.2.2.2.1.2.2 p.2.2.2.2.2.2.1 p.2.2.2.2.2.2.2.1 n p.1.2.2.2.2.2.2.2.2.2.2.1) (fun _ => rfl) (fun _ _ => rfl) (fun G p => round k p.1 p.2 G) n (d, e)
theorem ok (k : Nat) : LoopOK Try.prog 289 (subC (bodyOf Try.f11) [1, 1, 1, 1, 1, 1, 0, 1, 0, 0, 1, 1, 0, 0, 1, 0, 1, 0, 1, 0, 1, 1, 1, 1, 0, 0]) (sum k) :=
  loop_sig hm (fE k) (loopsOK_of [] (by kernel_rfl) trivial) S cl hn kp H 3 (fun (d : (Unit × Unit × Unit × Unit × Unit × Unit × Int × Int × Unit × Int × Int × Unit)) (e : ((List T_4272cd) × (Int × (Int × (Int × Int))) × T_dd9637 × T_0b0752 × (Int × ((Int × (Int × (Int × (Int × (Int × (Value × ((List Int) × Value))))))) × (Int × Int))) × (List Int) × (List T_c7162a) × Unit)) => f k d.2.2.2.2.2.2.1 d.2.2.2.2.2.2.2.1 d.2.2.2.2.2.2.2.2.2.1 e.1 e.2.1 e.2.2.1 e.2.2.2.1 e.2.2.2.2.1.1 e.2.2.2.2.1.2.1.1 e.2.2.2.2.1.2.1.2.1 e.2.2.2.2.1.2.1.2.2.1 e.2.2.2.2.1.2.1.2.2.2.1 e.2.2.2.2.1.2.1.2.2.2.2.1 e.2.2.2.2.1.2.1.2.2.2.2.2.1 e.2.2.2.2.1.2.1.2.2.2.2.2.2.1 e.2.2.2.2.1.2.1.2.2.2.2.2.2.2 e.2.2.2.2.1.2.2 e.2.2.2.2.2.1 e.2.2.2.2.2.2.1 k d.2.2.2.2.2.2.2.2.2.2.1) KX RX cl hn kp rc rs ri k
    (fun d e => (it k k d e).trans (go_nat (exitOf 3 (KX d e) (RX d e)) (fun x102 => some (.inl x102)) (fun q0 => some (.inr q0)) k d.2.2.2.2.2.2.1 d.2.2.2.2.2.2.2.1 d.2.2.2.2.2.2.2.2.2.1 e.1 e.2.1 e.2.2.1 e.2.2.2.1 e.2.2.2.2.1.1 e.2.2.2.2.1.2.1.1 e.2.2.2.2.1.2.1.2.1 e.2.2.2.2.1.2.1.2.2.1 e.2.2.2.2.1.2.1.2.2.2.1 e.2.2.2.2.1.2.1.2.2.2.2.1 e.2.2.2.2.1.2.1.2.2.2.2.2.1 e.2.2.2.2.1.2.1.2.2.2.2.2.2.1 e.2.2.2.2.1.2.1.2.2.2.2.2.2.2 e.2.2.2.2.1.2.2 e.2.2.2.2.2.1 e.2.2.2.2.2.2.1 k d.2.2.2.2.2.2.2.2.2.2.1).symm)
end l3
namespace l0
theorem round (k : Nat) (d : (Unit × Unit × Unit × Unit × Int × Int × Unit)) (e : ((List T_4272cd) × (Int × (Int × (Int × Int))) × T_dd9637 × T_0b0752 × Unit)) (G : St → Option (Ex × St)) : roundK Try.prog (E k) 289 0 (subC (bodyOf Try.f11) [1, 1, 1, 1, 1, 1, 0, 1, 0, 0]) (recast cl hn kp) (finBy cl hn kp rc rs ri) G ⟨mkS S d, mkH H e⟩ =
    step (fun x68 y800002 y800003 => some (.exit 0, KX d e (x68, y800002, y800003))) (fun q0 => some (.ret, RX d e q0)) (fun x68 y800002 y800003 => G ⟨mkS S ((), (), (), (), d.2.2.2.2.1, x68, ()), mkH H (e.1, e.2.1, y800002, y800003, ())⟩) k d.2.2.2.2.1 e.1 e.2.1 d.2.2.2.2.2.1 e.2.2.1 e.2.2.2.1 := by kernel_rfl
theorem it (k n : Nat) (d : (Unit × Unit × Unit × Unit × Int × Int × Unit)) (e : ((List T_4272cd) × (Int × (Int × (Int × Int))) × T_dd9637 × T_0b0752 × Unit)) : loopIt Try.prog (E k) 289 0 (subC (bodyOf Try.f11) [1, 1, 1, 1, 1, 1, 0, 1, 0, 0]) (recast cl hn kp) (finBy cl hn kp rc rs ri) n ⟨mkS S d, mkH H e⟩ = go (fun x68 y800002 y800003 => some (.exit 0, KX d e (x68, y800002, y800003))) (fun q0 => some (.ret, RX d e q0)) k d.2.2.2.2.1 e.1 e.2.1 n d.2.2.2.2.2.1 e.2.2.1 e.2.2.2.1 :=
  loopIt_eq (D := (Unit × Unit × Unit × Unit × Int × Int × Unit) × ((List T_4272cd) × (Int × (Int × (Int × Int))) × T_dd9637 × T_0b0752 × Unit)) (fun p => ⟨mkS S p.1, mkH H p.2⟩) (fun F p => step (fun x68 y800002 y800003 => some (.exit 0, KX p.1 p.2 (x68, y800002, y800003))) (fun q0 => some (.ret, RX p.1 p.2 q0)) (fun x68 y800002 y800003 => F (((), (), (), (), p.1.2.2.2.2.1, x68, ()), (p.2.1, p.2.2.1, y800002, y800003, ()))) k p.1.2.2.2.2.1 p.2.1 p.2.2.1 p.1.2.2.2.2.2.1 p.2.2.2.1 p.2.2.2.2.1) (fun n p => go (fun x68 y800002 y800003 => some (.exit 0, KX p.1 p.2 (x68, y800002, y800003))) (fun q0 => some (.ret, RX p.1 p.2 q0)) k p.1.2.2.2.2.1 p.2.1 p.2.2.1 n p.1.2.2.2.2.2.1 p.2.2.2.1 p.2.2.2.2.1) (fun _ => rfl) (fun _ _ => rfl) (fun G p => round k p.1 p.2 G) n (d, e)
theorem ok (k : Nat) : LoopOK Try.prog 289 (subC (bodyOf Try.f11) [1, 1, 1, 1, 1, 1, 0, 1, 0, 0]) (sum k) :=
  loop_sig hm (fE k) (loopsOK_of [(3, subC (bodyOf Try.f11) [1, 1, 1, 1, 1, 1, 0, 1, 0, 0, 1, 1, 0, 0, 1, 0, 1, 0, 1, 0, 1, 1, 1, 1, 0, 0])] (by kernel_rfl) ⟨of_loop (l3.sum k) rfl (l3.ok k), trivial⟩) S cl hn kp H 0 (fun (d : (Unit × Unit × Unit × Unit × Int × Int × Unit)) (e : ((List T_4272cd) × (Int × (Int × (Int × Int))) × T_dd9637 × T_0b0752 × Unit)) => f k d.2.2.2.2.1 e.1 e.2.1 k d.2.2.2.2.2.1 e.2.2.1 e.2.2.2.1) KX RX cl hn kp rc rs ri k
    (fun d e => (it k k d e).trans (go_nat (exitOf 0 (KX d e) (RX d e)) (fun x68 y800002 y800003 => some (.inl (x68, y800002, y800003))) (fun q0 => some (.inr q0)) k d.2.2.2.2.1 e.1 e.2.1 k d.2.2.2.2.2.1 e.2.2.1 e.2.2.2.1).symm)
end l0
theorem run (k : Nat) (d : ((Int × (Int × (Int × Int))) × Bool × Int × Unit × Unit)) (e : ((List T_4272cd) × Unit)) : runFn Try.prog (E k) 289 (bodyOf Try.f11) Try.f11.results.toList cl hn hi (mkL ps d) (mkH hs e) =
    tree (fun b0 => leafFn hs fi e val wr b0) k d.1 d.2.1 d.2.2.1 e.1 := by kernel_rfl
theorem run_f (k : Nat) (d : ((Int × (Int × (Int × Int))) × Bool × Int × Unit × Unit)) (e : ((List T_4272cd) × Unit)) : runFn Try.prog (E k) 289 (bodyOf Try.f11) Try.f11.results.toList cl hn hi (mkL ps d) (mkH hs e) = (f k d.1 d.2.1 d.2.2.1 e.1).bind (leafFn hs fi e val wr) :=
  (run k d e).trans (tree_nat (leafFn hs fi e val wr) (fun b0 => some b0) k d.1 d.2.1 d.2.2.1 e.1).symm
theorem fnIs : FnIs Try.prog 11 Try.f11 (bodyOf Try.f11) 289 := ⟨by kernel_rfl, by kernel_rfl, by kernel_rfl, by kernel_rfl⟩
theorem ok (k : Nat) : CalleeOK Try.prog 11 (callee k) :=
  callee_sig (T := Bool) fnIs hm (fE k) (loopsOK_of [(0, subC (bodyOf Try.f11) [1, 1, 1, 1, 1, 1, 0, 1, 0, 0])] (by kernel_rfl) ⟨of_loop (l0.sum k) rfl (l0.ok k), trivial⟩) ps hs cl hn fi (fun (d : ((Int × (Int × (Int × Int))) × Bool × Int × Unit × Unit)) (e : ((List T_4272cd) × Unit)) => f k d.1 d.2.1 d.2.2.1 e.1) val wr rfl (fun _ => rfl) (run_f k)
end trailheadlaw21_ShakeDoes
end Go.Proofs.Ytodjcmbkbijliaa.Sy
