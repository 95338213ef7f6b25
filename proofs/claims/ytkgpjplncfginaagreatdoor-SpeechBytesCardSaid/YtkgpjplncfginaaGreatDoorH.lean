/- Facts on the whole program that every row of this seat asks. Printed by head.py. -/
import Derived.Test.YtkgpjplncfginaaGreatDoorRows
import Derived.ProofKit
namespace Go.Proofs.YtkgpjplncfginaaGreatDoor.Sy
open Go Go.Proofs
set_option maxRecDepth 100000
set_option linter.unusedVariables false
set_option linter.unusedSimpArgs false
def headNats : List Nat := [104, 97, 114, 110, 101, 115, 115, 32, 49, 51, 99, 100, 54, 100, 100, 52, 102, 48, 49, 57, 50, 57, 56, 51, 57, 53, 49, 49, 51, 55, 48, 49, 50, 53, 49, 97, 53, 57, 101, 52, 100, 102, 97, 48, 101, 55, 49, 100, 49, 101, 100, 50, 100, 100, 48, 51, 99, 56, 55, 54, 52, 54, 97, 57, 50, 100, 100, 100, 56, 53, 98, 97, 32, 99, 117, 116, 32, 97, 116, 32, 116, 114, 97, 105, 108, 104, 101, 97, 100, 47, 116, 114, 97, 105, 108, 104, 101, 97, 100, 108, 97, 119, 48, 56, 46, 83, 112, 101, 101, 99, 104, 66, 121, 116, 101, 115]
def headChars : List Char := headNats.map Char.ofNat
theorem io0 : Tryz.prog.initOrder = String.ofList headChars := by kernel_rfl
theorem io1 : Tryz.prog.initOrder.toList = headChars := by rw [io0]; exact String.toList_ofList
theorem own0 : ownKnob Tryz.prog.godebug = none := by kernel_rfl
theorem laid0 : laidOutB Tryz.prog = true := by kernel_rfl
theorem norace0 : Tryz.prog.funcs.all (fun fn => !fn.norace) = true := by kernel_rfl
theorem heard0 : Tryz.prog.stopsHeard = true := by
  have h := norace0
  unfold Program.stopsHeard
  rw [Array.all_eq_true] at h ⊢
  intro i hi
  have := h i hi
  rw [this, Bool.or_true]
def cutW : List Char := [99, 117, 116].map Char.ofNat
def restW : List (List Char) := [[97, 116], [116, 114, 97, 105, 108, 104, 101, 97, 100, 47, 116, 114, 97, 105, 108, 104, 101, 97, 100, 108, 97, 119, 48, 56, 46, 83, 112, 101, 101, 99, 104, 66, 121, 116, 101, 115]].map fun w => w.map Char.ofNat
theorem words0 : behindMainWord (wordsSigns headChars) = cutW :: restW := by kernel_rfl
theorem strip0 : stripLifts liftWords (cutW :: restW) = ([], cutW :: restW) := by kernel_rfl
theorem later0 : Tryz.prog.laysLater = false := by kernel_rfl
theorem reflect0 : Tryz.prog.bearsReflect = false := by kernel_rfl
theorem door0 : Tryz.prog.doorFits [] = true := by kernel_rfl
theorem mayEnter_of (P : Program) (L w : List Char) (r : List (List Char)) (h1 : P.initOrder.toList = L) (h2 : behindMainWord (wordsSigns L) = w :: r) (h3 : stripLifts liftWords (w :: r) = ([], w :: r))
    (h4 : P.laysLater = false) (h5 : P.bearsReflect = false) (h6 : P.doorFits [] = true) (h7 : (some w == some "cut".toList) = true) : P.mayEnter = true := by
  unfold Program.mayEnter
  rw [h1, h2]
  simp only [h3, h4, h5, h6, List.head?_cons, h7]
  simp
theorem liftsFinal_of (P : Program) (L w : List Char) (r : List (List Char)) (h1 : P.initOrder.toList = L) (h2 : behindMainWord (wordsSigns L) = w :: r) (h3 : stripLifts liftWords (w :: r) = ([], w :: r))
    (h7 : (some w == some "cut".toList) = true) (h8 : (some w == some "carried".toList) = false) : P.liftsFinal = false := by
  unfold Program.liftsFinal Program.headLifts
  rw [h1, h2]
  simp only [h3, List.head?_cons, h7, h8]
  simp
theorem make_of (P : Program) (L w : List Char) (r : List (List Char)) (h1 : P.initOrder.toList = L) (h2 : behindMainWord (wordsSigns L) = w :: r) (h3 : (w == "gc".toList) = false) (h4 : (w == "spec".toList) = false)
    (h5 : (w == "cut".toList) = true) : P.make = some .cut := by
  unfold Program.make
  rw [h1, h2]
  simp only [h3, h4, h5]
  simp
theorem make0 : Tryz.prog.make = some .cut := make_of _ _ _ _ io1 words0 (by kernel_rfl) (by kernel_rfl) (by kernel_rfl)
theorem cut0 : (some cutW == some "cut".toList) = true := by kernel_rfl
theorem carried0 : (some cutW == some "carried".toList) = false := by kernel_rfl
theorem enter0 : Tryz.prog.mayEnter = true := mayEnter_of _ _ _ _ io1 words0 strip0 later0 reflect0 door0 cut0
theorem lifts0 : Tryz.prog.liftsFinal = false := liftsFinal_of _ _ _ _ io1 words0 strip0 cut0 carried0
theorem rowed0 : mapsRowed Tryz.prog = true := by kernel_rfl
end Go.Proofs.YtkgpjplncfginaaGreatDoor.Sy
