/- A package's variables that a row lists: what the model holds there, as entries. -/
import Derived.Test.YtkcdbbflelgbeaaDoorSy21
import Derived.LaidMore
import Derived.Lay
import Derived.MakeChecks
namespace Go.Proofs.YtkcdbbflelgbeaaDoor.Sy
open Go Go.ChangeShapes Go.WideShapes Go.ChangeAt Go.RowKit
set_option linter.unusedVariables false
set_option linter.unusedSimpArgs false

/-- A variable that holds a datum. -/
def GlobAt (w : World) (g : Nat) (t : Ty) (x : t.den) : Prop := g < w.heap.size ∧ wfT t x ∧ ∀ j u, (cellsT t x)[j]? = some u → w.cell? ⟨g, j, none⟩ = some u

theorem GlobAt.ent {w : World} {g : Nat} {t : Ty} {x : t.den} (h : GlobAt w g t x) {B : Nat → Value} {i : Nat} (hB : B i = .pointer (some ⟨g, 0, none⟩)) : EntR B i w (.glob g t x) := ⟨hB, h⟩

theorem glob_array {P : Program} {w : World} {name : String} {g n : Nat} {t e : TypeId} {k : IntKind} {cs : Array Value} {xs : List Int} {fuel : Nat} {sp : Nat → Bool} {held : Bool} {p : List MemPlace}
    (hg : P.globalNamed name = some g) (hv : w.var? P name = some cs) (ht : P.underlying t = some (.array n e)) (he : P.underlying e = some (.int k)) (hc : P.cellsOf e = 1) (hct : P.cellsOf t = n) (hl : xs.length = n) (hn : 0 < n)
    (hd : DataW.trod (fun _ => ()) P w 0 sp held fuel t cs.toList = some (.agg (xs.map fun x => .lit (.int k x)), p)) : GlobAt w g (.arr k n) xs := by
  obtain ⟨ys, m, _, ex, hcl, hyl, hel⟩ := DataW.trod_array ht hd
  have e3 : ys.map (·.1) = xs.map fun x => (DataW.lit (.int k x) : DataW Unit) := (DataW.agg.inj (Prod.mk.inj ex).1).symm
  have cell : ∀ j, j < n → w.cell? ⟨g, j, none⟩ = some (.int k (xs.getD j 0)) := by
    intro j hj
    have hE := hel j hj
    rw [hc, Nat.mul_one, List.getElem?_eq_getElem (by omega)] at hE
    obtain ⟨z, e1, e2, _⟩ := DataW.trod_int he hE
    have e4 : (ys.map (·.1))[j]? = (xs.map fun x => (DataW.lit (.int k x) : DataW Unit))[j]? := by rw [e3]
    rw [List.getElem?_map, List.getElem?_map, List.getElem?_eq_getElem (by omega : j < ys.length), List.getElem?_eq_getElem (by omega : j < xs.length), e2] at e4
    have hz : z = xs.getD j 0 := by
      simp only [Option.map_some, Option.some.injEq, DataW.lit.injEq, Lit.int.injEq, true_and] at e4
      rw [e4, List.getD, List.getElem?_eq_getElem (by omega : j < xs.length)]; rfl
    rw [World.var?_cell hg hv j, ← hz]
    have : cs.toList[j]? = some (.int k z) := by
      have h0 : ((cs.toList.drop j).take 1)[0]? = some (.int k z) := by rw [e1]; rfl
      simpa using h0
    simpa using this
  refine ⟨(cell_spot (cell 0 hn)).2, hl, fun j u hj => ?_⟩
  have hjn : j < n := by
    have := (List.getElem?_eq_some_iff.1 hj).1
    rw [length_cellsT (.arr k n) xs hl] at this
    exact this
  have hj2 : (List.map (Value.int k) xs)[j]? = some u := hj
  rw [List.getElem?_map, List.getElem?_eq_getElem (by omega : j < xs.length)] at hj2
  rw [cell j hjn, ← hj2, List.getD, List.getElem?_eq_getElem (by omega : j < xs.length)]
  rfl

end Go.Proofs.YtkcdbbflelgbeaaDoor.Sy
