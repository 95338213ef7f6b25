/- A package's variables that a row lists: what the model holds there, as entries. -/
import Derived.Test.YtkgpjplncfginaaGreatDoorSy21
import Derived.LaidMore
import Derived.Lay
import Derived.MakeChecks
namespace Go.Proofs.YtkgpjplncfginaaGreatDoor.Sy
open Go Go.ChangeShapes Go.WideShapes Go.ChangeAt Go.RowKit
set_option linter.unusedVariables false
set_option linter.unusedSimpArgs false

/-- A variable that holds a datum. -/
def GlobAt (w : World) (g : Nat) (t : Ty) (x : t.den) : Prop := ∃ cs, DR (zOf w) t x cs ∧ ∀ j u, cs[j]? = some u → w.cell? ⟨g, j, none⟩ = some u

theorem GlobAt.ent {w : World} {g : Nat} {t : Ty} {x : t.den} (h : GlobAt w g t x) {B : Bz} {i : Nat} (hz : B.z = zOf w) (hB : B i = .pointer (some ⟨g, 0, none⟩)) : EntR B i w (.glob g t x) := by
  obtain ⟨cs, h1, h2⟩ := h
  exact ⟨hB, cs, by rw [hz]; exact h1, fun j u hj => by rw [hz]; exact h2 j u hj⟩

theorem glob_array {P : Program} {w : World} {name : String} {g n : Nat} {t e : TypeId} {k : IntKind} {cs : Array Value} {xs : List Int} {fuel : Nat} {sp : Nat → Bool} {held : Bool} {p : List MemPlace}
    (hg : P.globalNamed name = some g) (hv : w.var? P name = some cs) (ht : P.underlying t = some (.array n e)) (he : P.underlying e = some (.int k)) (hc : P.cellsOf e = 1) (hct : P.cellsOf t = n) (hl : xs.length = n) (hn : 0 < n)
    (hd : DataW.trod (fun _ => ()) P w 0 sp held fuel t cs.toList = some (.agg (xs.map fun x => .lit (.int k x)), p)) : GlobAt w g (.arr k n) xs := by
  obtain ⟨ys, m, _, ex, hcl, hyl, hel⟩ := DataW.trod_array ht hd
  have e3 : ys.map (·.1) = xs.map fun x => (DataW.lit (.int k x) : DataW Unit) := (DataW.agg.inj (Prod.mk.inj ex).1).symm
  have cell : ∀ j, j < n → w.cell? ⟨g, j, none⟩ = some (.int k (xs.getD j 0)) := by
    intro j hj
    have hE := hel j hj
    rw [hc, Nat.mul_one, List.getElem?_eq_getElem (by omega)] at hE
    obtain ⟨z, e1, e2, _⟩ := DataW.trod_int he hE
    have e4 : (ys.map (·.1))[j]? = (xs.map fun x => (DataW.lit (.int k x) : DataW Unit))[j]? := by rw [e3]
    rw [List.getElem?_map, List.getElem?_map, List.getElem?_eq_getElem (by omega : j < ys.length), List.getElem?_eq_getElem (by omega : j < xs.length), e2] at e4
    have hz : z = xs.getD j 0 := by
      simp only [Option.map_some, Option.some.injEq, DataW.lit.injEq, Lit.int.injEq, true_and] at e4
      rw [e4, List.getD, List.getElem?_eq_getElem (by omega : j < xs.length)]; rfl
    rw [World.var?_cell hg hv j, ← hz]
    have : cs.toList[j]? = some (.int k z) := by
      have h0 : ((cs.toList.drop j).take 1)[0]? = some (.int k z) := by rw [e1]; rfl
      simpa using h0
    simpa using this
  refine ⟨xs.map (Value.int k), ⟨hl, rfl⟩, fun j u hj2 => ?_⟩
  have hjn : j < n := by
    have := (List.getElem?_eq_some_iff.1 hj2).1
    rw [List.length_map] at this
    omega
  rw [List.getElem?_map, List.getElem?_eq_getElem (by omega : j < xs.length)] at hj2
  rw [cell j hjn, ← hj2, List.getD, List.getElem?_eq_getElem (by omega : j < xs.length)]
  rfl

theorem DR_of_strs {z : Frz} : ∀ (t : Ty) (x : t.den), allStr t = true → (∀ s ∈ strsL t x, byteL s) → DR z t x ((strsL t x).map fun s => Value.string (bst s))
  | .str, s, _, h => ⟨h s (List.mem_singleton.2 rfl), rfl⟩
  | .pair a b, x, hs, h => by
    simp only [allStr, Bool.and_eq_true] at hs
    simp only [strsL, List.map_append]
    exact ⟨_, _, rfl, DR_of_strs a x.1 hs.1 (fun s hm => h s (List.mem_append_left _ hm)), DR_of_strs b x.2 hs.2 (fun s hm => h s (List.mem_append_right _ hm))⟩
  | .int _, _, h, _ => by cases h
  | .bool, _, h, _ => by cases h
  | .arr _ _, _, h, _ => by cases h
  | .opq, _, h, _ => by cases h
  | .one _, _, h, _ => by cases h
  | .row _ _, _, h, _ => by cases h

def litS (s : List Int) : DataW Unit := .lit (.string (s.map fun n => UInt8.ofNat n.toNat))
def bytesB (l : List (List Int)) : Bool := l.all fun s => s.all fun y => decide (0 ≤ y) && decide (y < 256)

theorem glob_strs {P : Program} {w : World} {name : String} {g n : Nat} {t e : TypeId} {cs : Array Value} {ty : Ty} {x : ty.den} {l : List (List Int)} {D : DataW Unit} {fuel : Nat} {sp : Nat → Bool} {held : Bool} {p : List MemPlace}
    (hg : P.globalNamed name = some g) (hv : w.var? P name = some cs) (ht : P.underlying t = some (.array n e)) (he : P.underlying e = some .string) (hc : P.cellsOf e = 1)
    (hs : allStr ty = true) (hx : strsL ty x = l) (hl : l.length = n) (hb : bytesB l = true) (hD : D = .agg (l.map litS))
    (hd : DataW.trod (fun _ => ()) P w 0 sp held fuel t cs.toList = some (D, p)) : GlobAt w g ty x := by
  subst hD
  obtain ⟨ys, m, _, ex, hcl, hyl, hel⟩ := DataW.trod_array ht hd
  have e3 : ys.map (·.1) = l.map litS := (DataW.agg.inj (Prod.mk.inj ex).1).symm
  have hbl : ∀ s ∈ l, byteL s := fun s hm y hy => by
    have := List.all_eq_true.1 (List.all_eq_true.1 hb s hm) y hy
    simpa using this
  have cell : ∀ j s, l[j]? = some s → w.cell? ⟨g, j, none⟩ = some (.string (bst s)) := by
    intro j s hj
    have hlt := (List.getElem?_eq_some_iff.1 hj).1
    have hE := hel j (by omega)
    rw [hc, Nat.mul_one, List.getElem?_eq_getElem (by omega)] at hE
    obtain ⟨z, e1, e2, _⟩ := DataW.trod_string he hE
    have e4 : (ys.map (·.1))[j]? = (l.map litS)[j]? := by rw [e3]
    rw [List.getElem?_map, List.getElem?_map, List.getElem?_eq_getElem (by omega : j < ys.length), hj, e2] at e4
    have hz : z = bst s := by
      simp only [Option.map_some, Option.some.injEq, litS, DataW.lit.injEq, Lit.string.injEq] at e4
      apply ByteArray.ext
      apply Array.toList_inj.1
      rw [e4]; rfl
    rw [World.var?_cell hg hv j, ← hz]
    have : cs.toList[j]? = some (.string z) := by
      have h0 : ((cs.toList.drop j).take 1)[0]? = some (.string z) := by rw [e1]; rfl
      simpa using h0
    simpa using this
  refine ⟨_, DR_of_strs ty x hs (by rw [hx]; exact hbl), fun j u hj => ?_⟩
  rw [hx, List.getElem?_map] at hj
  cases hq : l[j]? with
  | none => rw [hq] at hj; cases hj
  | some s =>
    rw [hq] at hj
    cases hj
    exact cell j s hq

end Go.Proofs.YtkgpjplncfginaaGreatDoor.Sy
