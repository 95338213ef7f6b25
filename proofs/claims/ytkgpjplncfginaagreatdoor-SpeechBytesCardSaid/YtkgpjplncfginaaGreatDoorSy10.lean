/- Each operation of the machine Sy: what it does, that its continuation is only called, and that it looks at little. -/
import Derived.Test.YtkgpjplncfginaaGreatDoorSy9
namespace Go.Proofs.YtkgpjplncfginaaGreatDoor.Sy
open Go
set_option linter.unusedVariables false
set_option linter.unusedSimpArgs false

theorem All2_map {α β γ : Type} {R : α → γ → Prop} {f : β → γ} : ∀ {as : List α} {bs : List β}, All2 R as (bs.map f) → All2 (fun a b => R a (f b)) as bs
  | [], [], _ => trivial
  | [], _ :: _, h => h.elim
  | _ :: _, [], h => h.elim
  | _ :: _, _ :: _, ⟨h1, h2⟩ => ⟨h1, All2_map h2⟩

/-! ### A continuation is only called -/
section
variable {R : Type}

theorem bind_bif {α : Type} (c : Bool) (x y : Option α) (K : α → Option R) : (bif c then x else y).bind K = bif c then x.bind K else y.bind K := by cases c <;> rfl

theorem comp_nat {A B : Type} {X : (R : Type) → (A → Option R) → Option R} (h : ∀ (R : Type) (K : A → Option R), X R K = (X A some).bind K) (f : A → B) (K : B → Option R) :
    X R (fun z => K (f z)) = (X B (fun z => some (f z))).bind K := by
  rw [h R, h B, Option.bind_assoc]; rfl

theorem comp_nat2 {A B : Type} {X : (R : Type) → (A → Option R) → Option R} (h : ∀ (R : Type) (K : A → Option R), X R K = (X A some).bind K) {Y : (R : Type) → A → (B → Option R) → Option R} (hy : ∀ (R : Type) (z : A) (K : B → Option R), Y R z K = (Y B z some).bind K) (K : B → Option R) :
    X R (fun z => Y R z K) = (X B (fun z => Y B z some)).bind K := by
  rw [h R, h B, Option.bind_assoc]
  congr 1
  funext z
  exact hy R z K

theorem rowK_nat (H : Heap) (d : Option Nat) (u : AV) (rd : List Nat) (K : Eff → Option R) : rowK H d u rd K = (rowK H d u rd some).bind K := by
  unfold rowK
  split
  · split
    · split <;> rfl
    · rfl
  · rfl

theorem partK_nat (v : AV) (st : Nat) (dys : List (Nat × Nat)) (n : Nat) (g : Bool) (K : AV → Option R) : partK v st dys n g K = (partK v st dys n g some).bind K := by
  unfold partK
  split
  · split <;> rfl
  · rw [bind_bif]
    split
    · rw [bind_bif]; rfl
    · rfl
  · rfl

theorem globK_nat (t : Ty) (x : t.den) (st : Nat) (dys : List (Nat × Nat)) (n : Nat) (g : Bool) (K : AV → Option R) : globK t x st dys n g K = (globK t x st dys n g some).bind K := by
  unfold globK
  split
  · rw [bind_bif, ← partK_nat, bind_bif, bind_bif]; rfl
  · exact partK_nat ..

theorem loadE_nat (e : Ent) (st : Nat) (dys : List (Nat × Nat)) (n : Nat) (g : Bool) (K : AV → Option R) : loadE e st dys n g K = (loadE e st dys n g some).bind K := by
  unfold loadE
  split
  · exact partK_nat ..
  · split
    · rw [bind_bif, bind_bif, ← partK_nat]; rfl
    · rfl
  all_goals first | rfl | exact globK_nat .. | exact partK_nat ..

theorem putK_nat (v : AV) (st : Nat) (dys : List (Nat × Nat)) (u : AV) (K : AV → Option R) : putK v st dys u K = (putK v st dys u some).bind K := by
  unfold putK
  split
  · split <;> rfl
  · split
    · rw [bind_bif]
      split
      · rw [bind_bif, bind_bif]
        split <;> rfl
      · rfl
    · rfl
  · rfl

theorem storeE_nat (e : Ent) (st : Nat) (dys : List (Nat × Nat)) (u : AV) (K : Ent → Option R) : storeE e st dys u K = (storeE e st dys u some).bind K := by
  unfold storeE
  split
  · rw [putK_nat, putK_nat (K := fun v' => some (Ent.cell v')), Option.bind_assoc]; rfl
  · split
    · rw [bind_bif]
      split
      · rw [bind_bif]; rfl
      · rfl
    · rfl
  all_goals rfl

theorem intBin_nat (op : BinOp) (k : IntKind) (x y : Int) (K : AV → Option R) : intBin op k x y K = (intBin op k x y some).bind K := by
  cases op <;> simp only [intBin] <;> first | rfl | (rw [bind_bif]; rfl)

theorem shiftBin_nat (op : BinOp) (k : IntKind) (x y : Int) (K : AV → Option R) : shiftBin op k x y K = (shiftBin op k x y some).bind K := by
  cases op <;> simp only [shiftBin] <;> first | rfl | (rw [bind_bif]; rfl)

theorem bif2 {A : Type} {c : Bool} {x y : Option A} {x' y' : Option R} {K : A → Option R} (h1 : x' = x.bind K) (h2 : y' = y.bind K) : (bif c then x' else y') = (bif c then x else y).bind K := by
  cases c
  · exact h2
  · exact h1

theorem binK_nat (P : Program) (op : BinOp) (t : TypeId) (x y : AV) (K : AV → Option R) : binK P op t x y K = (binK P op t x y some).bind K := by
  unfold binK
  split
  · split
    · split
      · exact shiftBin_nat ..
      · exact shiftBin_nat ..
      · rw [bind_bif, ← intBin_nat]; rfl
    · rfl
  · repeat' (first | rfl | refine bif2 ?_ ?_ | split)
  · repeat' (first | rfl | refine bif2 ?_ ?_ | split)

theorem unK_nat (op : UnOp) (x : AV) (K : AV → Option R) : unK op x K = (unK op x some).bind K := by
  unfold unK
  split <;> first | rfl | (split <;> rfl)

theorem bytesK_nat (P : Program) (H : Heap) (e : TypeId) (x : AV) (K : List Int → Option R) : bytesK P H e x K = (bytesK P H e x some).bind K := by
  unfold bytesK
  repeat' (first | rfl | refine bif2 ?_ ?_ | split)

theorem convK_nat (P : Program) (H : Heap) (s d : TypeId) (x : AV) (K : Eff → Option R) : convK P H s d x K = (convK P H s d x some).bind K := by
  unfold convK
  split
  · repeat' (first | rfl | refine bif2 ?_ ?_ | split)
  · split
    · split
      · split
        · refine bif2 ?_ rfl
          exact comp_nat (X := fun _ K => bytesK P H _ x K) (fun _ K => bytesK_nat ..) (fun xs => (⟨.str (toStr xs), [], x.ids⟩ : Eff)) K
        · rfl
      · rfl
    · rfl

theorem fieldK_nat (P : Program) (s : TypeId) (x : AV) (f : Nat) (K : AV → Option R) : fieldK P s x f K = (fieldK P s x f some).bind K := by
  unfold fieldK
  split
  · split
    · split
      · split
        · rw [bind_bif]; rfl
        · rfl
      · rfl
    · rfl
  · rfl

theorem indexK_nat (P : Program) (H : Heap) (t : TypeId) (x i : AV) (K : Eff → Option R) : indexK P H t x i K = (indexK P H t x i some).bind K := by
  unfold indexK
  split
  · split
    · split
      · split
        · rw [bind_bif, bind_bif]; rfl
        · rfl
      · split
        · rw [bind_bif, bind_bif]; rfl
        · rfl
      · rfl
    · split
      · split
        · split
          · rw [bind_bif, bind_bif]; rfl
          · rfl
        · rfl
      · rfl
    · rfl
  · rfl

theorem indexVK_nat (P : Program) (t : TypeId) (x i : AV) (K : AV → Option R) : indexVK P t x i K = (indexVK P t x i some).bind K := by
  unfold indexVK
  split
  · split
    · split
      · split
        · split
          · rw [bind_bif, bind_bif, bind_bif]; rfl
          · rfl
        · rfl
      · split
        · split
          · split
            · rw [bind_bif, bind_bif, bind_bif]; rfl
            · rfl
          · rfl
        · rfl
      · rfl
    · split
      · rw [bind_bif, bind_bif]; rfl
      · rfl
    · rfl
  · rfl

theorem fieldVK_nat (P : Program) (s : TypeId) (x : AV) (f : Nat) (K : AV → Option R) : fieldVK P s x f K = (fieldVK P s x f some).bind K := by
  unfold fieldVK
  repeat' (first | rfl | refine bif2 ?_ ?_ | split)

theorem boundsK_nat {A : Type} (n : Nat) (lo hi : Option Int) (X : Option A) (K : A → Option R) : boundsK n lo hi (X.bind K) = (boundsK n lo hi X).bind K := by
  unfold boundsK
  repeat' (first | rfl | refine bif2 ?_ ?_ | split)

theorem boundsK_bind {A : Type} {n : Nat} {lo hi : Option Int} {X : Option A} {Y : Option R} {K : A → Option R} (h : Y = X.bind K) : boundsK n lo hi Y = (boundsK n lo hi X).bind K := by
  rw [h]; exact boundsK_nat ..

theorem sliceK_nat (P : Program) (H : Heap) (d : Option Nat) (t : TypeId) (x : AV) (lo hi : Option AV) (K : Eff → Option R) : sliceK P H d t x lo hi K = (sliceK P H d t x lo hi some).bind K := by
  unfold sliceK
  repeat' (first | rfl | refine bif2 ?_ ?_ | refine boundsK_bind ?_ | split)

theorem sliceG_nat (P : Program) (E : Env) (H : Heap) (d : Option Nat) (t : TypeId) (gg : Nat) (lo hi : Option AV) (K : Eff → Option R) : sliceG P E H d t gg lo hi K = (sliceG P E H d t gg lo hi some).bind K := by
  unfold sliceG
  repeat' (first | rfl | refine bif2 ?_ ?_ | refine boundsK_bind ?_ | split)

theorem newsK_nat (P : Program) (H : Heap) (e u : TypeId) (ty : Ty) (x : AV) (K : List ty.den → Option R) : newsK P H e u ty x K = (newsK P H e u ty x some).bind K := by
  unfold newsK
  split
  · rfl
  · repeat' (first | rfl | refine bif2 ?_ ?_ | split)
  · split
    · split
      · cases ty <;> first | rfl | (rename_i k; cases k <;> rfl)
      · rfl
    · rfl
  · split
    · split
      · split
        · refine bif2 ?_ rfl
          cases ty <;> first | rfl | exact bif2 rfl rfl
        · rfl
      · rfl
    · rfl
  · rfl

theorem appendK_nat (P : Program) (H : Heap) (d : Option Nat) (t u : TypeId) (s x : AV) (K : Eff → Option R) : appendK P H d t u s x K = (appendK P H d t u s x some).bind K := by
  unfold appendK
  split
  · split
    · split
      · split
        · refine bif2 ?_ rfl
          rw [newsK_nat, newsK_nat (R := Eff), Option.bind_assoc]
          congr 1
          funext ys
          repeat' (first | rfl | refine bif2 ?_ ?_ | split)
        · rfl
      · rfl
    · rfl
  · rfl

theorem copyK_nat (P : Program) (H : Heap) (t : TypeId) (x y : AV) (K : Eff → Option R) : copyK P H t x y K = (copyK P H t x y some).bind K := by
  unfold copyK
  repeat' (first | rfl | refine bif2 ?_ ?_ | split)

theorem makeSliceK_nat (P : Program) (H : Heap) (d : Option Nat) (t : TypeId) (x y : AV) (K : Eff → Option R) : makeSliceK P H d t x y K = (makeSliceK P H d t x y some).bind K := by
  unfold makeSliceK
  repeat' (first | rfl | refine bif2 ?_ ?_ | split)

theorem rangeK_nat (P : Program) (H : Heap) (d : Option Nat) (t : TypeId) (x : AV) (K : Eff → Option R) : rangeK P H d t x K = (rangeK P H d t x some).bind K := by
  unfold rangeK
  repeat' (first | rfl | refine bif2 ?_ ?_ | split)

theorem nextK_nat (H : Heap) (x : AV) (K : Eff → Option R) : nextK H x K = (nextK H x some).bind K := by
  unfold nextK
  repeat' (first | rfl | refine bif2 ?_ ?_ | split)

theorem builtinK_nat (P : Program) (H : Heap) (d : Option Nat) (b : Builtin) (ts : List TypeId) (args : List AV) (K : Eff → Option R) : builtinK P H d b ts args K = (builtinK P H d b ts args some).bind K := by
  unfold builtinK
  split
  · split
    · split
      · split
        · split <;> rfl
        · split
          · rfl
          · split <;> rfl
          · rw [Option.bind_assoc]; rfl
          · rfl
        · rfl
      · rfl
    · rfl
  · split
    · split <;> rfl
    · rfl
  · split
    · split <;> rfl
    · rfl
  · split
    · exact appendK_nat ..
    · rfl
  · split
    · exact copyK_nat ..
    · rfl
  · rfl

theorem callK_nat (E : Env) (H : Heap) (d : Option Nat) (f : FuncId) (args : List AV) (K : Eff → Option R) : callK E H d f args K = (callK E H d f args some).bind K := by
  unfold callK
  simp only
  split
  · split
    · refine bif2 ?_ rfl
      simp only [Option.bind_assoc, bind_bif]
      rfl
    · refine bif2 ?_ rfl
      simp only [Option.bind_assoc, bind_bif]
      rfl
    · refine bif2 ?_ rfl
      simp only [Option.bind_assoc]
      congr 1
      funext s
      cases s <;> simp only [sel, bind_bif] <;> rfl
    · rfl
  · rfl

theorem op_nat (P : Program) (E : Env) (o : Oper) (σ : St) (K : Eff → Option R) : opK P E o σ K = (opK P E o σ some).bind K := by
  unfold opK
  split
  · split <;> rfl
  · split <;> rfl
  · split
    · rw [bind_bif]; split <;> (split <;> rfl)
    · rfl
  · split
    · split
      · split <;> rfl
      · rfl
    · rfl
  · split
    · split
      · split
        · rw [bind_bif]; rfl
        · rfl
      · rfl
    · rfl
  · split
    · split <;> rfl
    · rfl
  · split
    · split
      · split
        · split
          · split
            · split
              · rw [bind_bif]
                split
                · split <;> rfl
                · rfl
              · rfl
            · rfl
          · rfl
        · rfl
      · rfl
    · rfl
  · split
    · split
      · split
        · exact comp_nat2 (X := fun _ K => loadE _ _ _ _ _ K) (fun _ K => loadE_nat _ _ _ _ _ K) (Y := fun _ z K => rowK _ _ z _ K) (fun _ z K => rowK_nat _ _ z _ K) K
        · rfl
      · rfl
    · split
      · split
        · split
          · rw [bind_bif]
            exact congrArg (fun x => cond _ x none) (comp_nat2 (X := fun _ K => globK _ _ _ _ _ _ K) (fun _ K => globK_nat _ _ _ _ _ _ K) (Y := fun _ z K => rowK _ _ z _ K) (fun _ z K => rowK_nat _ _ z _ K) K)
          · rfl
        · rfl
      · rfl
    · rfl
  · split
    · split
      · split
        · rw [bind_bif]
          split
          · exact congrArg (fun x => cond _ x none) (comp_nat (X := fun _ K => storeE _ _ _ _ K) (fun _ K => storeE_nat _ _ _ _ K) _ K)
          · rfl
        · rfl
      · rfl
    · rfl
  · split <;> rfl
  · split
    · split
      · exact comp_nat (X := fun _ K => binK _ _ _ _ _ K) (fun _ K => binK_nat _ _ _ _ _ K) _ K
      · rfl
    · rfl
  · split
    · exact comp_nat (X := fun _ K => unK _ _ K) (fun _ K => unK_nat _ _ K) _ K
    · rfl
  · split
    · exact convK_nat ..
    · rfl
  · split
    · exact comp_nat (X := fun _ K => fieldK _ _ _ _ K) (fun _ K => fieldK_nat _ _ _ _ K) _ K
    · rfl
  · split
    · split
      · exact indexK_nat ..
      · rfl
    · rfl
  · split
    · split
      · exact comp_nat (X := fun _ K => indexVK _ _ _ _ K) (fun _ K => indexVK_nat _ _ _ _ K) _ K
      · rfl
    · rfl
  · split
    · rfl
    · split
      · split
        · split
          · split
            · exact sliceG_nat ..
            · exact sliceK_nat ..
          · rfl
        · rfl
      · rfl
  · split
    · exact comp_nat2 (X := fun _ K => fieldVK _ _ _ _ K) (fun _ K => fieldVK_nat _ _ _ _ K) (Y := fun _ z K => rowK _ _ z _ K) (fun _ z K => rowK_nat _ _ z _ K) K
    · rfl
  · split
    · split
      · exact makeSliceK_nat ..
      · rfl
    · rfl
  · split
    · exact rangeK_nat ..
    · rfl
  · split
    · exact bif2 (nextK_nat ..) rfl
    · rfl
  · split
    · split <;> rfl
    · rfl
  · split
    · split
      · exact builtinK_nat ..
      · split
        · exact comp_nat (X := fun _ K => callK _ _ _ _ _ K) (fun _ K => callK_nat _ _ _ _ _ K) (fun ef => (⟨ef.val, ef.wr, _⟩ : Eff)) K
        · rfl
      · rfl
    · rfl
  · rfl

end

end Go.Proofs.YtkgpjplncfginaaGreatDoor.Sy
