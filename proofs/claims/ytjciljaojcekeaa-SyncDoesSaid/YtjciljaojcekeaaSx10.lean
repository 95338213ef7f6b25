/- Each operation of the machine Sx: what it does, that its continuation is only called, and that it looks at little. -/
import Derived.Test.YtjciljaojcekeaaSx9
namespace Go.Proofs.Ytjciljaojcekeaa.Sx
open Go
set_option linter.unusedVariables false
set_option linter.unusedSimpArgs false

theorem All2_map {α β γ : Type} {R : α → γ → Prop} {f : β → γ} : ∀ {as : List α} {bs : List β}, All2 R as (bs.map f) → All2 (fun a b => R a (f b)) as bs
  | [], [], _ => trivial
  | [], _ :: _, h => h.elim
  | _ :: _, [], h => h.elim
  | _ :: _, _ :: _, ⟨h1, h2⟩ => ⟨h1, All2_map h2⟩

/-! ### A continuation is only called -/
section
variable {R : Type}

theorem bind_bif {α : Type} (c : Bool) (x y : Option α) (K : α → Option R) : (bif c then x else y).bind K = bif c then x.bind K else y.bind K := by cases c <;> rfl

theorem partK_nat (v : AV) (st : Nat) (dys : List (Nat × Nat)) (n : Nat) (g : Bool) (K : AV → Option R) : partK v st dys n g K = (partK v st dys n g some).bind K := by
  unfold partK
  split
  · split <;> rfl
  · rw [bind_bif]
    split
    · rw [bind_bif]; rfl
    · rfl
  · rfl

theorem loadE_nat (e : Ent) (st : Nat) (dys : List (Nat × Nat)) (n : Nat) (g : Bool) (K : AV → Option R) : loadE e st dys n g K = (loadE e st dys n g some).bind K := by
  unfold loadE
  split
  · exact partK_nat ..
  · split
    · rw [bind_bif, bind_bif, ← partK_nat]; rfl
    · rfl

theorem putK_nat (v : AV) (st : Nat) (dys : List (Nat × Nat)) (u : AV) (K : AV → Option R) : putK v st dys u K = (putK v st dys u some).bind K := by
  unfold putK
  split
  · split <;> rfl
  · split
    · rw [bind_bif]
      split
      · rw [bind_bif, bind_bif]
        split <;> rfl
      · rfl
    · rfl
  · rfl

theorem storeE_nat (e : Ent) (st : Nat) (dys : List (Nat × Nat)) (u : AV) (K : Ent → Option R) : storeE e st dys u K = (storeE e st dys u some).bind K := by
  unfold storeE
  split
  · rw [putK_nat, putK_nat (K := fun v' => some (Ent.cell v')), Option.bind_assoc]; rfl
  · rfl

theorem intBin_nat (op : BinOp) (k : IntKind) (x y : Int) (K : AV → Option R) : intBin op k x y K = (intBin op k x y some).bind K := by
  cases op <;> simp only [intBin] <;> first | rfl | (rw [bind_bif]; rfl)

theorem shiftBin_nat (op : BinOp) (k : IntKind) (x y : Int) (K : AV → Option R) : shiftBin op k x y K = (shiftBin op k x y some).bind K := by
  cases op <;> simp only [shiftBin] <;> first | rfl | (rw [bind_bif]; rfl)

theorem binK_nat (P : Program) (op : BinOp) (t : TypeId) (x y : AV) (K : AV → Option R) : binK P op t x y K = (binK P op t x y some).bind K := by
  unfold binK
  split
  · split
    · split
      · exact shiftBin_nat ..
      · exact shiftBin_nat ..
      · rw [bind_bif, ← intBin_nat]; rfl
    · rfl
  · split
    · split <;> rfl
    · split <;> rfl
    · rfl

theorem unK_nat (op : UnOp) (x : AV) (K : AV → Option R) : unK op x K = (unK op x some).bind K := by
  unfold unK
  split <;> first | rfl | (split <;> rfl)

theorem convK_nat (P : Program) (s d : TypeId) (x : AV) (K : AV → Option R) : convK P s d x K = (convK P s d x some).bind K := by
  unfold convK
  split
  · split
    · split <;> rfl
    · rfl
  · rfl

theorem fieldK_nat (P : Program) (s : TypeId) (x : AV) (f : Nat) (K : AV → Option R) : fieldK P s x f K = (fieldK P s x f some).bind K := by
  unfold fieldK
  split
  · split
    · split
      · split
        · rw [bind_bif]; rfl
        · rfl
      · rfl
    · rfl
  · rfl

theorem indexK_nat (P : Program) (H : Heap) (t : TypeId) (x i : AV) (K : Eff → Option R) : indexK P H t x i K = (indexK P H t x i some).bind K := by
  unfold indexK
  split
  · split
    · split
      · split
        · rw [bind_bif, bind_bif]; rfl
        · rfl
      · rfl
    · split
      · split
        · split
          · rw [bind_bif, bind_bif]; rfl
          · rfl
        · rfl
      · rfl
    · rfl
  · rfl

theorem indexVK_nat (P : Program) (t : TypeId) (x i : AV) (K : AV → Option R) : indexVK P t x i K = (indexVK P t x i some).bind K := by
  unfold indexVK
  split
  · split
    · split
      · split
        · split
          · rw [bind_bif, bind_bif, bind_bif]; rfl
          · rfl
        · rfl
      · rfl
    · split
      · rw [bind_bif, bind_bif]; rfl
      · rfl
    · rfl
  · rfl

theorem builtinK_nat (P : Program) (H : Heap) (b : Builtin) (ts : List TypeId) (args : List AV) (K : Eff → Option R) : builtinK P H b ts args K = (builtinK P H b ts args some).bind K := by
  unfold builtinK
  split
  · split
    · split
      · split
        · split <;> rfl
        · split
          · rfl
          · split <;> rfl
          · rfl
        · rfl
      · rfl
    · rfl
  · split
    · split <;> rfl
    · rfl
  · split
    · split <;> rfl
    · rfl
  · rfl

theorem callK_nat (E : Env) (H : Heap) (f : FuncId) (args : List AV) (K : Eff → Option R) : callK E H f args K = (callK E H f args some).bind K := by
  unfold callK
  simp only
  split
  · split
    · rw [bind_bif]
      cases (uniq (idsAll args)).isEmpty
      · rfl
      · simp only [cond_true, Option.bind_assoc, bind_bif]
        rfl
    · rw [bind_bif]
      cases Nat.blt _ 1000
      · rfl
      · simp only [cond_true, Option.bind_assoc, bind_bif]
        rfl
    · rfl
  · rfl

theorem comp_nat {A B : Type} {X : (R : Type) → (A → Option R) → Option R} (h : ∀ (R : Type) (K : A → Option R), X R K = (X A some).bind K) (f : A → B) (K : B → Option R) :
    X R (fun z => K (f z)) = (X B (fun z => some (f z))).bind K := by
  rw [h R, h B, Option.bind_assoc]; rfl

theorem op_nat (P : Program) (E : Env) (o : Oper) (σ : St) (K : Eff → Option R) : opK P E o σ K = (opK P E o σ some).bind K := by
  unfold opK
  split
  · split <;> rfl
  · split <;> rfl
  · split
    · rw [bind_bif]; split <;> (split <;> rfl)
    · rfl
  · split
    · split
      · split <;> rfl
      · rfl
    · rfl
  · split
    · split
      · split
        · rw [bind_bif]; rfl
        · rfl
      · rfl
    · rfl
  · split
    · split <;> rfl
    · rfl
  · split
    · split
      · split
        · split
          · split
            · split
              · rw [bind_bif]
                split
                · split <;> rfl
                · rfl
              · rfl
            · rfl
          · rfl
        · rfl
      · rfl
    · rfl
  · split
    · split
      · split
        · exact comp_nat (X := fun _ K => loadE _ _ _ _ _ K) (fun _ K => loadE_nat _ _ _ _ _ K) _ K
        · rfl
      · rfl
    · rfl
  · split
    · split
      · split
        · rw [bind_bif]
          split
          · exact congrArg (fun x => cond _ x none) (comp_nat (X := fun _ K => storeE _ _ _ _ K) (fun _ K => storeE_nat _ _ _ _ K) _ K)
          · rfl
        · rfl
      · rfl
    · rfl
  · split <;> rfl
  · split
    · split
      · exact comp_nat (X := fun _ K => binK _ _ _ _ _ K) (fun _ K => binK_nat _ _ _ _ _ K) _ K
      · rfl
    · rfl
  · split
    · exact comp_nat (X := fun _ K => unK _ _ K) (fun _ K => unK_nat _ _ K) _ K
    · rfl
  · split
    · exact comp_nat (X := fun _ K => convK _ _ _ _ K) (fun _ K => convK_nat _ _ _ _ K) _ K
    · rfl
  · split
    · exact comp_nat (X := fun _ K => fieldK _ _ _ _ K) (fun _ K => fieldK_nat _ _ _ _ K) _ K
    · rfl
  · split
    · split
      · exact indexK_nat ..
      · rfl
    · rfl
  · split
    · split
      · exact comp_nat (X := fun _ K => indexVK _ _ _ _ K) (fun _ K => indexVK_nat _ _ _ _ K) _ K
      · rfl
    · rfl
  · split
    · split <;> rfl
    · rfl
  · split
    · split
      · exact builtinK_nat ..
      · exact callK_nat ..
      · rfl
    · rfl
  · rfl

end

theorem op_ok {P : Program} {E : Env} {N : Nat} (hE : ∀ f, ∀ c ∈ E.fn f, CalleeOK P f c) {o : Oper} {σ : St} {ef : Eff} (h : opK P E o σ some = some ef) : OpOK P N o σ ef := by
  obtain ⟨dst, op, type, pos, after, guard⟩ := o
  unfold opK at h
  simp only at h
  split at h
  · -- move
    split at h
    · rename_i x v hv
      cases h
      refine .of_pure fun B a w hr => ?_
      obtain ⟨h1, h2⟩ := ev_ok hr hv
      exact ⟨_, h1, h2, rfl⟩
    · cases h
  · split at h
    · rename_i x v hv
      cases h
      refine .of_pure fun B a w hr => ?_
      obtain ⟨h1, h2⟩ := ev_ok hr hv
      exact ⟨_, h1, h2, rfl⟩
    · cases h
  · -- pick
    rename_i c x y
    split at h
    · rename_i t ht
      have run : ∀ {B : Nat → Value} {a : Act} {w : World}, Rel N B σ a w → (execOp a.eval { dst, op := .pick c x y, type, pos, after, guard }).run P w = .ok (.value (if t then a.eval x else a.eval y)) w := fun hr => by
        have := VR_bool (ev_ok hr ht).1
        simp only [execOp, this, asBool, pure_bind]
        rfl
      replace h := bif_eq_some h
      rcases h with ⟨rfl, h⟩ | ⟨rfl, h⟩
      · split at h
        · rename_i v hv
          cases h
          refine .of_pure fun B a w hr => ?_
          obtain ⟨h1, h2⟩ := ev_ok hr hv
          exact ⟨_, h1, h2, run hr⟩
        · cases h
      · split at h
        · rename_i v hv
          cases h
          refine .of_pure fun B a w hr => ?_
          obtain ⟨h1, h2⟩ := ev_ok hr hv
          exact ⟨_, h1, h2, run hr⟩
        · cases h
    · cases h
  · -- alloc
    rename_i t
    split at h
    · rename_i d
      split at h
      · rename_i z hz
        split at h
        · rename_i hl
          cases h
          obtain ⟨i, zv, hi, hzv, hzi, hzt, hzc⟩ := zeroA_ok hz
          refine .of_value fun B a w hr => ⟨_, _, _, Post.new (cs := zv.cells) (ty := t) hr.heap hl (by omega) (hzc B) (fun i hi => by rw [hzi] at hi; cases hi), run_v (run_alloc' hi hzv w)⟩
        · cases h
      · cases h
    · cases h
  · -- box
    rename_i t x
    split at h
    · rename_i d
      split at h
      · rename_i v hv
        split at h
        · rename_i hl
          replace h := bif_eq_some h
          rcases h with ⟨_, h⟩ | ⟨ht, h⟩
          · cases h
          · cases h
            refine .of_value fun B a w hr => ?_
            obtain ⟨h1, h2⟩ := ev_ok hr hv
            exact ⟨_, _, _, Post.new (ty := t) hr.heap hl (by omega) (VR0_cells (VR0_of_VR h1 ht)) h2, run_v (run_box' w)⟩
        · cases h
      · cases h
    · cases h
  · -- build
    rename_i t parts
    split at h
    · rename_i ps hps
      split at h
      · rename_i v hv
        cases h
        refine .of_pure fun B a w hr => ?_
        obtain ⟨h1, h2⟩ := evParts_ok hr hps
        obtain ⟨h3, q, h4, h5⟩ := buildK_ok h1 hv w
        refine ⟨q, h4, fun i hi => ?_, run_v ?_⟩
        · obtain ⟨p, hp, hi⟩ := h3 i hi; exact h2 p hp i hi
        · have : (Array.map (fun p : Nat × Operand => (p.1, a.eval p.2)) parts) = (parts.toList.map fun p => (p.1, a.eval p.2)).toArray := by apply Array.ext'; simp
          rw [← this] at h5
          exact h5
      · cases h
    · cases h
  · -- buildSlice
    rename_i t n parts
    split at h
    · rename_i d
      split at h
      · rename_i ps hps
        split at h
        · rename_i e hu
          split at h
          · rename_i ty hty
            split at h
            · rename_i inf hi
              split at h
              · rename_i z hz
                replace h := bif_eq_some h
                rcases h with ⟨hc, h⟩ | ⟨_, h⟩
                · simp only [Bool.and_eq_true] at hc
                  obtain ⟨⟨⟨⟨⟨⟨h1, h2⟩, h3⟩, h4⟩, h5⟩, h6⟩, h7⟩ := hc
                  have h1 := Nat.eq_of_beq_eq_true h1; have h2 := Nat.eq_of_beq_eq_true h2; have h3 := blt_lt h3; have h4 := Nat.eq_of_beq_eq_true h4
                  have h5 := blt_lt h5; have h6 := blt_lt h6; have h7 := blt_lt h7
                  split at h
                  · rename_i xs hxs
                    split at h
                    · rename_i hl
                      cases h
                      refine .of_value fun B a w hr => ?_
                      obtain ⟨p1, p2⟩ := evParts_ok hr hps
                      obtain ⟨q1, q2, q3⟩ := decAll_ok p1 hxs
                      obtain ⟨out, q4, q5⟩ := q3 ((Array.range (n * ty.size)).map (z.cells[· % z.cells.size]!)) (by simp [h4])
                      have hlen : ∀ (ys : List ty.den), (∀ x ∈ ys, wfT ty x) → (ys.flatMap (cellsT ty)).length = ys.length * ty.size := by
                        intro ys
                        induction ys with
                        | nil => intro _; simp
                        | cons y ys ih => intro hw; rw [List.flatMap_cons, List.length_append, length_cellsT ty y (hw y (by simp)), ih (fun x hx => hw x (by simp [hx])), List.length_cons, Nat.succ_mul]; omega
                      have hout : out.toList = xs.flatMap (cellsT ty) := by
                        rw [q5, Nat.zero_mul, splice_all]
                        rw [hlen xs q2, q1, h4]; simp
                      have hxl : xs.length = n := by rw [q1, h4]
                      refine ⟨_, _, _, Post.newRows (e := e) hr.heap hl (by omega) hout q2 (by unfold maxLen; omega), run_v ?_⟩
                      unfold Instr.buildSlice
                      rw [Sem.run_bind, run_underlying hu w]
                      simp only [Result.andThen_ok]
                      rw [Sem.run_bind, run_sizeOf' hi w]
                      simp only [Result.andThen_ok, h1]
                      have hm : n * ty.size ≤ 10000 * 1000 := Nat.mul_le_mul (by omega) (by omega)
                      rw [if_neg (by omega), if_neg (by have := Nat.mul_pos h7 h3; omega)]
                      rw [Sem.run_bind, run_zeroValue hi hz w]
                      simp only [Result.andThen_ok, pure_bind]
                      have hparts : (Array.map (fun p : Nat × Operand => (p.1, a.eval p.2)) parts).toList = parts.toList.map fun p => (p.1, a.eval p.2) := by simp
                      rw [show (Array.map (fun (x : Nat × Operand) => match x with | (i, x) => (i, a.eval x)) parts).toList = parts.toList.map fun p => (p.1, a.eval p.2) from hparts]
                      rw [q4]
                      simp only [hxl]
                      rfl
                    · cases h
                  · cases h
                · cases h
              · cases h
            · cases h
          · cases h
        · cases h
      · cases h
    · cases h
  · -- load
    rename_i t x
    split at h
    · rename_i p hp
      split at h
      · rename_i n g ht
        split at h
        · rename_i e he
          rw [loadE_nat] at h
          obtain ⟨v, hv, h2⟩ := Option.bind_eq_some_iff.1 h
          cases h2
          refine .of_pure fun B a w hr => ?_
          obtain ⟨h1, _⟩ := ev_ok hr hp
          obtain ⟨u, hk, _, hi, q, h2, h3⟩ := load_op hr.heap h1 ht he hv
          cases hk
          exact ⟨q, h2, hi, run_v h3⟩
        · cases h
      · cases h
    · cases h
  · -- store
    rename_i t x y
    split at h
    · rename_i p hp
      split at h
      · rename_i u hu
        split at h
        · rename_i n g ht
          replace h := bif_eq_some h
          rcases h with ⟨hc, h⟩ | ⟨_, h⟩
          · simp only [Bool.and_eq_true, Bool.not_eq_true'] at hc
            split at h
            · rename_i e he
              refine .of_skip fun B a w hr => ?_
              obtain ⟨h1, _⟩ := ev_ok hr hp
              obtain ⟨h2, h3⟩ := ev_ok hr hu
              obtain ⟨e', hk, w', h4, h5⟩ := store_op hr.heap h1 h2 h3 ht (Nat.eq_of_beq_eq_true hc.1) hc.2 he h
              cases hk
              exact ⟨B, w', h4, run_u h5⟩
            · cases h
          · cases h
        · cases h
      · cases h
    · cases h
  · -- nilCheck
    rename_i x
    split at h
    · rename_i p hp
      cases h
      refine .of_pure fun B a w hr => ?_
      obtain ⟨h1, h2⟩ := ev_ok hr hp
      refine ⟨_, h1, h2, ?_⟩
      obtain ⟨b, o, _, e⟩ := VR_ptr h1
      simp only [execOp, e]
      rfl
    · cases h
  · -- binOp
    rename_i op' t x y yt
    split at h
    · rename_i u hu
      split at h
      · rename_i v hv
        rw [binK_nat] at h
        obtain ⟨z, hz, h2⟩ := Option.bind_eq_some_iff.1 h
        cases h2
        refine .of_pure fun B a w hr => ?_
        obtain ⟨h1, _⟩ := ev_ok hr hu
        obtain ⟨h2, _⟩ := ev_ok hr hv
        obtain ⟨z', hk, hi, q, h3, h4⟩ := binK_ok (a := x) (b := y) h1 h2 hz w
        cases hk
        exact ⟨q, h3, fun i hm => (by rw [hi] at hm; cases hm), run_v h4⟩
      · cases h
    · cases h
  · -- unOp
    rename_i op' t x
    split at h
    · rename_i u hu
      rw [unK_nat] at h
      obtain ⟨z, hz, h2⟩ := Option.bind_eq_some_iff.1 h
      cases h2
      refine .of_pure fun B a w hr => ?_
      obtain ⟨h1, _⟩ := ev_ok hr hu
      obtain ⟨z', hk, hi, q, h3, h4⟩ := unK_ok (P := P) h1 hz w
      cases hk
      exact ⟨q, h3, fun i hm => (by rw [hi] at hm; cases hm), run_v h4⟩
    · cases h
  · -- convert
    rename_i s d x
    split at h
    · rename_i u hu
      rw [convK_nat] at h
      obtain ⟨z, hz, h2⟩ := Option.bind_eq_some_iff.1 h
      cases h2
      refine .of_pure fun B a w hr => ?_
      obtain ⟨h1, _⟩ := ev_ok hr hu
      obtain ⟨z', hk, hi, q, h3, h4⟩ := convK_ok h1 hz w
      cases hk
      exact ⟨q, h3, fun i hm => (by rw [hi] at hm; cases hm), run_v h4⟩
    · cases h
  · -- fieldAddr
    rename_i s x f
    split at h
    · rename_i u hu
      rw [fieldK_nat] at h
      obtain ⟨z, hz, h2⟩ := Option.bind_eq_some_iff.1 h
      cases h2
      refine .of_pure fun B a w hr => ?_
      obtain ⟨h1, h1'⟩ := ev_ok hr hu
      obtain ⟨z', hk, hi, q, h3, h4⟩ := fieldK_ok h1 hz w
      cases hk
      exact ⟨q, h3, fun i hm => h1' i (by rw [← hi]; exact hm), run_v h4⟩
    · cases h
  · -- indexAddr
    rename_i t x i
    split at h
    · rename_i u hu
      split at h
      · rename_i j hj
        obtain ⟨z, rd, rfl⟩ : ∃ z rd, ef = ⟨z, [], rd⟩ := by
          unfold indexK at h
          (repeat' split at h) <;> first | (cases h; done) | (replace h := bif_eq_some h; rcases h with ⟨_, h⟩ | ⟨_, h⟩ <;> first | (cases h; done) | (replace h := bif_eq_some h; rcases h with ⟨_, h⟩ | ⟨_, h⟩ <;> cases h; exact ⟨_, _, rfl⟩))
        refine .of_pure fun B a w hr => ?_
        obtain ⟨h1, h1'⟩ := ev_ok hr hu
        obtain ⟨h2, _⟩ := ev_ok hr hj
        obtain ⟨z', rd', hk, hi, q, h3, h4⟩ := indexK_ok hr.heap h1' h1 h2 h
        cases hk
        exact ⟨q, h3, hi, run_v h4⟩
      · cases h
    · cases h
  · -- index
    rename_i t x i
    split at h
    · rename_i u hu
      split at h
      · rename_i j hj
        rw [indexVK_nat] at h
        obtain ⟨z, hz, h2⟩ := Option.bind_eq_some_iff.1 h
        cases h2
        refine .of_pure fun B a w hr => ?_
        obtain ⟨h1, _⟩ := ev_ok hr hu
        obtain ⟨h2, _⟩ := ev_ok hr hj
        obtain ⟨z', hk, hi, q, h3, h4⟩ := indexVK_ok h1 h2 hz w
        cases hk
        exact ⟨q, h3, fun i hm => (by rw [hi] at hm; cases hm), run_v h4⟩
      · cases h
    · cases h
  · -- extract
    rename_i x i
    split at h
    · rename_i u hu
      split at h
      · rename_i z hz
        cases h
        refine .of_pure fun B a w hr => ?_
        obtain ⟨h1, h1'⟩ := ev_ok hr hu
        obtain ⟨h2, h3, q, h4, h5⟩ := nthT_ok (P := P) h1 hz w
        exact ⟨q, VR_of_VR0 h4 h2, fun j hj => h1' j (h3 j hj), run_v h5⟩
      · cases h
    · cases h
  · -- call
    rename_i c
    split at h
    · rename_i args hargs
      have hmap : ∀ (ρ : Operand → Value), c.args.map ρ = (c.args.toList.map ρ).toArray := fun ρ => by apply Array.ext'; simp
      split at h
      · rename_i b hb
        have key : ∃ v rd, ef = ⟨v, [], rd⟩ := by
          unfold builtinK at h
          (repeat' split at h) <;> first | (cases h; done) | (cases h; exact ⟨_, _, rfl⟩)
        obtain ⟨v, rd, rfl⟩ := key
        refine .of_pure fun B a w hr => ?_
        obtain ⟨h1, _⟩ := evAll_ok hr hargs
        obtain ⟨v', rd', u, e1, e2, e3, e4⟩ := builtinK_ok (P := P) hr.heap h1 h
        cases e1
        refine ⟨u, e3, fun i hm => (by rw [e2] at hm; cases hm), ?_⟩
        simp only [execOp, resolve, hb, pure_bind, invoke]
        rw [hmap]
        exact e4 _ _
      · rename_i f hf
        intro B a w hr K Q hK
        obtain ⟨h1, _⟩ := evAll_ok hr hargs
        have hrun : execOp a.eval { dst, op := .call c, type, pos, after, guard } = callFunc f (c.args.toList.map a.eval).toArray := by
          simp only [execOp, resolve, hf, Act.eval, Deferred.ofValue, pure_bind, invoke, hmap]
          simp
        unfold Oper.wp
        rw [hrun]
        rcases callK_ok hE hr.heap h1 h with ⟨u, hp, he⟩ | ⟨he, hc⟩
        · rw [he]; exact hK B u w hp
        · rw [he]
          refine hc.mono fun e w' => ?_
          rintro ⟨u, rfl, hp⟩
          exact hK B u w' hp
      · cases h
    · cases h
  · cases h

end Go.Proofs.Ytjciljaojcekeaa.Sx
