/- The operations of the machine Sy do what the model's operations do: all but calls of Go functions. -/
import Derived.Test.YtkgpjplncfginaaGreatDoorSyF
namespace Go.Proofs.YtkgpjplncfginaaGreatDoor.Sy
open Go
set_option linter.unusedVariables false
set_option linter.unusedSimpArgs false

/-! ### Callees -/

def CallSem (P : Program) (f : FuncId) (args : List AV) (L : Heap) (v : AV) (wr : Heap) : Prop :=
  ∀ (B : Bz) (w : World) (vs : List Value), HeapR B L w → All2 (VR B) args vs → (∀ i ∈ idsAll args, (look i L).isSome = true) →
    Calls P f vs.toArray w (fun e w' => ∃ u, ∃ B' : Bz, e = .returned u ∧ VR B' v u ∧ (∀ i, i < 1000 → B' i = B i) ∧ HeapR B' (wr ++ L) w' ∧ Fr B L w B' (wr ++ L) w')

def Callable (P : Program) (f : FuncId) : Prop := ∀ (args : Array Value) (w : World), (callFunc f args).run P w = .ok (.enter f args) w

def CalleeOK (P : Program) (f : FuncId) : Callee → Prop
  | .ext _ run val => ∀ args t, run args = some t → ∀ (B : Bz) (vs : List Value) (w : World), All2 (VR B) args vs → ∃ u, VR B (val t) u ∧ (callFunc f vs.toArray).run P w = .ok (.value u) w
  | .go _ _ run val wr => Callable P f ∧ ∀ args L t, run args L = some t → CallSem P f args L (val args L t) (wr args L t)
  | .alt _ _ _ run val1 wr1 val2 wr2 => Callable P f ∧ ∀ args L s, run args L = some s → (∀ t, s = .inl t → CallSem P f args L (val1 t) (wr1 t)) ∧ (∀ t, s = .inr t → CallSem P f args L (val2 t) (wr2 t))

/-! ### Lists of operands -/

theorem evAll_ok {N : Nat} {B : Bz} {σ : St} {a : Act} {w : World} (hr : Rel N B σ a w) : ∀ {xs : List Operand} {vs : List AV}, evAll σ xs = some vs →
    All2 (VR B) vs (xs.map a.eval) ∧ ∀ i ∈ idsAll vs, (look i σ.heap).isSome = true
  | [], vs, h => by
    simp only [evAll, Option.some.injEq] at h
    subst h
    exact ⟨trivial, fun i hi => by simp [idsAll] at hi⟩
  | x :: xs, vs, h => by
    simp only [evAll] at h
    split at h
    · rename_i v hv
      split at h
      · rename_i us hu
        simp only [Option.some.injEq] at h
        subst h
        obtain ⟨h1, h2⟩ := ev_ok hr hv
        obtain ⟨h3, h4⟩ := evAll_ok hr hu
        exact ⟨⟨h1, h3⟩, fun i hi => by
          simp only [idsAll, List.mem_append] at hi
          rcases hi with hi | hi
          · exact h2 i hi
          · exact h4 i hi⟩
      · cases h
    · cases h

theorem evParts_ok {N : Nat} {B : Bz} {σ : St} {a : Act} {w : World} (hr : Rel N B σ a w) : ∀ {xs : List (Nat × Operand)} {vs : List (Nat × AV)}, evParts σ xs = some vs →
    All2 (fun p u => p.1 = u.1 ∧ VR B p.2 u.2) vs (xs.map fun p => (p.1, a.eval p.2)) ∧ ∀ p ∈ vs, ∀ i ∈ p.2.ids, (look i σ.heap).isSome = true
  | [], vs, h => by
    simp only [evParts, Option.some.injEq] at h
    subst h
    exact ⟨trivial, fun p hp => by simp at hp⟩
  | (j, x) :: xs, vs, h => by
    simp only [evParts] at h
    split at h
    · rename_i v hv
      split at h
      · rename_i us hu
        simp only [Option.some.injEq] at h
        subst h
        obtain ⟨h1, h2⟩ := ev_ok hr hv
        obtain ⟨h3, h4⟩ := evParts_ok hr hu
        exact ⟨⟨⟨rfl, h1⟩, h3⟩, fun p hp => by
          simp only [List.mem_cons] at hp
          rcases hp with rfl | hp
          · exact h2
          · exact h4 p hp⟩
      · cases h
    · cases h

/-! ### Loads and stores -/

theorem tyIx_ok {P : Program} {t : TypeId} {n : Nat} {g : Bool} (h : tyIx P t = some (n, g)) : ∃ i d, P.info? t = some i ∧ P.underlying t = some d ∧ i.size = n ∧ d.isRow = g := by
  unfold tyIx at h
  split at h
  · rename_i i hi
    split at h
    · rename_i d hd
      simp only [Option.some.injEq, Prod.mk.injEq] at h
      exact ⟨i, d, hi, hd, h.1, h.2⟩
    · cases h
  · cases h

theorem load_op {P : Program} {B : Bz} {σ : St} {t : TypeId} {p : Ptr} {n : Nat} {g : Bool} {e : Ent} {R : Type} {K : AV → Option R} {r : R} {w : World} {x : Value} (hh : HeapR B σ.heap w) (hx : VR B (.ptr (some p)) x)
    (ht : tyIx P t = some (n, g)) (hl : look p.id σ.heap = some e) (h : loadE e p.st p.dys n g K = some r) :
    ∃ u, K u = some r ∧ u.isTup = false ∧ (∀ i ∈ u.ids, (look i σ.heap).isSome = true) ∧ ∃ q, VR B u q ∧ (Instr.loadAt t x).run P w = .ok q w := by
  obtain ⟨b, o, hb, rfl⟩ := VR_ptr hx
  obtain ⟨i, d, hi, hd, hn, hg⟩ := tyIx_ok ht
  obtain ⟨u, hk, hug, ⟨us, h1, h2, h3⟩, hids⟩ := loadE_ok hh.fz (hh.ent _ e hl) hb h
  refine ⟨u, hk, isTup_of_CR h2, fun j hj => hh.closed _ e hl j (hids j hj), ?_⟩
  cases g with
  | true => exact ⟨_, VR_of_CR_agg h2 hug, run_loadAt_mid w b _ t us d h3 hd hg (by rw [hi]; simp [hn, h1])⟩
  | false =>
    obtain ⟨q, rfl, hq⟩ := AR_of_CR hug h2
    refine ⟨q, (VR_atom (isTup_of_CR h2) hug).2 hq, ?_⟩
    have hc : w.cell? ⟨b, o + p.st + dyOff p.dys, none⟩ = some q := h3 0 q rfl
    have hagg : (isAgg t).run P w = .ok false w := by
      unfold isAgg; rw [Sem.run_bind, run_underlying hd w]; cases d <;> simp_all
    unfold Instr.loadAt Instr.sureAddr loadVar
    simp only [pure_bind]
    rw [Sem.run_bind, hagg]
    simp [hc]

theorem VR_gptr {B : Bz} {g st : Nat} {dys : List (Nat × Nat)} {x : Value} (h : VR B (.gptr g st dys) x) : x = .pointer (some ⟨g, st + dyOff dys, none⟩) := (VR_atom rfl rfl).1 h

theorem loadG_op {P : Program} {B : Bz} {σ : St} {t : TypeId} {gg st : Nat} {dys : List (Nat × Nat)} {n : Nat} {g : Bool} {ty : Ty} {y : ty.den} {i : Nat} {R : Type} {K : AV → Option R} {r : R} {w : World} {x : Value} (hh : HeapR B σ.heap w) (hx : VR B (.gptr gg st dys) x)
    (ht : tyIx P t = some (n, g)) (hl : look i σ.heap = some (.glob gg ty y)) (h : globK ty y st dys n g K = some r) :
    ∃ u, K u = some r ∧ u.isTup = false ∧ (∀ i ∈ u.ids, (look i σ.heap).isSome = true) ∧ ∃ q, VR B u q ∧ (Instr.loadAt t x).run P w = .ok q w := by
  obtain rfl := VR_gptr hx
  obtain ⟨inf, d, hi, hd, hn, hg⟩ := tyIx_ok ht
  have hb : baseOf (B i) = some ⟨gg, 0, none⟩ := by rw [(hh.ent i _ hl).1]; rfl
  obtain ⟨u, hk, hug, ⟨us, h1, h2, h3⟩, hids⟩ := loadE_ok (e := .glob gg ty y) hh.fz (hh.ent i _ hl) hb h
  rw [Nat.zero_add] at h3
  refine ⟨u, hk, isTup_of_CR h2, fun j hj => (by have := hids j hj; simp [Ent.ids] at this), ?_⟩
  cases g with
  | true => exact ⟨_, VR_of_CR_agg h2 hug, run_loadAt_mid w gg _ t us d h3 hd hg (by rw [hi]; simp [hn, h1])⟩
  | false =>
    obtain ⟨q, rfl, hq⟩ := AR_of_CR hug h2
    refine ⟨q, (VR_atom (isTup_of_CR h2) hug).2 hq, ?_⟩
    have hc : w.cell? ⟨gg, st + dyOff dys, none⟩ = some q := h3 0 q rfl
    have hagg : (isAgg t).run P w = .ok false w := by
      unfold isAgg; rw [Sem.run_bind, run_underlying hd w]; cases d <;> simp_all
    unfold Instr.loadAt Instr.sureAddr loadVar
    simp only [pure_bind]
    rw [Sem.run_bind, hagg]
    simp [hc]

theorem store_op {P : Program} {B : Bz} {σ : St} {t : TypeId} {p : Ptr} {n : Nat} {g : Bool} {e : Ent} {u : AV} {R : Type} {K : Ent → Option R} {r : R} {w : World} {x y : Value} (hh : HeapR B σ.heap w) (hx : VR B (.ptr (some p)) x)
    (hy : VR B u y) (hu : ∀ j ∈ u.ids, (look j σ.heap).isSome = true) (ht : tyIx P t = some (n, g)) (hn : u.size = n) (hut : u.isTup = false) (hl : look p.id σ.heap = some e) (h : storeE e p.st p.dys u K = some r) :
    ∃ e', K e' = some r ∧ ∃ w', Post B σ w ⟨.tnil, [(p.id, e')], []⟩ B undef w' ∧ (Instr.storeAt t x y).run P w = .ok () w' := by
  obtain ⟨b, o, hb, rfl⟩ := VR_ptr hx
  obtain ⟨i, d, hi, hd, hin, hg⟩ := tyIx_ok ht
  have hcr := VR0_cells (VR0_of_VR hy hut)
  obtain ⟨e', cs, ty, hk, hw, hle, hp⟩ := storeE_ok hh hl hb hcr hu h
  refine ⟨_, hk, _, hp [], ?_⟩
  have hsz : y.cells.size = n := by rw [← hn, ← CR_length hcr]; simp
  have hst := run_storeCells_at P b (o + p.st + dyOff p.dys) ty y.cells.toList 0 cs w hw (by simpa using hle) (CR_oneCell hcr)
  unfold Instr.storeAt Instr.sureAddr storeVar
  simp only [pure_bind]
  rw [Sem.run_bind, run_sizeOf' hi w]
  simp only [Result.andThen_ok]
  rw [if_neg (by rw [hsz, hin]; simp)]
  simpa [splice] using hst

/-! ### Rows that are built -/

theorem isTup_norm (t : Ty) (v : AV) : (normT t v).isTup = v.isTup := by
  cases t <;> cases v <;> rfl

theorem isTup_enc (t : Ty) (x : t.den) : (enc t x).isTup = false := by cases t <;> rfl

theorem decAll_ok {B : Bz} {t : Ty} : ∀ {ps : List (Nat × AV)} {us : List (Nat × Value)} {j : Nat} {xs : List t.den}, All2 (fun p u => p.1 = u.1 ∧ VR B p.2 u.2) ps us → decAll t j ps = some xs →
    xs.length = ps.length ∧ ∃ rs, DRs B.z t xs rs ∧ ∀ (cells : Array Value), (j + ps.length) * t.size ≤ cells.size →
      ∃ out, Instr.fill (fun i => some (i * t.size, t.size)) cells us = some out ∧ out.toList = splice cells.toList (j * t.size) rs
  | [], [], j, xs, _, h => by
    simp only [decAll, Option.some.injEq] at h
    subst h
    exact ⟨rfl, [], rfl, fun cells _ => ⟨cells, rfl, by simp [splice]⟩⟩
  | [], _ :: _, _, _, hf, _ => hf.elim
  | _ :: _, [], _, _, hf, _ => hf.elim
  | (i, v) :: ps, (i', y) :: us, j, xs, ⟨⟨hi, hv⟩, hf⟩, h => by
    simp only at hi hv
    subst hi
    simp only [decAll] at h
    replace h := bif_eq_some h
    rcases h with ⟨hj, h⟩ | ⟨_, h⟩
    · have hj := Nat.eq_of_beq_eq_true hj
      subst hj
      split at h
      · rename_i x hx
        split at h
        · rename_i ys hys
          simp only [Option.some.injEq] at h
          subst h
          have hve := dec_enc t _ x hx
          have ht : v.isTup = false := by rw [← isTup_norm t v, hve]; exact isTup_enc t x
          have hcr := CR_norm t v _ (VR0_cells (VR0_of_VR hv ht))
          rw [hve] at hcr
          have hd := (CR_enc t x _).1 hcr
          obtain ⟨h1, rs, h2, h3⟩ := decAll_ok hf hys
          have hlx := hd.length
          have hsz : y.cells.size = t.size := by rw [← hlx]; simp
          refine ⟨by simp [h1], y.cells.toList ++ rs, ⟨_, _, rfl, hd, h2⟩, fun cells hle => ?_⟩
          · have hle' : i * t.size + y.cells.size ≤ cells.size := by
              rw [hsz]
              simp only [List.length_cons] at hle
              have : (i + (ps.length + 1)) * t.size = i * t.size + t.size + ps.length * t.size := by rw [Nat.add_mul, Nat.succ_mul]; omega
              omega
            have hone := fill_one cells (i * t.size) y.cells hle'
            have hsz1 : (y.cells.zipIdx.foldl (fun cs (c, j) => cs.setIfInBounds (i * t.size + j) c) cells).size = cells.size := by
              have := congrArg List.length hone
              rw [length_splice (by simpa using hle')] at this
              simpa using this
            obtain ⟨out, h4, h5⟩ := h3 (y.cells.zipIdx.foldl (fun cs (c, j) => cs.setIfInBounds (i * t.size + j) c) cells) (by
              rw [hsz1]
              simp only [List.length_cons] at hle
              rw [show i + 1 + ps.length = i + (ps.length + 1) by omega]; exact hle)
            refine ⟨out, ?_, ?_⟩
            · simp only [Instr.fill]
              rw [if_neg (by rw [hsz] at hle' ⊢; simp; omega)]
              exact h4
            · rw [h5, hone]
              have hl1 : i * t.size + y.cells.toList.length ≤ cells.toList.length := by rw [hlx]; rw [hsz] at hle'; simpa using hle'
              have e1 : (i + 1) * t.size = i * t.size + y.cells.toList.length := by rw [hlx, Nat.succ_mul]
              generalize y.cells.toList = yl at *
              have hs1 : splice cells.toList (i * t.size) yl = (cells.toList.take (i * t.size) ++ yl) ++ cells.toList.drop (i * t.size + yl.length) := by simp [splice]
              rw [hs1, e1, splice_right (by simp; omega)]
              have e2 : i * t.size + yl.length - (cells.toList.take (i * t.size) ++ yl).length = 0 := by
                simp only [List.length_append, List.length_take]; omega
              rw [e2]
              simp only [splice, List.take_zero, List.nil_append, Nat.zero_add, List.drop_drop, List.append_assoc, List.length_append]
              rw [Nat.add_assoc]
        · cases h
      · cases h
    · cases h

theorem Post.newRows {B : Bz} {σ : St} {w : World} {id : Nat} {cs : Array Value} {e : TypeId} {t : Ty} {xs : List t.den} {rd : List Nat} (hh : HeapR B σ.heap w) (hn : look id σ.heap = none) (h1000 : 1000 ≤ id)
    (hd : DRs B.z t xs cs.toList) (hl : xs.length ≤ maxLen) :
    Post B σ w ⟨.vec id, [(id, .rows 2 e t xs)], rd⟩ (upd B id (.slice (some ⟨w.heap.size, 0, none⟩) xs.length xs.length)) (.slice (some ⟨w.heap.size, 0, none⟩) xs.length xs.length)
      { w with heap := w.heap.push (.cells cs e) } := by
  have hlen := DRs.length hd
  have hsize : cs.size = xs.length * t.size := by rw [← hlen]; simp
  refine Post.add hh hn h1000 rfl rfl rfl (by simp) (fun b hb => by rw [Array.getElem?_push, if_neg (by omega)]) (fun b hb => ?_) (fun j hj => by cases hj)
    (EntR_at rfl ⟨_, hd, hlen, .inr ⟨w.heap.size, 0, xs.length, cs, rfl, by simp, Nat.le_refl _, hl, by omega, ?_⟩⟩) (VR_mk_vec ⟨_, _, _, rfl⟩) (fun j hj => by simpa [AV.ids] using hj)
  · have hb : w.heap.size = b := hb
    omega
  · rw [List.drop_zero, List.take_of_length_le (by rw [hlen]; exact Nat.le_refl _)]

end Go.Proofs.YtkgpjplncfginaaGreatDoor.Sy
