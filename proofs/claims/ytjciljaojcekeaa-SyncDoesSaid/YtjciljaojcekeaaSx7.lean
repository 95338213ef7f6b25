/- The operations of the machine Sx do what the model's operations do: all but calls of Go functions. -/
import Derived.Test.YtjciljaojcekeaaSx6
namespace Go.Proofs.Ytjciljaojcekeaa.Sx
open Go
set_option linter.unusedVariables false
set_option linter.unusedSimpArgs false

/-! ### Callees -/

def CallSem (P : Program) (f : FuncId) (args : List AV) (L : Heap) (v : AV) (wr : Heap) : Prop :=
  ∀ (B : Nat → Value) (w : World) (vs : List Value), HeapR B L w → All2 (VR B) args vs → (∀ i ∈ idsAll args, (look i L).isSome = true) →
    Calls P f vs.toArray w (fun e w' => ∃ u B', e = .returned u ∧ VR B' v u ∧ (∀ i, i < 1000 → B' i = B i) ∧ HeapR B' (wr ++ L) w' ∧ Fr B L w B' (wr ++ L) w')

def Callable (P : Program) (f : FuncId) : Prop := ∀ (args : Array Value) (w : World), (callFunc f args).run P w = .ok (.enter f args) w

def CalleeOK (P : Program) (f : FuncId) : Callee → Prop
  | .ext _ run val => ∀ args t, run args = some t → ∀ (B : Nat → Value) (vs : List Value) (w : World), All2 (VR B) args vs → ∃ u, VR B (val t) u ∧ (callFunc f vs.toArray).run P w = .ok (.value u) w
  | .go _ _ run val wr => Callable P f ∧ ∀ args L t, run args L = some t → CallSem P f args L (val args L t) (wr args L t)

/-! ### Lists of operands -/

theorem evAll_ok {N : Nat} {B : Nat → Value} {σ : St} {a : Act} {w : World} (hr : Rel N B σ a w) : ∀ {xs : List Operand} {vs : List AV}, evAll σ xs = some vs →
    All2 (VR B) vs (xs.map a.eval) ∧ ∀ i ∈ idsAll vs, (look i σ.heap).isSome = true
  | [], vs, h => by
    simp only [evAll, Option.some.injEq] at h
    subst h
    exact ⟨trivial, fun i hi => by simp [idsAll] at hi⟩
  | x :: xs, vs, h => by
    simp only [evAll] at h
    split at h
    · rename_i v hv
      split at h
      · rename_i us hu
        simp only [Option.some.injEq] at h
        subst h
        obtain ⟨h1, h2⟩ := ev_ok hr hv
        obtain ⟨h3, h4⟩ := evAll_ok hr hu
        exact ⟨⟨h1, h3⟩, fun i hi => by
          simp only [idsAll, List.mem_append] at hi
          rcases hi with hi | hi
          · exact h2 i hi
          · exact h4 i hi⟩
      · cases h
    · cases h

theorem evParts_ok {N : Nat} {B : Nat → Value} {σ : St} {a : Act} {w : World} (hr : Rel N B σ a w) : ∀ {xs : List (Nat × Operand)} {vs : List (Nat × AV)}, evParts σ xs = some vs →
    All2 (fun p u => p.1 = u.1 ∧ VR B p.2 u.2) vs (xs.map fun p => (p.1, a.eval p.2)) ∧ ∀ p ∈ vs, ∀ i ∈ p.2.ids, (look i σ.heap).isSome = true
  | [], vs, h => by
    simp only [evParts, Option.some.injEq] at h
    subst h
    exact ⟨trivial, fun p hp => by simp at hp⟩
  | (j, x) :: xs, vs, h => by
    simp only [evParts] at h
    split at h
    · rename_i v hv
      split at h
      · rename_i us hu
        simp only [Option.some.injEq] at h
        subst h
        obtain ⟨h1, h2⟩ := ev_ok hr hv
        obtain ⟨h3, h4⟩ := evParts_ok hr hu
        exact ⟨⟨⟨rfl, h1⟩, h3⟩, fun p hp => by
          simp only [List.mem_cons] at hp
          rcases hp with rfl | hp
          · exact h2
          · exact h4 p hp⟩
      · cases h
    · cases h

/-! ### Loads and stores -/

theorem tyIx_ok {P : Program} {t : TypeId} {n : Nat} {g : Bool} (h : tyIx P t = some (n, g)) : ∃ i d, P.info? t = some i ∧ P.underlying t = some d ∧ i.size = n ∧ d.isRow = g := by
  unfold tyIx at h
  split at h
  · rename_i i hi
    split at h
    · rename_i d hd
      simp only [Option.some.injEq, Prod.mk.injEq] at h
      exact ⟨i, d, hi, hd, h.1, h.2⟩
    · cases h
  · cases h

theorem load_op {P : Program} {B : Nat → Value} {σ : St} {t : TypeId} {p : Ptr} {n : Nat} {g : Bool} {e : Ent} {R : Type} {K : AV → Option R} {r : R} {w : World} {x : Value} (hh : HeapR B σ.heap w) (hx : VR B (.ptr (some p)) x)
    (ht : tyIx P t = some (n, g)) (hl : look p.id σ.heap = some e) (h : loadE e p.st p.dys n g K = some r) :
    ∃ u, K u = some r ∧ u.isTup = false ∧ (∀ i ∈ u.ids, (look i σ.heap).isSome = true) ∧ ∃ q, VR B u q ∧ (Instr.loadAt t x).run P w = .ok q w := by
  obtain ⟨b, o, hb, rfl⟩ := VR_ptr hx
  obtain ⟨i, d, hi, hd, hn, hg⟩ := tyIx_ok ht
  obtain ⟨u, hk, hug, ⟨us, h1, h2, h3⟩, hids⟩ := loadE_ok (hh.ent _ e hl) hb h
  refine ⟨u, hk, isTup_of_CR h2, fun j hj => hh.closed _ e hl j (hids j hj), ?_⟩
  cases g with
  | true => exact ⟨_, VR_of_CR_agg h2 hug, run_loadAt_mid w b _ t us d h3 hd hg (by rw [hi]; simp [hn, h1])⟩
  | false =>
    obtain ⟨q, rfl, hq⟩ := AR_of_CR hug h2
    refine ⟨q, (VR_atom (isTup_of_CR h2) hug).2 hq, ?_⟩
    have hc : w.cell? ⟨b, o + p.st + dyOff p.dys, none⟩ = some q := h3 0 q rfl
    have hagg : (isAgg t).run P w = .ok false w := by
      unfold isAgg; rw [Sem.run_bind, run_underlying hd w]; cases d <;> simp_all
    unfold Instr.loadAt Instr.sureAddr loadVar
    simp only [pure_bind]
    rw [Sem.run_bind, hagg]
    simp [hc]

theorem store_op {P : Program} {B : Nat → Value} {σ : St} {t : TypeId} {p : Ptr} {n : Nat} {g : Bool} {e : Ent} {u : AV} {R : Type} {K : Ent → Option R} {r : R} {w : World} {x y : Value} (hh : HeapR B σ.heap w) (hx : VR B (.ptr (some p)) x)
    (hy : VR B u y) (hu : ∀ j ∈ u.ids, (look j σ.heap).isSome = true) (ht : tyIx P t = some (n, g)) (hn : u.size = n) (hut : u.isTup = false) (hl : look p.id σ.heap = some e) (h : storeE e p.st p.dys u K = some r) :
    ∃ e', K e' = some r ∧ ∃ w', Post B σ w ⟨.tnil, [(p.id, e')], []⟩ B undef w' ∧ (Instr.storeAt t x y).run P w = .ok () w' := by
  obtain ⟨b, o, hb, rfl⟩ := VR_ptr hx
  obtain ⟨i, d, hi, hd, hin, hg⟩ := tyIx_ok ht
  have hcr := VR0_cells (VR0_of_VR hy hut)
  obtain ⟨v, v', cs, ty, rfl, hk, rfl, hB, hw, hp⟩ := storeE_ok (hh.ent _ e hl) hb hcr h
  refine ⟨_, hk, _, Post.store hh hl hB hw hp hu, ?_⟩
  have hsz : y.cells.size = n := by rw [← hn, ← CR_length hcr]; simp
  have hle := hp.le
  have hst := run_storeCells_at P b (p.st + dyOff p.dys) ty y.cells.toList 0 cs w hw (by simpa using hle) (CR_oneCell hcr)
  unfold Instr.storeAt Instr.sureAddr storeVar
  simp only [pure_bind]
  rw [Sem.run_bind, run_sizeOf' hi w]
  simp only [Result.andThen_ok]
  rw [if_neg (by rw [hsz, hin]; simp)]
  rw [show 0 + p.st + dyOff p.dys = p.st + dyOff p.dys by omega]
  simpa [splice] using hst

/-! ### Rows that are built -/

theorem decAll_ok {B : Nat → Value} {t : Ty} : ∀ {ps : List (Nat × AV)} {us : List (Nat × Value)} {j : Nat} {xs : List t.den}, All2 (fun p u => p.1 = u.1 ∧ VR B p.2 u.2) ps us → decAll t j ps = some xs →
    xs.length = ps.length ∧ (∀ x ∈ xs, wfT t x) ∧ ∀ (cells : Array Value), (j + ps.length) * t.size ≤ cells.size →
      ∃ out, Instr.fill (fun i => some (i * t.size, t.size)) cells us = some out ∧ out.toList = splice cells.toList (j * t.size) (xs.flatMap (cellsT t))
  | [], [], j, xs, _, h => by
    simp only [decAll, Option.some.injEq] at h
    subst h
    exact ⟨rfl, fun x hx => by simp at hx, fun cells _ => ⟨cells, rfl, by simp [splice]⟩⟩
  | [], _ :: _, _, _, hf, _ => hf.elim
  | _ :: _, [], _, _, hf, _ => hf.elim
  | (i, v) :: ps, (i', y) :: us, j, xs, ⟨⟨hi, hv⟩, hf⟩, h => by
    simp only at hi hv
    subst hi
    simp only [decAll] at h
    replace h := bif_eq_some h
    rcases h with ⟨hj, h⟩ | ⟨_, h⟩
    · have hj := Nat.eq_of_beq_eq_true hj
      subst hj
      split at h
      · rename_i x hx
        split at h
        · rename_i ys hys
          simp only [Option.some.injEq] at h
          subst h
          have hve := dec_enc t v x hx
          subst hve
          have ht : (enc t x).isTup = false := by cases t <;> rfl
          have hcr := VR0_cells (VR0_of_VR hv ht)
          obtain ⟨hwf, hcells⟩ := (CR_enc t x _).1 hcr
          obtain ⟨h1, h2, h3⟩ := decAll_ok hf hys
          have hlx := length_cellsT t x hwf
          have hsz : y.cells.size = t.size := by rw [← hlx, ← hcells]; simp
          refine ⟨by simp [h1], fun z hz => ?_, fun cells hle => ?_⟩
          · rcases List.mem_cons.1 hz with rfl | hz
            · exact hwf
            · exact h2 z hz
          · have hle' : i * t.size + y.cells.size ≤ cells.size := by
              rw [hsz]
              simp only [List.length_cons] at hle
              have : (i + (ps.length + 1)) * t.size = i * t.size + t.size + ps.length * t.size := by rw [Nat.add_mul, Nat.succ_mul]; omega
              omega
            have hone := fill_one cells (i * t.size) y.cells hle'
            have hsz1 : (y.cells.zipIdx.foldl (fun cs (c, j) => cs.setIfInBounds (i * t.size + j) c) cells).size = cells.size := by
              have := congrArg List.length hone
              rw [length_splice (by simpa using hle')] at this
              simpa using this
            obtain ⟨out, h4, h5⟩ := h3 (y.cells.zipIdx.foldl (fun cs (c, j) => cs.setIfInBounds (i * t.size + j) c) cells) (by
              rw [hsz1]
              simp only [List.length_cons] at hle
              rw [show i + 1 + ps.length = i + (ps.length + 1) by omega]; exact hle)
            refine ⟨out, ?_, ?_⟩
            · simp only [Instr.fill]
              rw [if_neg (by rw [hsz] at hle' ⊢; simp; omega)]
              exact h4
            · rw [h5, hone, hcells, List.flatMap_cons]
              have hl1 : i * t.size + (cellsT t x).length ≤ cells.toList.length := by rw [hlx]; rw [hsz] at hle'; simpa using hle'
              have e1 : (i + 1) * t.size = i * t.size + (cellsT t x).length := by rw [hlx, Nat.succ_mul]
              have hs1 : splice cells.toList (i * t.size) (cellsT t x) = (cells.toList.take (i * t.size) ++ cellsT t x) ++ cells.toList.drop (i * t.size + (cellsT t x).length) := by simp [splice]
              rw [hs1, e1, splice_right (by simp; omega)]
              have e2 : i * t.size + (cellsT t x).length - (cells.toList.take (i * t.size) ++ cellsT t x).length = 0 := by
                simp only [List.length_append, List.length_take]; omega
              rw [e2]
              simp only [splice, List.take_zero, List.nil_append, Nat.zero_add, List.drop_drop, List.append_assoc, List.length_append]
              rw [Nat.add_assoc]
        · cases h
      · cases h
    · cases h

theorem Post.newRows {B : Nat → Value} {σ : St} {w : World} {id : Nat} {cs : Array Value} {e : TypeId} {t : Ty} {xs : List t.den} {rd : List Nat} (hh : HeapR B σ.heap w) (hn : look id σ.heap = none) (h1000 : 1000 ≤ id)
    (hcs : cs.toList = xs.flatMap (cellsT t)) (hwf : ∀ x ∈ xs, wfT t x) (hl : xs.length ≤ maxLen) :
    Post B σ w ⟨.vec id, [(id, .rows true e t xs)], rd⟩ (fun i => if i = id then .slice (some ⟨w.heap.size, 0, none⟩) xs.length xs.length else B i) (.slice (some ⟨w.heap.size, 0, none⟩) xs.length xs.length)
      { w with heap := w.heap.push (.cells cs e) } := by
  have hne : ∀ i, (look i σ.heap).isSome = true → i ≠ id := fun i h e => by subst e; rw [hn] at h; cases h
  have hsame : ∀ i, (look i σ.heap).isSome = true → (fun i => if i = id then (.slice (some ⟨w.heap.size, 0, none⟩) xs.length xs.length : Value) else B i) i = B i := fun i h => by
    simp only []; rw [if_neg (hne i h)]
  have hold : ∀ b, b < w.heap.size → (w.heap.push (.cells cs e))[b]? = w.heap[b]? := fun b hb => by rw [Array.getElem?_push, if_neg (by omega)]
  have hlook : ∀ i e', look i ([(id, Ent.rows true e t xs)] ++ σ.heap) = some e' → (i = id ∧ e' = .rows true e t xs) ∨ (i ≠ id ∧ look i σ.heap = some e') := fun i e h => by
    simp only [List.cons_append, List.nil_append, look_cons] at h
    by_cases hid : i = id
    · rw [if_pos hid] at h; cases h; exact .inl ⟨hid, rfl⟩
    · rw [if_neg hid] at h; exact .inr ⟨hid, h⟩
  have hB : ∀ i e', look i σ.heap = some e' → (if i = id then (.slice (some ⟨w.heap.size, 0, none⟩) xs.length xs.length : Value) else B i) = B i := fun i e h => if_neg (hne i (by rw [h]; rfl))
  have hlen : ∀ (ys : List t.den), (∀ x ∈ ys, wfT t x) → (ys.flatMap (cellsT t)).length = ys.length * t.size := by
    intro ys
    induction ys with
    | nil => intro _; simp
    | cons y ys ih => intro hw; rw [List.flatMap_cons, List.length_append, length_cellsT t y (hw y (by simp)), ih (fun x hx => hw x (by simp [hx])), List.length_cons, Nat.succ_mul]; omega
  have hsize : cs.size = xs.length * t.size := by rw [← hlen xs hwf, ← hcs]; simp
  refine ⟨?_, hsame, fun i hlt => if_neg (by omega), ⟨?_, ?_, ?_⟩, ⟨rfl, rfl, rfl, by simp, fun b hb _ => hold b hb, ?_⟩, ?_⟩
  · rw [VR_atom rfl rfl]
    exact ⟨by simp, _, _, _, rfl⟩
  · intro i e' h
    rcases hlook i e' h with ⟨rfl, rfl⟩ | ⟨hid, h⟩
    · refine ⟨⟨hlen xs hwf, .inr ⟨w.heap.size, xs.length, cs, by simp, by omega, by simp, Nat.le_refl _, hl, hsize, ?_⟩⟩, hwf⟩
      rw [← hcs, List.take_of_length_le (by simp [hsize])]
    · have he := hh.ent i e' h
      refine EntR_world (w := w) (by simp) (fun b hb => hold b ?_) (EntR_congr (hB i e' h).symm (fun j hj => (hsame j (hh.closed i e' h j hj)).symm) he)
      rw [hB i e' h] at hb
      exact EntR_lt he hb
  · intro i j e1 e2 b hie hje hij ho hb
    rcases hlook i e1 hie with ⟨rfl, rfl⟩ | ⟨hid, hie'⟩
    · simp only [if_true, blkE, blkB, Bool.not_true, Bool.false_and, cond_false, Option.some.injEq] at hb
      subst hb
      rcases hlook j e2 hje with ⟨rfl, _⟩ | ⟨_, hje'⟩
      · exact absurd rfl hij
      · simp only [hB j e2 hje']
        intro hb
        exact Nat.lt_irrefl _ (EntR_lt (hh.ent j e2 hje') hb)
    · simp only [hB i e1 hie'] at hb
      rcases hlook j e2 hje with ⟨rfl, rfl⟩ | ⟨_, hje'⟩
      · simp only [if_true, blkE, blkB, Bool.not_true, Bool.false_and, cond_false]
        intro h
        cases h
        exact Nat.lt_irrefl _ (EntR_lt (hh.ent i e1 hie') hb)
      · simp only [hB j e2 hje']
        exact hh.apart i j e1 e2 b hie' hje' hij ho hb
  · intro i e' h j hj
    rcases hlook i e' h with ⟨_, rfl⟩ | ⟨_, h⟩
    · simp [Ent.ids] at hj
    · exact isSome_append (hh.closed i e' h j hj)
  · rintro b ⟨i, e', h, ho, hb⟩
    rcases hlook i e' h with ⟨rfl, rfl⟩ | ⟨_, h⟩
    · simp only [if_true, blkE, blkB, Bool.not_true, Bool.false_and, cond_false, Option.some.injEq] at hb
      exact .inr (by omega)
    · simp only [hB i e' h] at hb
      exact .inl ⟨i, e', h, ho, hb⟩
  · intro i hi
    simp only [AV.ids, List.mem_singleton] at hi
    subst hi
    simp [look_cons]

end Go.Proofs.Ytjciljaojcekeaa.Sx
