/- The state of the machine Sy, what it means that a frame and a world of the model stand for it, and loads and stores. -/
import Derived.Test.YtkcdbbflelgbeaaDoorSy1
namespace Go.Proofs.YtkcdbbflelgbeaaDoor.Sy
open Go
set_option linter.unusedVariables false
set_option linter.unusedSimpArgs false

structure St where
  env : List (Nat × AV)
  heap : Heap

structure Rel (N : Nat) (B : Nat → Value) (σ : St) (a : Act) (w : World) : Prop where
  size : a.tmps.size = N
  defers : a.defers = []
  env : ∀ t v, look t σ.env = some v → t < N ∧ VR B v (a.tmps.getD t undef)
  closed : ∀ t v, look t σ.env = some v → ∀ i ∈ v.ids, (look i σ.heap).isSome = true
  heap : HeapR B σ.heap w

/-- What an operation does: its value, what it writes, what it reads. -/
structure Eff where
  val : AV
  wr : Heap
  rd : List Nat

def St.app (σ : St) (d : Option Nat) (ef : Eff) : St :=
  { env := match d with
      | some t => (t, ef.val) :: σ.env
      | none => σ.env
    heap := ef.wr ++ σ.heap }

structure Post (B : Nat → Value) (σ : St) (w : World) (ef : Eff) (B' : Nat → Value) (u : Value) (w' : World) : Prop where
  vr : VR B' ef.val u
  same : ∀ i, (look i σ.heap).isSome = true → B' i = B i
  low : ∀ i, i < 1000 → B' i = B i
  heap : HeapR B' (ef.wr ++ σ.heap) w'
  fr : Fr B σ.heap w B' (ef.wr ++ σ.heap) w'
  ids : ∀ i ∈ ef.val.ids, (look i (ef.wr ++ σ.heap)).isSome = true

theorem isSome_append {α : Type} {i : Nat} {a b : List (Nat × α)} (h : (look i b).isSome = true) : (look i (a ++ b)).isSome = true := by
  rw [look_append]
  cases look i a with
  | none => simpa using h
  | some x => simp

def okDst (N : Nat) : Option Nat → Bool
  | some d => Nat.blt d N
  | none => true

theorem Post.rel {N : Nat} {B B' : Nat → Value} {σ : St} {a : Act} {w w' : World} {ef : Eff} {u : Value} {d : Option Nat} (hd : okDst N d = true) (hr : Rel N B σ a w) (hp : Post B σ w ef B' u w') :
    Rel N B' (σ.app d ef) (a.put d u) w' where
  size := by rw [← hr.size]; cases d <;> simp [Act.put]
  defers := by rw [← hr.defers]; cases d <;> rfl
  env := fun t v h => by
    have old : ∀ t v, look t σ.env = some v → t < N ∧ VR B' v (a.tmps.getD t undef) := fun t v h =>
      ⟨(hr.env t v h).1, VR_congr (fun i hi => (hp.same i (hr.closed t v h i hi)).symm) (hr.env t v h).2⟩
    cases d with
    | none => exact old t v h
    | some d =>
      have hd : d < N := blt_lt hd
      simp only [St.app, look_cons] at h
      by_cases e : t = d
      · subst e
        rw [if_pos rfl] at h; cases h
        refine ⟨hd, ?_⟩
        have : (a.put (some t) u).tmps.getD t undef = u := by simp [Act.put, Array.getElem?_setIfInBounds_self_of_lt (show t < a.tmps.size by rw [hr.size]; exact hd)]
        rw [this]; exact hp.vr
      · rw [if_neg e] at h
        have : (a.put (some d) u).tmps.getD t undef = a.tmps.getD t undef := by simp [Act.put, Array.getElem?_setIfInBounds_ne (Ne.symm e)]
        rw [this]; exact old t v h
  closed := fun t v h i hi => by
    have old : ∀ t v, look t σ.env = some v → ∀ i ∈ v.ids, (look i (ef.wr ++ σ.heap)).isSome = true := fun t v h i hi => isSome_append (hr.closed t v h i hi)
    cases d with
    | none => exact old t v h i hi
    | some d =>
      simp only [St.app, look_cons] at h
      by_cases e : t = d
      · rw [if_pos e] at h; cases h
        exact hp.ids i hi
      · rw [if_neg e] at h
        exact old t v h i hi
  heap := hp.heap

/-- Nothing but a value. -/
theorem Post.pure {B : Nat → Value} {σ : St} {w : World} {v : AV} {u : Value} {rd : List Nat} (hh : HeapR B σ.heap w) (hv : VR B v u) (hi : ∀ i ∈ v.ids, (look i σ.heap).isSome = true) :
    Post B σ w ⟨v, [], rd⟩ B u w := ⟨hv, fun _ _ => rfl, fun _ _ => rfl, hh, Fr.refl _ _ _, hi⟩

/-- After draws. -/
theorem HeapR.heapEq {B : Nat → Value} {H : Heap} {w w' : World} (h : HeapR B H w) (e : w'.heap = w.heap) : HeapR B H w' :=
  ⟨fun i en hi => EntR_world (by rw [e]; exact Nat.le_refl _) (fun b _ => by rw [e]) (h.ent i en hi), h.apart, h.closed⟩

theorem VR0_of_VR {B : Nat → Value} {v : AV} {x : Value} (h : VR B v x) (ht : v.isTup = false) : VR0 B v x := by
  unfold VR at h; rw [ht] at h; exact h

theorem VR_of_VR0 {B : Nat → Value} {v : AV} {x : Value} (h : VR0 B v x) (ht : v.isTup = false) : VR B v x := by
  unfold VR; rw [ht]; exact h

theorem VR_atom {B : Nat → Value} {v : AV} {x : Value} (ht : v.isTup = false) (ha : v.isAgg = false) : VR B v x ↔ AR B v x := by
  unfold VR VR0; rw [ht, ha]; simp

theorem isTup_of_isAgg {v : AV} (h : v.isAgg = true) : v.isTup = false := by cases v <;> first | rfl | cases h

theorem isTup_of_CR {B : Nat → Value} {v : AV} {cs : List Value} (h : CR B v cs) : v.isTup = false := by
  cases v <;> first | rfl | (obtain ⟨x, _, hx⟩ := h; exact hx.elim)

theorem VR_of_CR_agg {B : Nat → Value} {v : AV} {cs : List Value} (h : CR B v cs) (ha : v.isAgg = true) : VR B v (.agg cs.toArray) := by
  refine VR_of_VR0 ?_ (isTup_of_CR h)
  unfold VR0; rw [if_pos ha]; exact ⟨cs, h, rfl⟩

def upd (B : Nat → Value) (id : Nat) (u : Value) : Nat → Value := fun i => if i = id then u else B i

theorem upd_self (B : Nat → Value) (id : Nat) (u : Value) : upd B id u id = u := if_pos rfl
theorem upd_ne {B : Nat → Value} {id : Nat} {u : Value} {i : Nat} (h : i ≠ id) : upd B id u i = B i := if_neg h

/-- One entry more, whose block, if it looks into one, is new. -/
theorem Post.add {B : Nat → Value} {σ : St} {w w' : World} {id : Nat} {e : Ent} {u : Value} {val : AV} {rd : List Nat} (hh : HeapR B σ.heap w) (hn : look id σ.heap = none) (h1000 : 1000 ≤ id)
    (hos : w'.os = w.os) (htape : w'.tape = w.tape) (hout : w'.output = w.output) (hs : w.heap.size ≤ w'.heap.size) (hold : ∀ b, b < w.heap.size → w'.heap[b]? = w.heap[b]?)
    (hnew : ∀ b, blkR e u = some b → w.heap.size ≤ b) (hids : ∀ j ∈ e.ids, (look j σ.heap).isSome = true) (he : EntR (upd B id u) id w' e)
    (hv : VR (upd B id u) val u) (hvi : ∀ j ∈ val.ids, j = id) : Post B σ w ⟨val, [(id, e)], rd⟩ (upd B id u) u w' := by
  have hne : ∀ i, (look i σ.heap).isSome = true → i ≠ id := fun i h e => by subst e; rw [hn] at h; cases h
  have hsame : ∀ i, (look i σ.heap).isSome = true → upd B id u i = B i := fun i h => upd_ne (hne i h)
  have hlook : ∀ i e', look i ([(id, e)] ++ σ.heap) = some e' → (i = id ∧ e' = e) ∨ (i ≠ id ∧ look i σ.heap = some e') := fun i e' h => by
    simp only [List.cons_append, List.nil_append, look_cons] at h
    by_cases hid : i = id
    · rw [if_pos hid] at h; cases h; exact .inl ⟨hid, rfl⟩
    · rw [if_neg hid] at h; exact .inr ⟨hid, h⟩
  have hB : ∀ i e', look i σ.heap = some e' → upd B id u i = B i := fun i e' h => hsame i (by rw [h]; rfl)
  refine ⟨hv, hsame, fun i hlt => upd_ne (by omega), ⟨?_, ?_, ?_⟩, ⟨hos, htape, hout, hs, fun b hb _ => hold b hb, fun b x hb _ o _ => ?_, ?_, ?_⟩, ?_⟩
  · intro i e' h
    rcases hlook i e' h with ⟨rfl, rfl⟩ | ⟨hid, h⟩
    · exact he
    · have hr := hh.ent i e' h
      refine EntR_world (w := w) hs (fun b hb => hold b ?_) (EntR_congr (hB i e' h).symm (fun j hj => (hsame j (hh.closed i e' h j hj)).symm) hr)
      rw [hB i e' h] at hb
      exact EntR_lt hr hb
  · intro i j e1 e2 b hie hje hij hO hR
    rcases hlook i e1 hie with ⟨rfl, rfl⟩ | ⟨hid, hie'⟩
    · rw [upd_self] at hO
      have hge := hnew b (blkR_of_O hO)
      rcases hlook j e2 hje with ⟨rfl, _⟩ | ⟨_, hje'⟩
      · exact absurd rfl hij
      · rw [hB j e2 hje'] at hR
        have := EntR_lt (hh.ent j e2 hje') hR
        omega
    · rw [hB i e1 hie'] at hO ⊢
      rcases hlook j e2 hje with ⟨rfl, rfl⟩ | ⟨_, hje'⟩
      · rw [upd_self] at hR
        have hge := hnew b hR
        have := EntR_lt (hh.ent i e1 hie') (blkR_of_O hO)
        omega
      · rw [hB j e2 hje'] at hR ⊢
        exact hh.apart i j e1 e2 b hie' hje' hij hO hR
  · intro i e' h j hj
    rcases hlook i e' h with ⟨_, rfl⟩ | ⟨_, h⟩
    · exact isSome_append (hids j hj)
    · exact isSome_append (hh.closed i e' h j hj)
  · unfold World.cell?; rw [hold b hb]
  · rintro b ⟨i, e', h, hO⟩
    rcases hlook i e' h with ⟨rfl, rfl⟩ | ⟨hid, h⟩
    · rw [upd_self] at hO
      exact .inr (hnew b (blkR_of_O hO))
    · rw [hB i e' h] at hO
      refine .inl ⟨⟨i, e', h, hO⟩, fun x hx => ⟨x, Nat.le_refl _, ?_⟩⟩
      obtain ⟨i2, e2, p1, p2, p3, p4⟩ := hx
      refine ⟨i2, e2, ?_, by rw [hB i2 e2 p1]; exact p2, p3, by rw [hB i2 e2 p1]; exact p4⟩
      rw [List.cons_append, List.nil_append, look_cons, if_neg (hne i2 (by rw [p1]; rfl))]
      exact p1
  · intro i e' b h hb
    rcases hlook i e' h with ⟨rfl, rfl⟩ | ⟨hid, h⟩
    · rw [upd_self] at hb
      exact .inr (hnew b hb)
    · rw [hB i e' h] at hb ⊢
      exact .inl (Seen.self h hb)
  · intro i hi
    rw [hvi i hi]
    simp [look_cons]

/-- A new block of its own, one entry more. -/
theorem Post.new {B : Nat → Value} {σ : St} {w : World} {id : Nat} {cs : Array Value} {ty : TypeId} {v : AV} {rd : List Nat} (hh : HeapR B σ.heap w) (hn : look id σ.heap = none) (h1000 : 1000 ≤ id)
    (hv : CR B v cs.toList) (hi : ∀ i ∈ v.ids, (look i σ.heap).isSome = true) :
    Post B σ w ⟨.ptr (some ⟨id, 0, []⟩), [(id, .cell v)], rd⟩ (upd B id (.pointer (some ⟨w.heap.size, 0, none⟩))) (.pointer (some ⟨w.heap.size, 0, none⟩))
      { w with heap := w.heap.push (.cells cs ty) } := by
  have hne : ∀ i, (look i σ.heap).isSome = true → i ≠ id := fun i h e => by subst e; rw [hn] at h; cases h
  refine Post.add hh hn h1000 rfl rfl rfl (by simp) (fun b hb => by rw [Array.getElem?_push, if_neg (by omega)]) ?_ hi ?_ ?_ ?_
  · intro b hb
    simp only [blkR, Option.some.injEq] at hb
    omega
  · exact ⟨w.heap.size, cs, ty, upd_self .., by simp, CR_congr (fun j hj => (upd_ne (hne j (hi j hj))).symm) hv⟩
  · rw [VR_atom rfl rfl]
    exact ⟨w.heap.size, 0, by rw [upd_self]; rfl, by simp [dyOff]⟩
  · intro i hi
    simpa [AV.ids] using hi

end Go.Proofs.YtkcdbbflelgbeaaDoor.Sy
