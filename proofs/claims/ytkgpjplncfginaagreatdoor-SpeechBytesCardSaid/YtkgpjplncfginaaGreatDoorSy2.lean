/- The state of the machine Sy, what it means that a frame and a world of the model stand for it, and loads and stores. -/
import Derived.Test.YtkgpjplncfginaaGreatDoorSy1
namespace Go.Proofs.YtkgpjplncfginaaGreatDoor.Sy
open Go
set_option linter.unusedVariables false
set_option linter.unusedSimpArgs false

structure St where
  env : List (Nat × AV)
  heap : Heap

structure Rel (N : Nat) (B : Bz) (σ : St) (a : Act) (w : World) : Prop where
  size : a.tmps.size = N
  defers : a.defers = []
  env : ∀ t v, look t σ.env = some v → t < N ∧ VR B v (a.tmps.getD t undef)
  closed : ∀ t v, look t σ.env = some v → ∀ i ∈ v.ids, (look i σ.heap).isSome = true
  heap : HeapR B σ.heap w

/-- What an operation does: its value, what it writes, what it reads. -/
structure Eff where
  val : AV
  wr : Heap
  rd : List Nat

def St.app (σ : St) (d : Option Nat) (ef : Eff) : St :=
  { env := match d with
      | some t => (t, ef.val) :: σ.env
      | none => σ.env
    heap := ef.wr ++ σ.heap }

structure Post (B : Bz) (σ : St) (w : World) (ef : Eff) (B' : Bz) (u : Value) (w' : World) : Prop where
  vr : VR B' ef.val u
  same : ∀ i, (look i σ.heap).isSome = true → B' i = B i
  low : ∀ i, i < 1000 → B' i = B i
  heap : HeapR B' (ef.wr ++ σ.heap) w'
  fr : Fr B σ.heap w B' (ef.wr ++ σ.heap) w'
  ids : ∀ i ∈ ef.val.ids, (look i (ef.wr ++ σ.heap)).isSome = true

theorem isSome_append {α : Type} {i : Nat} {a b : List (Nat × α)} (h : (look i b).isSome = true) : (look i (a ++ b)).isSome = true := by
  rw [look_append]
  cases look i a with
  | none => simpa using h
  | some x => simp

def okDst (N : Nat) : Option Nat → Bool
  | some d => Nat.blt d N
  | none => true

theorem Post.rel {N : Nat} {B B' : Bz} {σ : St} {a : Act} {w w' : World} {ef : Eff} {u : Value} {d : Option Nat} (hd : okDst N d = true) (hr : Rel N B σ a w) (hp : Post B σ w ef B' u w') :
    Rel N B' (σ.app d ef) (a.put d u) w' where
  size := by rw [← hr.size]; cases d <;> simp [Act.put]
  defers := by rw [← hr.defers]; cases d <;> rfl
  env := fun t v h => by
    have old : ∀ t v, look t σ.env = some v → t < N ∧ VR B' v (a.tmps.getD t undef) := fun t v h =>
      ⟨(hr.env t v h).1, VR_congr hp.fr.zle (fun i hi => (hp.same i (hr.closed t v h i hi)).symm) (hr.env t v h).2⟩
    cases d with
    | none => exact old t v h
    | some d =>
      have hd : d < N := blt_lt hd
      simp only [St.app, look_cons] at h
      by_cases e : t = d
      · subst e
        rw [if_pos rfl] at h; cases h
        refine ⟨hd, ?_⟩
        have : (a.put (some t) u).tmps.getD t undef = u := by simp [Act.put, Array.getElem?_setIfInBounds_self_of_lt (show t < a.tmps.size by rw [hr.size]; exact hd)]
        rw [this]; exact hp.vr
      · rw [if_neg e] at h
        have : (a.put (some d) u).tmps.getD t undef = a.tmps.getD t undef := by simp [Act.put, Array.getElem?_setIfInBounds_ne (Ne.symm e)]
        rw [this]; exact old t v h
  closed := fun t v h i hi => by
    have old : ∀ t v, look t σ.env = some v → ∀ i ∈ v.ids, (look i (ef.wr ++ σ.heap)).isSome = true := fun t v h i hi => isSome_append (hr.closed t v h i hi)
    cases d with
    | none => exact old t v h i hi
    | some d =>
      simp only [St.app, look_cons] at h
      by_cases e : t = d
      · rw [if_pos e] at h; cases h
        exact hp.ids i hi
      · rw [if_neg e] at h
        exact old t v h i hi
  heap := hp.heap

/-- Nothing but a value. -/
theorem Post.pure {B : Bz} {σ : St} {w : World} {v : AV} {u : Value} {rd : List Nat} (hh : HeapR B σ.heap w) (hv : VR B v u) (hi : ∀ i ∈ v.ids, (look i σ.heap).isSome = true) :
    Post B σ w ⟨v, [], rd⟩ B u w := ⟨hv, fun _ _ => rfl, fun _ _ => rfl, hh, Fr.refl _ _ _, hi⟩

/-- After draws. -/
theorem HeapR.heapEq {B : Bz} {H : Heap} {w w' : World} (h : HeapR B H w) (e : w'.heap = w.heap) : HeapR B H w' :=
  ⟨fun i en hi => EntR_world (fun b _ => by rw [e]) (h.ent i en hi), fun b o u hz => by rw [← h.fz b o u hz]; unfold World.cell?; rw [e], h.apart, h.zo, h.closed⟩

theorem VR0_of_VR {B : Bz} {v : AV} {x : Value} (h : VR B v x) (ht : v.isTup = false) : VR0 B v x := by
  unfold VR at h; rw [ht] at h; exact h

theorem VR_of_VR0 {B : Bz} {v : AV} {x : Value} (h : VR0 B v x) (ht : v.isTup = false) : VR B v x := by
  unfold VR; rw [ht]; exact h

theorem VR_atom {B : Bz} {v : AV} {x : Value} (ht : v.isTup = false) (ha : v.isAgg = false) : VR B v x ↔ AR B v x := by
  unfold VR VR0; rw [ht, ha]; simp

theorem isTup_of_isAgg {v : AV} (h : v.isAgg = true) : v.isTup = false := by cases v <;> first | rfl | cases h

theorem isTup_of_CR {B : Bz} {v : AV} {cs : List Value} (h : CR B v cs) : v.isTup = false := by
  cases v <;> first | rfl | (obtain ⟨x, _, hx⟩ := h; exact hx.elim)

theorem VR_of_CR_agg {B : Bz} {v : AV} {cs : List Value} (h : CR B v cs) (ha : v.isAgg = true) : VR B v (.agg cs.toArray) := by
  refine VR_of_VR0 ?_ (isTup_of_CR h)
  unfold VR0; rw [if_pos ha]; exact ⟨cs, h, rfl⟩

def upd (B : Bz) (id : Nat) (u : Value) : Bz := ⟨fun i => if i = id then u else B i, B.z⟩

theorem upd_self (B : Bz) (id : Nat) (u : Value) : upd B id u id = u := if_pos rfl
theorem upd_ne {B : Bz} {id : Nat} {u : Value} {i : Nat} (h : i ≠ id) : upd B id u i = B i := if_neg h

/-- The same names, more that stays as it is. -/
def Bz.frz (B : Bz) (z : Frz) : Bz := ⟨B.f, z⟩

/-- Blocks of entries that are written anew. -/
def Taken (B : Bz) (H wr : Heap) (b : Nat) : Prop := ∃ v e, look v H = some e ∧ (look v wr).isSome = true ∧ blkO e (B v) b

theorem Taken.owned {B : Bz} {H wr : Heap} {b : Nat} (h : Taken B H wr b) : Owned B H b := by
  obtain ⟨v, e, h1, _, h2⟩ := h
  exact ⟨v, e, h1, h2⟩

/-- What every operation is asked for. -/
theorem Post.master {B B' : Bz} {σ : St} {w w' : World} {wr : Heap} {val : AV} {u : Value} {rd : List Nat} (hh : HeapR B σ.heap w)
    (same : ∀ i, (look i σ.heap).isSome = true → B' i = B i) (low : ∀ i, i < 1000 → B' i = B i)
    (hos : w'.os = w.os) (htape : w'.tape = w.tape) (hout : w'.output = w.output) (hs : w.heap.size ≤ w'.heap.size)
    (hold : ∀ b, b < w.heap.size → ¬ Taken B σ.heap wr b → w'.heap[b]? = w.heap[b]?)
    (zle : Zle B.z B'.z) (znew : ∀ b o x, B'.z b o = some x → B.z b o = some x ∨ Taken B σ.heap wr b ∨ w.heap.size ≤ b)
    (fz : ∀ b o x, B'.z b o = some x → w'.cell? ⟨b, o, none⟩ = some x)
    (ent : ∀ i e, look i wr = some e → EntR B' i w' e)
    (own : ∀ i e b, look i wr = some e → blkO e (B' i) b → Taken B σ.heap wr b ∨ w.heap.size ≤ b)
    (apart : ∀ i j e e' b, look i wr = some e → look j wr = some e' → i ≠ j → blkO e (B' i) b → ¬ blkO e' (B' j) b)
    (zo : ∀ i e b o x, look i wr = some e → blkO e (B' i) b → B'.z b o = some x → e.mode = 1 ∧ o < endE e (B' i))
    (ids : ∀ i e, look i wr = some e → ∀ j ∈ e.ids, (look j (wr ++ σ.heap)).isSome = true)
    (vr : VR B' val u) (vids : ∀ i ∈ val.ids, (look i (wr ++ σ.heap)).isSome = true) : Post B σ w ⟨val, wr, rd⟩ B' u w' := by
  have hlook : ∀ i e, look i (wr ++ σ.heap) = some e → look i wr = some e ∨ (look i wr = none ∧ look i σ.heap = some e) := fun i e h => by
    rw [look_append] at h
    cases hw : look i wr with
    | some x => rw [hw] at h; simp only [Option.some_or] at h; exact .inl h
    | none => rw [hw, Option.none_or] at h; exact .inr ⟨rfl, h⟩
  have hB : ∀ i e, look i σ.heap = some e → B' i = B i := fun i e h => same i (by rw [h]; rfl)
  -- what isn't written anew owns nothing of what is taken
  have free : ∀ i e b, look i wr = none → look i σ.heap = some e → blkO e (B i) b → ¬ Taken B σ.heap wr b := fun i e b h1 h2 h3 ⟨v, x, g1, g2, g3⟩ => by
    refine hh.apart i v e x b h2 g1 (fun e' => ?_) h3 g3
    subst e'
    rw [h1] at g2; cases g2
  refine ⟨vr, same, low, ⟨?_, fz, ?_, ?_, ?_⟩, ⟨hos, htape, hout, hs, fun b hb hn => hold b hb (fun ht => hn ht.owned), zle, fun b o x h => ?_, ?_⟩, vids⟩
  · intro i e h
    rcases hlook i e h with h | ⟨h1, h2⟩
    · exact ent i e h
    · refine EntR_congr zle (hB i e h2).symm (fun j hj => (same j (hh.closed i e h2 j hj)).symm) ?_
      exact EntR_world (fun b hb => hold b (EntR_lt (hh.ent i e h2) hb) (free i e b h1 h2 hb)) (hh.ent i e h2)
  · intro i j e e' b hi hj hij h1 h2
    rcases hlook i e hi with hi | ⟨hi1, hi2⟩
    · rcases hlook j e' hj with hj | ⟨hj1, hj2⟩
      · exact apart i j e e' b hi hj hij h1 h2
      · rw [hB j e' hj2] at h2
        rcases own i e b hi h1 with g | g
        · exact free j e' b hj1 hj2 h2 g
        · have := EntR_lt (hh.ent j e' hj2) h2; omega
    · rw [hB i e hi2] at h1
      rcases hlook j e' hj with hj | ⟨hj1, hj2⟩
      · rcases own j e' b hj h2 with g | g
        · exact free i e b hi1 hi2 h1 g
        · have := EntR_lt (hh.ent i e hi2) h1; omega
      · rw [hB j e' hj2] at h2
        exact hh.apart i j e e' b hi2 hj2 hij h1 h2
  · intro i e b o x hi h1 h2
    rcases hlook i e hi with hi | ⟨hi1, hi2⟩
    · exact zo i e b o x hi h1 h2
    · rw [hB i e hi2] at h1 ⊢
      rcases znew b o x h2 with g | g | g
      · exact hh.zo i e b o x hi2 h1 g
      · exact absurd g (free i e b hi1 hi2 h1)
      · have := EntR_lt (hh.ent i e hi2) h1; omega
  · intro i e h j hj
    rcases hlook i e h with h | ⟨_, h⟩
    · exact ids i e h j hj
    · exact isSome_append (hh.closed i e h j hj)
  · rcases znew b o x h with g | g | g
    · exact .inl g
    · exact .inr (.inl g.owned)
    · exact .inr (.inr g)
  · rintro b ⟨i, e, hi, h1⟩
    rcases hlook i e hi with hi | ⟨_, hi2⟩
    · exact (own i e b hi h1).imp_left Taken.owned
    · rw [hB i e hi2] at h1
      exact .inl ⟨i, e, hi2, h1⟩

theorem look_one {α : Type} {i j : Nat} {x y : α} (h : look i [(j, x)] = some y) : i = j ∧ y = x := by
  rw [look_cons] at h
  by_cases e : i = j
  · rw [if_pos e] at h; cases h; exact ⟨e, rfl⟩
  · rw [if_neg e] at h; cases h

theorem look_two {α : Type} {i j k : Nat} {x z y : α} (h : look i [(j, x), (k, z)] = some y) : (i = j ∧ y = x) ∨ (i ≠ j ∧ i = k ∧ y = z) := by
  rw [look_cons] at h
  by_cases e : i = j
  · rw [if_pos e] at h; cases h; exact .inl ⟨e, rfl⟩
  · rw [if_neg e] at h
    obtain ⟨h1, h2⟩ := look_one h
    exact .inr ⟨e, h1, h2⟩

/-- Cells that stay as they are stay where the blocks do. -/
theorem fz_keep {B : Bz} {H : Heap} {w w' : World} (hh : HeapR B H w) (hold : ∀ b, b < w.heap.size → (∃ o x, B.z b o = some x) → w'.heap[b]? = w.heap[b]?) : ∀ b o x, B.z b o = some x → w'.cell? ⟨b, o, none⟩ = some x := fun b o x h => by
  have h1 := hh.fz b o x h
  have hb : b < w.heap.size := by
    rcases Nat.lt_or_ge b w.heap.size with hb | hb
    · exact hb
    · unfold World.cell? at h1
      rw [Array.getElem?_eq_none hb] at h1; cases h1
  rw [← h1]
  unfold World.cell?
  rw [hold b hb ⟨o, x, h⟩]

/-- One entry more, whose block, if it has one, is new. -/
theorem Post.add {B : Bz} {σ : St} {w w' : World} {id : Nat} {e : Ent} {u : Value} {val : AV} {rd : List Nat} (hh : HeapR B σ.heap w) (hn : look id σ.heap = none) (h1000 : 1000 ≤ id)
    (hos : w'.os = w.os) (htape : w'.tape = w.tape) (hout : w'.output = w.output) (hs : w.heap.size ≤ w'.heap.size) (hold : ∀ b, b < w.heap.size → w'.heap[b]? = w.heap[b]?)
    (hnew : ∀ b, blkO e u b → w.heap.size ≤ b) (hids : ∀ j ∈ e.ids, (look j σ.heap).isSome = true) (he : EntR (upd B id u) id w' e)
    (hv : VR (upd B id u) val u) (hvi : ∀ j ∈ val.ids, j = id) : Post B σ w ⟨val, [(id, e)], rd⟩ (upd B id u) u w' := by
  have hne : ∀ i, (look i σ.heap).isSome = true → i ≠ id := fun i h e => by subst e; rw [hn] at h; cases h
  have zlt : ∀ b o x, B.z b o = some x → b < w.heap.size := fun b o x h => by
    have h1 := hh.fz b o x h
    rcases Nat.lt_or_ge b w.heap.size with hb | hb
    · exact hb
    · unfold World.cell? at h1
      rw [Array.getElem?_eq_none hb] at h1; cases h1
  refine Post.master hh (fun i h => upd_ne (hne i h)) (fun i hlt => upd_ne (by omega)) hos htape hout hs (fun b hb _ => hold b hb) (Zle.refl _) (fun b o x h => .inl h) (fz_keep (B := B) hh (fun b hb _ => hold b hb)) ?_ ?_ ?_ ?_ ?_ hv ?_
  · intro i e' h
    obtain ⟨rfl, rfl⟩ := look_one h
    exact he
  · intro i e' b h hb
    obtain ⟨rfl, rfl⟩ := look_one h
    rw [upd_self] at hb
    exact .inr (hnew b hb)
  · intro i j e1 e2 b h1 h2 hij
    exact absurd ((look_one h1).1.trans (look_one h2).1.symm) hij
  · intro i e' b o x h hb hz
    obtain ⟨rfl, rfl⟩ := look_one h
    rw [upd_self] at hb
    have := zlt b o x hz
    have := hnew b hb
    omega
  · intro i e' h j hj
    obtain ⟨rfl, rfl⟩ := look_one h
    exact isSome_append (hids j hj)
  · intro i hi
    rw [hvi i hi]
    simp [look_cons]

/-- A new block of its own, one entry more. -/
theorem Post.new {B : Bz} {σ : St} {w : World} {id : Nat} {cs : Array Value} {ty : TypeId} {v : AV} {rd : List Nat} (hh : HeapR B σ.heap w) (hn : look id σ.heap = none) (h1000 : 1000 ≤ id)
    (hv : CR B v cs.toList) (hi : ∀ i ∈ v.ids, (look i σ.heap).isSome = true) :
    Post B σ w ⟨.ptr (some ⟨id, 0, []⟩), [(id, .cell v)], rd⟩ (upd B id (.pointer (some ⟨w.heap.size, 0, none⟩))) (.pointer (some ⟨w.heap.size, 0, none⟩))
      { w with heap := w.heap.push (.cells cs ty) } := by
  have hne : ∀ i, (look i σ.heap).isSome = true → i ≠ id := fun i h e => by subst e; rw [hn] at h; cases h
  refine Post.add hh hn h1000 rfl rfl rfl (by simp) (fun b hb => by rw [Array.getElem?_push, if_neg (by omega)]) ?_ hi ?_ ?_ ?_
  · intro b hb
    have hb : w.heap.size = b := hb
    omega
  · exact ⟨w.heap.size, cs, ty, upd_self .., by simp, CR_congr (B := B) (B' := upd B id _) (Zle.refl _) (fun j hj => (upd_ne (hne j (hi j hj))).symm) hv⟩
  · rw [VR_atom rfl rfl]
    exact ⟨w.heap.size, 0, by rw [upd_self]; rfl, by simp [dyOff]⟩
  · intro i hi
    simpa [AV.ids] using hi

end Go.Proofs.YtkgpjplncfginaaGreatDoor.Sy
