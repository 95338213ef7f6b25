/- Loads and stores of the machine Sx. -/
import Derived.Test.YtjciljaojcekeaaSx2
namespace Go.Proofs.Ytjciljaojcekeaa.Sx
open Go
set_option linter.unusedVariables false
set_option linter.unusedSimpArgs false

section
variable {R : Type}

def rdT (t : Ty) (xs : List t.den) (i : Nat) : t.den := List.getD xs i t.dflt

def partK (v : AV) (st : Nat) (dys : List (Nat × Nat)) (n : Nat) (g : Bool) (K : AV → Option R) : Option R :=
  match dys with
  | [] => (match nav v st n g with
    | some u => K u
    | none => none)
  | [(i, s)] => bif Nat.beq s 1 && Nat.beq n 1 && !g then (match navA v st with
      | some (k, m, xs) => bif decide (i < m) then K (.int k (xs.getD i 0)) else none
      | none => none) else none
  | _ => none

def loadE (e : Ent) (st : Nat) (dys : List (Nat × Nat)) (n : Nat) (g : Bool) (K : AV → Option R) : Option R :=
  match e with
  | .cell v => partK v st dys n g K
  | .rows _ _ t xs => (match dys with
    | (i, s) :: rest => bif Nat.beq s t.size then (bif decide (i < xs.length) then partK (enc t (rdT t xs i)) st rest n g K else none) else none
    | [] => none)

def putK (v : AV) (st : Nat) (dys : List (Nat × Nat)) (u : AV) (K : AV → Option R) : Option R :=
  match dys with
  | [] => (match setNav v st u with
    | some v' => K v'
    | none => none)
  | [(i, s)] => (match u with
    | .int k' x => bif Nat.beq s 1 then (match navA v st with
      | some (k, m, _) => bif decide (k' = k) then (bif decide (i < m) then (match setA v st i x with
          | some v' => K v'
          | none => none) else none) else none
      | none => none) else none
    | _ => none)
  | _ => none

def storeE (e : Ent) (st : Nat) (dys : List (Nat × Nat)) (u : AV) (K : Ent → Option R) : Option R :=
  match e with
  | .cell v => putK v st dys u (fun v' => K (.cell v'))
  | .rows _ _ _ _ => none

theorem partK_ok {B : Nat → Value} {v : AV} {cs : List Value} {st n : Nat} {dys : List (Nat × Nat)} {g : Bool} {K : AV → Option R} {r : R} (hc : CR B v cs) (h : partK v st dys n g K = some r) :
    ∃ u, K u = some r ∧ u.isAgg = g ∧ PartOf B cs (st + dyOff dys) n u ∧ ∀ i ∈ u.ids, i ∈ v.ids := by
  unfold partK at h
  split at h
  · split at h
    · rename_i u hu
      obtain ⟨h1, h2, h3⟩ := nav_ok hc hu
      exact ⟨u, h, h1, h2, h3⟩
    · cases h
  · rename_i i s
    replace h := bif_eq_some h
    rcases h with ⟨hg, h⟩ | ⟨_, h⟩
    · simp only [Bool.and_eq_true, Bool.not_eq_true'] at hg
      obtain ⟨⟨h1, h2⟩, h3⟩ := hg
      have h1 := Nat.eq_of_beq_eq_true h1; have h2 := Nat.eq_of_beq_eq_true h2
      subst h1 h2 h3
      split at h
      · rename_i k m xs hA
        replace h := bif_eq_some h
        rcases h with ⟨hi, h⟩ | ⟨_, h⟩
        · have hi := of_decide_eq_true hi
          obtain ⟨hl, hle, hcs⟩ := navA_ok hc hA
          refine ⟨_, h, rfl, ⟨by simp [dyOff]; omega, [.int k (xs.getD i 0)], rfl, ⟨_, rfl, rfl⟩, fun j hj => ?_⟩, fun i hi => by simp [AV.ids] at hi⟩
          have : j = 0 := by omega
          subst this
          simp only [dyOff, Nat.mul_one, Nat.add_zero]
          rw [hcs i hi]; rfl
        · cases h
      · cases h
    · cases h
  · cases h

theorem addr_base {B : Nat → Value} {i : Nat} {w : World} {e : Ent} {b o : Nat} (hr : EntR B i w e) (hb : baseOf (B i) = some ⟨b, o, none⟩) :
    (match e with
      | .cell v => o = 0 ∧ ∃ cs ty, w.heap[b]? = some (.cells cs ty (0, 0)) ∧ CR B v cs.toList
      | .rows _ _ t xs => ∀ j x, xs[j]? = some x → wfT t x ∧ w.rangeAt b (o + j * t.size) (cellsT t x)) := by
  cases e with
  | cell v =>
    obtain ⟨b', cs, ty, h1, h2, h3⟩ := hr
    rw [h1] at hb
    simp only [baseOf, Option.some.injEq, Addr.mk.injEq] at hb
    obtain ⟨rfl, rfl, _⟩ := hb
    exact ⟨rfl, cs, ty, h2, h3⟩
  | rows ow e t xs =>
    cases ow
    · obtain ⟨a, cap, h1, h2⟩ := hr
      intro j x hj
      obtain ⟨hw, bl, o', ha, _, hc⟩ := h2 j x hj
      rw [h1, ha] at hb
      simp only [baseOf, Option.some.injEq, Addr.mk.injEq] at hb
      obtain ⟨rfl, rfl, _⟩ := hb
      exact ⟨hw, fun m u hm => hc m u hm⟩
    · obtain ⟨⟨hl, h2⟩, hwf⟩ := hr
      rcases h2 with h2 | ⟨g, cap, cur, e1, _, e3, _, _, _, e7⟩
      · rw [h2.1] at hb; simp [baseOf] at hb
      · rw [e1] at hb
        simp only [baseOf, Option.some.injEq, Addr.mk.injEq] at hb
        obtain ⟨rfl, rfl, _⟩ := hb
        intro j x hj
        have hx := List.mem_of_getElem? hj
        refine ⟨hwf x hx, fun m u hm => ?_⟩
        have key : ∀ (ys : List t.den) (j : Nat), (∀ x ∈ ys, wfT t x) → ys[j]? = some x → (ys.flatMap (cellsT t))[j * t.size + m]? = some u := by
          intro ys
          induction ys with
          | nil => intro j _ hj; simp at hj
          | cons y ys ih =>
            intro j hw hj
            have hly := length_cellsT t y (hw y (by simp))
            cases j with
            | zero =>
              simp only [List.getElem?_cons_zero, Option.some.injEq] at hj
              subst hj
              rw [List.flatMap_cons, Nat.zero_mul, Nat.zero_add, List.getElem?_append_left (List.getElem?_eq_some_iff.1 hm).1]
              exact hm
            | succ j =>
              simp only [List.getElem?_cons_succ] at hj
              rw [List.flatMap_cons, List.getElem?_append_right (by rw [hly, Nat.succ_mul]; omega), hly, show (j + 1) * t.size + m - t.size = j * t.size + m by rw [Nat.succ_mul]; omega]
              exact ih j (fun x hx => hw x (by simp [hx])) hj
        have h8 := key xs j hwf hj
        rw [← e7] at h8
        have h9 := List.getElem?_eq_some_iff.1 h8
        obtain ⟨hlt, h9⟩ := h9
        rw [List.getElem_take] at h9
        simp only [World.cell?, e3, Nat.zero_add]
        have hlt' : j * t.size + m < cur.size := by simp [List.length_take] at hlt; omega
        simp only [Option.isSome_none, Bool.false_eq_true, if_false]
        rw [Array.getElem?_eq_getElem hlt', ← h9]
        simp

theorem getD_some {α : Type} {xs : List α} {i : Nat} {d : α} (h : i < xs.length) : xs[i]? = some (xs.getD i d) := by
  simp [List.getD, h]

theorem loadE_ok {B : Nat → Value} {i : Nat} {w : World} {e : Ent} {b o : Nat} {st n : Nat} {dys : List (Nat × Nat)} {g : Bool} {K : AV → Option R} {r : R} (hr : EntR B i w e)
    (hb : baseOf (B i) = some ⟨b, o, none⟩) (h : loadE e st dys n g K = some r) :
    ∃ u, K u = some r ∧ u.isAgg = g ∧ (∃ us, us.length = n ∧ CR B u us ∧ w.rangeAt b (o + st + dyOff dys) us) ∧ ∀ i ∈ u.ids, i ∈ e.ids := by
  have ha := addr_base hr hb
  cases e with
  | cell v =>
    obtain ⟨rfl, cs, ty, h1, h2⟩ := ha
    obtain ⟨u, hk, hg, ⟨hle, us, p1, p2, p3⟩, hi⟩ := partK_ok h2 h
    refine ⟨u, hk, hg, ⟨us, p1, p2, fun j x hj => ?_⟩, hi⟩
    have hjn : j < n := by rw [← p1]; exact (List.getElem?_eq_some_iff.1 hj).1
    rw [← p3 j hjn] at hj
    simp only [World.cell?, h1, Nat.zero_add, Option.isSome_none, Bool.false_eq_true, if_false]
    rw [← hj]; simp
  | rows ow ety t xs =>
    simp only [loadE] at h
    split at h
    · rename_i i s rest
      replace h := bif_eq_some h
      rcases h with ⟨hs, h⟩ | ⟨_, h⟩
      · have hs := Nat.eq_of_beq_eq_true hs
        subst hs
        replace h := bif_eq_some h
        rcases h with ⟨hlt, h⟩ | ⟨_, h⟩
        · have hlt := of_decide_eq_true hlt
          obtain ⟨hw, hra⟩ := ha i _ (getD_some (d := t.dflt) hlt)
          obtain ⟨u, hk, hg, ⟨hle, us, p1, p2, p3⟩, hi⟩ := partK_ok (B := B) ((CR_enc t _ _).2 ⟨hw, rfl⟩) h
          refine ⟨u, hk, hg, ⟨us, p1, p2, fun j x hj => ?_⟩, fun m hm => by have := hi m hm; rw [ids_enc] at this; cases this⟩
          have hjn : j < n := by rw [← p1]; exact (List.getElem?_eq_some_iff.1 hj).1
          rw [← p3 j hjn] at hj
          have := hra _ _ hj
          simp only [dyOff]
          rw [← this]
          congr 2; omega
        · cases h
      · cases h
    · cases h

theorem putK_ok {B : Nat → Value} {v u : AV} {cs us : List Value} {st : Nat} {dys : List (Nat × Nat)} {K : AV → Option R} {r : R} (hc : CR B v cs) (hu : CR B u us) (h : putK v st dys u K = some r) :
    ∃ v', K v' = some r ∧ PutAt B v cs (st + dyOff dys) u us v' := by
  unfold putK at h
  split at h
  · split at h
    · rename_i v' hv
      exact ⟨v', h, setNav_ok hu hc hv⟩
    · cases h
  · rename_i i s
    split at h
    · rename_i k' x
      replace h := bif_eq_some h
      rcases h with ⟨hs, h⟩ | ⟨_, h⟩
      · have hs := Nat.eq_of_beq_eq_true hs
        subst hs
        split at h
        · rename_i k m xs hA
          replace h := bif_eq_some h
          rcases h with ⟨hk, h⟩ | ⟨_, h⟩
          · have hk := of_decide_eq_true hk
            subst hk
            replace h := bif_eq_some h
            rcases h with ⟨hi, h⟩ | ⟨_, h⟩
            · have hi := of_decide_eq_true hi
              split at h
              · rename_i v' hv
                obtain ⟨y, rfl, hy⟩ := hu
                simp only [AR] at hy
                subst hy
                refine ⟨v', h, ?_⟩
                simp only [dyOff, Nat.mul_one, Nat.add_zero]
                exact setA_ok hc hA hi hv
              · cases h
            · cases h
          · cases h
        · cases h
      · cases h
    · cases h
  · cases h

/-- A store into an own cell. -/
theorem storeE_ok {B : Nat → Value} {i : Nat} {w : World} {e : Ent} {b o : Nat} {st : Nat} {dys : List (Nat × Nat)} {u : AV} {us : List Value} {K : Ent → Option R} {r : R} (hr : EntR B i w e)
    (hb : baseOf (B i) = some ⟨b, o, none⟩) (hu : CR B u us) (h : storeE e st dys u K = some r) :
    ∃ v v' cs ty, e = .cell v ∧ K (.cell v') = some r ∧ o = 0 ∧ B i = .pointer (some ⟨b, 0, none⟩) ∧ w.heap[b]? = some (.cells cs ty (0, 0)) ∧ PutAt B v cs.toList (st + dyOff dys) u us v' := by
  cases e with
  | cell v =>
    obtain ⟨b', cs, ty, h1, h2, h3⟩ := hr
    rw [h1] at hb
    simp only [baseOf, Option.some.injEq, Addr.mk.injEq] at hb
    obtain ⟨rfl, rfl, _⟩ := hb
    obtain ⟨v', hk, hp⟩ := putK_ok h3 hu h
    exact ⟨v, v', cs, ty, rfl, hk, rfl, h1, h2, hp⟩
  | rows => cases h

theorem heap_setRow_ne (w : World) (g : Nat) (c : Array Value) {b : Nat} (h : b ≠ g) : (w.setRow g c).heap[b]? = w.heap[b]? := by
  simp only [World.setRow]
  rw [Array.getElem?_modify, if_neg (Ne.symm h)]

theorem VR_undef {B : Nat → Value} : VR B .tnil undef := by
  simp only [VR, AV.isTup, if_true]
  exact ⟨[], rfl, rfl⟩

/-- What a store leaves. -/
theorem Post.store {B : Nat → Value} {σ : St} {w : World} {i b p : Nat} {v u v' : AV} {us : List Value} {cs : Array Value} {ty : TypeId} {rd : List Nat} (hh : HeapR B σ.heap w) (hl : look i σ.heap = some (.cell v))
    (hB : B i = .pointer (some ⟨b, 0, none⟩)) (hw : w.heap[b]? = some (.cells cs ty (0, 0))) (hp : PutAt B v cs.toList p u us v') (hu : ∀ j ∈ u.ids, (look j σ.heap).isSome = true) :
    Post B σ w ⟨.tnil, [(i, .cell v')], rd⟩ B undef (w.setRow b (splice cs.toList p us).toArray) := by
  have hlook : ∀ j e, look j ([(i, Ent.cell v')] ++ σ.heap) = some e → (j = i ∧ e = .cell v') ∨ (j ≠ i ∧ look j σ.heap = some e) := fun j e h => by
    simp only [List.cons_append, List.nil_append, look_cons] at h
    by_cases hid : j = i
    · rw [if_pos hid] at h; cases h; exact .inl ⟨hid, rfl⟩
    · rw [if_neg hid] at h; exact .inr ⟨hid, h⟩
  have hblk : blkE (.cell v) (B i) = some b := by rw [hB]; rfl
  have hsz : (w.setRow b (splice cs.toList p us).toArray).heap.size = w.heap.size := by simp [World.setRow]
  refine ⟨?_, fun _ _ => rfl, fun _ _ => rfl, ⟨?_, ?_, ?_⟩, ⟨rfl, rfl, rfl, by rw [hsz]; exact Nat.le_refl _, ?_, ?_⟩, ?_⟩
  · exact VR_undef
  · intro j e h
    rcases hlook j e h with ⟨rfl, rfl⟩ | ⟨hne, h⟩
    · exact ⟨b, _, ty, hB, setRow_heap w b cs _ ty _ hw, by simpa using hp.cr⟩
    · refine EntR_world (by rw [hsz]; exact Nat.le_refl _) (fun b' hb' => heap_setRow_ne _ _ _ ?_) (hh.ent j e h)
      intro e'
      subst e'
      exact hh.apart i j _ e b' hl h (Ne.symm hne) rfl hblk hb'
  · intro j k e e' b' h1 h2 hjk ho hb hb'
    rcases hlook j e h1 with ⟨rfl, rfl⟩ | ⟨_, h1'⟩
    · rcases hlook k e' h2 with ⟨rfl, _⟩ | ⟨_, h2'⟩
      · exact absurd rfl hjk
      · exact hh.apart j k _ e' b' hl h2' hjk rfl hb hb'
    · rcases hlook k e' h2 with ⟨rfl, rfl⟩ | ⟨_, h2'⟩
      · exact hh.apart j k e _ b' h1' hl hjk ho hb hb'
      · exact hh.apart j k e e' b' h1' h2' hjk ho hb hb'
  · intro j e h m hm
    rcases hlook j e h with ⟨_, rfl⟩ | ⟨_, h⟩
    · rcases hp.ids m hm with h' | h'
      · exact isSome_append (hh.closed i _ hl m h')
      · exact isSome_append (hu m h')
    · exact isSome_append (hh.closed j e h m hm)
  · intro b' _ hn
    refine heap_setRow_ne _ _ _ (fun e => hn ?_)
    subst e
    exact ⟨i, _, hl, rfl, hblk⟩
  · rintro b' ⟨j, e, h, ho, hb⟩
    rcases hlook j e h with ⟨rfl, rfl⟩ | ⟨_, h⟩
    · exact .inl ⟨j, _, hl, rfl, hb⟩
    · exact .inl ⟨j, e, h, ho, hb⟩
  · intro j hj; simp [AV.ids] at hj
end

end Go.Proofs.Ytjciljaojcekeaa.Sx
