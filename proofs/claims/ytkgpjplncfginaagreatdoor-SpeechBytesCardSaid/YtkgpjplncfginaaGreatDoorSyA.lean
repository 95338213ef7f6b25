/- Rows that stay as they are from now on; two entries that turn at once. -/
import Derived.Test.YtkgpjplncfginaaGreatDoorSy6
namespace Go.Proofs.YtkgpjplncfginaaGreatDoor.Sy
open Go
set_option linter.unusedVariables false
set_option linter.unusedSimpArgs false

/-- What a row that stays as it is adds. -/
def frzTo (z : Frz) (w : World) (g e : Nat) : Frz := fun b o => if b = g ∧ o < e then w.cell? ⟨b, o, none⟩ else z b o

theorem frzTo_le {z : Frz} {w : World} {g e : Nat} (fz : ∀ b o u, z b o = some u → w.cell? ⟨b, o, none⟩ = some u) : Zle z (frzTo z w g e) := fun b o u h => by
  unfold frzTo
  split
  · exact fz b o u h
  · exact h

theorem frzTo_fz {z : Frz} {w : World} {g e : Nat} (fz : ∀ b o u, z b o = some u → w.cell? ⟨b, o, none⟩ = some u) : ∀ b o u, frzTo z w g e b o = some u → w.cell? ⟨b, o, none⟩ = some u := fun b o u h => by
  unfold frzTo at h
  split at h
  · exact h
  · exact fz b o u h

theorem frzTo_new {z : Frz} {w : World} {g e : Nat} : ∀ b o u, frzTo z w g e b o = some u → z b o = some u ∨ b = g := fun b o u h => by
  unfold frzTo at h
  split at h
  · rename_i hc; exact .inr hc.1
  · exact .inl h

theorem frzTo_end {z : Frz} {w : World} {g e : Nat} (h0 : ∀ o u, z g o = some u → o < e) : ∀ o u, frzTo z w g e g o = some u → o < e := fun o u h => by
  unfold frzTo at h
  split at h
  · rename_i hc; exact hc.2
  · exact h0 o u h

theorem frzTo_get {z : Frz} {w : World} {g e o : Nat} {u : Value} (ho : o < e) (h : w.cell? ⟨g, o, none⟩ = some u) : frzTo z w g e g o = some u := by
  unfold frzTo
  rw [if_pos ⟨rfl, ho⟩]; exact h

/-- What a row of our own is when it stays as it is. -/
structure Frozen (z z' : Frz) (w : World) (e : TypeId) (t : Ty) (xs : List t.den) (v : Value) (own : Nat → Prop) : Prop where
  le : Zle z z'
  fz : ∀ b o u, z' b o = some u → w.cell? ⟨b, o, none⟩ = some u
  new : ∀ b o u, z' b o = some u → z b o = some u ∨ own b
  row : FzR z' (DR z' t) xs v
  grow : Grow w e t.size v xs.length
  zo : ∀ b o u, own b → z' b o = some u → o < endE (.rows 1 e t xs) v

theorem own_frozen {z : Frz} {w : World} {e : TypeId} {t : Ty} {xs : List t.den} {cs : List Value} {v : Value} {own : Nat → Prop} (fz : ∀ b o u, z b o = some u → w.cell? ⟨b, o, none⟩ = some u) (hd : DRs z t xs cs) (ho : OwnRow w e t.size v xs.length cs)
    (h1 : ∀ g o c, v = .slice (some ⟨g, o, none⟩) xs.length c → own g) (h2 : ∀ b o u, own b → z b o = some u → o < endE (.rows 1 e t xs) v) (h3 : ∀ g o c b, v = .slice (some ⟨g, o, none⟩) xs.length c → own b → b = g) : ∃ z', Frozen z z' w e t xs v own := by
  have hcell := fun b o => ho.cell (b := b) (o := o)
  obtain ⟨hl, ho⟩ := ho
  rcases ho with ⟨ho, hn⟩ | ⟨g, o, cap, cur, e1, e2, e3, e4, e5, e6⟩
  · have hx : xs = [] := List.eq_nil_of_length_eq_zero hn
    subst hx
    exact ⟨z, Zle.refl z, fz, fun b o u h => .inl h, ⟨none, 0, [], ho, fun h => by simp at h, rfl, fun j u h => by simp at h⟩, ⟨none, 0, ho, Nat.le_refl _, fun h => by simp at h⟩, h2⟩
  · have hown := h1 g o cap e1
    have hend : endE (.rows 1 e t xs) v = o + xs.length * t.size := by rw [e1]; rfl
    refine ⟨frzTo z w g (o + xs.length * t.size), frzTo_le fz, frzTo_fz fz, fun b o' u h => (frzTo_new b o' u h).imp_right (fun (e : b = g) => e ▸ hown), ⟨some ⟨g, o, none⟩, cap - xs.length, cs, by rw [e1]; congr 1; omega, fun _ => ⟨g, o, rfl⟩, DRs.mono (frzTo_le fz) hd, fun j u hj => ⟨g, o, rfl, ?_⟩⟩,
      ⟨some ⟨g, o, none⟩, cap, e1, e3, fun _ => ⟨g, o, cur, rfl, e2, e4, e5⟩⟩, fun b o' u hb h => ?_⟩
    · have hjl := (List.getElem?_eq_some_iff.1 hj).1
      rw [hl] at hjl
      exact frzTo_get (by omega) (hcell g o (by rw [e1]; rfl) j u hj)
    · rw [hend]
      have hbg := h3 g o cap b e1 hb
      subst hbg
      exact frzTo_end (fun o'' u' h' => by have := h2 b o'' u' hb h'; rw [hend] at this; exact this) o' u h

theorem endE_rows {m m' : Nat} {e : TypeId} {t : Ty} {xs : List t.den} {v : Value} : endE (.rows m e t xs) v = endE (.rows m' e t xs) v := by
  cases v <;> first | rfl | (rename_i a _ _; cases a <;> rfl)

/-- A row of our own stays as it is from now on. -/
theorem freeze {B : Bz} {H : Heap} {w : World} {v m : Nat} {e : TypeId} {t : Ty} {xs : List t.den} (hh : HeapR B H w) (hl : look v H = some (.rows (m + 1) e t xs)) :
    ∃ z', Frozen B.z z' w e t xs (B v) (blkO (.rows (m + 1) e t xs) (B v)) := by
  have hr := hh.ent v _ hl
  match m, hr, hl with
  | 0, ⟨h1, h2⟩, hl => exact ⟨B.z, Zle.refl _, hh.fz, fun b o u h => .inl h, h1, h2, fun b o u hb hz => (hh.zo v _ b o u hl hb hz).2⟩
  | m + 1, ⟨cs, h1, h2⟩, hl =>
    refine own_frozen hh.fz h1 h2 (fun g o c hc => by rw [hc]; rfl) (fun b o u hb hz => by have := (hh.zo v _ b o u hl hb hz).2; rwa [endE_rows (m' := 1)] at this) (fun g o c b hc hb => ?_)
    rw [hc] at hb
    exact Eq.symm hb

/-- One entry more, at the cost of another: what 'ev' was goes on as 'e'. -/
theorem Post.two {B : Bz} {σ : St} {w w' : World} {id v : Nat} {ev e2 e : Ent} {u : Value} {val : AV} {rd : List Nat} {z' : Frz} (hh : HeapR B σ.heap w) (hn : look id σ.heap = none) (h1000 : 1000 ≤ id) (hv : look v σ.heap = some ev)
    (hos : w'.os = w.os) (htape : w'.tape = w.tape) (hout : w'.output = w.output) (hs : w.heap.size ≤ w'.heap.size) (hold : ∀ b, b < w.heap.size → ¬ blkO ev (B v) b → w'.heap[b]? = w.heap[b]?)
    (zle : Zle B.z z') (fz : ∀ b o x, z' b o = some x → w'.cell? ⟨b, o, none⟩ = some x) (znew : ∀ b o x, z' b o = some x → B.z b o = some x ∨ blkO ev (B v) b ∨ w.heap.size ≤ b)
    (o : ∀ b, blkO e u b → blkO ev (B v) b ∨ w.heap.size ≤ b) (o2 : ∀ b, blkO e2 (B v) b → blkO ev (B v) b) (ap : ∀ b, blkO e u b → ¬ blkO e2 (B v) b)
    (zo : ∀ b p x, blkO e u b → z' b p = some x → e.mode = 1 ∧ p < endE e u) (zo2 : ∀ b p x, blkO e2 (B v) b → z' b p = some x → e2.mode = 1 ∧ p < endE e2 (B v))
    (he : EntR (upd (B.frz z') id u) id w' e) (he2 : EntR (B.frz z') v w' e2) (hi : e.ids = []) (hi2 : e2.ids = []) (hval : VR (upd (B.frz z') id u) val u) (hvi : ∀ j ∈ val.ids, j = id) :
    Post B σ w ⟨val, [(id, e), (v, e2)], rd⟩ (upd (B.frz z') id u) u w' := by
  have hvid : v ≠ id := fun e => by rw [e, hn] at hv; cases hv
  have hne : ∀ i, (look i σ.heap).isSome = true → i ≠ id := fun i h e => by subst e; rw [hn] at h; cases h
  have hT : ∀ b, blkO ev (B v) b → Taken B σ.heap [(id, e), (v, e2)] b := fun b hb => ⟨v, ev, hv, by simp [look_cons, hvid], hb⟩
  have hBv : (upd (B.frz z') id u) v = B v := upd_ne hvid
  refine Post.master hh (fun i h => upd_ne (hne i h)) (fun i hlt => upd_ne (by omega)) hos htape hout hs (fun b hb hn => hold b hb (fun h => hn (hT b h))) zle (fun b p x h => ?_) fz ?_ ?_ ?_ ?_ ?_ hval ?_
  · rcases znew b p x h with g | g | g
    · exact .inl g
    · exact .inr (.inl (hT b g))
    · exact .inr (.inr g)
  · intro i x h
    rcases look_two h with ⟨rfl, rfl⟩ | ⟨_, rfl, rfl⟩
    · exact he
    · exact EntR_congr (B := B.frz z') (B' := upd (B.frz z') id u) (Zle.refl _) hBv.symm (fun j hj => by rw [hi2] at hj; cases hj) he2
  · intro i x b h hb
    rcases look_two h with ⟨rfl, rfl⟩ | ⟨_, rfl, rfl⟩
    · rw [upd_self] at hb
      exact (o b hb).imp_left (hT b)
    · rw [hBv] at hb
      exact .inl (hT b (o2 b hb))
  · intro i j x y b h1 h2 hij hb1 hb2
    rcases look_two h1 with ⟨rfl, rfl⟩ | ⟨_, rfl, rfl⟩
    · rcases look_two h2 with ⟨rfl, rfl⟩ | ⟨_, rfl, rfl⟩
      · exact hij rfl
      · rw [upd_self] at hb1; rw [hBv] at hb2; exact ap b hb1 hb2
    · rcases look_two h2 with ⟨rfl, rfl⟩ | ⟨_, rfl, rfl⟩
      · rw [upd_self] at hb2; rw [hBv] at hb1; exact ap b hb2 hb1
      · exact hij rfl
  · intro i x b p y h hb hz
    rcases look_two h with ⟨rfl, rfl⟩ | ⟨_, rfl, rfl⟩
    · rw [upd_self] at hb ⊢; exact zo b p y hb hz
    · rw [hBv] at hb ⊢; exact zo2 b p y hb hz
  · intro i x h j hj
    rcases look_two h with ⟨rfl, rfl⟩ | ⟨_, rfl, rfl⟩
    · rw [hi] at hj; cases hj
    · rw [hi2] at hj; cases hj
  · intro j hj
    rw [hvi j hj]
    simp [look_cons]

/-- An entry turns, the world stays. -/
theorem Post.one {B : Bz} {σ : St} {w : World} {v : Nat} {ev e2 : Ent} {u : Value} {val : AV} {rd : List Nat} {z' : Frz} (hh : HeapR B σ.heap w) (hv : look v σ.heap = some ev)
    (zle : Zle B.z z') (fz : ∀ b o x, z' b o = some x → w.cell? ⟨b, o, none⟩ = some x) (znew : ∀ b o x, z' b o = some x → B.z b o = some x ∨ blkO ev (B v) b)
    (o2 : ∀ b, blkO e2 (B v) b → blkO ev (B v) b) (zo2 : ∀ b p x, blkO e2 (B v) b → z' b p = some x → e2.mode = 1 ∧ p < endE e2 (B v))
    (he2 : EntR (B.frz z') v w e2) (hi2 : ∀ j ∈ e2.ids, (look j σ.heap).isSome = true) (hval : VR (B.frz z') val u) (hvi : ∀ j ∈ val.ids, (look j σ.heap).isSome = true) :
    Post B σ w ⟨val, [(v, e2)], rd⟩ (B.frz z') u w := by
  have hT : ∀ b, blkO ev (B v) b → Taken B σ.heap [(v, e2)] b := fun b hb => ⟨v, ev, hv, by simp [look_cons], hb⟩
  refine Post.master hh (fun i h => rfl) (fun i hlt => rfl) rfl rfl rfl (Nat.le_refl _) (fun b hb hn => rfl) zle (fun b p x h => ?_) fz ?_ ?_ ?_ ?_ ?_ hval (fun j hj => isSome_append (hvi j hj))
  · rcases znew b p x h with g | g
    · exact .inl g
    · exact .inr (.inl (hT b g))
  · intro i x h
    obtain ⟨rfl, rfl⟩ := look_one h
    exact he2
  · intro i x b h hb
    obtain ⟨rfl, rfl⟩ := look_one h
    exact .inl (hT b (o2 b hb))
  · intro i j x y b h1 h2 hij
    exact absurd ((look_one h1).1.trans (look_one h2).1.symm) hij
  · intro i x b p y h hb hz
    obtain ⟨rfl, rfl⟩ := look_one h
    exact zo2 b p y hb hz
  · intro i x h j hj
    obtain ⟨rfl, rfl⟩ := look_one h
    exact isSome_append (hi2 j hj)

theorem EntR_at {B : Bz} {id : Nat} {w : World} {u : Value} {e : Ent} (hi : e.ids = []) (h : EntR ⟨fun _ => u, B.z⟩ id w e) : EntR (upd B id u) id w e :=
  EntR_congr (B := ⟨fun _ => u, B.z⟩) (B' := upd B id u) (Zle.refl _) (upd_self B id u).symm (fun j hj => by rw [hi] at hj; cases hj) h

theorem VR_mk_vec {B : Bz} {id : Nat} {u : Value} (h : ∃ a n c, u = .slice a n c) : VR (upd B id u) (.vec id) u := by
  rw [VR_atom rfl rfl]
  exact ⟨(upd_self B id u).symm, h⟩

/-- A row inside of data becomes an entry. -/
theorem Post.row {B : Bz} {σ : St} {w : World} {id : Nat} {e : TypeId} {t : Ty} {xs : List t.den} {u : Value} {rd : List Nat} (hh : HeapR B σ.heap w) (hn : look id σ.heap = none) (h1000 : 1000 ≤ id) (hf : FzR B.z (DR B.z t) xs u) :
    Post B σ w ⟨.vec id, [(id, .rows 0 e t xs)], rd⟩ (upd B id u) u w := by
  have hs : ∃ a n c, u = .slice a n c := by obtain ⟨a, k, cs, h1, _⟩ := hf; exact ⟨_, _, _, h1⟩
  exact Post.add hh hn h1000 rfl rfl rfl (Nat.le_refl _) (fun _ _ => rfl) (fun b hb => (ro_noO (e := .rows 0 e t xs) rfl hb).elim) (fun j hj => by cases hj) (EntR_at rfl hf) (VR_mk_vec hs) (fun j hj => by simpa [AV.ids] using hj)

section
variable {R : Type}

theorem rowK_ok {B : Bz} {σ : St} {w : World} {d : Option Nat} {u : AV} {q : Value} {rd : List Nat} {K : Eff → Option R} {r : R} (hh : HeapR B σ.heap w) (hu : VR B u q) (hi : ∀ i ∈ u.ids, (look i σ.heap).isSome = true) (h : rowK σ.heap d u rd K = some r) :
    ∃ ef, K ef = some r ∧ ∃ B', Post B σ w ef B' q w := by
  unfold rowK at h
  split at h
  · split at h
    · split at h
      · rename_i hn
        exact ⟨_, h, _, Post.row hh hn (Nat.le_add_right _ _) ((VR_atom rfl rfl).1 hu)⟩
      · cases h
    · cases h
  · exact ⟨_, h, B, Post.pure hh hu hi⟩

end

/-- Rows that are only read, told as data, are what they were. -/
theorem frzR_ok {B : Bz} {H : Heap} {w : World} {k : Nat} (hk : k ≤ 1) (hh : HeapR B H w) : ∀ {v : AV}, (frzR k H v).isAgg = v.isAgg ∧ (frzR k H v).isTup = v.isTup ∧ (∀ i ∈ (frzR k H v).ids, i ∈ v.ids) ∧ (∀ {cs : List Value}, CR B v cs → CR B (frzR k H v) cs) := by
  have atom : ∀ (i : Nat) (x : Value), AR B (.vec i) x → AR B (frzR k H (.vec i)) x := fun i x h => by
    simp only [frzR]
    split
    · rename_i m e t xs hl
      cases hm : Nat.ble m k
      · exact h
      · have hm := Nat.le_of_ble_eq_true hm
        have hr := hh.ent i _ hl
        rw [h.1]
        match m, hr, hm with
        | 0, hr, _ => exact hr
        | 1, hr, _ => exact hr.1
        | m + 2, _, hm => omega
    · exact h
  intro v
  induction v with
  | vec i =>
    have hc : ∀ {cs : List Value}, CR B (.vec i) cs → CR B (frzR k H (.vec i)) cs := fun {cs} ⟨x, e, hx⟩ => by
      have := CR_of_AR (atom i x hx)
      rw [e]; exact this
    refine ⟨?_, ?_, ?_, hc⟩
    · simp only [frzR]; split <;> first | rfl | (cases Nat.ble _ k <;> rfl)
    · simp only [frzR]; split <;> first | rfl | (cases Nat.ble _ k <;> rfl)
    · intro j hj
      simp only [frzR] at hj
      split at hj
      · cases hb : Nat.ble _ k
        · rw [hb] at hj; exact hj
        · rw [hb] at hj; cases hj
      · exact hj
  | one a ih => exact ⟨rfl, rfl, ih.2.2.1, fun h => ih.2.2.2 h⟩
  | pair a b iha ihb =>
    refine ⟨rfl, rfl, fun i hi => ?_, fun {cs} ⟨c1, c2, e, h1, h2⟩ => ⟨c1, c2, e, iha.2.2.2 h1, ihb.2.2.2 h2⟩⟩
    simp only [frzR, AV.ids, List.mem_append] at hi ⊢
    rcases hi with hi | hi
    · exact .inl (iha.2.2.1 i hi)
    · exact .inr (ihb.2.2.1 i hi)
  | _ => exact ⟨rfl, rfl, fun _ h => h, fun h => h⟩

theorem frzR_size (k : Nat) (H : Heap) : ∀ (v : AV), (frzR k H v).size = v.size := by
  intro v
  induction v with
  | vec i => simp only [frzR]; split <;> first | rfl | (cases Nat.ble _ k <;> rfl)
  | one a ih => exact ih
  | pair a b iha ihb => simp only [frzR, AV.size, iha, ihb]
  | _ => rfl

theorem frzR_VR {B : Bz} {H : Heap} {w : World} {k : Nat} (hk : k ≤ 1) (hh : HeapR B H w) {v : AV} {x : Value} (h : VR B v x) : VR B (frzR k H v) x := by
  obtain ⟨h1, h2, _, h4⟩ := frzR_ok hk hh (v := v)
  by_cases ht : v.isTup = true
  · have : frzR k H v = v := by cases v <;> first | rfl | cases ht
    rw [this]; exact h
  · have ht : v.isTup = false := by simpa using ht
    refine VR_of_VR0 ?_ (by rw [h2]; exact ht)
    have h := VR0_of_VR h ht
    unfold VR0 at h ⊢
    rw [h1]
    split
    · rename_i ha
      rw [if_pos ha] at h
      obtain ⟨cs, p1, p2⟩ := h
      exact ⟨cs, h4 p1, p2⟩
    · rename_i ha
      rw [if_neg ha] at h
      obtain ⟨y, e, hy⟩ := AR_of_CR (by rw [h1]; simpa using ha) (h4 (CR_of_AR h))
      cases e
      exact hy

end Go.Proofs.YtkgpjplncfginaaGreatDoor.Sy
