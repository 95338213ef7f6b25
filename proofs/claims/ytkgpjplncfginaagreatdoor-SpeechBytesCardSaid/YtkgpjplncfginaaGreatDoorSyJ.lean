/- Other names for what a state holds, and less of it. -/
import Derived.Test.YtkgpjplncfginaaGreatDoorSy14
namespace Go.Proofs.YtkgpjplncfginaaGreatDoor.Sy
open Go
set_option linter.unusedVariables false
set_option linter.unusedSimpArgs false

/-! ### Other names, and what is not needed any more forgotten -/

def pickH (H : Heap) : List Nat → Option Heap
  | [] => some []
  | i :: r => (match look i H with
    | some e => (match pickH H r with
      | some l => some ((i, e) :: l)
      | none => none)
    | none => none)

def allIn (l : List Nat) : List Nat → Bool
  | [] => true
  | x :: r => memN x l && allIn l r

theorem pickH_ok {H : Heap} : ∀ {ids : List Nat} {l : Heap}, pickH H ids = some l → (∀ i e, look i l = some e → look i H = some e) ∧ (∀ i, i ∈ ids → ∃ e, look i l = some e ∧ look i H = some e) ∧ (∀ i, i ∉ ids → look i l = none)
  | [], l, h => by
    simp only [pickH, Option.some.injEq] at h
    subst h
    exact ⟨fun i e h => by (cases h), fun i h => by (cases h), fun i _ => rfl⟩
  | j :: r, l, h => by
    simp only [pickH] at h
    split at h
    · rename_i x hx
      split at h
      · rename_i l' hl
        cases h
        obtain ⟨h1, h2, h3⟩ := pickH_ok hl
        refine ⟨fun i e he => ?_, fun i hi => ?_, fun i hi => ?_⟩
        · rw [look_cons] at he
          by_cases e' : i = j
          · rw [if_pos e'] at he; cases he; subst e'; exact hx
          · rw [if_neg e'] at he; exact h1 i e he
        · by_cases e' : i = j
          · subst e'; exact ⟨x, by rw [look_cons, if_pos rfl], hx⟩
          · obtain ⟨e, p1, p2⟩ := h2 i ((List.mem_cons.1 hi).resolve_left e')
            exact ⟨e, by rw [look_cons, if_neg e']; exact p1, p2⟩
        · simp only [List.mem_cons, not_or] at hi
          rw [look_cons, if_neg hi.1]
          exact h3 i hi.2
      · cases h
    · cases h

theorem allIn_ok {l : List Nat} : ∀ {r : List Nat}, allIn l r = true → ∀ x ∈ r, x ∈ l
  | y :: r, h, x, hx => by
    simp only [allIn, Bool.and_eq_true] at h
    rcases List.mem_cons.1 hx with rfl | hx
    · exact memN_iff.1 h.1
    · exact allIn_ok h.2 x hx

/-- What is wanted of a value: nothing, or that it is a row of this kind. -/
inductive Hint where
  | any
  | row (m : Nat) (e : TypeId) (t : Ty)
  | norm (t : Ty)
  | move

/-- A value that is put together, with rows inside as data: they stay as they are from now on. -/
def frzN : Ty → AV → Heap → Option (AV × Heap)
  | .row e t, .vec i, H => (match look i H with
    | some (.rows m e' t' xs) => some (.row e' t' xs, bif Nat.ble m 1 then [] else [(i, .rows 0 e' t' xs)])
    | _ => none)
  | .one a, .one v, H => bif v.isTup then none else (match frzN a v H with
    | some (v', w) => some (.one v', w)
    | none => none)
  | .pair a b, .pair u v, H => bif u.isTup || v.isTup then none else (match frzN a u H with
    | some (u', w1) => (match frzN b v (w1 ++ H) with
      | some (v', w2) => some (.pair u' v', w2 ++ w1)
      | none => none)
    | none => none)
  | t, v, _ => some (normT t v, [])

/-- A value that is to be a row: a nil slice is an empty one; a row of our own may be less. -/
def castV (k : Nat) (h : Hint) (v : AV) (H : Heap) : Option (AV × Heap) :=
  match h with
  | .any => some (v, [])
  | .norm t => bif v.isTup then none else frzN t v H
  | .move => (match v with
    | .vec i => (match look i H with
      | some (.rows (m + 1) e t xs) => (match look k H with
        | none => some (.vec k, [(k, .rows (m + 1) e t xs), (i, .dead)])
        | some _ => none)
      | _ => none)
    | _ => none)
  | .row m e t => (match v with
    | .nils => (match look k H with
      | none => some (.vec k, [(k, .rows m e t [])])
      | some _ => none)
    | .vec i => (match look i H with
      | some (.rows m' e' t' xs) => bif Nat.beq m' m then some (v, []) else (bif Nat.blt m m' && Nat.ble m 1 then (match look k H with
        | none => some (.vec k, [(k, .rows m e' t' xs), (i, .rows 0 e' t' xs)])
        | some _ => none) else none)
      | _ => none)
    | .row e' t' xs => bif Nat.beq m 0 then (match look k H with
      | none => some (.vec k, [(k, .rows 0 e' t' xs)])
      | some _ => none) else none
    | _ => none)

theorem isAgg_norm (t : Ty) (v : AV) : (normT t v).isAgg = v.isAgg := by
  cases t <;> cases v <;> rfl

theorem ids_norm : ∀ (t : Ty) (v : AV), (normT t v).ids = v.ids := by
  intro t
  induction t with
  | one a ih => intro v; cases v <;> first | rfl | exact ih _
  | pair a b iha ihb =>
    intro v
    cases v <;> first | rfl | skip
    simp only [normT, AV.ids, iha, ihb]
  | opq => intro v; cases v <;> rfl
  | row e t _ => intro v; cases v <;> rfl
  | _ => intro v; rfl

theorem VR_norm {B : Bz} {t : Ty} {v : AV} {x : Value} (ht : v.isTup = false) (h : VR B v x) : VR B (normT t v) x := by
  refine VR_of_VR0 ?_ (by rw [isTup_norm]; exact ht)
  have h := VR0_of_VR h ht
  unfold VR0 at h ⊢
  rw [isAgg_norm]
  split
  · rename_i ha
    rw [if_pos ha] at h
    obtain ⟨cs, h1, h2⟩ := h
    exact ⟨cs, CR_norm t v cs h1, h2⟩
  · rename_i ha
    rw [if_neg ha] at h
    have h2 := CR_norm t v [x] (CR_of_AR h)
    obtain ⟨y, e, hy⟩ := AR_of_CR (by rw [isAgg_norm]; simpa using ha) h2
    cases e
    exact hy

theorem frzN_ok {w : World} : ∀ {t : Ty} {v v' : AV} {B : Bz} {H wr : Heap}, frzN t v H = some (v', wr) → v.isTup = false → HeapR B H w → (∀ i ∈ v.ids, (look i H).isSome = true) →
    ∃ z', HeapR (B.frz z') (wr ++ H) w ∧ Fr B H w (B.frz z') (wr ++ H) w ∧ (∀ cs, CR B v cs → CR (B.frz z') v' cs) ∧ v'.isAgg = v.isAgg ∧ v'.isTup = false ∧ ∀ i ∈ v'.ids, i ∈ v.ids := by
  have plain : ∀ {t : Ty} {v v' : AV} {B : Bz} {H wr : Heap}, some (normT t v, ([] : Heap)) = some (v', wr) → v.isTup = false → HeapR B H w →
      ∃ z', HeapR (B.frz z') (wr ++ H) w ∧ Fr B H w (B.frz z') (wr ++ H) w ∧ (∀ cs, CR B v cs → CR (B.frz z') v' cs) ∧ v'.isAgg = v.isAgg ∧ v'.isTup = false ∧ ∀ i ∈ v'.ids, i ∈ v.ids := by
    intro t v v' B H wr h ht hh
    cases h
    exact ⟨B.z, hh, Fr.refl _ _ _, fun cs hc => CR_norm t v cs hc, isAgg_norm t v, by rw [isTup_norm]; exact ht, fun i hi => by rw [ids_norm] at hi; exact hi⟩
  intro t
  induction t with
  | row e t _ =>
    intro v v' B H wr h ht hh hi
    cases v <;> first | exact plain h ht hh | skip
    rename_i i
    simp only [frzN] at h
    split at h
    · rename_i m e' t' xs hl
      cases h
      have hr := hh.ent i _ hl
      match m, hr, hl with
      | 0, hr, hl =>
        exact ⟨B.z, hh, Fr.refl _ _ _, fun cs ⟨x, e, hx⟩ => ⟨x, e, by rw [hx.1]; exact hr⟩, rfl, rfl, fun i hi => by cases hi⟩
      | 1, hr, hl =>
        exact ⟨B.z, hh, Fr.refl _ _ _, fun cs ⟨x, e, hx⟩ => ⟨x, e, by rw [hx.1]; exact hr.1⟩, rfl, rfl, fun i hi => by cases hi⟩
      | m + 2, hr, hl =>
        obtain ⟨z', hf⟩ := freeze hh hl
        have hp := Post.one (σ := ⟨[], H⟩) (e2 := .rows 0 e' t' xs) (val := .tnil) (rd := []) hh hl hf.le hf.fz hf.new (fun b hb => (ro_noO rfl hb).elim) (fun b p x hb => (ro_noO rfl hb).elim) hf.row (fun j hj => by cases hj) VR_undef (fun j hj => by cases hj)
        have hb : Nat.ble (m + 2) 1 = false := rfl
        rw [hb, cond_false]
        exact ⟨z', hp.heap, hp.fr, fun cs ⟨x, e, hx⟩ => ⟨x, e, by rw [hx.1]; exact hf.row⟩, rfl, rfl, fun i hi => by cases hi⟩
    · cases h
  | one a ih =>
    intro v v' B H wr h ht hh hi
    cases v <;> first | exact plain h ht hh | skip
    rename_i u
    simp only [frzN] at h
    rcases bif_eq_some h with ⟨_, h⟩ | ⟨hut, h⟩
    · cases h
    split at h
    · rename_i u' w' hu
      cases h
      obtain ⟨z', p1, p2, p3, p4, p5, p6⟩ := ih hu hut hh hi
      exact ⟨z', p1, p2, fun cs hc => p3 cs hc, rfl, rfl, p6⟩
    · cases h
  | pair a b iha ihb =>
    intro v v' B H wr h ht hh hi
    cases v <;> first | exact plain h ht hh | skip
    rename_i u v
    simp only [frzN] at h
    rcases bif_eq_some h with ⟨_, h⟩ | ⟨hut, h⟩
    · cases h
    simp only [Bool.or_eq_false_iff] at hut
    split at h
    · rename_i u' w1 hu
      split at h
      · rename_i v' w2 hv
        cases h
        obtain ⟨z1, p1, p2, p3, p4, p5, p6⟩ := iha hu hut.1 hh (fun i h => hi i (by simp [AV.ids, h]))
        obtain ⟨z2, q1, q2, q3, q4, q5, q6⟩ := ihb hv hut.2 p1 (fun i h => isSome_append (hi i (by simp [AV.ids, h])))
        have hz1 : Zle B.z z1 := p2.zle
        have hz2 : Zle z1 z2 := q2.zle
        refine ⟨z2, by rw [List.append_assoc]; exact q1, by rw [List.append_assoc]; exact p2.trans q2, fun cs ⟨c1, c2, e, h1, h2⟩ => ⟨c1, c2, e, CR_congr (B := B.frz z1) (B' := (B.frz z1).frz z2) hz2 (fun _ _ => rfl) (p3 c1 h1), q3 c2 (CR_congr (B := B) (B' := B.frz z1) hz1 (fun _ _ => rfl) h2)⟩, rfl, rfl, fun i hi => ?_⟩
        simp only [AV.ids, List.mem_append] at hi ⊢
        exact hi.imp (p6 i) (q6 i)
      · cases h
    · cases h
  | _ => intro v v' B H wr h ht hh hi; exact plain h ht hh

theorem castV_ok {B : Bz} {σ : St} {w : World} {k : Nat} {h : Hint} {v v' : AV} {wr : Heap} {x : Value} (hk : 1000 ≤ k) (hh : HeapR B σ.heap w) (hv : VR B v x) (hi : ∀ i ∈ v.ids, (look i σ.heap).isSome = true) (hc : castV k h v σ.heap = some (v', wr)) :
    ∃ B', Post B σ w ⟨v', wr, []⟩ B' x w := by
  unfold castV at hc
  split at hc
  · cases hc
    exact ⟨B, Post.pure hh hv hi⟩
  · rename_i t
    rcases bif_eq_some hc with ⟨_, hc⟩ | ⟨ht, hc⟩
    · cases hc
    · obtain ⟨z', p1, p2, p3, p4, p5, p6⟩ := frzN_ok hc ht hh hi
      refine ⟨B.frz z', ⟨?_, fun _ _ => rfl, fun _ _ => rfl, p1, p2, fun i h => isSome_append (hi i (p6 i h))⟩⟩
      refine VR_of_VR0 ?_ p5
      have hv := VR0_of_VR hv ht
      unfold VR0 at hv ⊢
      rw [p4]
      split
      · rename_i ha
        rw [if_pos ha] at hv
        obtain ⟨cs, h1, h2⟩ := hv
        exact ⟨cs, p3 cs h1, h2⟩
      · rename_i ha
        rw [if_neg ha] at hv
        obtain ⟨y, e, hy⟩ := AR_of_CR (by rw [p4]; simpa using ha) (p3 [x] (CR_of_AR hv))
        cases e
        exact hy
  · split at hc
    · rename_i i
      split at hc
      · rename_i m e t xs hl
        split at hc
        · rename_i hn
          cases hc
          have hr := hh.ent i _ hl
          obtain ⟨a, c, hB, _⟩ := vec_base hr
          rw [VR_vec hv]
          have hd : ∀ b, ¬ blkO .dead (B i) b := fun b hb => by cases h : B i <;> rw [h] at hb <;> exact hb.elim
          exact ⟨_, Post.two hh hn hk hl rfl rfl rfl (Nat.le_refl _) (fun _ _ _ => rfl) (Zle.refl _) hh.fz (fun b p x h => .inl h) (fun b hb => .inl hb) (fun b hb => absurd hb (hd b)) (fun b _ hb => hd b hb)
            (fun b p x hb hz => hh.zo i _ b p x hl hb hz) (fun b p x hb => absurd hb (hd b)) (EntR_at rfl (EntR_congr (B := B) (B' := ⟨fun _ => B i, B.z⟩) (i := i) (Zle.refl _) rfl (fun j hj => by cases hj) hr)) trivial rfl rfl (VR_mk_vec ⟨_, _, _, hB⟩) (fun j hj => by simpa [AV.ids] using hj)⟩
        · cases hc
      · cases hc
    · cases hc
  · rename_i m e t
    split at hc
    · split at hc
      · rename_i hn
        cases hc
        rw [VR_nils hv]
        refine ⟨upd B k (.slice none 0 0), Post.add hh hn hk rfl rfl rfl (Nat.le_refl _) (fun _ _ => rfl) (fun b hb => ?_) (fun j hj => by cases hj) (EntR_at rfl ?_) (VR_mk_vec ⟨_, _, _, rfl⟩) (fun j hj => by simpa [AV.ids] using hj)⟩
        · cases m with
          | zero => exact (ro_noO rfl hb).elim
          | succ m => obtain ⟨x, hx, _⟩ := blkO_inv hb; cases hx
        · have hf : FzR B.z (DR B.z t) ([] : List t.den) (.slice none 0 0) := ⟨none, 0, [], rfl, fun h => by simp at h, rfl, fun j u h => by simp at h⟩
          match m with
          | 0 => exact hf
          | 1 => exact ⟨hf, none, 0, rfl, Nat.le_refl _, fun h => by simp at h⟩
          | m + 2 => exact ⟨[], rfl, by simp, .inl ⟨rfl, rfl⟩⟩
      · cases hc
    · rename_i i
      split at hc
      · rename_i m' e' t' xs hl
        replace hc := bif_eq_some hc
        rcases hc with ⟨_, hc⟩ | ⟨_, hc⟩
        · cases hc
          exact ⟨B, Post.pure hh hv hi⟩
        · replace hc := bif_eq_some hc
          rcases hc with ⟨hm, hc⟩ | ⟨_, hc⟩
          · simp only [Bool.and_eq_true] at hm
            have h1 := blt_lt hm.1
            have h2 := Nat.le_of_ble_eq_true hm.2
            split at hc
            · rename_i hn
              cases hc
              cases m' with
              | zero => omega
              | succ m' =>
                have hr := hh.ent i _ hl
                obtain ⟨a, c, hB, _⟩ := vec_base hr
                rw [VR_vec hv]
                obtain ⟨z', hf⟩ := freeze hh hl
                have hown : ∀ b, blkO (.rows m e' t' xs) (B i) b → m = 1 ∧ blkO (.rows (m' + 1) e' t' xs) (B i) b := fun b hb => by
                  cases m with
                  | zero => exact (ro_noO rfl hb).elim
                  | succ m =>
                    have : m = 0 := by omega
                    subst this
                    refine ⟨rfl, ?_⟩
                    rw [hB] at hb ⊢
                    obtain ⟨x, rfl, rfl, hlt⟩ := blkO_inv hb
                    exact blkO_pos (fun _ => hlt rfl)
                refine ⟨_, Post.two hh hn hk hl rfl rfl rfl (Nat.le_refl _) (fun _ _ _ => rfl) hf.le hf.fz (fun b o x h => (hf.new b o x h).imp_right .inl) (fun b hb => .inl (hown b hb).2) (fun b hb => (ro_noO rfl hb).elim) (fun b _ hb => (ro_noO rfl hb).elim)
                  (fun b p x hb hz => ?_) (fun b p x hb => (ro_noO rfl hb).elim) (EntR_at rfl ?_) hf.row rfl rfl (VR_mk_vec ⟨_, _, _, hB⟩) (fun j hj => by simpa [AV.ids] using hj)⟩
                · obtain ⟨rfl, hb2⟩ := hown b hb
                  exact ⟨rfl, hf.zo b p x hb2 hz⟩
                · match m, h2 with
                  | 0, _ => exact hf.row
                  | 1, _ => exact ⟨hf.row, hf.grow⟩
                  | m + 2, h2 => omega
            · cases hc
          · cases hc
      · cases hc
    · rename_i e' t' xs
      replace hc := bif_eq_some hc
      rcases hc with ⟨_, hc⟩ | ⟨_, hc⟩
      · split at hc
        · rename_i hn
          cases hc
          exact ⟨_, Post.row hh hn hk ((VR_atom rfl rfl).1 hv)⟩
        · cases hc
      · cases hc
    · cases hc

/-- The slots that are kept, each as it is wanted. -/
def castEnv : List (Nat × Hint) → St → Option (List (Nat × AV) × Heap)
  | [], σ => some ([], σ.heap)
  | (t, h) :: r, σ => (match look t σ.env with
    | some v => (match castV (700000 + t) h v σ.heap with
      | some (v', wr) => (match castEnv r ⟨(t, v') :: σ.env, wr ++ σ.heap⟩ with
        | some (l, H) => some ((t, v') :: l, H)
        | none => none)
      | none => none)
    | none => none)

/-- A slice that lies in a cell. -/
def castCell (k i off : Nat) (h : Hint) (H : Heap) : Option Heap :=
  match look i H with
  | some (.cell v) => (match nav v off 1 false with
    | some u => (match castV k h u H with
      | some (u', wr) => (match look i (wr ++ H) with
        | some (.cell v2) => (match setNav v2 off u' with
          | some v' => some ((i, .cell v') :: (wr ++ H))
          | none => none)
        | _ => none)
      | none => none)
    | none => none)
  | _ => none

theorem splice_same {cs : List Value} {o : Nat} {x : Value} (h : cs[o]? = some x) : splice cs o [x] = cs := by
  have hlt := (List.getElem?_eq_some_iff.1 h).1
  apply List.ext_getElem?
  intro j
  rw [getElem?_splice (by simp; omega)]
  by_cases hj : o ≤ j ∧ j < o + [x].length
  · rw [if_pos hj]
    simp at hj
    have : j = o := by omega
    subst this
    simp [h]
  · rw [if_neg hj]

theorem castCell_ok {k i off : Nat} {h : Hint} {H H' : Heap} {B : Bz} {w : World} (hk : 1000 ≤ k) (hh : HeapR B H w) (hc : castCell k i off h H = some H') :
    ∃ B', HeapR B' H' w ∧ Fr B H w B' H' w ∧ (∀ j, j < 1000 → B' j = B j) ∧ ∀ j, (look j H).isSome = true → B' j = B j ∧ (look j H').isSome = true := by
  unfold castCell at hc
  split at hc
  · rename_i v hl
    split at hc
    · rename_i u hn
      split at hc
      · rename_i u' wr hv
        split at hc
        · rename_i v2 hl2
          split at hc
          · rename_i v' hs
            cases hc
            obtain ⟨b, cs, ty, h1, h2, h3⟩ := hh.ent i _ hl
            obtain ⟨n1, ⟨n2, us, n3, n4, n5⟩, n6⟩ := nav_ok h3 hn
            obtain ⟨x, rfl, hx⟩ := AR_of_CR n1 n4
            have hcell : cs.toList[off]? = some x := by have := n5 0 (by omega); simpa using this
            have hut := isTup_of_CR n4
            obtain ⟨B', hp⟩ := castV_ok (σ := ⟨[], H⟩) hk hh ((VR_atom hut n1).2 hx) (fun j hj => hh.closed i _ hl j (n6 j hj)) hv
            obtain ⟨b2, cs2, ty2, g1, g2, g3⟩ := hp.heap.ent i _ hl2
            have hBi : B' i = B i := hp.same i (by rw [hl]; rfl)
            rw [hBi, h1] at g1
            simp only [Value.pointer.injEq, Option.some.injEq, Addr.mk.injEq, and_true] at g1
            subst g1
            rw [h2] at g2
            cases g2
            have hu' : CR B' u' [x] := by
              have hv' := hp.vr
              have ht' : u'.isTup = false := by
                by_cases ht : u'.isTup = true
                · exfalso
                  unfold VR at hv'
                  rw [if_pos ht] at hv'
                  obtain ⟨vs, _, e⟩ := hv'
                  exact (by
                    have := AR_oneCell hx
                    rw [e] at this; cases this)
                · simpa using ht
              have := VR0_cells (VR0_of_VR hv' ht')
              rw [cells_one (AR_no_agg hx)] at this
              exact this
            have hput := setNav_ok hu' g3 hs
            have hcr := hput.cr
            rw [splice_same hcell] at hcr
            have hO : blkO (.cell v2) (B' i) b := by rw [hBi, h1]; rfl
            have hturn := Post.turn (σ := ⟨[], wr ++ H⟩) (w' := w) (b := b) (rd := []) hp.heap hl2 rfl hO rfl rfl rfl rfl (fun _ _ => rfl) (e' := .cell v') ⟨b, cs, ty, by rw [hBi, h1], h2, hcr⟩ (fun b' hb' => by rw [hBi, h1] at hb'; exact Eq.symm hb') (fun j hj => by
              rcases hput.ids j hj with h' | h'
              · exact hp.heap.closed i _ hl2 j h'
              · exact hp.ids j h') VR_undef rfl
            refine ⟨B', hturn.heap, hp.fr.trans hturn.fr, hp.low, fun j hj => ⟨hp.same j hj, ?_⟩⟩
            rw [look_cons]
            split
            · rfl
            · exact isSome_append hj
          · cases hc
        · cases hc
      · cases hc
    · cases hc
  · cases hc

/-- Cells told by the slots that point at them, or by their own number. -/
inductive Place where
  | slot (t : Nat)
  | id (i : Nat)

def castCells : List (Place × Nat × Hint) → Nat → St → Option St
  | [], _, σ => some σ
  | (.id i, off, h) :: r, k, σ => (match castCell k i off h σ.heap with
    | some H => castCells r (k + 1) ⟨σ.env, H⟩
    | none => none)
  | (.slot t, off, h) :: r, k, σ => (match look t σ.env with
    | some (.ptr (some p)) => (match castCell k p.id off h σ.heap with
      | some H => castCells r (k + 1) ⟨σ.env, H⟩
      | none => none)
    | _ => none)

def valsOf : List (Nat × AV) → List AV
  | [] => []
  | (_, v) :: r => v :: valsOf r

def castH (H : Heap) (ρ : Nat → Nat) (ids : List Nat) : List Nat → Option Heap
  | [] => some []
  | i :: r => (match look i H with
    | some e => bif e.ids.all (fun m => memN m ids) then (match castH H ρ ids r with
      | some L => some ((ρ i, e.ren ρ) :: L)
      | none => none) else none
    | none => none)

def renEnv (ρ : Nat → Nat) : List (Nat × AV) → List (Nat × AV)
  | [] => []
  | (t, v) :: r => (t, v.ren ρ) :: renEnv ρ r

/-- The new name: from 'nb' on, but for the names below 1000. -/
def newName (nb : Nat) (ids : List Nat) (i : Nat) : Nat := bif Nat.blt i 1000 then i else nb + idxN i ids

def keepIds (keep : List Nat) (H : Heap) (vs : List AV) : List Nat := close H 64 (addNew (addNew [] keep) (idsAll vs)) 0

def gather (nb : Nat) (keep : List Nat) (H : Heap) (vs : List AV) : Option Heap :=
  castH H (newName nb (keepIds keep H vs)) (keepIds keep H vs) (keepIds keep H vs)

def recast0 (slots : List (Nat × Hint)) (keep : List Nat) (σ : St) : Option St :=
  match castEnv slots σ with
  | some (env, H) => (match gather 800000 keep H (valsOf env) with
    | some H' => some ⟨renEnv (newName 800000 (keepIds keep H (valsOf env))) env, H'⟩
    | none => none)
  | none => none

/-- Places in cells first, then the slots. -/
def recast (cells : List (Place × Nat × Hint)) (slots : List (Nat × Hint)) (keep : List Nat) (σ : St) : Option St :=
  match castCells cells 720000 σ with
  | some σ' => recast0 slots keep σ'
  | none => none

/-! ### A part of a heap under other names -/

theorem mem_idsAll {i : Nat} : ∀ {args : List AV} {a : AV}, a ∈ args → i ∈ a.ids → i ∈ idsAll args
  | b :: as, a, h, hi => by
    simp only [idsAll, List.mem_append]
    rcases List.mem_cons.1 h with rfl | h
    · exact .inl hi
    · exact .inr (mem_idsAll h hi)

structure Sub (B B' : Bz) (H H' : Heap) (ρ π : Nat → Nat) : Prop where
  z : B'.z = B.z
  src : ∀ j e', look j H' = some e' → ∃ e, look (π j) H = some e ∧ e' = e.ren ρ ∧ B' j = B (π j) ∧ ∀ k ∈ e.ids, B' (ρ k) = B k ∧ (look (ρ k) H').isSome = true
  inj : ∀ a b x y, look a H' = some x → look b H' = some y → π a = π b → a = b

theorem sub_ok {B B' : Bz} {H H' : Heap} {ρ π : Nat → Nat} {w : World} (hs : Sub B B' H H' ρ π) (h : HeapR B H w) : HeapR B' H' w ∧ Fr B H w B' H' w := by
  have hz : Zle B.z B'.z := by rw [hs.z]; exact Zle.refl _
  refine ⟨⟨fun j e' hj => ?_, fun b o u hz => h.fz b o u (by rw [← hs.z]; exact hz), fun i j x y b hi hj hij hO hR => ?_, fun j x b o u hj hb hz => ?_, fun j e' hj m hm => ?_⟩, ⟨rfl, rfl, rfl, Nat.le_refl _, fun _ _ _ => rfl, hz, fun b o u hz => .inl (by rw [← hs.z]; exact hz), fun b ⟨j, x, hj, hO⟩ => ?_⟩⟩
  · obtain ⟨e, p1, rfl, p2, p3⟩ := hs.src j e' hj
    have he := h.ent _ e p1
    cases e with
    | cell v =>
      obtain ⟨b, cs, ty, h1, h2, h3⟩ := he
      exact ⟨b, cs, ty, by rw [p2]; exact h1, h2, CR_ren.2 (CR_congr (B := B) (B' := B'.ren ρ) hz (fun k hk => (p3 k hk).1.symm) h3)⟩
    | rows m e t xs =>
      have h2 := EntR_congr (B := B) (B' := ⟨fun _ => B' j, B'.z⟩) (i := π j) hz p2.symm (fun k hk => by cases hk) he
      match m, h2 with
      | 0, h2 => exact h2
      | 1, h2 => exact h2
      | m + 2, h2 => exact h2
    | iter s pos => exact EntR_congr (B := B) (B' := ⟨fun _ => B' j, B'.z⟩) (i := π j) hz p2.symm (fun k hk => by cases hk) he
    | dead => trivial
    | glob g t x => exact EntR_congr (B := B) (B' := ⟨fun _ => B' j, B'.z⟩) (i := π j) hz p2.symm (fun k hk => by cases hk) he
  · obtain ⟨e, p1, rfl, p2, _⟩ := hs.src i x hi
    obtain ⟨f, q1, rfl, q2, _⟩ := hs.src j y hj
    rw [p2, blkO_ren] at hO
    rw [q2, blkO_ren] at hR
    exact h.apart _ _ e f b p1 q1 (fun e => hij (hs.inj i j _ _ hi hj e)) hO hR
  · obtain ⟨e, p1, rfl, p2, _⟩ := hs.src j x hj
    rw [p2, blkO_ren] at hb
    rw [hs.z] at hz
    rw [mode_ren, endE_ren, p2]
    exact h.zo _ e b o u p1 hb hz
  · obtain ⟨e, p1, rfl, _, p3⟩ := hs.src j e' hj
    rw [entIds_ren] at hm
    obtain ⟨k, hk, rfl⟩ := List.mem_map.1 hm
    exact (p3 k hk).2
  · obtain ⟨e, p1, rfl, p2, _⟩ := hs.src j x hj
    rw [p2, blkO_ren] at hO
    exact .inl ⟨_, e, p1, hO⟩

theorem newName_lt {nb : Nat} {ids : List Nat} {i : Nat} (h : i < 1000) : newName nb ids i = i := by
  unfold newName
  have : Nat.blt i 1000 = true := Nat.ble_eq_true_of_le h
  rw [this, cond_true]

theorem newName_ge {nb : Nat} {ids : List Nat} {i : Nat} (h : 1000 ≤ i) : newName nb ids i = nb + idxN i ids := by
  unfold newName
  cases hb : Nat.blt i 1000
  · rw [cond_false]
  · have := blt_lt hb; omega

theorem castH_ok {H : Heap} {ρ : Nat → Nat} {ids : List Nat} : ∀ {r : List Nat} {L : Heap}, castH H ρ ids r = some L →
    (∀ j e', look j L = some e' → ∃ i e, i ∈ r ∧ j = ρ i ∧ look i H = some e ∧ e' = e.ren ρ ∧ ∀ k ∈ e.ids, k ∈ ids) ∧ ∀ i ∈ r, (look (ρ i) L).isSome = true
  | [], L, h => by
    simp only [castH, Option.some.injEq] at h
    subst h
    exact ⟨fun j e' h => by (cases h), fun i h => by cases h⟩
  | i :: r, L, h => by
    simp only [castH] at h
    split at h
    · rename_i e he
      replace h := bif_eq_some h
      rcases h with ⟨hc, h⟩ | ⟨_, h⟩
      · split at h
        · rename_i L' hL
          cases h
          obtain ⟨h1, h2⟩ := castH_ok hL
          refine ⟨fun j e' hj => ?_, fun k hk => ?_⟩
          · rw [look_cons] at hj
            by_cases e0 : j = ρ i
            · rw [if_pos e0] at hj; cases hj
              exact ⟨i, e, by simp, e0, he, rfl, fun k hk => memN_iff.1 (List.all_eq_true.1 hc k hk)⟩
            · rw [if_neg e0] at hj
              obtain ⟨i', e'', p1, p2, p3⟩ := h1 j e' hj
              exact ⟨i', e'', by simp [p1], p2, p3⟩
          · rw [look_cons]
            split
            · rfl
            · rename_i hne
              rcases List.mem_cons.1 hk with rfl | hk
              · exact absurd rfl hne
              · exact h2 k hk
        · cases h
      · cases h
    · cases h

/-- The heap under new names. -/
theorem gather_ok {nb : Nat} {keep : List Nat} {H H' : Heap} {vs : List AV} {B : Bz} {w : World} (hnb : 1000 ≤ nb) (hh : HeapR B H w) (hg : gather nb keep H vs = some H') :
    ∃ B', HeapR B' H' w ∧ Fr B H w B' H' w ∧ (∀ i, i < 1000 → B' i = B i) ∧ ∀ i ∈ idsAll vs, B' (newName nb (keepIds keep H vs) i) = B i ∧ (look (newName nb (keepIds keep H vs) i) H').isSome = true := by
  unfold gather at hg
  have hmem : ∀ i ∈ idsAll vs, i ∈ keepIds keep H vs := fun i hi => close_sub 64 _ 0 i (mem_addNew.2 (.inr hi))
  have hnd : (keepIds keep H vs).Nodup := (close_ok 64 _ 0 (nodup_addNew _ _ (nodup_addNew _ [] List.nodup_nil))).1
  generalize keepIds keep H vs = ids at *
  obtain ⟨h1, h2⟩ := castH_ok hg
  generalize hρ : newName nb ids = ρ at *
  let π : Nat → Nat := fun j => if j < 1000 then j else ids.getD (j - nb) 0
  let B' : Bz := ⟨fun j => if j < 1000 then B j else B (ids.getD (j - nb) 0), B.z⟩
  have hπρ : ∀ i ∈ ids, π (ρ i) = i := fun i hi => by
    rw [← hρ]
    rcases Nat.lt_or_ge i 1000 with hlt | hge
    · rw [newName_lt hlt]; exact if_pos hlt
    · rw [newName_ge hge]
      show (if _ then _ else _) = _
      rw [if_neg (by omega), Nat.add_sub_cancel_left]
      simp [List.getD, getElem?_idxN hi]
  have hB' : ∀ j, B' j = B (π j) := fun j => by
    show (if _ then _ else _) = B (if _ then _ else _)
    split <;> rfl
  have hsub : Sub B B' H H' ρ π := by
    refine ⟨rfl, fun j e' hj => ?_, fun a b x y ha hb e => ?_⟩
    · obtain ⟨i, e, p1, rfl, p2, p3, p4⟩ := h1 j e' hj
      refine ⟨e, by rw [hπρ i p1]; exact p2, p3, hB' _, fun k hk => ⟨by rw [hB', hπρ k (p4 k hk)], h2 k (p4 k hk)⟩⟩
    · obtain ⟨i, _, p1, rfl, _⟩ := h1 a x ha
      obtain ⟨k, _, q1, rfl, _⟩ := h1 b y hb
      rw [hπρ i p1, hπρ k q1] at e
      rw [e]
  obtain ⟨r1, r2⟩ := sub_ok hsub hh
  exact ⟨B', r1, r2, fun i hi => if_pos hi, fun i hi => ⟨by rw [hB', hπρ i (hmem i hi)], h2 i (hmem i hi)⟩⟩

theorem look_renEnv {ρ : Nat → Nat} : ∀ {env : List (Nat × AV)} {t : Nat} {v : AV}, look t (renEnv ρ env) = some v → ∃ v0, look t env = some v0 ∧ v = v0.ren ρ ∧ v0 ∈ valsOf env
  | (s, x) :: r, t, v, h => by
    simp only [renEnv] at h
    rw [look_cons] at h
    rw [look_cons]
    by_cases e : t = s
    · rw [if_pos e] at h ⊢; cases h
      exact ⟨x, rfl, rfl, by simp [valsOf]⟩
    · rw [if_neg e] at h ⊢
      obtain ⟨v0, p1, p2, p3⟩ := look_renEnv h
      exact ⟨v0, p1, p2, by simp [valsOf, p3]⟩

/-- What 'castEnv' leaves. -/
theorem castEnv_ok {N : Nat} : ∀ {slots : List (Nat × Hint)} {σ : St} {env : List (Nat × AV)} {H : Heap} {B : Bz} {a : Act} {w : World}, castEnv slots σ = some (env, H) → Rel N B σ a w →
    ∃ B', (∀ i, i < 1000 → B' i = B i) ∧ (∀ i, (look i σ.heap).isSome = true → B' i = B i ∧ (look i H).isSome = true) ∧ HeapR B' H w ∧ Fr B σ.heap w B' H w ∧
      ∀ t v, look t env = some v → t < N ∧ VR B' v (a.tmps.getD t undef) ∧ ∀ i ∈ v.ids, (look i H).isSome = true
  | [], σ, env, H, B, a, w, h, hr => by
    simp only [castEnv, Option.some.injEq, Prod.mk.injEq] at h
    obtain ⟨rfl, rfl⟩ := h
    exact ⟨B, fun _ _ => rfl, fun i hi => ⟨rfl, hi⟩, hr.heap, Fr.refl _ _ _, fun t v h => by cases h⟩
  | (t, hint) :: r, σ, env, H, B, a, w, h, hr => by
    simp only [castEnv] at h
    split at h
    · rename_i v hv
      split at h
      · rename_i v' wr hc
        split at h
        · rename_i l H' hl
          cases h
          obtain ⟨B1, hp⟩ := castV_ok (by omega) hr.heap (hr.env t v hv).2 (hr.closed t v hv) hc
          have hlt := (hr.env t v hv).1
          have hr1 : Rel N B1 ⟨(t, v') :: σ.env, wr ++ σ.heap⟩ a w := by
            refine ⟨hr.size, hr.defers, fun s x hs => ?_, fun s x hs i hi => ?_, hp.heap⟩
            · rw [look_cons] at hs
              by_cases e : s = t
              · rw [if_pos e] at hs; cases hs
                subst e
                exact ⟨hlt, hp.vr⟩
              · rw [if_neg e] at hs
                exact ⟨(hr.env s x hs).1, VR_congr hp.fr.zle (fun i hi => (hp.same i (hr.closed s x hs i hi)).symm) (hr.env s x hs).2⟩
            · rw [look_cons] at hs
              by_cases e : s = t
              · rw [if_pos e] at hs; cases hs
                exact hp.ids i hi
              · rw [if_neg e] at hs
                exact isSome_append (hr.closed s x hs i hi)
          obtain ⟨B2, q1, q2, q3, q4, q5⟩ := castEnv_ok hl hr1
          refine ⟨B2, fun i hi => (q1 i hi).trans (hp.low i hi), fun i hi => ?_, q3, hp.fr.trans q4, fun s x hs => ?_⟩
          · obtain ⟨p1, p2⟩ := q2 i (isSome_append hi)
            exact ⟨p1.trans (hp.same i hi), p2⟩
          · rw [look_cons] at hs
            by_cases e : s = t
            · rw [if_pos e] at hs; cases hs
              subst e
              refine ⟨hlt, VR_congr q4.zle (fun i hi => ((q2 i (hp.ids i hi)).1).symm) hp.vr, fun i hi => (q2 i (hp.ids i hi)).2⟩
            · rw [if_neg e] at hs
              exact q5 s x hs
        · cases h
      · cases h
    · cases h

theorem mem_valsOf {env : List (Nat × AV)} {v : AV} (h : v ∈ valsOf env) : ∀ i ∈ v.ids, i ∈ idsAll (valsOf env) := fun i hi => mem_idsAll h hi

theorem recast0_ok {N : Nat} {slots : List (Nat × Hint)} {keep : List Nat} {σ σ' : St} (h : recast0 slots keep σ = some σ') {B : Bz} {a : Act} {w : World} (hr : Rel N B σ a w) : ∃ B', Rn N B σ w B' σ' a w := by
  unfold recast0 at h
  split at h
  · rename_i env H he
    split at h
    · rename_i H' hg
      cases h
      obtain ⟨B1, p1, p2, p3, p4, p5⟩ := castEnv_ok he hr
      obtain ⟨B2, q1, q2, q3, q4⟩ := gather_ok (by omega) p3 hg
      generalize newName 800000 (keepIds keep H (valsOf env)) = ρ at *
      refine ⟨B2, ⟨hr.size, hr.defers, fun t v ht => ?_, fun t v ht i hi => ?_, q1⟩, fun i hi => (q3 i hi).trans (p1 i hi), p4.trans q2⟩
      · obtain ⟨v0, r1, rfl, r2⟩ := look_renEnv ht
        obtain ⟨s1, s2, _⟩ := p5 t v0 r1
        exact ⟨s1, VR_ren.2 (VR_congr (B := B1) (B' := B2.ren ρ) q2.zle (fun i hi => ((q4 i (mem_valsOf r2 i hi)).1).symm) s2)⟩
      · obtain ⟨v0, r1, rfl, r2⟩ := look_renEnv ht
        rw [ids_ren] at hi
        obtain ⟨k, hk, rfl⟩ := List.mem_map.1 hi
        exact (q4 k (mem_valsOf r2 k hk)).2
    · cases h
  · cases h

theorem castCells_ok {N : Nat} : ∀ {l : List (Place × Nat × Hint)} {k : Nat} {σ σ' : St} {B : Bz} {a : Act} {w : World}, 1000 ≤ k → castCells l k σ = some σ' → Rel N B σ a w → ∃ B', Rn N B σ w B' σ' a w
  | [], k, σ, σ', B, a, w, _, h, hr => by
    simp only [castCells, Option.some.injEq] at h
    subst h
    exact ⟨B, Rn.refl hr⟩
  | (p, off, hint) :: r, k, σ, σ', B, a, w, hk, h, hr => by
    have step : ∀ {i : Nat} {H : Heap}, castCell k i off hint σ.heap = some H → castCells r (k + 1) ⟨σ.env, H⟩ = some σ' → ∃ B', Rn N B σ w B' σ' a w := by
      intro i H h1 h2
      obtain ⟨B1, q1, q2, q3, q4⟩ := castCell_ok hk hr.heap h1
      have hr1 : Rel N B1 ⟨σ.env, H⟩ a w := ⟨hr.size, hr.defers, fun t v hv => ⟨(hr.env t v hv).1, VR_congr q2.zle (fun j hj => ((q4 j (hr.closed t v hv j hj)).1).symm) (hr.env t v hv).2⟩, fun t v hv j hj => (q4 j (hr.closed t v hv j hj)).2, q1⟩
      obtain ⟨B2, hn⟩ := castCells_ok (by omega) h2 hr1
      exact ⟨B2, Rn.trans ⟨hr1, q3, q2⟩ hn⟩
    cases p with
    | id i =>
      simp only [castCells] at h
      split at h
      · rename_i H hc; exact step hc h
      · cases h
    | slot t =>
      simp only [castCells] at h
      split at h
      · split at h
        · rename_i H hc; exact step hc h
        · cases h
      · cases h

theorem recast_ok {N : Nat} {cells : List (Place × Nat × Hint)} {slots : List (Nat × Hint)} {keep : List Nat} {σ σ' : St} (h : recast cells slots keep σ = some σ') {B : Bz} {a : Act} {w : World} (hr : Rel N B σ a w) : ∃ B', Rn N B σ w B' σ' a w := by
  unfold recast at h
  split at h
  · rename_i σ1 hc
    obtain ⟨B1, h1⟩ := castCells_ok (by omega) hc hr
    obtain ⟨B2, h2⟩ := recast0_ok h h1.rel
    exact ⟨B2, h1.trans h2⟩
  · cases h

end Go.Proofs.YtkgpjplncfginaaGreatDoor.Sy
