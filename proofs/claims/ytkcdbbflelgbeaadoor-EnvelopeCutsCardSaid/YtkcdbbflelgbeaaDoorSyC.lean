/- Rows that grow. -/
import Derived.Test.YtkcdbbflelgbeaaDoorSyB
import Derived.Laws.MakeOwn
namespace Go.Proofs.YtkcdbbflelgbeaaDoor.Sy
open Go
set_option linter.unusedVariables false
set_option linter.unusedSimpArgs false

/-- One entry more, at the cost of another: what 'ev' was goes on as 'e'. -/
theorem Post.grow {B : Nat → Value} {σ : St} {w w' : World} {id v : Nat} {ev e2 e : Ent} {u : Value} {val : AV} {rd : List Nat} (hh : HeapR B σ.heap w) (hn : look id σ.heap = none) (h1000 : 1000 ≤ id) (hv : look v σ.heap = some ev) (hro : ev.isRo = false)
    (hr : ∀ b, blkR e u = some b → blkR ev (B v) = some b ∨ w.heap.size ≤ b) (hr2 : ∀ b, blkR e2 (B v) = some b → blkR ev (B v) = some b)
    (ho : ∀ b, blkO e u = some b → w.heap.size ≤ b ∨ (blkO ev (B v) = some b ∧ (blkR e2 (B v) = some b → Shares e u e2 (B v)) ∧ (ev.mode = 1 → e.mode = 1 ∧ endE ev (B v) ≤ endE e u)))
    (ho2 : blkO e2 (B v) = none)
    (hos : w'.os = w.os) (htape : w'.tape = w.tape) (hout : w'.output = w.output) (hs : w.heap.size ≤ w'.heap.size) (hold : ∀ b, b < w.heap.size → blkO ev (B v) ≠ some b → w'.heap[b]? = w.heap[b]?)
    (hlow : ∀ b, blkO ev (B v) = some b → ev.mode = 1 → ∀ o, o < endE ev (B v) → w'.cell? ⟨b, o, none⟩ = w.cell? ⟨b, o, none⟩)
    (he : EntR (upd B id u) id w' e) (he2 : EntR B v w' e2) (hi : e.ids = []) (hi2 : e2.ids = []) (hval : VR (upd B id u) val u) (hvi : ∀ j ∈ val.ids, j = id) :
    Post B σ w ⟨val, [(id, e), (v, e2)], rd⟩ (upd B id u) u w' := by
  have hvid : v ≠ id := fun e => by rw [e, hn] at hv; cases hv
  have hne : ∀ i, (look i σ.heap).isSome = true → i ≠ id := fun i h e => by subst e; rw [hn] at h; cases h
  have hsame : ∀ i, (look i σ.heap).isSome = true → upd B id u i = B i := fun i h => upd_ne (hne i h)
  have hlook : ∀ i x, look i ([(id, e), (v, e2)] ++ σ.heap) = some x → (i = id ∧ x = e) ∨ (i = v ∧ x = e2) ∨ (i ≠ id ∧ i ≠ v ∧ look i σ.heap = some x) := fun i x h => by
    simp only [List.cons_append, List.nil_append, look_cons] at h
    by_cases hid : i = id
    · rw [if_pos hid] at h; cases h; exact .inl ⟨hid, rfl⟩
    · rw [if_neg hid] at h
      by_cases hiv : i = v
      · rw [if_pos hiv] at h; cases h; exact .inr (.inl ⟨hiv, rfl⟩)
      · rw [if_neg hiv] at h; exact .inr (.inr ⟨hid, hiv, h⟩)
  have hBv : upd B id u v = B v := upd_ne hvid
  have hBo : ∀ i x, look i σ.heap = some x → upd B id u i = B i := fun i x h => hsame i (by rw [h]; rfl)
  have old : ∀ i x, i ≠ id → i ≠ v → look i σ.heap = some x → look i ([(id, e), (v, e2)] ++ σ.heap) = some x := fun i x h1 h2 h => by
    simp only [List.cons_append, List.nil_append, look_cons, if_neg h1, if_neg h2]; exact h
  have newl : look id ([(id, e), (v, e2)] ++ σ.heap) = some e := by simp [look_cons]
  -- nobody else owns what 'ev' looks into
  have sole : ∀ i x b, look i σ.heap = some x → i ≠ v → blkO x (B i) = some b → blkR ev (B v) ≠ some b := fun i x b h1 h2 h3 h4 => by
    have := (hh.apart i v x ev b h1 hv h2 h3 h4).2.1
    rw [hro] at this; cases this
  refine ⟨hval, hsame, fun i hlt => upd_ne (by omega), ⟨?_, ?_, ?_⟩, ⟨hos, htape, hout, hs, ?_, ?_, ?_, ?_⟩, ?_⟩
  · intro i x h
    rcases hlook i x h with ⟨rfl, rfl⟩ | ⟨rfl, rfl⟩ | ⟨h1, h2, h3⟩
    · exact he
    · exact EntR_congr hBv.symm (fun j hj => by rw [hi2] at hj; cases hj) he2
    · refine EntR_congr (hBo i x h3).symm (fun j hj => (hsame j (hh.closed i x h3 j hj)).symm) ?_
      have hx := hh.ent i x h3
      by_cases hc : ∃ b, blkR x (B i) = some b ∧ blkO ev (B v) = some b
      · obtain ⟨b, c1, c2⟩ := hc
        obtain ⟨s1, s2, s3⟩ := hh.apart v i ev x b hv h3 (Ne.symm h2) c2 c1
        refine EntR_low hs s2 (fun b' hb' o ho' => ?_) hx
        rw [c1] at hb'; cases hb'
        exact hlow b c2 s1 o (by omega)
      · exact EntR_world hs (fun b hb => hold b (EntR_lt hx hb) (fun hb' => hc ⟨b, hb, hb'⟩)) hx
  · intro i j x y b hx hy hij hO hR
    rcases hlook i x hx with ⟨rfl, rfl⟩ | ⟨rfl, rfl⟩ | ⟨h1, h2, h3⟩
    · rw [upd_self] at hO ⊢
      rcases ho b hO with hb | ⟨o1, o2, o3⟩
      · rcases hlook j y hy with ⟨rfl, _⟩ | ⟨rfl, rfl⟩ | ⟨g1, g2, g3⟩
        · exact absurd rfl hij
        · rw [hBv] at hR
          have := EntR_lt (hh.ent j ev hv) (hr2 b hR); omega
        · rw [hBo j y g3] at hR
          have := EntR_lt (hh.ent j y g3) hR; omega
      · rcases hlook j y hy with ⟨rfl, _⟩ | ⟨rfl, rfl⟩ | ⟨g1, g2, g3⟩
        · exact absurd rfl hij
        · rw [hBv] at hR ⊢; exact o2 hR
        · rw [hBo j y g3] at hR ⊢
          obtain ⟨s1, s2, s3⟩ := hh.apart v j ev y b hv g3 (Ne.symm g2) o1 hR
          exact ⟨(o3 s1).1, s2, Nat.le_trans s3 (o3 s1).2⟩
    · rw [hBv, ho2] at hO; cases hO
    · rw [hBo i x h3] at hO ⊢
      rcases hlook j y hy with ⟨rfl, rfl⟩ | ⟨rfl, rfl⟩ | ⟨g1, g2, g3⟩
      · rw [upd_self] at hR
        rcases hr b hR with hb | hb
        · exact absurd hb (sole i x b h3 h2 hO)
        · have := EntR_lt (hh.ent i x h3) (blkR_of_O hO); omega
      · rw [hBv] at hR
        exact absurd (hr2 b hR) (sole i x b h3 h2 hO)
      · rw [hBo j y g3] at hR ⊢
        exact hh.apart i j x y b h3 g3 hij hO hR
  · intro i x h j hj
    rcases hlook i x h with ⟨_, rfl⟩ | ⟨_, rfl⟩ | ⟨_, _, h⟩
    · rw [hi] at hj; cases hj
    · rw [hi2] at hj; cases hj
    · exact isSome_append (hh.closed i x h j hj)
  · intro b hb hno
    exact hold b hb fun hO => hno ⟨v, ev, hv, hO⟩
  · intro b h hb ⟨k, z, p1, p2, p3, p4⟩ o hlt
    by_cases hO : blkO ev (B v) = some b
    · have hk : k = v := by
        by_cases hk : k = v
        · exact hk
        · exact absurd (blkR_of_O hO) (sole k z b p1 hk p2)
      subst hk
      rw [hv] at p1; cases p1
      exact hlow b hO p3 o (by omega)
    · unfold World.cell?; rw [hold b hb hO]
  · rintro b ⟨i, x, h, hO⟩
    rcases hlook i x h with ⟨rfl, rfl⟩ | ⟨rfl, rfl⟩ | ⟨h1, h2, h3⟩
    · rw [upd_self] at hO
      rcases ho b hO with hb | ⟨o1, o2, o3⟩
      · exact .inr hb
      · refine .inl ⟨⟨v, ev, hv, o1⟩, fun y hy => ?_⟩
        obtain ⟨k, z, p1, p2, p3, p4⟩ := hy
        have hk : k = v := by
          by_cases hk : k = v
          · exact hk
          · exact absurd (blkR_of_O o1) (sole k z b p1 hk p2)
        subst hk
        rw [hv] at p1; cases p1
        exact ⟨_, by rw [← p4]; exact (o3 p3).2, i, x, newl, by rw [upd_self]; exact hO, (o3 p3).1, by rw [upd_self]⟩
    · rw [hBv, ho2] at hO; cases hO
    · rw [hBo i x h3] at hO
      refine .inl ⟨⟨i, x, h3, hO⟩, fun y hy => ?_⟩
      obtain ⟨k, z, p1, p2, p3, p4⟩ := hy
      have hk : k = i := by
        by_cases hk : k = i
        · exact hk
        · have := (hh.apart i k x z b h3 p1 (Ne.symm hk) hO (blkR_of_O p2)).2.1
          rw [ro_noO this] at p2; cases p2
      subst hk
      rw [h3] at p1; cases p1
      exact ⟨y, Nat.le_refl _, k, x, old k x h1 h2 h3, by rw [hBo k x h3]; exact hO, p3, by rw [hBo k x h3]; exact p4⟩
  · intro i x b h hb
    rcases hlook i x h with ⟨rfl, rfl⟩ | ⟨rfl, rfl⟩ | ⟨h1, h2, h3⟩
    · rw [upd_self] at hb ⊢
      rcases hr b hb with hb | hb
      · exact .inl ⟨v, ev, hv, hb, fun hr => by rw [hro] at hr; cases hr⟩
      · exact .inr hb
    · rw [hBv] at hb ⊢
      exact .inl ⟨i, ev, hv, hr2 b hb, fun hr => by rw [hro] at hr; cases hr⟩
    · rw [hBo i x h3] at hb ⊢
      exact .inl (Seen.self h3 hb)
  · intro j hj
    rw [hvi j hj, newl]; rfl

/-! ### What is appended -/

theorem oneCell_cellsT : ∀ (t : Ty) (x : t.den), wfT t x → ∀ u ∈ cellsT t x, u.oneCell' = true
  | .int k, n, _, u, h => by simp only [cellsT, List.mem_singleton] at h; subst h; rfl
  | .bool, b, _, u, h => by simp only [cellsT, List.mem_singleton] at h; subst h; rfl
  | .str, s, _, u, h => by simp only [cellsT, List.mem_singleton] at h; subst h; rfl
  | .arr k n, xs, _, u, h => by
    obtain ⟨y, _, rfl⟩ := List.mem_map.1 h
    rfl
  | .opq, v, hw, u, h => by
    have h : u = v := List.mem_singleton.1 h
    rw [h]; exact hw
  | .one a, x, hw, u, h => oneCell_cellsT a x hw u h
  | .pair a b, x, hw, u, h => by
    rcases List.mem_append.1 h with h | h
    · exact oneCell_cellsT a x.1 hw.1 u h
    · exact oneCell_cellsT b x.2 hw.2 u h

theorem oneCell_rows {t : Ty} {xs : List t.den} (hw : ∀ x ∈ xs, wfT t x) : ∀ u ∈ xs.flatMap (cellsT t), u.oneCell' = true := fun u h => by
  obtain ⟨x, hx, hu⟩ := List.mem_flatMap.1 h
  exact oneCell_cellsT t x (hw x hx) u hu

structure News (P : Program) (w : World) (size : Nat) (q : Value) (n : Nat) (news : List Value) : Prop where
  len : ∀ w', (Builtin.lenOf q).run P w' = .ok n w'
  cells : ∀ w', w'.heap = w.heap → (Builtin.firstCells size n q).run P w' = .ok news.toArray w'
  length : news.length = n * size
  one : ∀ u ∈ news, u.oneCell' = true

theorem News.slice {P : Program} {w : World} {t : Ty} {xs : List t.den} {a : Option Addr} {c : Nat} (hw : ∀ x ∈ xs, wfT t x) (h0 : a = none → xs = []) (h : ∀ ad, a = some ad → ∀ j u, (xs.flatMap (cellsT t))[j]? = some u → w.cell? (ad.add j) = some u) :
    News P w t.size (.slice a xs.length c) xs.length (xs.flatMap (cellsT t)) := by
  refine ⟨fun w' => rfl, fun w' he => ?_, flatMap_length _ hw, oneCell_rows hw⟩
  cases a with
  | none =>
    rw [h0 rfl]
    simp [Builtin.firstCells]
  | some ad =>
    exact run_firstCells_some w' _ _ ad _ _ _ (flatMap_length _ hw) (fun j u hj => by
      rw [← h ad rfl j u hj]
      unfold World.cell?; rw [he])

theorem News.ints {P : Program} {w : World} {k : IntKind} {L : List Int} {ad : Addr} {n c : Nat} (hn : L.length = n) (h : ∀ j y, L[j]? = some y → w.cell? (ad.add j) = some (.int k y)) :
    News P w (Ty.int k).size (.slice (some ad) n c) L.length (@List.flatMap Int Value (cellsT (.int k)) L) := by
  rw [flatMap_ints]
  subst hn
  refine ⟨fun w' => rfl, fun w' he => ?_, by simp [Ty.size], fun u hu => ?_⟩
  · refine run_firstCells_some w' _ _ ad _ _ _ (by simp [Ty.size]) (fun j u hj => ?_)
    rw [List.getElem?_map] at hj
    cases hq : L[j]? with
    | none => rw [hq] at hj; cases hj
    | some y =>
      rw [hq] at hj; cases hj
      rw [← h j y hq]
      unfold World.cell?; rw [he]
  · obtain ⟨z, _, rfl⟩ := List.mem_map.1 hu
    rfl

theorem bst_cells {s : List Int} (h : byteL s) : (bst s).data.map (fun b => Value.int .u8 b.toNat) = (s.map (Value.int .u8)).toArray := by
  unfold bst
  simp only [List.map_toArray, List.map_map]
  congr 1
  apply List.map_congr_left
  intro x hx
  have := h x hx
  simp only [Function.comp, UInt8.toNat_ofNat']
  congr 1
  omega

section
variable {R : Type}

theorem newsK_ok {P : Program} {B : Nat → Value} {H : Heap} {w : World} (hh : HeapR B H w) {e u : TypeId} {ty : Ty} {x : AV} {q : Value} {K : List ty.den → Option R} {r : R} (hx : VR B x q) (h : newsK P H e u ty x K = some r) :
    ∃ ys, K ys = some r ∧ (∀ y ∈ ys, wfT ty y) ∧ News P w ty.size q ys.length (ys.flatMap (cellsT ty)) := by
  unfold newsK at h
  split at h
  · rw [VR_nils hx]
    exact ⟨[], h, fun y hy => (by cases hy), News.slice (t := ty) (xs := []) (fun y hy => (by cases hy)) (fun _ => rfl) (fun ad ha => by cases ha)⟩
  · rename_i v
    split at h
    · rename_i m e' ty' xs hl
      replace h := bif_eq_some h
      rcases h with ⟨_, h⟩ | ⟨_, h⟩
      · split at h
        · rename_i ht
          subst ht
          obtain ⟨a, cap, h1, h2, h3, h4⟩ := rows_cells (hh.ent _ _ hl)
          rw [VR_vec hx, h1]
          exact ⟨xs, h, h3, News.slice h3 h2 h4⟩
        · cases h
      · cases h
    · cases h
  · rename_i s
    split at h
    · split at h
      · split at h
        · obtain ⟨hs, rfl⟩ := VR_str' hx
          have hn : News P w 1 (.string (bst s)) s.length (s.map (Value.int .u8)) := by
            refine ⟨fun w' => ?_, fun w' he => ?_, by simp, fun y hy => ?_⟩
            · simp only [Builtin.lenOf, size_bst, Sem.run_pure]
            · have e1 : (bst s).extract 0 s.length = bst s := by
                rw [← size_bst s]; simp
              simp only [Builtin.firstCells]
              rw [e1, bst_cells hs, Sem.run_pure]
            · obtain ⟨z, _, rfl⟩ := List.mem_map.1 hy
              rfl
          exact ⟨s, h, fun y hy => trivial, (congrArg (News P w 1 (.string (bst s)) s.length) (flatMap_ints (k := .u8) s)).mpr hn⟩
        · cases h
      · cases h
    · cases h
  · rename_i p n len
    split at h
    · rename_i hp
      split at h
      · rename_i v hl
        split at h
        · rename_i k m xs hn
          replace h := bif_eq_some h
          rcases h with ⟨hle, h⟩ | ⟨_, h⟩
          · split at h
            · rename_i k' K'
              replace h := bif_eq_some h
              rcases h with ⟨hk, h⟩ | ⟨_, h⟩
              · have hk := of_decide_eq_true hk
                subst hk
                obtain ⟨b, cs, ty, h1, _, _, _, h2, h3⟩ := asl_cells hh hx hp hl hn (Nat.le_of_ble_eq_true hle)
                refine ⟨List.take n xs, h, fun y hy => trivial, ?_⟩
                rw [h1]
                exact News.ints (k := k') h2 h3
              · cases h
            · cases h
          · cases h
        · cases h
      · cases h
    · cases h
  · cases h

end

end Go.Proofs.YtkcdbbflelgbeaaDoor.Sy
