/- Parts of rows, and rows that are grown: what they leave. -/
import Derived.Test.YtkcdbbflelgbeaaDoorSy5
namespace Go.Proofs.YtkcdbbflelgbeaaDoor.Sy
open Go
set_option linter.unusedVariables false
set_option linter.unusedSimpArgs false

/-! ### Two entries turn, the world stays -/

/-- What is asked of the entry that came, 'e' at 'u', and of what the old one 'ev' became, 'e2', at 'bv'. -/
structure Part (ev e2 e : Ent) (bv u : Value) : Prop where
  r : ∀ b, blkR e u = some b → blkR ev bv = some b
  r2 : ∀ b, blkR e2 bv = some b → blkR ev bv = some b
  o : ∀ b, blkO e u = some b → blkO ev bv = some b ∧ Shares e u e2 bv ∧ (ev.mode = 1 → endE ev bv ≤ endE e u)
  o2 : ∀ b, blkO e2 bv = some b → blkO ev bv = some b ∧ (ev.mode = 1 → e2.mode = 1 ∧ endE ev bv ≤ endE e2 bv) ∧ (blkR e u = some b → Shares e2 bv e u)
  ro : ev.isRo = true → e.isRo = true ∧ e2.isRo = true ∧ endE e u ≤ endE ev bv ∧ endE e2 bv ≤ endE ev bv

theorem Shares.mode {e e' : Ent} {v v' : Value} (h : Shares e v e' v') : e.mode = 1 := h.1

theorem Post.part {B : Nat → Value} {σ : St} {w : World} {id v : Nat} {ev e2 e : Ent} {u : Value} {val : AV} {rd : List Nat} (hh : HeapR B σ.heap w) (hn : look id σ.heap = none) (h1000 : 1000 ≤ id) (hv : look v σ.heap = some ev)
    (hp : Part ev e2 e (B v) u) (he : EntR (upd B id u) id w e) (he2 : EntR B v w e2) (hi : e.ids = []) (hi2 : e2.ids = []) (hval : VR (upd B id u) val u) (hvi : ∀ j ∈ val.ids, j = id) :
    Post B σ w ⟨val, [(id, e), (v, e2)], rd⟩ (upd B id u) u w := by
  have hvid : v ≠ id := fun e => by rw [e, hn] at hv; cases hv
  have hne : ∀ i, (look i σ.heap).isSome = true → i ≠ id := fun i h e => by subst e; rw [hn] at h; cases h
  have hsame : ∀ i, (look i σ.heap).isSome = true → upd B id u i = B i := fun i h => upd_ne (hne i h)
  have hlook : ∀ i x, look i ([(id, e), (v, e2)] ++ σ.heap) = some x → (i = id ∧ x = e) ∨ (i = v ∧ x = e2) ∨ (i ≠ id ∧ i ≠ v ∧ look i σ.heap = some x) := fun i x h => by
    simp only [List.cons_append, List.nil_append, look_cons] at h
    by_cases hid : i = id
    · rw [if_pos hid] at h; cases h; exact .inl ⟨hid, rfl⟩
    · rw [if_neg hid] at h
      by_cases hiv : i = v
      · rw [if_pos hiv] at h; cases h; exact .inr (.inl ⟨hiv, rfl⟩)
      · rw [if_neg hiv] at h; exact .inr (.inr ⟨hid, hiv, h⟩)
  have hBv : upd B id u v = B v := upd_ne hvid
  have hBo : ∀ i x, look i σ.heap = some x → upd B id u i = B i := fun i x h => hsame i (by rw [h]; rfl)
  have old : ∀ i x, i ≠ id → i ≠ v → look i σ.heap = some x → look i ([(id, e), (v, e2)] ++ σ.heap) = some x := fun i x h1 h2 h => by
    simp only [List.cons_append, List.nil_append, look_cons, if_neg h1, if_neg h2]; exact h
  have newl : look id ([(id, e), (v, e2)] ++ σ.heap) = some e := by simp [look_cons]
  have newv : look v ([(id, e), (v, e2)] ++ σ.heap) = some e2 := by simp [look_cons, hvid]
  refine ⟨hval, hsame, fun i hlt => upd_ne (by omega), ⟨?_, ?_, ?_⟩, ⟨rfl, rfl, rfl, Nat.le_refl _, fun _ _ _ => rfl, fun _ _ _ _ _ _ => rfl, ?_, ?_⟩, ?_⟩
  · intro i x h
    rcases hlook i x h with ⟨rfl, rfl⟩ | ⟨rfl, rfl⟩ | ⟨h1, h2, h3⟩
    · exact he
    · exact EntR_congr hBv.symm (fun j hj => by rw [hi2] at hj; cases hj) he2
    · exact EntR_congr (hBo i x h3).symm (fun j hj => (hsame j (hh.closed i x h3 j hj)).symm) (hh.ent i x h3)
  · intro i j x y b hx hy hij hO hR
    rcases hlook i x hx with ⟨rfl, rfl⟩ | ⟨rfl, rfl⟩ | ⟨h1, h2, h3⟩
    · rw [upd_self] at hO ⊢
      obtain ⟨o1, o2, o3⟩ := hp.o b hO
      rcases hlook j y hy with ⟨rfl, _⟩ | ⟨rfl, rfl⟩ | ⟨g1, g2, g3⟩
      · exact absurd rfl hij
      · rw [hBv]; exact o2
      · rw [hBo j y g3] at hR ⊢
        obtain ⟨s1, s2, s3⟩ := hh.apart v j ev y b hv g3 (Ne.symm g2) o1 hR
        exact ⟨o2.1, s2, Nat.le_trans s3 (o3 s1)⟩
    · rw [hBv] at hO ⊢
      obtain ⟨o1, o2, o3⟩ := hp.o2 b hO
      rcases hlook j y hy with ⟨rfl, rfl⟩ | ⟨rfl, _⟩ | ⟨g1, g2, g3⟩
      · rw [upd_self] at hR ⊢; exact o3 hR
      · exact absurd rfl hij
      · rw [hBo j y g3] at hR ⊢
        obtain ⟨s1, s2, s3⟩ := hh.apart i j ev y b hv g3 hij o1 hR
        exact ⟨(o2 s1).1, s2, Nat.le_trans s3 (o2 s1).2⟩
    · rw [hBo i x h3] at hO ⊢
      rcases hlook j y hy with ⟨rfl, rfl⟩ | ⟨rfl, rfl⟩ | ⟨g1, g2, g3⟩
      · rw [upd_self] at hR ⊢
        obtain ⟨s1, s2, s3⟩ := hh.apart i v x ev b h3 hv h2 hO (hp.r b hR)
        obtain ⟨r1, _, r3, _⟩ := hp.ro s2
        exact ⟨s1, r1, Nat.le_trans r3 s3⟩
      · rw [hBv] at hR ⊢
        obtain ⟨s1, s2, s3⟩ := hh.apart i j x ev b h3 hv h2 hO (hp.r2 b hR)
        obtain ⟨_, r2, _, r4⟩ := hp.ro s2
        exact ⟨s1, r2, Nat.le_trans r4 s3⟩
      · rw [hBo j y g3] at hR ⊢
        exact hh.apart i j x y b h3 g3 hij hO hR
  · intro i x h j hj
    rcases hlook i x h with ⟨_, rfl⟩ | ⟨_, rfl⟩ | ⟨_, _, h⟩
    · rw [hi] at hj; cases hj
    · rw [hi2] at hj; cases hj
    · exact isSome_append (hh.closed i x h j hj)
  · rintro b ⟨i, x, h, hO⟩
    have own1 : Owned B σ.heap b → (∀ y, Own1 B σ.heap b y → ∃ y', y ≤ y' ∧ Own1 (upd B id u) ([(id, e), (v, e2)] ++ σ.heap) b y') → (Owned B σ.heap b ∧ ∀ y, Own1 B σ.heap b y → ∃ y', y ≤ y' ∧ Own1 (upd B id u) ([(id, e), (v, e2)] ++ σ.heap) b y') := fun a c => ⟨a, c⟩
    rcases hlook i x h with ⟨rfl, rfl⟩ | ⟨rfl, rfl⟩ | ⟨h1, h2, h3⟩
    · rw [upd_self] at hO
      obtain ⟨o1, o2, o3⟩ := hp.o b hO
      refine .inl (own1 ⟨v, ev, hv, o1⟩ fun y hy => ?_)
      obtain ⟨k, z, p1, p2, p3, p4⟩ := hy
      have hk : k = v := by
        by_cases hk : k = v
        · exact hk
        · have := (hh.apart v k ev z b hv p1 (Ne.symm hk) o1 (blkR_of_O p2)).2.1
          rw [ro_noO this] at p2; cases p2
      subst hk
      rw [hv] at p1; cases p1
      exact ⟨_, by rw [← p4]; exact o3 p3, i, x, newl, by rw [upd_self]; exact hO, o2.1, by rw [upd_self]⟩
    · rw [hBv] at hO
      obtain ⟨o1, o2, o3⟩ := hp.o2 b hO
      refine .inl (own1 ⟨i, ev, hv, o1⟩ fun y hy => ?_)
      obtain ⟨k, z, p1, p2, p3, p4⟩ := hy
      have hk : k = i := by
        by_cases hk : k = i
        · exact hk
        · have := (hh.apart i k ev z b hv p1 (Ne.symm hk) o1 (blkR_of_O p2)).2.1
          rw [ro_noO this] at p2; cases p2
      subst hk
      rw [hv] at p1; cases p1
      exact ⟨_, by rw [← p4]; exact (o2 p3).2, k, x, newv, by rw [hBv]; exact hO, (o2 p3).1, by rw [hBv]⟩
    · rw [hBo i x h3] at hO
      refine .inl (own1 ⟨i, x, h3, hO⟩ fun y hy => ?_)
      obtain ⟨k, z, p1, p2, p3, p4⟩ := hy
      have hk : k = i := by
        by_cases hk : k = i
        · exact hk
        · have := (hh.apart i k x z b h3 p1 (Ne.symm hk) hO (blkR_of_O p2)).2.1
          rw [ro_noO this] at p2; cases p2
      subst hk
      rw [h3] at p1; cases p1
      exact ⟨y, Nat.le_refl _, k, x, old k x h1 h2 h3, by rw [hBo k x h3]; exact hO, p3, by rw [hBo k x h3]; exact p4⟩
  · intro i x b h hb
    rcases hlook i x h with ⟨rfl, rfl⟩ | ⟨rfl, rfl⟩ | ⟨h1, h2, h3⟩
    · rw [upd_self] at hb ⊢
      exact .inl ⟨v, ev, hv, hp.r b hb, fun hr => ⟨(hp.ro hr).1, (hp.ro hr).2.2.1⟩⟩
    · rw [hBv] at hb ⊢
      exact .inl ⟨i, ev, hv, hp.r2 b hb, fun hr => ⟨(hp.ro hr).2.1, (hp.ro hr).2.2.2⟩⟩
    · rw [hBo i x h3] at hb ⊢
      exact .inl (Seen.self h3 hb)
  · intro j hj
    rw [hvi j hj, newl]; rfl

end Go.Proofs.YtkcdbbflelgbeaaDoor.Sy
