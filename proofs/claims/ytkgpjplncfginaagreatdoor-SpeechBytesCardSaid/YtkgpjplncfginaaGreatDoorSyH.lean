/- An operation looks at little: at the entries that it says it reads or writes. -/
import Derived.Test.YtkgpjplncfginaaGreatDoorSy11
namespace Go.Proofs.YtkgpjplncfginaaGreatDoor.Sy
open Go
set_option linter.unusedVariables false
set_option linter.unusedSimpArgs false

theorem bytesK_congr {R : Type} {P : Program} {H H' : Heap} {e : TypeId} {x : AV} {K : List Int → Option R} (h : ∀ i ∈ x.ids, look i H' = look i H) : bytesK P H' e x K = bytesK P H e x K := by
  unfold bytesK
  split
  · split
    · rfl
    · rw [h _ (by simp [AV.ids])]
    · split
      · rw [h _ (by simp [AV.ids])]
      · rfl
    · rfl
  · rfl

theorem newsK_congr {R : Type} {P : Program} {H H' : Heap} {e u : TypeId} {ty : Ty} {x : AV} {K : List ty.den → Option R} (h : ∀ i ∈ x.ids, look i H' = look i H) : newsK P H' e u ty x K = newsK P H e u ty x K := by
  unfold newsK
  split
  · rfl
  · rw [h _ (by simp [AV.ids])]
  · rfl
  · split
    · rw [h _ (by simp [AV.ids])]
    · rfl
  · rfl

theorem convK_local {P : Program} {H H' : Heap} {s d : TypeId} {x : AV} {ef : Eff} (h : convK P H s d x some = some ef) (hh : ∀ i ∈ ef.rd ++ keys ef.wr, look i H' = look i H) : convK P H' s d x some = some ef := by
  unfold convK at h ⊢
  split at h
  · exact h
  · split at h
    · split at h
      · split at h
        · replace h := bif_eq_some h
          rcases h with ⟨hc, h⟩ | ⟨_, h⟩
          · have hrd : ef.rd = x.ids := by
              have h2 := h
              rw [bytesK_nat] at h2
              obtain ⟨_, _, h2⟩ := Option.bind_eq_some_iff.1 h2
              cases h2; rfl
            rw [hc]
            simp only [cond_true]
            rw [bytesK_congr (H := H) (fun i hi => hh i (by rw [hrd]; simp [hi]))]
            exact h
          · cases h
        · cases h
      · cases h
    · cases h

theorem bounds_some {R : Type} {n : Nat} {lo hi : Option Int} {K : Option R} {r : R} (h : boundsK n lo hi K = some r) : K = some r := (bounds_ok h).1

theorem sliceK_local {P : Program} {H H' : Heap} {d : Option Nat} {t : TypeId} {x : AV} {lo hi : Option AV} {ef : Eff} (h : sliceK P H d t x lo hi some = some ef) (hh : ∀ i ∈ ef.rd ++ keys ef.wr, look i H' = look i H) : sliceK P H' d t x lo hi some = some ef := by
  unfold sliceK at h ⊢
  split at h
  · split at h
    · exact h
    · split at h
      · rename_i v d
        split at h
        · rename_i m e' ty xs hl
          split at h
          · replace h := bif_eq_some h
            rcases h with ⟨hc, h⟩ | ⟨_, h⟩
            · split at h
              · rename_i hn
                have key : look v H' = look v H ∧ look (1000 + d) H' = look (1000 + d) H := by
                  have h2 := bounds_some h
                  split at h2
                  · cases h2; exact ⟨hh v (by simp), hh _ (by simp [keys])⟩
                  · split at h2
                    · cases h2; exact ⟨hh v (by simp), hh _ (by simp [keys])⟩
                    · cases h2; exact ⟨hh v (by simp), hh _ (by simp [keys])⟩
                rw [key.1, hl, key.2, hn]
                simp only [hc, cond_true]
                exact h
              · cases h
            · cases h
          · cases h
        · cases h
      · cases h
    · exact h
    · cases h
  · cases h

theorem appendK_local {P : Program} {H H' : Heap} {d : Option Nat} {t u : TypeId} {s x : AV} {ef : Eff} (h : appendK P H d t u s x some = some ef) (hh : ∀ i ∈ ef.rd ++ keys ef.wr, look i H' = look i H) : appendK P H' d t u s x some = some ef := by
  unfold appendK at h ⊢
  split at h
  · rename_i d e ht
    split at h
    · split at h
      · split at h
        · replace h := bif_eq_some h
          rcases h with ⟨hc, h⟩ | ⟨_, h⟩
          · have key : look (1000 + d) H' = look (1000 + d) H ∧ (∀ i ∈ x.ids, look i H' = look i H) ∧ ∀ v, s = .vec v → look v H' = look v H := by
              have h2 := h
              rw [newsK_nat] at h2
              obtain ⟨ys, _, h2⟩ := Option.bind_eq_some_iff.1 h2
              split at h2
              · split at h2
                · replace h2 := bif_eq_some h2
                  rcases h2 with ⟨_, h2⟩ | ⟨_, h2⟩
                  · cases h2
                    exact ⟨hh _ (by simp [keys]), fun i hi => hh i (by simp [hi]), fun v hv => by cases hv⟩
                  · cases h2
                · rename_i v
                  split at h2
                  · replace h2 := bif_eq_some h2
                    rcases h2 with ⟨_, h2⟩ | ⟨_, h2⟩
                    · split at h2
                      · replace h2 := bif_eq_some h2
                        rcases h2 with ⟨_, h2⟩ | ⟨_, h2⟩
                        · split at h2
                          · cases h2
                          · cases h2
                            exact ⟨hh _ (by simp [keys]), fun i hi => hh i (by simp [hi]), fun v hv => by cases hv; exact hh _ (by simp [keys])⟩
                          · cases h2
                            exact ⟨hh _ (by simp [keys]), fun i hi => hh i (by simp [hi]), fun v hv => by cases hv; exact hh _ (by simp [keys])⟩
                        · cases h2
                      · cases h2
                    · cases h2
                  · cases h2
                · cases h2
              · cases h2
            obtain ⟨k1, k2, k3⟩ := key
            rw [hc]
            simp only [cond_true]
            rw [newsK_congr (H := H) k2, ← h]
            congr 1
            funext ys
            rw [k1]
            cases s with
            | vec v => simp only [k3 v rfl]
            | _ => rfl
          · cases h
        · cases h
      · cases h
    · cases h
  · cases h

theorem copyK_local {P : Program} {H H' : Heap} {t : TypeId} {x y : AV} {ef : Eff} (h : copyK P H t x y some = some ef) (hh : ∀ i ∈ ef.rd ++ keys ef.wr, look i H' = look i H) : copyK P H' t x y some = some ef := by
  unfold copyK at h ⊢
  split at h
  · rename_i p n len s
    split at h
    · split at h
      · replace h := bif_eq_some h
        rcases h with ⟨hc, h⟩ | ⟨_, h⟩
        · split at h
          · split at h
            · rename_i v hl
              split at h
              · replace h := bif_eq_some h
                rcases h with ⟨hc2, h⟩ | ⟨_, h⟩
                · split at h
                  · rename_i v' hv'
                    cases h
                    rw [hh p.id (by simp [keys]), hl]
                    simp [*]
                  · cases h
                · cases h
              · cases h
            · cases h
          · cases h
        · cases h
      · cases h
    · cases h
  · cases h

theorem makeSliceK_local {P : Program} {H H' : Heap} {d : Option Nat} {t : TypeId} {x y : AV} {ef : Eff} (h : makeSliceK P H d t x y some = some ef) (hh : ∀ i ∈ ef.rd ++ keys ef.wr, look i H' = look i H) : makeSliceK P H' d t x y some = some ef := by
  unfold makeSliceK at h ⊢
  split at h
  · rename_i d e ht
    have key : look (1000 + d) H' = look (1000 + d) H := by
      (repeat' split at h) <;> first | (cases h; done) | skip
      all_goals
        rcases bif_eq_some h with ⟨_, h⟩ | ⟨_, h⟩ <;> first | (cases h; done) | skip
        rcases bif_eq_some h with ⟨_, h⟩ | ⟨_, h⟩ <;> first | (cases h; done) | skip
        rcases bif_eq_some h with ⟨_, h⟩ | ⟨_, h⟩ <;> first | (cases h; done) | skip
        rcases bif_eq_some h with ⟨_, h⟩ | ⟨_, h⟩ <;> first | (cases h; done) | skip
      cases h; exact hh _ (by simp [keys])
    simp only [key]
    exact h
  · cases h

theorem rangeK_local {P : Program} {H H' : Heap} {d : Option Nat} {t : TypeId} {x : AV} {ef : Eff} (h : rangeK P H d t x some = some ef) (hh : ∀ i ∈ ef.rd ++ keys ef.wr, look i H' = look i H) : rangeK P H' d t x some = some ef := by
  unfold rangeK at h ⊢
  split at h
  · split at h
    · rename_i hn
      cases h
      rw [hh _ (by simp [keys]), hn]
    · cases h
  · cases h

theorem nextK_local {H H' : Heap} {x : AV} {ef : Eff} (h : nextK H x some = some ef) (hh : ∀ i ∈ ef.rd ++ keys ef.wr, look i H' = look i H) : nextK H' x some = some ef := by
  unfold nextK at h ⊢
  split at h
  · rename_i i
    split at h
    · rename_i s pos hl
      have hrd : ef.rd = [i] := by
        have h2 := bif_eq_some h
        rcases h2 with ⟨_, h2⟩ | ⟨_, h2⟩ <;> cases h2 <;> rfl
      rw [hh i (by rw [hrd]; simp), hl]
      exact h
    · cases h
  · cases h

theorem rowK_local {H H' : Heap} {d : Option Nat} {u : AV} {rd : List Nat} {ef : Eff} (h : rowK H d u rd some = some ef) (hh : ∀ i ∈ ef.rd ++ keys ef.wr, look i H' = look i H) : rowK H' d u rd some = some ef := by
  unfold rowK at h ⊢
  split at h
  · split at h
    · split at h
      · rename_i hn
        cases h
        rw [hh _ (by simp [keys]), hn]
      · cases h
    · cases h
  · exact h

theorem rowK_rd {H : Heap} {d : Option Nat} {u : AV} {rd : List Nat} {ef : Eff} (h : rowK H d u rd some = some ef) : ef.rd = rd := by
  unfold rowK at h
  split at h
  · split at h
    · split at h
      · cases h; rfl
      · cases h
    · cases h
  · cases h; rfl

theorem sliceG_local {P : Program} {E : Env} {H H' : Heap} {d : Option Nat} {t : TypeId} {gg : Nat} {lo hi : Option AV} {ef : Eff} (h : sliceG P E H d t gg lo hi some = some ef) (hh : ∀ i ∈ ef.rd ++ keys ef.wr, look i H' = look i H) : sliceG P E H' d t gg lo hi some = some ef := by
  unfold sliceG at h ⊢
  split at h
  · rename_i d n e ht
    split at h
    · split at h
      · rename_i i hgi
        split at h
        · rename_i g' ty x hl
          split at h
          · rename_i hn
            split at h
            · rename_i lo' hi' e1 e2
              replace h := bif_eq_some h
              rcases h with ⟨hc, h⟩ | ⟨_, h⟩
              · have h2 := bounds_some h
                cases h2
                rw [hh i (by simp), hl, hh (1000 + d) (by simp [keys]), hn]
                simp only [hc, cond_true]
                exact h
              · cases h
            · cases h
          · cases h
        · cases h
      · cases h
    · cases h
  · cases h

end Go.Proofs.YtkgpjplncfginaaGreatDoor.Sy
