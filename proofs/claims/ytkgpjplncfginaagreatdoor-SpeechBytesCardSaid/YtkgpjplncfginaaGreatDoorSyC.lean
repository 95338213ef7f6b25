/- Rows that grow. -/
import Derived.Test.YtkgpjplncfginaaGreatDoorSyB
import Derived.Laws.MakeOwn
namespace Go.Proofs.YtkgpjplncfginaaGreatDoor.Sy
open Go
set_option linter.unusedVariables false
set_option linter.unusedSimpArgs false

/-! ### What is appended -/

structure News (P : Program) (w : World) (size : Nat) (q : Value) (n : Nat) (news : List Value) : Prop where
  len : ∀ w', (Builtin.lenOf q).run P w' = .ok n w'
  cells : ∀ w', w'.heap = w.heap → (Builtin.firstCells size n q).run P w' = .ok news.toArray w'
  length : news.length = n * size
  one : ∀ u ∈ news, u.oneCell' = true

theorem News.slice {P : Program} {w : World} {z : Frz} {t : Ty} {xs : List t.den} {cs : List Value} {a : Option Addr} {c : Nat} (hd : DRs z t xs cs) (h0 : a = none → cs = []) (h : ∀ ad, a = some ad → ∀ j u, cs[j]? = some u → w.cell? (ad.add j) = some u) :
    News P w t.size (.slice a xs.length c) xs.length cs := by
  refine ⟨fun w' => rfl, fun w' he => ?_, DRs.length hd, DRs.one hd⟩
  cases a with
  | none =>
    rw [h0 rfl]
    simp [Builtin.firstCells]
  | some ad =>
    exact run_firstCells_some w' _ _ ad _ _ _ (DRs.length hd) (fun j u hj => by
      rw [← h ad rfl j u hj]
      unfold World.cell?; rw [he])

theorem News.ints {P : Program} {w : World} {k : IntKind} {L : List Int} {ad : Addr} {n c : Nat} (hn : L.length = n) (h : ∀ j y, L[j]? = some y → w.cell? (ad.add j) = some (.int k y)) :
    News P w (Ty.int k).size (.slice (some ad) n c) L.length (L.map (Value.int k)) := by
  subst hn
  refine ⟨fun w' => rfl, fun w' he => ?_, by simp [Ty.size], fun u hu => ?_⟩
  · refine run_firstCells_some w' _ _ ad _ _ _ (by simp [Ty.size]) (fun j u hj => ?_)
    rw [List.getElem?_map] at hj
    cases hq : L[j]? with
    | none => rw [hq] at hj; cases hj
    | some y =>
      rw [hq] at hj; cases hj
      rw [← h j y hq]
      unfold World.cell?; rw [he]
  · obtain ⟨z, _, rfl⟩ := List.mem_map.1 hu
    rfl

theorem bst_cells {s : List Int} (h : byteL s) : (bst s).data.map (fun b => Value.int .u8 b.toNat) = (s.map (Value.int .u8)).toArray := by
  unfold bst
  simp only [List.map_toArray, List.map_map]
  congr 1
  apply List.map_congr_left
  intro x hx
  have := h x hx
  simp only [Function.comp, UInt8.toNat_ofNat']
  congr 1
  omega

section
variable {R : Type}

theorem newsK_ok {P : Program} {B : Bz} {H : Heap} {w : World} (hh : HeapR B H w) {e u : TypeId} {ty : Ty} {x : AV} {q : Value} {K : List ty.den → Option R} {r : R} (hx : VR B x q) (h : newsK P H e u ty x K = some r) :
    ∃ ys cs, K ys = some r ∧ DRs B.z ty ys cs ∧ News P w ty.size q ys.length cs := by
  unfold newsK at h
  split at h
  · rw [VR_nils hx]
    exact ⟨[], [], h, rfl, News.slice (z := B.z) (t := ty) (xs := []) rfl (fun _ => rfl) (fun ad ha => by cases ha)⟩
  · rename_i v
    split at h
    · rename_i m e' ty' xs hl
      replace h := bif_eq_some h
      rcases h with ⟨_, h⟩ | ⟨_, h⟩
      · split at h
        · rename_i ht
          subst ht
          obtain ⟨a, cap, cs, h1, h2, h3, h4⟩ := rows_cells hh.fz (hh.ent _ _ hl)
          rw [VR_vec hx, h1]
          exact ⟨xs, cs, h, h2, News.slice h2 h3 h4⟩
        · cases h
      · cases h
    · cases h
  · rename_i s
    split at h
    · split at h
      · split at h
        · obtain ⟨hs, rfl⟩ := VR_str' hx
          have hn : News P w 1 (.string (bst s)) s.length (s.map (Value.int .u8)) := by
            refine ⟨fun w' => ?_, fun w' he => ?_, by simp, fun y hy => ?_⟩
            · simp only [Builtin.lenOf, size_bst, Sem.run_pure]
            · have e1 : (bst s).extract 0 s.length = bst s := by
                rw [← size_bst s]; simp
              simp only [Builtin.firstCells]
              rw [e1, bst_cells hs, Sem.run_pure]
            · obtain ⟨z, _, rfl⟩ := List.mem_map.1 hy
              rfl
          exact ⟨s, s.map (Value.int .u8), h, (DRs_ints (k := .u8)).2 rfl, hn⟩
        · cases h
      · cases h
    · cases h
  · rename_i p n len
    split at h
    · rename_i hp
      split at h
      · rename_i v hl
        split at h
        · rename_i k m xs hn
          replace h := bif_eq_some h
          rcases h with ⟨hle, h⟩ | ⟨_, h⟩
          · split at h
            · rename_i k' K'
              replace h := bif_eq_some h
              rcases h with ⟨hk, h⟩ | ⟨_, h⟩
              · have hk := of_decide_eq_true hk
                subst hk
                obtain ⟨b, cs, ty, h1, _, _, _, h2, h3⟩ := asl_cells hh hx hp hl hn (Nat.le_of_ble_eq_true hle)
                refine ⟨List.take n xs, (List.take n xs).map (Value.int k'), h, (DRs_ints (k := k')).2 rfl, ?_⟩
                rw [h1]
                exact News.ints (k := k') h2 h3
              · cases h
            · cases h
          · cases h
        · cases h
      · cases h
    · cases h
  · cases h

end

end Go.Proofs.YtkgpjplncfginaaGreatDoor.Sy
