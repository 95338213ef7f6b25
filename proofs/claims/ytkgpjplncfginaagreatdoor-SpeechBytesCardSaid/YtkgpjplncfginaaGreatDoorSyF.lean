/- make, range, next, copy. -/
import Derived.Test.YtkgpjplncfginaaGreatDoorSyE
import Derived.Laws.RangeString
import Derived.Laws.CopyRow
namespace Go.Proofs.YtkgpjplncfginaaGreatDoor.Sy
open Go
set_option linter.unusedVariables false
set_option linter.unusedSimpArgs false

section
variable {R : Type}

theorem rangeK_ok {P : Program} {B : Bz} {σ : St} {w : World} {d : Option Nat} {t : TypeId} {x : AV} {u : Value} {K : Eff → Option R} {r : R} (hh : HeapR B σ.heap w) (hx : VR B x u) (h : rangeK P σ.heap d t x K = some r) :
    ∃ ef, K ef = some r ∧ ∃ B' y w', Post B σ w ef B' y w' ∧ (Instr.range t u).run P w = .ok y w' := by
  unfold rangeK at h
  split at h
  · rename_i d s ht
    split at h
    · rename_i hn
      obtain ⟨hs, rfl⟩ := VR_str' hx
      refine ⟨_, h, upd B (1000 + d) (.pointer (some ⟨w.heap.size, 0, none⟩)), .pointer (some ⟨w.heap.size, 0, none⟩), w.iter (bst s) 0, ?_, run_range_string w t _ ht⟩
      refine Post.add hh hn (Nat.le_add_right _ _) rfl rfl rfl (by simp [World.iter]) (fun b hb => heap_alloc_old w _ b hb) (fun b hb => ?_) (fun j hj => by cases hj) (EntR_at rfl ⟨w.heap.size, rfl, World.iter_heap w _ _⟩) ?_ (fun j hj => by simpa [AV.ids] using hj)
      · have hb : w.heap.size = b := hb
        omega
      · rw [VR_atom rfl rfl]
        exact ⟨w.heap.size, 0, by rw [upd_self]; rfl, by simp [dyOff]⟩
    · cases h
  · cases h

theorem nextK_ok {P : Program} {B : Bz} {σ : St} {w : World} {x : AV} {u : Value} {ty : TypeId} {K : Eff → Option R} {r : R} (hh : HeapR B σ.heap w) (hx : VR B x u) (h : nextK σ.heap x K = some r) :
    ∃ ef, K ef = some r ∧ ∃ B' y w', Post B σ w ef B' y w' ∧ (Instr.next u true ty).run P w = .ok y w' := by
  unfold nextK at h
  split at h
  · rename_i i
    split at h
    · rename_i s pos hl
      obtain ⟨b, hB, hg⟩ := hh.ent i _ hl
      obtain ⟨b', o, hb, rfl⟩ := VR_ptr hx
      simp only at hb
      rw [hB] at hb
      simp only [baseOf, Option.some.injEq, Addr.mk.injEq] at hb
      obtain ⟨rfl, rfl, _⟩ := hb
      have hlt : b < w.heap.size := (Array.getElem?_eq_some_iff.1 hg).1
      replace h := bif_eq_some h
      rcases h with ⟨hp, h⟩ | ⟨hp, h⟩
      · have hp := of_decide_eq_true hp
        refine ⟨_, h, B, .tuple #[.bool true, goInt pos, .int .i32 ((Utf8.decode s pos).1 : Int)], { w with heap := w.heap.setIfInBounds b (.stringIter s (pos + (Utf8.decode s pos).2)) }, ?_, ?_⟩
        · refine Post.turn (b := b) hh hl rfl (by rw [hB]; rfl) rfl rfl rfl (by simp) (fun b' hb' => by simp [Array.getElem?_setIfInBounds_ne (Ne.symm hb')]) ⟨b, hB, by simp [hlt]⟩ (fun b' hb' => ?_) (fun j hj => by cases hj) ?_ rfl
          · rw [hB] at hb'; exact Eq.symm hb'
          · unfold VR
            have e0 : ∀ a b, (AV.tcons a b).isTup = true := fun _ _ => rfl
            rw [if_pos (e0 _ _)]
            exact ⟨_, ⟨_, _, rfl, rfl, _, _, rfl, rfl, _, _, rfl, rfl, rfl⟩, rfl⟩
        · simp only [Instr.next, getObj, setObj, Sem.run_bind, Sem.run, Nat.zero_add, dyOff, hg, Result.andThen, hp, if_true]
          rfl
      · have hp := of_decide_eq_false hp
        refine ⟨_, h, B, .tuple #[.bool false], w, Post.pure hh ?_ (fun j hj => by cases hj), ?_⟩
        · unfold VR
          have e0 : ∀ a b, (AV.tcons a b).isTup = true := fun _ _ => rfl
          rw [if_pos (e0 _ _)]
          exact ⟨_, ⟨_, _, rfl, rfl, rfl⟩, rfl⟩
        · simp [Instr.next, getObj, Sem.run, hg, hp, dyOff]
    · cases h
  · cases h

theorem made_cells {z : Array Value} {cs : List Value} (hz : z.toList = cs) : ∀ (n : Nat), 0 < cs.length → (madeCells z (n * cs.length)).toList = (List.replicate n ()).flatMap fun _ => cs := by
  intro n h0
  have hzl : z.size = cs.length := by rw [← hz]; simp
  induction n with
  | zero => simp [madeCells]
  | succ n ih =>
    have e1 : (madeCells z ((n + 1) * cs.length)).toList = (madeCells z (n * cs.length)).toList ++ cs := by
      unfold madeCells at ih ⊢
      simp only [Array.toList_map, Array.toList_range] at ih ⊢
      rw [Nat.succ_mul, List.range_add, List.map_append]
      congr 1
      apply List.ext_getElem
      · simp
      · intro i h1 h2
        simp only [List.getElem_map, List.getElem_range]
        have hm : (n * cs.length + i) % z.size = i := by rw [hzl, Nat.mul_comm, Nat.mul_add_mod, Nat.mod_eq_of_lt h2]
        rw [hm]
        have hi : i < z.size := by omega
        rw [getElem!_pos z i hi]
        subst hz
        simp
    rw [e1, ih, List.replicate_succ']
    simp

theorem makeSliceK_ok {P : Program} {B : Bz} {σ : St} {w : World} {d : Option Nat} {t : TypeId} {l c : AV} {lv cv : Value} {K : Eff → Option R} {r : R} (hh : HeapR B σ.heap w) (hl : VR B l lv) (hc : VR B c cv) (h : makeSliceK P σ.heap d t l c K = some r) :
    ∃ ef, K ef = some r ∧ ∃ B' y w', Post B σ w ef B' y w' ∧ (Instr.makeSlice t lv cv).run P w = .ok y w' := by
  unfold makeSliceK at h
  split at h
  · rename_i d e ht
    split at h
    · rename_i ty hty
      split at h
      · rename_i inf hi
        split at h
        · rename_i z hz
          split at h
          · rename_i za hza
            split at h
            · rename_i x0 hx0
              split at h
              · rename_i n m
                replace h := bif_eq_some h
                rcases h with ⟨hc0, h⟩ | ⟨_, h⟩
                · simp only [Bool.and_eq_true] at hc0
                  obtain ⟨⟨⟨c1, c2⟩, c3⟩, c4⟩ := hc0
                  have c1 := Nat.eq_of_beq_eq_true c1; have c2 := Nat.eq_of_beq_eq_true c2; have c3 := blt_lt' c3; have c4 := blt_lt' c4
                  replace h := bif_eq_some h
                  rcases h with ⟨hnm, h⟩ | ⟨_, h⟩
                  · have hnm := of_decide_eq_true hnm
                    subst hnm
                    replace h := bif_eq_some h
                    rcases h with ⟨h0, h⟩ | ⟨_, h⟩
                    · have h0 := of_decide_eq_true h0
                      replace h := bif_eq_some h
                      rcases h with ⟨hf, h⟩ | ⟨_, h⟩
                      · have hf := fits_le hf
                        split at h
                        · rename_i hn
                          obtain ⟨i', z', hi', hz', _, _, hcr⟩ := zeroA_ok hza
                          rw [hi] at hi'; cases hi'
                          rw [hz] at hz'; cases hz'
                          have hcr := CR_norm ty za _ (hcr B)
                          rw [dec_enc ty _ x0 hx0] at hcr
                          have hd0 := (CR_enc ty x0 _).1 hcr
                          have hlx := hd0.length
                          have hnle : n.toNat ≤ 140737488355328 := Nat.le_trans (Nat.le_mul_of_pos_right _ c4) hf
                          have en : ((n.toNat : Nat) : Int) = n := Int.toNat_of_nonneg h0
                          have run := run_make (P := P) w t e inf z ht hi hz .i64 .i64 n n h0 (Int.le_refl _) (by
                            have h1 : ((n.toNat * inf.bytes : Nat) : Int) ≤ 140737488355328 := by omega
                            rw [Int.natCast_mul, en] at h1
                            rw [Int.mul_comm]; omega) (by omega)
                          rw [VR_int hl, VR_int hc]
                          refine ⟨_, h, upd B (1000 + d) (.slice (some ⟨w.heap.size, 0, none⟩) n.toNat n.toNat), _, _, ?_, run⟩
                          have hrep : ∀ q : Nat, DRs B.z ty (List.replicate q x0) ((List.replicate q ()).flatMap fun _ => z.cells.toList) := fun q => by
                            induction q with
                            | zero => rfl
                            | succ q ih => exact ⟨z.cells.toList, _, by rw [List.replicate_succ, List.flatMap_cons], hd0, ih⟩
                          refine Post.add hh hn (Nat.le_add_right _ _) rfl rfl rfl (by simp) (fun b hb => heap_alloc_old w _ b hb) (fun b hb => ?_) (fun j hj => by cases hj) (EntR_at rfl ⟨_, hrep n.toNat, by rw [DRs.length (hrep n.toNat)], .inr ⟨w.heap.size, 0, n.toNat, _, by rw [List.length_replicate], heap_alloc_new w _, by rw [List.length_replicate]; exact Nat.le_refl _, by simp only [maxLen]; omega, ?_, ?_⟩⟩) (VR_mk_vec ⟨_, _, _, rfl⟩) (fun j hj => by simpa [AV.ids] using hj)
                          · have hb : w.heap.size = b := hb
                            omega
                          · rw [size_madeCells, c1]; omega
                          · have hm := made_cells (z := z.cells) (cs := z.cells.toList) rfl n.toNat (by omega)
                            rw [hlx] at hm
                            rw [List.length_replicate, List.drop_zero, c1, hm]
                            refine List.take_of_length_le ?_
                            have := DRs.length (hrep n.toNat)
                            rw [List.length_replicate] at this
                            rw [this]
                            exact Nat.le_refl _
                        · cases h
                      · cases h
                    · cases h
                  · cases h
                · cases h
              · cases h
            · cases h
          · cases h
        · cases h
      · cases h
    · cases h
  · cases h

/-- What is copied over the beginning of an array. -/
theorem copy_splice {cs : List Value} {o m n : Nat} {xs s : List Int} {k : IntKind} (hl : xs.length = m) (hle : o + m ≤ cs.length) (hx : ∀ j, j < m → cs[o + j]? = some (.int k (xs.getD j 0))) (hn : n ≤ m) :
    splice cs o ((s.take n ++ xs.drop (min s.length n)).map (Value.int k)) = splice cs o ((s.take n).map (Value.int k)) := by
  have l1 : (s.take n ++ xs.drop (min s.length n)).length = m := by rw [List.length_append, List.length_take, List.length_drop, hl]; omega
  have l2 : (s.take n).length = min s.length n := by rw [List.length_take]; omega
  apply List.ext_getElem?
  intro j
  rw [getElem?_splice (by rw [List.length_map, l1]; exact hle), getElem?_splice (by rw [List.length_map, l2]; omega)]
  rw [List.length_map, List.length_map, l1, l2]
  by_cases h1 : o ≤ j ∧ j < o + min s.length n
  · rw [if_pos (by omega), if_pos h1, List.getElem?_map, List.getElem?_map, List.getElem?_append_left (by omega)]
  · rw [if_neg h1]
    by_cases h2 : o ≤ j ∧ j < o + m
    · rw [if_pos h2, List.getElem?_map, List.getElem?_append_right (by omega), l2, List.getElem?_drop]
      have e1 : min s.length n + (j - o - min s.length n) = j - o := by omega
      rw [e1]
      have := hx (j - o) (by omega)
      have e2 : o + (j - o) = j := by omega
      rw [e2] at this
      rw [this]
      have h3 : j - o < xs.length := by omega
      simp [List.getD, h3]
    · rw [if_neg h2]

theorem copyK_ok {P : Program} {B : Bz} {σ : St} {w : World} {t tt : TypeId} {ats : Array TypeId} {x y : AV} {xv yv : Value} {K : Eff → Option R} {r : R} (hat : ats[0]? = some t) (hh : HeapR B σ.heap w) (hx : VR B x xv) (hy : VR B y yv) (h : copyK P σ.heap t x y K = some r) :
    ∃ ef, K ef = some r ∧ ∃ B' q w', Post B σ w ef B' q w' ∧ (Builtin.copy_ ats tt #[xv, yv]).run P w = .ok q w' := by
  unfold copyK at h
  split at h
  · rename_i p n len s
    split at h
    · rename_i e ht
      split at h
      · rename_i inf hi
        replace h := bif_eq_some h
        rcases h with ⟨hz, h⟩ | ⟨_, h⟩
        · have hz := Nat.eq_of_beq_eq_true hz
          split at h
          · rename_i hp
            split at h
            · rename_i v hl
              split at h
              · rename_i m xs hn
                replace h := bif_eq_some h
                rcases h with ⟨hle, h⟩ | ⟨_, h⟩
                · have hle := Nat.le_of_ble_eq_true hle
                  split at h
                  · rename_i v' hv'
                    obtain ⟨hs, rfl⟩ := VR_str' hy
                    obtain ⟨b, cs, ty, h1, h2, h3, h4, _, _⟩ := asl_cells hh hx hp hl hn hle
                    obtain ⟨a1, a2, a3⟩ := navA_ok h4 hn
                    have l1 : (s.take n ++ xs.drop (min s.length n)).length = m := by rw [List.length_append, List.length_take, List.length_drop, a1]; omega
                    have hput := setNav_ok (B := B) (u := .arr .u8 m (s.take n ++ xs.drop (min s.length n))) ⟨l1, rfl⟩ h4 hv'
                    have hcr := hput.cr
                    rw [copy_splice a1 a2 a3 hle] at hcr
                    have hlen : (s.take n).length = min s.length n := by rw [List.length_take]; omega
                    have hfit : p.st + (s.take n).length ≤ cs.size := by simp at a2; omega
                    have hst : (storeCells ⟨b, p.st, none⟩ ((s.take n).map (Value.int .u8))).run P w = .ok () (w.setRow b (splice cs.toList p.st ((s.take n).map (Value.int .u8))).toArray) := by
                      have := run_storeCells_at P b p.st ty ((s.take n).map (Value.int .u8)) 0 cs w h3 (by simpa using hfit) (fun q hq => by obtain ⟨z, _, rfl⟩ := List.mem_map.1 hq; rfl)
                      simpa [splice] using this
                    have hfc : (Builtin.firstCells 1 (Nat.min s.length n) (.string (bst s))).run P w = .ok ((s.take n).map (Value.int .u8)).toArray w := by
                      have hb : byteL (s.take n) := fun z hz => hs z (List.mem_of_mem_take hz)
                      have e1 : (bst s).extract 0 (Nat.min s.length n) = bst (s.take n) := by
                        rw [bst_part, List.drop_zero]
                        congr 1
                        have : Nat.min s.length n = min n s.length := Nat.min_comm _ _
                        rw [this, List.take_eq_take_min]
                        simp
                      simp only [Builtin.firstCells]
                      rw [e1, bst_cells hb, Sem.run_pure]
                    rw [h1]
                    refine ⟨_, h, B, goInt (Nat.min s.length n), w.setRow b (splice cs.toList p.st ((s.take n).map (Value.int .u8))).toArray, ?_, ?_⟩
                    rotate_left
                    · have hfc' : (Builtin.firstCells inf.size (Nat.min s.length n) (.string (bst s))).run P w = .ok ((s.take n).map (Value.int .u8)).toArray w := by rw [hz]; exact hfc
                      generalize (s.take n).map (Value.int .u8) = L at hst hfc' ⊢
                      simp [Builtin.copy_, hat, run_underlying ht, sizeOf, typeInfo, hi, Builtin.lenOf, size_bst, hfc', hst]
                    · refine Post.turn (b := b) hh hl rfl (by rw [h2]; rfl) rfl rfl rfl (by simp [World.setRow]) (fun b' hb' => heap_setRow_ne _ _ _ hb') ⟨b, _, ty, h2, setRow_heap w b cs _ ty _ h3, ?_⟩ (fun b' hb' => ?_) (fun j hj => ?_) (VR_mk_int _ _ _) rfl
                      · exact hcr
                      · rw [h2] at hb'; exact Eq.symm hb'
                      · rcases hput.ids j hj with h' | h'
                        · exact hh.closed _ _ hl j h'
                        · cases h'
                  · cases h
                · cases h
              · cases h
            · cases h
          · cases h
        · cases h
      · cases h
    · cases h
  · cases h

end

end Go.Proofs.YtkgpjplncfginaaGreatDoor.Sy
