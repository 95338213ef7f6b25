/- append. -/
import Derived.Test.YtkcdbbflelgbeaaDoorSyC
namespace Go.Proofs.YtkcdbbflelgbeaaDoor.Sy
open Go
set_option linter.unusedVariables false
set_option linter.unusedSimpArgs false

section
variable {P : Program} {w : World}

theorem slT_ok {t u : TypeId} (h : slT P t u = true) : P.underlying u = some .string ∨ ∃ e, P.underlying u = some (.slice e) := by
  unfold slT at h
  split at h
  · rename_i h'; exact .inl h'
  · rename_i e h'; exact .inr ⟨e, h'⟩
  · cases h

theorem app_room {t u ty e : TypeId} {inf : TypeInfo} (ht : P.underlying t = some (.slice e)) (hu : P.underlying u = some .string ∨ ∃ e, P.underlying u = some (.slice e)) (hi : P.info? e = some inf) {q : Value} {n : Nat} {news : List Value} (hn : News P w inf.size q n news)
    {g o sLen sCap : Nat} {cur : Array Value} (hg : w.heap[g]? = some (.cells cur e (0, 0))) (hroom : sLen + n ≤ sCap) (hfit : o + sLen * inf.size + news.length ≤ cur.size) :
    (Builtin.append_ #[t, u] ty #[.slice (some ⟨g, o, none⟩) sLen sCap, q]).run P w =
      .ok (.slice (some ⟨g, o, none⟩) (sLen + n) sCap) (w.setRow g (cur.toList.take (o + sLen * inf.size) ++ news ++ cur.toList.drop (o + sLen * inf.size + news.length)).toArray) := by
  have hf := hn.cells w rfl
  have hl := hn.len w
  have hst := run_storeCells_at P g (o + sLen * inf.size) e news 0 cur w hg (by simpa using hfit) hn.one
  simp only [Nat.add_zero] at hst
  rcases hu with hu | ⟨e', hu⟩ <;> simp [Builtin.append_, run_underlying ht, run_underlying hu, sizeOf, typeInfo, hi, hl, hroom, hf, Addr.add_mid, hst]

theorem app_none {t u ty e : TypeId} {inf : TypeInfo} (ht : P.underlying t = some (.slice e)) (hu : P.underlying u = some .string ∨ ∃ e, P.underlying u = some (.slice e)) (hi : P.info? e = some inf) {q : Value} {news : List Value} (hn : News P w inf.size q 0 news) :
    (Builtin.append_ #[t, u] ty #[.slice none 0 0, q]).run P w = .ok (.slice none 0 0) w := by
  have hf := hn.cells w rfl
  have hl := hn.len w
  rcases hu with hu | ⟨e', hu⟩ <;> simp [Builtin.append_, run_underlying ht, run_underlying hu, sizeOf, typeInfo, hi, hl, hf]

theorem app_grow {t u ty e : TypeId} {inf : TypeInfo} {z : Value} (ht : P.underlying t = some (.slice e)) (hu : P.underlying u = some .string ∨ ∃ e, P.underlying u = some (.slice e)) (hi : P.info? e = some inf) (hz : inf.zero = some z)
    {q : Value} {n : Nat} {news : List Value} (hn : News P w inf.size q n news) {a : Option Addr} {sLen sCap : Nat} {olds : List Value} (hlo : olds.length = sLen * inf.size) (ha : a = none → olds = []) (holds : ∀ ad, a = some ad → ∀ j v, olds[j]? = some v → w.cell? (ad.add j) = some v)
    (hg : sCap < sLen + n) (h63 : ((sLen + n : Nat) : Int) ≤ 9223372036854775807) (hfit : (sLen + n) * inf.bytes ≤ 140737488355328) :
    (Builtin.append_ #[t, u] ty #[.slice a sLen sCap, q]).run P w =
      .ok (.slice (some ⟨w.heap.size, 0, none⟩) (sLen + n) (grownCap w (sLen + n) sCap e))
        (w.drew.alloc (.cells (olds.toArray ++ news.toArray ++ Builtin.zeroCells z.cells (grownCap w (sLen + n) sCap e - (sLen + n))) e)) := by
  have hr : ¬ (sLen + n ≤ sCap) := by omega
  have h63' : ¬ (9223372036854775807 < ((sLen : Int) + (n : Int))) := by omega
  have h48 := growslice_fits hg hfit
  have h48' : ¬ (281474976710656 < Builtin.nextslicecap (sLen + n) sCap * inf.bytes) := by omega
  have hf := hn.cells w.drew rfl
  have hl := hn.len w
  have hfo : (Builtin.firstCells inf.size sLen (.slice a sLen sCap)).run P w.drew = .ok olds.toArray w.drew := by
    cases a with
    | none => rw [ha rfl]; exact run_firstCells_none w.drew _ _ _ _
    | some b => exact run_firstCells_some (P := P) w.drew inf.size sLen b sLen sCap olds hlo (by simpa using holds b rfl)
  have hgr : ∀ C, Array.mk (olds ++ (news ++ C)) = olds.toArray ++ news.toArray ++ Array.mk C := fun C => by simp
  rcases hu with hu | ⟨e', hu⟩
  · simp [Builtin.append_, run_underlying ht, run_underlying hu, sizeOf, typeInfo, zeroValue, hi, hz, hl, hr, h63', h48', Question.forced, hf, hfo, newRow, grownCap]
    congr 2
    apply Array.ext'
    simp [List.append_assoc]
  · simp [Builtin.append_, run_underlying ht, run_underlying hu, sizeOf, typeInfo, zeroValue, hi, hz, hl, hr, h63', h48', Question.forced, hf, hfo, newRow, grownCap]
    congr 2
    apply Array.ext'
    simp [List.append_assoc]

end

/-- What is grown lies in a new block. -/
theorem own_new {w : World} {e : TypeId} {ty : Ty} {xs ys : List ty.den} {z : Value} {old : Nat} (hx : ∀ x ∈ xs, wfT ty x) (hy : ∀ y ∈ ys, wfT ty y) (hzs : z.cells.size = ty.size) (hn : xs.length + ys.length ≤ maxLen) :
    OwnRow (w.drew.alloc (.cells ((xs.flatMap (cellsT ty)).toArray ++ (ys.flatMap (cellsT ty)).toArray ++ Builtin.zeroCells z.cells (grownCap w (xs.length + ys.length) old e - (xs.length + ys.length))) e)) e ty.size
      (.slice (some ⟨w.heap.size, 0, none⟩) (xs.length + ys.length) (grownCap w (xs.length + ys.length) old e)) (xs ++ ys).length ((xs ++ ys).flatMap (cellsT ty)) := by
  have hxl := flatMap_length xs hx
  have hyl := flatMap_length ys hy
  have hge := grownCap_ge w (xs.length + ys.length) old e
  have hle := grownCap_le_maxLen w (xs.length + ys.length) old e hn
  refine ⟨flatMap_length _ (fun x h => ?_), .inr ⟨w.heap.size, 0, grownCap w (xs.length + ys.length) old e, _, by rw [List.length_append], heap_alloc_new w.drew _, by rw [List.length_append]; exact hge, hle, ?_, ?_⟩⟩
  · rcases List.mem_append.1 h with h | h
    · exact hx x h
    · exact hy x h
  · simp only [Array.size_append, List.size_toArray, size_zeroCells, hzs, hxl, hyl, ← Nat.add_mul, Nat.zero_add]
    exact Nat.mul_le_mul_right _ (by omega)
  · simp only [Array.toList_append, List.append_assoc, List.drop_zero, List.flatMap_append, List.length_append]
    rw [← List.append_assoc]
    have : (xs.length + ys.length) * ty.size = (xs.flatMap (cellsT ty) ++ ys.flatMap (cellsT ty)).length := by rw [List.length_append, hxl, hyl, Nat.add_mul]
    rw [this]
    exact List.take_left

theorem cell_alloc {w : World} {ob : Obj} {b o : Nat} (hb : b < w.heap.size) : (w.drew.alloc ob).cell? ⟨b, o, none⟩ = w.cell? ⟨b, o, none⟩ := by
  unfold World.cell?
  have : (w.drew.alloc ob).heap[b]? = w.heap[b]? := heap_alloc_old w.drew ob b hb
  rw [this]

/-- How the old rows and the new ones stand to each other. -/
def Modes (m mN : Nat) (e : TypeId) (ty : Ty) (xs : List ty.den) (e2 : Ent) : Prop := (m = 0 ∧ mN = 0 ∧ e2 = .rows 0 e ty xs) ∨ (0 < m ∧ mN = 1 ∧ e2 = .dead)

theorem Modes.noO {m mN : Nat} {e : TypeId} {ty : Ty} {xs : List ty.den} {e2 : Ent} (h : Modes m mN e ty xs e2) (v : Value) : blkO e2 v = none := by
  rcases h with ⟨_, _, rfl⟩ | ⟨_, _, rfl⟩
  · exact ro_noO rfl
  · cases v <;> rfl

theorem Modes.ids {m mN : Nat} {e : TypeId} {ty : Ty} {xs : List ty.den} {e2 : Ent} (h : Modes m mN e ty xs e2) : e2.ids = [] := by
  rcases h with ⟨_, _, rfl⟩ | ⟨_, _, rfl⟩ <;> rfl

theorem Modes.blkR {m mN : Nat} {e : TypeId} {ty : Ty} {xs : List ty.den} {e2 : Ent} (h : Modes m mN e ty xs e2) {a : Option Addr} {n c b : Nat} (hb : blkR e2 (.slice a n c) = some b) : Sy.blkR (.rows (m + 1) e ty xs) (.slice a n c) = some b := by
  rcases h with ⟨_, _, rfl⟩ | ⟨_, _, rfl⟩
  · obtain ⟨x, rfl, hx, _⟩ := blkR_ro hb
    rw [blkR_own, hx]
  · cases hb

theorem Modes.ent {m mN : Nat} {e : TypeId} {ty : Ty} {xs : List ty.den} {e2 : Ent} (h : Modes m mN e ty xs e2) {B : Nat → Value} {v : Nat} {w w' : World} (hr : EntR B v w (.rows (m + 1) e ty xs)) (hs : w.heap.size ≤ w'.heap.size)
    (hc : ∀ b, Sy.blkR (.rows (m + 1) e ty xs) (B v) = some b → ∀ o, o < endE (.rows (m + 1) e ty xs) (B v) → w'.cell? ⟨b, o, none⟩ = w.cell? ⟨b, o, none⟩) : EntR B v w' e2 := by
  obtain ⟨a, c, h1, _⟩ := vec_base hr
  have hR := fun b (hb : Sy.blkR e2 (B v) = some b) => h.blkR (a := a) (n := xs.length) (c := c) (b := b) (by rw [← h1]; exact hb)
  rcases h with ⟨_, _, rfl⟩ | ⟨_, _, rfl⟩
  · refine EntR_low hs rfl (fun b hb o ho => hc b ?_ o ?_) (own_ro hr)
    · rw [h1]; exact hR b hb
    · have e3 : endE (.rows (m + 1) e ty xs) (B v) = endE (.rows 0 e ty xs) (B v) := by rw [h1]; cases a <;> rfl
      rw [e3]; exact ho
  · trivial

section
variable {P : Program} {w : World} {B : Nat → Value} {σ : St} {id v m mN : Nat} {e : TypeId} {ty : Ty} {xs ys : List ty.den} {e2 : Ent} {inf : TypeInfo} {z : Value} {t u : TypeId} {q : Value}

/-- The new rows in a new block. -/
theorem grow_new {old : Nat} (hh : HeapR B σ.heap w) (hn : look id σ.heap = none) (h1000 : 1000 ≤ id) (hv : look v σ.heap = some (.rows (m + 1) e ty xs)) (hm : Modes m mN e ty xs e2) (hy : ∀ y ∈ ys, wfT ty y) (hzs : z.cells.size = ty.size)
    (hl : xs.length + ys.length ≤ maxLen) (rd : List Nat) :
    Post B σ w ⟨.vec id, [(id, .rows (mN + 1) e ty (xs ++ ys)), (v, e2)], rd⟩ (upd B id (.slice (some ⟨w.heap.size, 0, none⟩) (xs.length + ys.length) (grownCap w (xs.length + ys.length) old e))) (.slice (some ⟨w.heap.size, 0, none⟩) (xs.length + ys.length) (grownCap w (xs.length + ys.length) old e))
      (w.drew.alloc (.cells ((xs.flatMap (cellsT ty)).toArray ++ (ys.flatMap (cellsT ty)).toArray ++ Builtin.zeroCells z.cells (grownCap w (xs.length + ys.length) old e - (xs.length + ys.length))) e)) := by
  have hr := hh.ent v _ hv
  obtain ⟨a, c, hB, hbase⟩ := vec_base hr
  refine Post.grow hh hn h1000 hv rfl (fun b hb => ?_) (fun b hb => ?_) (fun b hb => ?_) (hm.noO _) rfl rfl rfl (by simp) (fun b hb _ => heap_alloc_old w.drew _ b hb) (fun b hb _ o _ => ?_) (EntR_at rfl ⟨own_new hr.2 hy hzs hl, fun x hx => ?_⟩) (hm.ent hr (by simp) (fun b hb o _ => ?_)) rfl hm.ids
    (VR_mk_vec ⟨_, _, _, rfl⟩) (fun j hj => by simpa [AV.ids] using hj)
  · rw [blkR_own] at hb; cases hb; exact .inr (Nat.le_refl _)
  · rw [hB] at hb ⊢; exact hm.blkR hb
  · have := blkR_of_O hb
    rw [blkR_own] at this; cases this; exact .inl (Nat.le_refl _)
  · exact cell_alloc (EntR_lt hr (blkR_of_O hb))
  · rcases List.mem_append.1 hx with hx | hx
    · exact hr.2 x hx
    · exact hy x hx
  · exact cell_alloc (EntR_lt hr hb)

theorem app_vec (hh : HeapR B σ.heap w) (hn : look id σ.heap = none) (h1000 : 1000 ≤ id) (hv : look v σ.heap = some (.rows (m + 1) e ty xs)) (hm : Modes m mN e ty xs e2) (hy : ∀ y ∈ ys, wfT ty y)
    (ht : P.underlying t = some (.slice e)) (hu : P.underlying u = some .string ∨ ∃ e, P.underlying u = some (.slice e)) (hi : P.info? e = some inf) (hz : inf.zero = some z) (hsz : inf.size = ty.size) (hzs : z.cells.size = ty.size) (hb : 0 < inf.bytes)
    (hnews : News P w ty.size q ys.length (ys.flatMap (cellsT ty))) (hfit : (xs.length + ys.length) * inf.bytes ≤ 140737488355328) (tt : TypeId) :
    ∃ y w', (∀ rd, Post B σ w ⟨.vec id, [(id, .rows (mN + 1) e ty (xs ++ ys)), (v, e2)], rd⟩ (upd B id y) y w') ∧ (Builtin.append_ #[t, u] tt #[B v, q]).run P w = .ok y w' := by
  have hr := hh.ent v _ hv
  have hlen : xs.length + ys.length ≤ 140737488355328 := Nat.le_trans (Nat.le_mul_of_pos_right _ hb) hfit
  have hmax : xs.length + ys.length ≤ maxLen := by simp only [maxLen]; omega
  have hwf : ∀ x ∈ xs ++ ys, wfT ty x := fun x h => by
    rcases List.mem_append.1 h with h | h
    · exact hr.2 x h
    · exact hy x h
  have hxl := flatMap_length xs hr.2
  have hyl := flatMap_length ys hy
  have hids : ∀ j ∈ (AV.vec id).ids, j = id := fun j hj => by simpa [AV.ids] using hj
  rw [← hsz] at hnews
  obtain ⟨⟨h1, h2⟩, h3⟩ := hr
  rcases h2 with ⟨h2, h4⟩ | ⟨g, o, cap, cur, e1, e3, e4, e5, e6, e7⟩
  · have hx0 : xs = [] := List.eq_nil_of_length_eq_zero h4
    subst hx0
    by_cases h0 : ys.length = 0
    · have hy0 : ys = [] := List.eq_nil_of_length_eq_zero h0
      subst hy0
      refine ⟨.slice none 0 0, w, fun rd => ?_, by rw [h2]; exact app_none ht hu hi hnews⟩
      refine Post.grow hh hn h1000 hv rfl (fun b hb => ?_) (fun b hb => ?_) (fun b hb => ?_) (hm.noO _) rfl rfl rfl (Nat.le_refl _) (fun _ _ _ => rfl) (fun _ _ _ _ _ => rfl) (EntR_at rfl ⟨⟨by simp, .inl ⟨rfl, rfl⟩⟩, fun x hx => hwf x hx⟩) (hm.ent (hh.ent v _ hv) (Nat.le_refl _) (fun _ _ _ _ => rfl)) rfl hm.ids
        (VR_mk_vec ⟨_, _, _, rfl⟩) hids
      · cases hb
      · rw [h2] at hb ⊢; exact hm.blkR hb
      · cases hb
    · refine ⟨_, _, fun rd => grow_new (old := 0) hh hn h1000 hv hm hy hzs hmax rd, ?_⟩
      rw [h2]
      have := app_grow (ty := tt) ht hu hi hz hnews (a := none) (sLen := 0) (sCap := 0) (olds := []) (by simp) (fun _ => rfl) (fun ad ha => by cases ha) (by omega) (by simp only [List.length_nil] at hlen; omega) (by simpa using hfit)
      simpa using this
  · by_cases hroom : xs.length + ys.length ≤ cap
    · have hfit2 : o + xs.length * ty.size + (ys.flatMap (cellsT ty)).length ≤ cur.size := by
        rw [hyl]
        have := Nat.mul_le_mul_right ty.size hroom
        rw [Nat.add_mul] at this
        omega
      have run := app_room (ty := tt) ht hu hi hnews e3 hroom (by rw [hsz]; exact hfit2)
      rw [hsz] at run
      refine ⟨_, _, fun rd => ?_, by rw [e1]; exact run⟩
      have hcell : ∀ b, Sy.blkR (.rows (m + 1) e ty xs) (B v) = some b → ∀ p, p < endE (.rows (m + 1) e ty xs) (B v) →
          (w.setRow g (cur.toList.take (o + xs.length * ty.size) ++ ys.flatMap (cellsT ty) ++ cur.toList.drop (o + xs.length * ty.size + (ys.flatMap (cellsT ty)).length)).toArray).cell? ⟨b, p, none⟩ = w.cell? ⟨b, p, none⟩ := fun b hb p hp => by
        rw [e1] at hb hp
        rw [blkR_own] at hb; cases hb
        simp only [endE] at hp
        have q1 := setRow_heap w g cur (cur.toList.take (o + xs.length * ty.size) ++ ys.flatMap (cellsT ty) ++ cur.toList.drop (o + xs.length * ty.size + (ys.flatMap (cellsT ty)).length)).toArray e _ e3
        simp only [World.cell?, q1, e3]
        rw [List.getElem?_toArray, List.append_assoc, List.getElem?_append_left (by rw [List.length_take]; simp; omega), List.getElem?_take, if_pos hp]
        simp
      have hgO : ys.length ≠ 0 ∨ 0 < m ∨ xs.length < cap → blkO (.rows (m + 1) e ty xs) (B v) = some g := fun h => by
        rw [e1]; exact blkO_mk (fun h0 => by omega)
      refine Post.grow hh hn h1000 hv rfl (fun b hb => ?_) (fun b hb => ?_) (fun b hb => ?_) (hm.noO _) rfl rfl rfl (by simp [World.setRow]) (fun b hb hne => ?_) (fun b hb _ p hp => hcell b (blkR_of_O hb) p hp) (EntR_at rfl ⟨⟨flatMap_length _ hwf, .inr ⟨g, o, cap, _, by rw [List.length_append], setRow_heap w g cur _ e _ e3, by rw [List.length_append]; exact hroom, e5, ?_, ?_⟩⟩, hwf⟩)
        (hm.ent (hh.ent v _ hv) (by simp [World.setRow]) hcell) rfl hm.ids (VR_mk_vec ⟨_, _, _, rfl⟩) hids
      · rw [blkR_own] at hb; cases hb; rw [e1, blkR_own]; exact .inl rfl
      · rw [e1] at hb ⊢; exact hm.blkR hb
      · obtain ⟨x, hx, hxb, hlt⟩ := blkO_rows hb
        cases hx
        simp only at hxb
        subst hxb
        refine .inr ⟨?_, fun hb' => ?_, fun h1 => ?_⟩
        · rw [e1]
          exact blkO_mk (fun h0 => by
            rcases hm with ⟨_, q2, _⟩ | ⟨q1, _, _⟩
            · have := hlt q2; omega
            · omega)
        · rcases hm with ⟨_, q2, rfl⟩ | ⟨q1, _, rfl⟩
          · subst q2
            refine ⟨rfl, rfl, ?_⟩
            rw [e1]
            simp only [endE, List.length_append, Nat.add_mul]
            omega
          · rw [e1] at hb'; cases hb'
        · rcases hm with ⟨_, q2, _⟩ | ⟨q1, _, _⟩
          · subst q2
            refine ⟨rfl, ?_⟩
            rw [e1]
            simp only [endE, List.length_append, Nat.add_mul]
            omega
          · simp only [Ent.mode] at h1; omega
      · by_cases hbg : b = g
        · subst hbg
          have hne2 : ¬ (ys.length ≠ 0 ∨ 0 < m ∨ xs.length < cap) := fun h => hne (hgO h)
          have hy0 : ys = [] := List.eq_nil_of_length_eq_zero (by omega)
          subst hy0
          rw [setRow_heap w b cur _ e _ e3, e3]
          simp
        · exact heap_setRow_ne _ _ _ hbg
      · simp only [List.size_toArray, List.length_append, List.length_take, List.length_drop, Array.length_toList]
        omega
      · rw [List.flatMap_append, List.length_append]
        simp only [List.toList_toArray]
        have hA : (cur.toList.take (o + xs.length * ty.size)).length = o + xs.length * ty.size := by rw [List.length_take]; simp; omega
        rw [List.append_assoc, List.drop_append, List.drop_take, hA]
        have e0 : o - (o + xs.length * ty.size) = 0 := by omega
        have e9 : o + xs.length * ty.size - o = xs.length * ty.size := by omega
        rw [e0, e9, List.drop_zero, e7]
        have : (xs.length + ys.length) * ty.size = (xs.flatMap (cellsT ty) ++ ys.flatMap (cellsT ty)).length := by rw [List.length_append, hxl, hyl, Nat.add_mul]
        rw [this, ← List.append_assoc]
        exact List.take_left
    · refine ⟨_, _, fun rd => grow_new (old := cap) hh hn h1000 hv hm hy hzs hmax rd, ?_⟩
      rw [e1]
      have holds := OwnRow.cell (w := w) (e := e) (size := ty.size) (n := xs.length) (v := B v) ⟨h1, .inr ⟨g, o, cap, cur, e1, e3, e4, e5, e6, e7⟩⟩ (by rw [e1]; rfl)
      exact app_grow (ty := tt) ht hu hi hz hnews (a := some ⟨g, o, none⟩) (olds := xs.flatMap (cellsT ty)) (by rw [hsz]; exact hxl) (fun ha => by cases ha) (fun ad ha j x hj => by cases ha; rw [Addr.add_mid]; exact holds j x hj) (by omega) (by omega) hfit

end

end Go.Proofs.YtkcdbbflelgbeaaDoor.Sy
