/- append. -/
import Derived.Test.YtkgpjplncfginaaGreatDoorSyC
namespace Go.Proofs.YtkgpjplncfginaaGreatDoor.Sy
open Go
set_option linter.unusedVariables false
set_option linter.unusedSimpArgs false

section
variable {P : Program} {w : World}

theorem slT_ok {t u : TypeId} (h : slT P t u = true) : P.underlying u = some .string ∨ ∃ e, P.underlying u = some (.slice e) := by
  unfold slT at h
  split at h
  · rename_i h'; exact .inl h'
  · rename_i e h'; exact .inr ⟨e, h'⟩
  · cases h

theorem app_room {t u ty e : TypeId} {inf : TypeInfo} (ht : P.underlying t = some (.slice e)) (hu : P.underlying u = some .string ∨ ∃ e, P.underlying u = some (.slice e)) (hi : P.info? e = some inf) {q : Value} {n : Nat} {news : List Value} (hn : News P w inf.size q n news)
    {g o sLen sCap : Nat} {cur : Array Value} (hg : w.heap[g]? = some (.cells cur e (0, 0))) (hroom : sLen + n ≤ sCap) (hfit : o + sLen * inf.size + news.length ≤ cur.size) :
    (Builtin.append_ #[t, u] ty #[.slice (some ⟨g, o, none⟩) sLen sCap, q]).run P w =
      .ok (.slice (some ⟨g, o, none⟩) (sLen + n) sCap) (w.setRow g (cur.toList.take (o + sLen * inf.size) ++ news ++ cur.toList.drop (o + sLen * inf.size + news.length)).toArray) := by
  have hf := hn.cells w rfl
  have hl := hn.len w
  have hst := run_storeCells_at P g (o + sLen * inf.size) e news 0 cur w hg (by simpa using hfit) hn.one
  simp only [Nat.add_zero] at hst
  rcases hu with hu | ⟨e', hu⟩ <;> simp [Builtin.append_, run_underlying ht, run_underlying hu, sizeOf, typeInfo, hi, hl, hroom, hf, Addr.add_mid, hst]

theorem app_same {t u ty e : TypeId} {inf : TypeInfo} (ht : P.underlying t = some (.slice e)) (hu : P.underlying u = some .string ∨ ∃ e, P.underlying u = some (.slice e)) (hi : P.info? e = some inf) {q : Value} (hn : News P w inf.size q 0 []) {a : Option Addr} {n c : Nat} (hc : n ≤ c) :
    (Builtin.append_ #[t, u] ty #[.slice a n c, q]).run P w = .ok (.slice a n c) w := by
  have hf := hn.cells w rfl
  have hl := hn.len w
  cases a <;> rcases hu with hu | ⟨e', hu⟩ <;> simp [Builtin.append_, run_underlying ht, run_underlying hu, sizeOf, typeInfo, hi, hl, hf, hc, storeCells]

theorem app_none {t u ty e : TypeId} {inf : TypeInfo} (ht : P.underlying t = some (.slice e)) (hu : P.underlying u = some .string ∨ ∃ e, P.underlying u = some (.slice e)) (hi : P.info? e = some inf) {q : Value} {news : List Value} (hn : News P w inf.size q 0 news) :
    (Builtin.append_ #[t, u] ty #[.slice none 0 0, q]).run P w = .ok (.slice none 0 0) w := by
  have hf := hn.cells w rfl
  have hl := hn.len w
  rcases hu with hu | ⟨e', hu⟩ <;> simp [Builtin.append_, run_underlying ht, run_underlying hu, sizeOf, typeInfo, hi, hl, hf]

theorem app_grow {t u ty e : TypeId} {inf : TypeInfo} {z : Value} (ht : P.underlying t = some (.slice e)) (hu : P.underlying u = some .string ∨ ∃ e, P.underlying u = some (.slice e)) (hi : P.info? e = some inf) (hz : inf.zero = some z)
    {q : Value} {n : Nat} {news : List Value} (hn : News P w inf.size q n news) {a : Option Addr} {sLen sCap : Nat} {olds : List Value} (hlo : olds.length = sLen * inf.size) (ha : a = none → olds = []) (holds : ∀ ad, a = some ad → ∀ j v, olds[j]? = some v → w.cell? (ad.add j) = some v)
    (hg : sCap < sLen + n) (h63 : ((sLen + n : Nat) : Int) ≤ 9223372036854775807) (hfit : (sLen + n) * inf.bytes ≤ 140737488355328) :
    (Builtin.append_ #[t, u] ty #[.slice a sLen sCap, q]).run P w =
      .ok (.slice (some ⟨w.heap.size, 0, none⟩) (sLen + n) (grownCap w (sLen + n) sCap e))
        (w.drew.alloc (.cells (olds.toArray ++ news.toArray ++ Builtin.zeroCells z.cells (grownCap w (sLen + n) sCap e - (sLen + n))) e)) := by
  have hr : ¬ (sLen + n ≤ sCap) := by omega
  have h63' : ¬ (9223372036854775807 < ((sLen : Int) + (n : Int))) := by omega
  have h48 := growslice_fits hg hfit
  have h48' : ¬ (281474976710656 < Builtin.nextslicecap (sLen + n) sCap * inf.bytes) := by omega
  have hf := hn.cells w.drew rfl
  have hl := hn.len w
  have hfo : (Builtin.firstCells inf.size sLen (.slice a sLen sCap)).run P w.drew = .ok olds.toArray w.drew := by
    cases a with
    | none => rw [ha rfl]; exact run_firstCells_none w.drew _ _ _ _
    | some b => exact run_firstCells_some (P := P) w.drew inf.size sLen b sLen sCap olds hlo (by simpa using holds b rfl)
  have hgr : ∀ C, Array.mk (olds ++ (news ++ C)) = olds.toArray ++ news.toArray ++ Array.mk C := fun C => by simp
  rcases hu with hu | ⟨e', hu⟩
  · simp [Builtin.append_, run_underlying ht, run_underlying hu, sizeOf, typeInfo, zeroValue, hi, hz, hl, hr, h63', h48', Question.forced, hf, hfo, newRow, grownCap]
    congr 2
    apply Array.ext'
    simp [List.append_assoc]
  · simp [Builtin.append_, run_underlying ht, run_underlying hu, sizeOf, typeInfo, zeroValue, hi, hz, hl, hr, h63', h48', Question.forced, hf, hfo, newRow, grownCap]
    congr 2
    apply Array.ext'
    simp [List.append_assoc]

end

/-- What is grown lies in a new block. -/
theorem own_new {w : World} {e : TypeId} {cs ds : List Value} {size n m : Nat} {z : Value} {old : Nat} (hx : cs.length = n * size) (hy : ds.length = m * size) (hzs : z.cells.size = size) (hn : n + m ≤ maxLen) :
    OwnRow (w.drew.alloc (.cells (cs.toArray ++ ds.toArray ++ Builtin.zeroCells z.cells (grownCap w (n + m) old e - (n + m))) e)) e size
      (.slice (some ⟨w.heap.size, 0, none⟩) (n + m) (grownCap w (n + m) old e)) (n + m) (cs ++ ds) := by
  have hge := grownCap_ge w (n + m) old e
  have hle := grownCap_le_maxLen w (n + m) old e hn
  refine ⟨by rw [List.length_append, hx, hy, Nat.add_mul], .inr ⟨w.heap.size, 0, grownCap w (n + m) old e, _, rfl, heap_alloc_new w.drew _, hge, hle, ?_, ?_⟩⟩
  · simp only [Array.size_append, List.size_toArray, size_zeroCells, hzs, hx, hy, ← Nat.add_mul, Nat.zero_add]
    exact Nat.mul_le_mul_right _ (by omega)
  · simp only [Array.toList_append, List.append_assoc, List.drop_zero]
    rw [← List.append_assoc]
    have : (n + m) * size = (cs ++ ds).length := by rw [List.length_append, hx, hy, Nat.add_mul]
    rw [this]
    exact List.take_left

/-- How the old rows and the new ones stand to each other. -/
def Modes (m mN : Nat) (e : TypeId) (ty : Ty) (xs : List ty.den) (e2 : Ent) : Prop := (m = 0 ∧ mN = 0 ∧ e2 = .rows 0 e ty xs) ∨ (0 < m ∧ mN = 1 ∧ e2 = .dead)

/-- A row that may be grown, where there is room, is one of our own cells. -/
theorem own_of_grow {B : Bz} {H : Heap} {w : World} {v m : Nat} {e : TypeId} {t : Ty} {xs : List t.den} {a : Option Addr} {cap : Nat} (hh : HeapR B H w) (hv : look v H = some (.rows (m + 1) e t xs)) (hB : B v = .slice a xs.length cap) (hlt : m = 0 → xs.length < cap) :
    ∃ cs, DRs B.z t xs cs ∧ OwnRow w e t.size (B v) xs.length cs := by
  have hr := hh.ent v _ hv
  match m, hr, hlt with
  | m + 1, hr, _ => exact hr
  | 0, ⟨hf, a', cap', g1, g2, g3⟩, hlt =>
    rw [hB] at g1
    simp only [Value.slice.injEq, true_and] at g1
    obtain ⟨rfl, rfl⟩ := g1
    have hlt := hlt rfl
    obtain ⟨g, o, cur, rfl, g4, g5, g6⟩ := g3 hlt
    clear g3
    obtain ⟨cs, c1, c2⟩ := FzR.cells (b := g) (o := o) hh.fz hf (by rw [hB]; rfl)
    have hcl := DRs.length c1
    refine ⟨cs, c1, hcl, .inr ⟨g, o, cap, cur, hB, g4, g2, g5, g6, ?_⟩⟩
    have hmul : xs.length * t.size ≤ cap * t.size := Nat.mul_le_mul_right _ g2
    apply List.ext_getElem?
    intro j
    rcases Nat.lt_or_ge j cs.length with hj | hj
    · have h1 := (c2 j cs[j] (by simp [hj])).2
      simp only [World.cell?, g4, Nat.zero_add, Option.isSome_none, Bool.false_eq_true, if_false] at h1
      rw [List.getElem?_take, if_pos (by omega), List.getElem?_drop, List.getElem?_eq_getElem hj, ← h1]
      simp
    · have hlt : (List.take (xs.length * t.size) (List.drop o cur.toList)).length ≤ j := by rw [List.length_take]; omega
      rw [List.getElem?_eq_none hlt, List.getElem?_eq_none hj]

section
variable {P : Program} {w : World} {B : Bz} {σ : St} {id v m mN : Nat} {e : TypeId} {ty : Ty} {xs ys : List ty.den} {e2 : Ent} {inf : TypeInfo} {z : Value} {t u : TypeId} {q : Value}

theorem app_post {w' : World} {r : Value} {rs : List Value} (hh : HeapR B σ.heap w) (hn : look id σ.heap = none) (h1000 : 1000 ≤ id) (hv : look v σ.heap = some (.rows (m + 1) e ty xs)) (hm : Modes m mN e ty xs e2)
    (hos : w'.os = w.os) (htape : w'.tape = w.tape) (hout : w'.output = w.output) (hs : w.heap.size ≤ w'.heap.size) (hold : ∀ b, b < w.heap.size → ¬ blkO (.rows (m + 1) e ty xs) (B v) b → w'.heap[b]? = w.heap[b]?)
    (hfz : ∀ b o x, B.z b o = some x → w'.cell? ⟨b, o, none⟩ = some x) (hd : DRs B.z ty (xs ++ ys) rs) (hown : OwnRow w' e ty.size r (xs ++ ys).length rs)
    (hblk : ∀ g o c, r = .slice (some ⟨g, o, none⟩) (xs ++ ys).length c → (blkO (.rows (m + 1) e ty xs) (B v) g ∨ w.heap.size ≤ g) ∧ ∀ p x, B.z g p = some x → p < o + (xs ++ ys).length * ty.size) :
    ∃ B', (∀ rd, Post B σ w ⟨.vec id, [(id, .rows (mN + 1) e ty (xs ++ ys)), (v, e2)], rd⟩ B' r w') := by
  have hids : ∀ j ∈ (AV.vec id).ids, j = id := fun j hj => by simpa [AV.ids] using hj
  have hsl : ∃ a n c, r = .slice a n c := by
    rcases hown.2 with ⟨h1, _⟩ | ⟨g, o, cap, cur, h1, _⟩ <;> exact ⟨_, _, _, h1⟩
  -- its block
  have hO : ∀ {k : Nat} {b : Nat}, blkO (.rows (k + 1) e ty (xs ++ ys)) r b → ∃ o c, r = .slice (some ⟨b, o, none⟩) (xs ++ ys).length c := fun {k b} hb => by
    rcases hown.2 with ⟨h1, _⟩ | ⟨g, o, cap, cur, h1, _⟩
    · rw [h1] at hb
      obtain ⟨x, hx, _⟩ := blkO_inv hb
      cases hx
    · rw [h1] at hb
      obtain ⟨x, hx, hxb, _⟩ := blkO_inv hb
      cases hx
      have hxb : g = b := hxb
      subst hxb
      exact ⟨o, cap, h1⟩
  have hr := hh.ent v _ hv
  rcases hm with ⟨rfl, rfl, rfl⟩ | ⟨hm, rfl, rfl⟩
  · obtain ⟨z', hf⟩ := own_frozen (own := fun b => ∃ o c, r = .slice (some ⟨b, o, none⟩) (xs ++ ys).length c) hfz hd hown (fun g o c h => ⟨o, c, h⟩) (fun b p x ⟨o, c, h⟩ hz => by rw [h]; exact (hblk b o c h).2 p x hz) (fun g o c b h1 ⟨o', c', h2⟩ => by
      rw [h1] at h2
      simp only [Value.slice.injEq, Option.some.injEq, Addr.mk.injEq] at h2
      exact h2.1.1.symm)
    exact ⟨_, fun rd => Post.two hh hn h1000 hv hos htape hout hs hold hf.le hf.fz (fun b p x h => (hf.new b p x h).imp_right (fun ⟨o, c, g⟩ => (hblk b o c g).1)) (fun b hb => by obtain ⟨o, c, g⟩ := hO hb; exact (hblk b o c g).1) (fun b hb => (ro_noO rfl hb).elim) (fun b _ hb => (ro_noO rfl hb).elim)
      (fun b p x hb hz => ⟨rfl, hf.zo b p x (hO hb) hz⟩) (fun b p x hb => (ro_noO rfl hb).elim) (EntR_at rfl ⟨hf.row, hf.grow⟩) (FzR.mono hf.le (DR.mono hf.le ty) hr.1) rfl rfl (VR_mk_vec hsl) hids⟩
  · obtain ⟨k, rfl⟩ : ∃ k, m = k + 1 := ⟨m - 1, by omega⟩
    have noz : ∀ b p x, blkO (.rows (k + 1 + 1) e ty xs) (B v) b ∨ w.heap.size ≤ b → B.z b p ≠ some x := fun b p x hb hz => by
      rcases hb with hb | hb
      · have := (hh.zo v _ b p x hv hb hz).1
        simp only [Ent.mode] at this; omega
      · have := zlt hh hz; omega
    exact ⟨_, fun rd => Post.two hh hn h1000 hv hos htape hout hs hold (Zle.refl _) hfz (fun b p x h => .inl h) (fun b hb => by obtain ⟨o, c, g⟩ := hO hb; exact (hblk b o c g).1) (fun b hb => by cases h : B v <;> rw [h] at hb <;> exact hb.elim) (fun b _ hb => by cases h : B v <;> rw [h] at hb <;> exact hb.elim)
      (fun b p x hb hz => by obtain ⟨o, c, g⟩ := hO hb; exact absurd hz (noz b p x (hblk b o c g).1)) (fun b p x hb => by cases h : B v <;> rw [h] at hb <;> exact hb.elim) (EntR_at rfl ⟨rs, hd, hown⟩) trivial rfl rfl (VR_mk_vec hsl) hids⟩

/-- Nothing is appended. -/
theorem app_self {a : Option Addr} {c : Nat} (hh : HeapR B σ.heap w) (hn : look id σ.heap = none) (h1000 : 1000 ≤ id) (hv : look v σ.heap = some (.rows (m + 1) e ty xs)) (hm : Modes m mN e ty xs e2) (hB : B v = .slice a xs.length c) :
    ∃ B', (∀ rd, Post B σ w ⟨.vec id, [(id, .rows (mN + 1) e ty (xs ++ [])), (v, e2)], rd⟩ B' (B v) w) := by
  rw [List.append_nil]
  have hids : ∀ j ∈ (AV.vec id).ids, j = id := fun j hj => by simpa [AV.ids] using hj
  have hr := hh.ent v _ hv
  rcases hm with ⟨rfl, rfl, rfl⟩ | ⟨hm, rfl, rfl⟩
  · exact ⟨_, fun rd => Post.two hh hn h1000 hv rfl rfl rfl (Nat.le_refl _) (fun _ _ _ => rfl) (Zle.refl _) hh.fz (fun b p x h => .inl h) (fun b hb => .inl hb) (fun b hb => (ro_noO rfl hb).elim) (fun b _ hb => (ro_noO rfl hb).elim)
      (fun b p x hb hz => hh.zo v _ b p x hv hb hz) (fun b p x hb => (ro_noO rfl hb).elim) (EntR_at rfl ⟨hr.1, hr.2⟩) hr.1 rfl rfl (VR_mk_vec ⟨_, _, _, hB⟩) hids⟩
  · obtain ⟨k, rfl⟩ : ∃ k, m = k + 1 := ⟨m - 1, by omega⟩
    have h21 : ∀ b, blkO (.rows 2 e ty xs) (B v) b → blkO (.rows (k + 1 + 1) e ty xs) (B v) b := fun b hb => by
      rw [hB] at hb ⊢
      obtain ⟨x, rfl, rfl, _⟩ := blkO_inv hb
      exact blkO_pos (fun h => by omega)
    exact ⟨_, fun rd => Post.two hh hn h1000 hv rfl rfl rfl (Nat.le_refl _) (fun _ _ _ => rfl) (Zle.refl _) hh.fz (fun b p x h => .inl h) (fun b hb => .inl (h21 b hb)) (fun b hb => by cases h : B v <;> rw [h] at hb <;> exact hb.elim) (fun b _ hb => by cases h : B v <;> rw [h] at hb <;> exact hb.elim)
      (fun b p x hb hz => by
        have := (hh.zo v _ b p x hv (h21 b hb) hz).1
        simp only [Ent.mode] at this; omega) (fun b p x hb => by cases h : B v <;> rw [h] at hb <;> exact hb.elim) (EntR_at rfl hr) trivial rfl rfl (VR_mk_vec ⟨_, _, _, hB⟩) hids⟩

theorem app_vec {ds : List Value} (hh : HeapR B σ.heap w) (hn : look id σ.heap = none) (h1000 : 1000 ≤ id) (hv : look v σ.heap = some (.rows (m + 1) e ty xs)) (hm : Modes m mN e ty xs e2) (hy : DRs B.z ty ys ds)
    (ht : P.underlying t = some (.slice e)) (hu : P.underlying u = some .string ∨ ∃ e, P.underlying u = some (.slice e)) (hi : P.info? e = some inf) (hz : inf.zero = some z) (hsz : inf.size = ty.size) (hzs : z.cells.size = ty.size) (hb : 0 < inf.bytes)
    (hnews : News P w ty.size q ys.length ds) (hfit : (xs.length + ys.length) * inf.bytes ≤ 140737488355328) (tt : TypeId) :
    ∃ B' y w', (∀ rd, Post B σ w ⟨.vec id, [(id, .rows (mN + 1) e ty (xs ++ ys)), (v, e2)], rd⟩ B' y w') ∧ (Builtin.append_ #[t, u] tt #[B v, q]).run P w = .ok y w' := by
  have hlen : xs.length + ys.length ≤ 140737488355328 := Nat.le_trans (Nat.le_mul_of_pos_right _ hb) hfit
  have hmax : xs.length + ys.length ≤ maxLen := by simp only [maxLen]; omega
  obtain ⟨a, cap, cs, hB, hd, ha0, hcell⟩ := rows_cells hh.fz (hh.ent v _ hv)
  have hcap := (vec_cap (hh.ent v _ hv) hB).2
  have hcl := DRs.length hd
  have hdl := DRs.length hy
  rw [← hsz] at hnews
  by_cases h0 : ys.length = 0
  · have hy0 : ys = [] := List.eq_nil_of_length_eq_zero h0
    subst hy0
    have hd0 : ds = [] := List.eq_nil_of_length_eq_zero (by rw [hdl]; simp)
    subst hd0
    obtain ⟨B', hp⟩ := app_self hh hn h1000 hv hm hB
    exact ⟨B', _, w, hp, by rw [hB]; exact app_same ht hu hi hnews hcap⟩
  · by_cases hroom : xs.length + ys.length ≤ cap
    · obtain ⟨cs2, hd2, hl2, how⟩ := own_of_grow hh hv hB (fun _ => by omega)
      rcases how with ⟨h2, h4⟩ | ⟨g, o, cap', cur, e1, e3, e4, e5, e6, e7⟩
      · rw [h2] at hB
        simp only [Value.slice.injEq] at hB
        omega
      have hcc : cap' = cap := by
        rw [hB] at e1
        simp only [Value.slice.injEq] at e1
        exact e1.2.2.symm
      subst hcc
      have hfit2 : o + xs.length * ty.size + ds.length ≤ cur.size := by
        rw [hdl]
        have := Nat.mul_le_mul_right ty.size hroom
        rw [Nat.add_mul] at this
        omega
      have run := app_room (ty := tt) ht hu hi hnews e3 hroom (by rw [hsz]; exact hfit2)
      rw [hsz] at run
      have hgO : blkO (.rows (m + 1) e ty xs) (B v) g := by rw [e1]; exact blkO_pos (fun _ => by omega)
      have hend : endE (.rows (m + 1) e ty xs) (B v) = o + xs.length * ty.size := by rw [e1]; rfl
      have hw' := setRow_heap w g cur (cur.toList.take (o + xs.length * ty.size) ++ ds ++ cur.toList.drop (o + xs.length * ty.size + ds.length)).toArray e _ e3
      have hlx : (xs ++ ys).length = xs.length + ys.length := List.length_append
      have hmul : (xs.length + ys.length) * ty.size = xs.length * ty.size + ys.length * ty.size := Nat.add_mul _ _ _
      have hfz : ∀ b p x, B.z b p = some x → (w.setRow g (cur.toList.take (o + xs.length * ty.size) ++ ds ++ cur.toList.drop (o + xs.length * ty.size + ds.length)).toArray).cell? ⟨b, p, none⟩ = some x := fun b p x hz => by
        by_cases hbg : b = g
        · subst hbg
          have h1 := hh.fz b p x hz
          have h2 := (hh.zo v _ b p x hv hgO hz).2
          rw [hend] at h2
          simp only [World.cell?, hw', e3] at h1 ⊢
          rw [List.getElem?_toArray, List.append_assoc, List.getElem?_append_left (by rw [List.length_take]; simp; omega), List.getElem?_take, if_pos h2]
          simpa using h1
        · have h1 := hh.fz b p x hz
          rw [← h1]
          unfold World.cell?
          rw [heap_setRow_ne _ _ _ hbg]
      have hown : OwnRow (w.setRow g (cur.toList.take (o + xs.length * ty.size) ++ ds ++ cur.toList.drop (o + xs.length * ty.size + ds.length)).toArray) e ty.size (.slice (some ⟨g, o, none⟩) (xs.length + ys.length) cap') (xs ++ ys).length (cs2 ++ ds) := by
        refine ⟨?_, .inr ⟨g, o, cap', _, by rw [hlx], hw', by rw [hlx]; exact hroom, e5, ?_, ?_⟩⟩
        · rw [List.length_append, hl2, hdl, hlx, hmul]
        · simp only [List.size_toArray, List.length_append, List.length_take, List.length_drop, Array.length_toList]
          omega
        · rw [hlx]
          simp only [List.toList_toArray]
          have hA : (cur.toList.take (o + xs.length * ty.size)).length = o + xs.length * ty.size := by rw [List.length_take]; simp; omega
          rw [List.append_assoc, List.drop_append, List.drop_take, hA]
          have e0 : o - (o + xs.length * ty.size) = 0 := by omega
          have e9 : o + xs.length * ty.size - o = xs.length * ty.size := by omega
          rw [e0, e9, List.drop_zero, e7]
          have : (xs.length + ys.length) * ty.size = (cs2 ++ ds).length := by rw [List.length_append, hl2, hdl, Nat.add_mul]
          rw [this, ← List.append_assoc]
          exact List.take_left
      obtain ⟨B', hp⟩ := app_post (mN := mN) (ys := ys) (w' := w.setRow g (cur.toList.take (o + xs.length * ty.size) ++ ds ++ cur.toList.drop (o + xs.length * ty.size + ds.length)).toArray) (r := .slice (some ⟨g, o, none⟩) (xs.length + ys.length) cap') (rs := cs2 ++ ds) hh hn h1000 hv hm rfl rfl rfl (by simp [World.setRow]) (fun b hb hne => heap_setRow_ne _ _ _ (fun (h : b = g) => hne (h ▸ hgO))) hfz (DRs.append hd2 hy) hown (fun g' o' c' h => by
        simp only [Value.slice.injEq, Option.some.injEq, Addr.mk.injEq] at h
        obtain ⟨⟨rfl, rfl, _⟩, _⟩ := h
        refine ⟨.inl hgO, fun p x hz => ?_⟩
        have h2 := (hh.zo v _ g p x hv hgO hz).2
        rw [hend] at h2
        rw [hlx, hmul]; omega)
      exact ⟨B', _, _, hp, by rw [e1]; exact run⟩
    · have hlx : (xs ++ ys).length = xs.length + ys.length := List.length_append
      have hnew := own_new (w := w) (e := e) (z := z) (old := cap) hcl hdl hzs hmax
      obtain ⟨B', hp⟩ := app_post (mN := mN) (ys := ys) (w' := w.drew.alloc (.cells (cs.toArray ++ ds.toArray ++ Builtin.zeroCells z.cells (grownCap w (xs.length + ys.length) cap e - (xs.length + ys.length))) e)) (r := .slice (some ⟨w.heap.size, 0, none⟩) (xs.length + ys.length) (grownCap w (xs.length + ys.length) cap e)) (rs := cs ++ ds) hh hn h1000 hv hm rfl rfl rfl (by simp)
        (fun b hb _ => heap_alloc_old w.drew _ b hb) (fz_keep hh (fun b hb _ => heap_alloc_old w.drew _ b hb)) (DRs.append hd hy) (by rw [hlx]; exact hnew) (fun g' o' c' h => by
          simp only [Value.slice.injEq, Option.some.injEq, Addr.mk.injEq] at h
          obtain ⟨⟨rfl, rfl, _⟩, _⟩ := h
          exact ⟨.inr (Nat.le_refl _), fun p x hz => by have := zlt hh hz; omega⟩)
      refine ⟨B', _, _, hp, ?_⟩
      rw [hB]
      exact app_grow (ty := tt) ht hu hi hz hnews (a := a) (olds := cs) (by rw [hsz]; exact hcl) ha0 hcell (by omega) (by omega) hfit

end

end Go.Proofs.YtkgpjplncfginaaGreatDoor.Sy
