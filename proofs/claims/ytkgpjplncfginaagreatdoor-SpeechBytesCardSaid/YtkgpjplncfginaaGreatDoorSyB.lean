/- Slices of strings, of rows and of arrays. -/
import Derived.Test.YtkgpjplncfginaaGreatDoorSyA
import Derived.Laws.Slices
namespace Go.Proofs.YtkgpjplncfginaaGreatDoor.Sy
open Go
set_option linter.unusedVariables false
set_option linter.unusedSimpArgs false

theorem Post.wr_congr {B B' : Bz} {σ : St} {w w' : World} {val : AV} {wr1 wr2 : Heap} {rd : List Nat} {u : Value} (h : ∀ i, look i (wr1 ++ σ.heap) = look i (wr2 ++ σ.heap)) (hp : Post B σ w ⟨val, wr1, rd⟩ B' u w') :
    Post B σ w ⟨val, wr2, rd⟩ B' u w' := by
  have own : ∀ b, Owned B' (wr2 ++ σ.heap) b → Owned B' (wr1 ++ σ.heap) b := fun b ⟨i, e, h1, h2⟩ => ⟨i, e, by rw [h]; exact h1, h2⟩
  refine ⟨hp.vr, hp.same, hp.low, ⟨fun i e hi => hp.heap.ent i e (by rw [h]; exact hi), hp.heap.fz, fun i j e e' b hi hj => hp.heap.apart i j e e' b (by rw [h]; exact hi) (by rw [h]; exact hj), fun i e b o x hi => hp.heap.zo i e b o x (by rw [h]; exact hi), fun i e hi j hj => ?_⟩,
    ⟨hp.fr.os, hp.fr.tape, hp.fr.output, hp.fr.size, hp.fr.keep, hp.fr.zle, hp.fr.znew, fun b hb => hp.fr.owns b (own b hb)⟩, fun i hi => ?_⟩
  · have := hp.heap.closed i e (by rw [h]; exact hi) j hj
    simp only at this ⊢
    rw [← h]; exact this
  · have := hp.ids i hi
    simp only at this ⊢
    rw [← h]; exact this

def loN : Option Int → Nat
  | none => 0
  | some l => l.toNat
def hiN (n : Nat) : Option Int → Nat
  | none => n
  | some h => h.toNat

def OptV : Option Int → Option Value → Prop
  | none, none => True
  | some l, some v => ∃ k, v = .int k l
  | _, _ => False

def OptR (B : Bz) : Option AV → Option Value → Prop
  | none, none => True
  | some a, some v => VR B a v
  | _, _ => False

theorem loOf_ok {B : Bz} {x : Option AV} {v : Option Value} {l : Option Int} (hx : OptR B x v) (h : loOf x = some l) : OptV l v := by
  cases x with
  | none =>
    simp only [loOf, Option.some.injEq] at h
    subst h
    cases v with
    | none => trivial
    | some v => exact hx.elim
  | some a =>
    cases a <;> simp only [loOf, reduceCtorEq] at h
    rename_i k n
    simp only [Option.some.injEq] at h
    subst h
    cases v with
    | none => exact hx.elim
    | some v => exact ⟨k, VR_int hx⟩

theorem bounds_ok {R : Type} {n : Nat} {lo hi : Option Int} {K : Option R} {r : R} (h : boundsK n lo hi K = some r) : K = some r ∧ loN lo ≤ hiN n hi ∧ hiN n hi ≤ n ∧
    ∀ {P : Program} (w : World) (isS : Bool) (cap : Nat) (lv hv : Option Value), n ≤ cap → OptV lo lv → OptV hi hv → (Instr.sliceBounds isS n cap lv hv none).run P w = .ok (loN lo, hiN n hi, cap) w := by
  have hb : ∀ {P : Program} (w : World) (k : IntKind) (i : Int) (y : Nat) (code : BoundsCode), 0 ≤ i → i ≤ y → (Instr.sliceBound (.int k i) y code).run P w = .ok i.toNat w := fun w k i y code h0 h1 => by
    simp [Instr.sliceBound, asIntOf, h0, h1]
  cases lo with
  | none =>
    cases hi with
    | none =>
      refine ⟨h, Nat.zero_le _, Nat.le_refl _, fun w isS cap lv hv hc h1 h2 => ?_⟩
      cases lv <;> cases hv <;> first | exact h1.elim | exact h2.elim | rfl
    | some hh =>
      replace h := bif_eq_some h
      rcases h with ⟨h0, h⟩ | ⟨_, h⟩
      · have h0 := of_decide_eq_true h0
        replace h := bif_eq_some h
        rcases h with ⟨h1, h⟩ | ⟨_, h⟩
        · have h1 := of_decide_eq_true h1
          refine ⟨h, Nat.zero_le _, by simp only [hiN]; omega, fun w isS cap lv hv hc g1 g2 => ?_⟩
          cases lv with
          | some _ => exact g1.elim
          | none =>
            cases hv with
            | none => exact g2.elim
            | some v =>
              obtain ⟨k, rfl⟩ := g2
              unfold Instr.sliceBounds
              simp only [Sem.run_bind, Sem.run_pure, Result.andThen_ok]
              rw [hb w k hh cap _ h0 (by omega)]
              rfl
        · cases h
      · cases h
  | some l =>
    cases hi with
    | none =>
      replace h := bif_eq_some h
      rcases h with ⟨h0, h⟩ | ⟨_, h⟩
      · have h0 := of_decide_eq_true h0
        replace h := bif_eq_some h
        rcases h with ⟨h1, h⟩ | ⟨_, h⟩
        · have h1 := of_decide_eq_true h1
          refine ⟨h, by simp only [loN, hiN]; omega, Nat.le_refl _, fun w isS cap lv hv hc g1 g2 => ?_⟩
          cases hv with
          | some _ => exact g2.elim
          | none =>
            cases lv with
            | none => exact g1.elim
            | some v =>
              obtain ⟨k, rfl⟩ := g1
              unfold Instr.sliceBounds
              simp only [Sem.run_bind, Sem.run_pure, Result.andThen_ok]
              rw [hb w k l n _ h0 h1]
              rfl
        · cases h
      · cases h
    | some hh =>
      replace h := bif_eq_some h
      rcases h with ⟨h0, h⟩ | ⟨_, h⟩
      · have h0 := of_decide_eq_true h0
        replace h := bif_eq_some h
        rcases h with ⟨h1, h⟩ | ⟨_, h⟩
        · have h1 := of_decide_eq_true h1
          replace h := bif_eq_some h
          rcases h with ⟨h2, h⟩ | ⟨_, h⟩
          · have h2 := of_decide_eq_true h2
            replace h := bif_eq_some h
            rcases h with ⟨h3, h⟩ | ⟨_, h⟩
            · have h3 := of_decide_eq_true h3
              refine ⟨h, by simp only [loN, hiN]; omega, by simp only [hiN]; omega, fun w isS cap lv hv hc g1 g2 => ?_⟩
              cases lv with
              | none => exact g1.elim
              | some v1 =>
                cases hv with
                | none => exact g2.elim
                | some v2 =>
                  obtain ⟨k1, rfl⟩ := g1
                  obtain ⟨k2, rfl⟩ := g2
                  unfold Instr.sliceBounds
                  simp only [Sem.run_bind, Sem.run_pure, Result.andThen_ok]
                  rw [hb w k2 hh cap _ h0 (by omega)]
                  simp only [Result.andThen_ok]
                  rw [hb w k1 l hh.toNat _ h2 (by omega)]
                  rfl
            · cases h
          · cases h
        · cases h
      · cases h

theorem partL_eq {α : Type} (xs : List α) (lo hi : Option Int) : partL xs lo hi = (xs.take (hiN xs.length hi)).drop (loN lo) := by
  cases lo <;> cases hi <;> simp [partL, loN, hiN]

theorem bst_part (s : List Int) (a b : Nat) : (bst s).extract a b = bst ((s.take b).drop a) := by
  unfold bst
  rw [ByteArray.extract_mk, ← List.map_drop, ← List.map_take]
  congr 3
  rw [List.drop_take]

theorem byteL_part {s : List Int} (h : byteL s) (a b : Nat) : byteL ((s.take b).drop a) := fun y hy => h y (List.mem_of_mem_take (List.mem_of_mem_drop hy))

/-- Where a part begins. -/
def sliced' (a : Option Addr) (l h cap size : Nat) : Value := .slice (if cap = l then a else a.map (·.add (l * size))) (h - l) (cap - l)

theorem fz_part {z : Frz} {v : Value} {t : Ty} {xs : List t.den} {a : Option Addr} {cap l h : Nat} (hb : v = .slice a xs.length cap) (hr : FzR z (DR z t) xs v) (hl : l ≤ h) (hh : h ≤ xs.length) (hc : xs.length ≤ cap) :
    FzR z (DR z t) ((xs.take h).drop l) (sliced' a l h cap t.size) := by
  obtain ⟨a', k, cs, e1, e0, e2, e3⟩ := hr
  rw [hb] at e1
  simp only [Value.slice.injEq, true_and] at e1
  obtain ⟨rfl, rfl⟩ := e1
  have hlen : ((xs.take h).drop l).length = h - l := by rw [List.length_drop, List.length_take]; omega
  have hcs := DRs.length e2
  have hd := DRs.drop l (DRs.take h e2)
  refine ⟨_, xs.length + k - h, (cs.take (h * t.size)).drop (l * t.size), by rw [hlen]; unfold sliced'; congr 1; omega, fun hp => ?_, hd, fun j u hj => ?_⟩
  · rw [hlen] at hp
    obtain ⟨bl, o, rfl⟩ := e0 (by omega)
    rw [if_neg (by omega)]
    exact ⟨bl, o + l * t.size, by simp [Addr.add_mid]⟩
  · have hjl := (List.getElem?_eq_some_iff.1 hj).1
    have hdl := DRs.length hd
    rw [hlen] at hdl
    rw [List.getElem?_drop, List.getElem?_take] at hj
    split at hj
    · rename_i hlt
      obtain ⟨bl, o, h2, h3⟩ := e3 _ u hj
      have hcl : ¬ xs.length + k = l := fun e => by
        have : h - l = 0 := by omega
        rw [this, Nat.zero_mul] at hdl
        omega
      refine ⟨bl, o + l * t.size, ?_, ?_⟩
      · rw [if_neg hcl, h2]
        simp [Addr.add_mid]
      · rw [← h3]; congr 1; omega
    · cases hj

theorem VR_str' {B : Bz} {s : List Int} {u : Value} (h : VR B (.str s) u) : byteL s ∧ u = .string (bst s) := (VR_atom rfl rfl).1 h

theorem vec_cap {B : Bz} {v : Nat} {w : World} {m : Nat} {e : TypeId} {t : Ty} {xs : List t.den} {a : Option Addr} {n c : Nat} (hr : EntR B v w (.rows m e t xs)) (hB : B v = .slice a n c) : n = xs.length ∧ n ≤ c := by
  have fro : ∀ {z : Frz}, FzR z (DR z t) xs (B v) → n = xs.length ∧ n ≤ c := fun {z} ⟨a', k, cs, h1, _⟩ => by
    rw [hB] at h1
    simp only [Value.slice.injEq] at h1
    exact ⟨h1.2.1, by omega⟩
  match m, hr with
  | 0, hr => exact fro hr
  | 1, hr => exact fro hr.1
  | m + 2, ⟨cs, _, _, h2⟩ =>
    rcases h2 with ⟨h2, h3⟩ | ⟨g, o, cap, cur, e1, e2, e3, _⟩
    · rw [hB] at h2
      simp only [Value.slice.injEq] at h2
      omega
    · rw [hB] at e1
      simp only [Value.slice.injEq] at e1
      exact ⟨e1.2.1, by omega⟩

theorem blkO_pos {m : Nat} {e : TypeId} {t : Ty} {xs : List t.den} {x : Addr} {n c : Nat} (h : m = 0 → n < c) : blkO (.rows (m + 1) e t xs) (.slice (some x) n c) x.block := by
  match m, h with
  | 0, h => exact ⟨h rfl, rfl⟩
  | m + 1, _ => rfl

theorem blkO_inv {m : Nat} {e : TypeId} {t : Ty} {xs : List t.den} {a : Option Addr} {n c b : Nat} (h : blkO (.rows (m + 1) e t xs) (.slice a n c) b) : ∃ x, a = some x ∧ x.block = b ∧ (m = 0 → n < c) := by
  cases a with
  | none => match m, h with
    | 0, h => exact h.elim
    | m + 1, h => exact h.elim
  | some x => match m, h with
    | 0, h => exact ⟨x, rfl, h.2, fun _ => h.1⟩
    | m + 1, h => exact ⟨x, rfl, h, fun h => by omega⟩

theorem grow_tail {w : World} {e : TypeId} {t : Ty} {xs : List t.den} {a : Option Addr} {cap l : Nat} {v : Value} (hB : v = .slice a xs.length cap) (h : Grow w e t.size v xs.length) (hl : l ≤ xs.length) (hc : xs.length ≤ cap) :
    Grow w e t.size (sliced' a l xs.length cap t.size) (xs.drop l).length := by
  have hd : (xs.drop l).length = xs.length - l := List.length_drop
  refine ⟨if cap = l then a else a.map (·.add (l * t.size)), cap - l, by rw [hd]; rfl, by rw [hd]; omega, fun hlt => ?_⟩
  rw [hd] at hlt
  obtain ⟨a', cap', g1, g2, g3⟩ := h
  rw [hB] at g1
  simp only [Value.slice.injEq, true_and] at g1
  obtain ⟨rfl, rfl⟩ := g1
  have hlt2 : xs.length < cap := by clear g3; omega
  obtain ⟨g, o, cur, rfl, g4, g5, g6⟩ := g3 hlt2
  clear g3
  rw [if_neg (by omega)]
  have hm : cap * t.size = l * t.size + (cap - l) * t.size := by rw [← Nat.add_mul]; congr 1; omega
  exact ⟨g, o + l * t.size, cur, by simp [Addr.add_mid], g4, by omega, by omega⟩

/-- The tail of a row of our own. -/
theorem Post.tail {B : Bz} {σ : St} {w : World} {id v m : Nat} {e : TypeId} {t : Ty} {xs : List t.den} {a : Option Addr} {cap l : Nat} {rd : List Nat} (hh : HeapR B σ.heap w) (hn : look id σ.heap = none) (h1000 : 1000 ≤ id) (hv : look v σ.heap = some (.rows (m + 1) e t xs))
    (hB : B v = .slice a xs.length cap) (hl : l ≤ xs.length) : ∃ B', Post B σ w ⟨.vec id, [(id, .rows 1 e t (xs.drop l)), (v, .rows 0 e t xs)], rd⟩ B' (sliced' a l xs.length cap t.size) w := by
  obtain ⟨z', hf⟩ := freeze hh hv
  have hc := (vec_cap (hh.ent v _ hv) hB).2
  have hend : ∀ g o, a = some ⟨g, o, none⟩ → endE (.rows 1 e t xs) (B v) = o + xs.length * t.size := fun g o ha => by rw [hB, ha]; rfl
  have hrow := fz_part hB hf.row hl (Nat.le_refl _) hc
  rw [List.take_length] at hrow
  -- what the tail may be grown in
  have hblk : ∀ b, blkO (.rows 1 e t (xs.drop l)) (sliced' a l xs.length cap t.size) b → ∃ g o cur, a = some ⟨g, o, none⟩ ∧ g = b ∧ xs.length < cap ∧ w.heap[g]? = some (.cells cur e (0, 0)) ∧ cap ≤ maxLen ∧ o + cap * t.size ≤ cur.size := fun b hb => by
    unfold sliced' at hb
    cases ha : (if cap = l then a else a.map (·.add (l * t.size))) with
    | none => rw [ha] at hb; exact hb.elim
    | some y =>
      rw [ha] at hb
      obtain ⟨h1, h2⟩ := hb
      have hlt : xs.length < cap := by omega
      obtain ⟨a', cap', g1, g2, g3⟩ := hf.grow
      rw [hB] at g1
      simp only [Value.slice.injEq, true_and] at g1
      obtain ⟨rfl, rfl⟩ := g1
      obtain ⟨g, o, cur, rfl, g4, g5, g6⟩ := g3 hlt
      rw [if_neg (by omega)] at ha
      simp only [Option.map_some, Addr.add_mid, Option.some.injEq] at ha
      subst ha
      exact ⟨g, o, cur, rfl, h2, hlt, g4, g5, g6⟩
  have hown : ∀ b, blkO (.rows 1 e t (xs.drop l)) (sliced' a l xs.length cap t.size) b → blkO (.rows (m + 1) e t xs) (B v) b := fun b hb => by
    obtain ⟨g, o, cur, rfl, rfl, h1, _⟩ := hblk b hb
    rw [hB]
    exact blkO_pos (fun _ => h1)
  refine ⟨_, Post.two hh hn h1000 hv rfl rfl rfl (Nat.le_refl _) (fun _ _ _ => rfl) hf.le hf.fz (fun b o x h => (hf.new b o x h).imp_right .inl) (fun b hb => .inl (hown b hb)) (fun b hb => (ro_noO rfl hb).elim) (fun b _ hb => (ro_noO rfl hb).elim)
    (fun b p x hb hz => ⟨rfl, ?_⟩) (fun b p x hb => (ro_noO rfl hb).elim) (EntR_at rfl ⟨hrow, ?_⟩) hf.row rfl rfl (VR_mk_vec ⟨_, _, _, rfl⟩) (fun j hj => by simpa [AV.ids] using hj)⟩
  · have h1 := hf.zo b p x (hown b hb) hz
    obtain ⟨g, o, cur, rfl, rfl, h2, _⟩ := hblk b hb
    rw [hend g o rfl] at h1
    unfold sliced'
    rw [if_neg (by omega)]
    simp only [Option.map_some, Addr.add_mid, endE, List.length_drop]
    have e2 : xs.length * t.size = l * t.size + (xs.length - l) * t.size := by rw [← Nat.add_mul]; congr 1; omega
    omega
  · exact grow_tail hB hf.grow hl hc

/-- The head of a row of our own. -/
theorem Post.head {B : Bz} {σ : St} {w : World} {id v m : Nat} {e : TypeId} {t : Ty} {xs : List t.den} {a : Option Addr} {cap l h : Nat} {rd : List Nat} (hh : HeapR B σ.heap w) (hn : look id σ.heap = none) (h1000 : 1000 ≤ id) (hv : look v σ.heap = some (.rows (m + 1) e t xs))
    (hB : B v = .slice a xs.length cap) (hl : l ≤ h) (hhx : h ≤ xs.length) : ∃ B', Post B σ w ⟨.vec id, [(id, .rows 0 e t ((xs.take h).drop l)), (v, .rows 1 e t xs)], rd⟩ B' (sliced' a l h cap t.size) w := by
  obtain ⟨z', hf⟩ := freeze hh hv
  have hc := (vec_cap (hh.ent v _ hv) hB).2
  have hrow := fz_part hB hf.row hl hhx hc
  have hown : ∀ b, blkO (.rows 1 e t xs) (B v) b → blkO (.rows (m + 1) e t xs) (B v) b := fun b hb => by
    rw [hB] at hb ⊢
    obtain ⟨x, rfl, rfl, hlt⟩ := blkO_inv hb
    exact blkO_pos (fun _ => hlt rfl)
  exact ⟨_, Post.two hh hn h1000 hv rfl rfl rfl (Nat.le_refl _) (fun _ _ _ => rfl) hf.le hf.fz (fun b o x h => (hf.new b o x h).imp_right .inl) (fun b hb => (ro_noO rfl hb).elim) hown (fun b hb => (ro_noO rfl hb).elim)
    (fun b p x hb => (ro_noO rfl hb).elim) (fun b p x hb hz => ⟨rfl, hf.zo b p x (hown b hb) hz⟩) (EntR_at rfl hrow) ⟨hf.row, hf.grow⟩ rfl rfl (VR_mk_vec ⟨_, _, _, rfl⟩) (fun j hj => by simpa [AV.ids] using hj)⟩

section
variable {R : Type}

theorem sliceK_ok {P : Program} {B : Bz} {σ : St} {w : World} {d : Option Nat} {t : TypeId} {x : AV} {lo hi : Option AV} {u : Value} {lv hv : Option Value} {K : Eff → Option R} {r : R} (hh : HeapR B σ.heap w) (hxi : ∀ i ∈ x.ids, (look i σ.heap).isSome = true)
    (hx : VR B x u) (hlo : OptR B lo lv) (hhi : OptR B hi hv) (h : sliceK P σ.heap d t x lo hi K = some r) :
    ∃ ef, K ef = some r ∧ ∃ B' q, Post B σ w ef B' q w ∧ (Instr.sliceAt t u lv hv none).run P w = .ok q w := by
  unfold sliceK at h
  split at h
  · rename_i lo' hi' e1 e2
    have ol := loOf_ok hlo e1
    have oh := loOf_ok hhi e2
    split at h
    · rename_i ht
      split at h
      · rename_i s
        obtain ⟨hs, rfl⟩ := VR_str' hx
        obtain ⟨h, b1, b2, b3⟩ := bounds_ok h
        refine ⟨_, h, B, .string (bst (partL s lo' hi')), Post.pure hh ((VR_atom rfl rfl).2 ⟨by rw [partL_eq]; exact byteL_part hs _ _, rfl⟩) (fun j hj => by cases hj), ?_⟩
        rw [run_sliceAt_string w t _ _ _ _ ht]
        unfold Instr.slice
        rw [Sem.run_bind, run_underlying ht w]
        simp only [Result.andThen_ok, Option.isSome_none, Bool.false_eq_true, if_false, pure_bind, Sem.run_bind]
        rw [size_bst, b3 w false s.length lv hv (Nat.le_refl _) ol oh]
        simp only [Result.andThen_ok, Sem.run_pure]
        rw [bst_part, partL_eq]
      · cases h
    · rename_i e ht
      split at h
      · rename_i v d
        split at h
        · rename_i m e' ty xs hl
          split at h
          · rename_i inf hinf
            replace h := bif_eq_some h
            rcases h with ⟨h0, h⟩ | ⟨_, h⟩
            · simp only [Bool.and_eq_true] at h0
              have he := Nat.eq_of_beq_eq_true h0.1
              have hs := Nat.eq_of_beq_eq_true h0.2
              subst he
              split at h
              · rename_i hn
                obtain ⟨h, b1, b2, b3⟩ := bounds_ok h
                have hr := hh.ent v _ hl
                obtain ⟨a, cap, hB, hbase⟩ := vec_base hr
                rw [VR_vec hx, hB]
                have hcap : xs.length ≤ cap := (vec_cap hr hB).2
                have run : (Instr.sliceAt t (.slice a xs.length cap) lv hv none).run P w = .ok (sliced' a (loN lo') (hiN xs.length hi') cap ty.size) w := by
                  rw [run_sliceAt_slice w t _ _ _ _ (by unfold Program.elem; rw [ht])]
                  unfold Instr.slice
                  rw [Sem.run_bind, run_underlying ht w]
                  simp only [Result.andThen_ok, Sem.run_bind]
                  rw [b3 w true cap lv hv hcap ol oh]
                  simp only [Result.andThen_ok, Sem.run_bind]
                  rw [run_sizeOf' hinf w]
                  simp only [Result.andThen_ok, Sem.run_pure, hs]
                  rfl
                split at h
                · have hp := Post.row (rd := [v]) (e := e') hh hn (Nat.le_add_right 1000 d) (fz_part hB hr b1 b2 hcap)
                  rw [← partL_eq] at hp
                  exact ⟨_, h, _, _, hp, run⟩
                · rename_i m'
                  cases hi' with
                  | none =>
                    simp only at h
                    obtain ⟨B', hp⟩ := Post.tail (rd := [v]) (l := loN lo') hh hn (Nat.le_add_right 1000 d) hl hB b1
                    refine ⟨_, h, B', _, ?_, run⟩
                    rw [partL_eq]
                    simp only [hiN, List.take_length]
                    exact hp
                  | some hv' =>
                    simp only at h
                    obtain ⟨B', hp⟩ := Post.head (rd := [v]) (l := loN lo') (h := hiN xs.length (some hv')) hh hn (Nat.le_add_right 1000 d) hl hB b1 b2
                    refine ⟨_, h, B', _, ?_, run⟩
                    rw [partL_eq]
                    exact hp
              · cases h
            · cases h
          · cases h
        · cases h
      · cases h
    · rename_i n e ht
      split at h
      · rename_i p
        split at h
        · rename_i inf hinf
          split at h
          · rename_i e3
            have hb : boundsK n none hi' (K ⟨.asl p (hiN n hi') n, [], []⟩) = some r := by
              cases hi' with
              | none => exact h
              | some z => exact h
            obtain ⟨h, b1, b2, b3⟩ := bounds_ok hb
            obtain ⟨b, o, hb, rfl⟩ := VR_ptr hx
            cases lv with
            | some _ => exact ol.elim
            | none =>
              refine ⟨_, h, B, _, Post.pure hh (u := .slice (some ⟨b, o + p.st + dyOff p.dys, none⟩) (hiN n hi') n) ((VR_atom rfl rfl).2 ⟨b, o, hb, rfl⟩) (fun j hj => hxi j hj), ?_⟩
              unfold Instr.sliceAt
              rw [Sem.run_bind, run_underlying ht w]
              simp only [Result.andThen_ok, Instr.sureAddr, pure_bind, Sem.run_bind]
              rw [b3 w false n none hv (Nat.le_refl _) ol oh]
              simp only [Result.andThen_ok, Sem.run_bind]
              rw [run_sizeOf' hinf w]
              simp only [Result.andThen_ok, Sem.run_pure, loN, Nat.zero_mul, Nat.sub_zero, addr_add, Nat.add_zero, ite_self]
          · cases h
        · cases h
      · cases h
    · cases h
  · cases h

end

end Go.Proofs.YtkgpjplncfginaaGreatDoor.Sy
