/- Slices of strings, of rows and of arrays. -/
import Derived.Test.YtkcdbbflelgbeaaDoorSy6
import Derived.Laws.Slices
namespace Go.Proofs.YtkcdbbflelgbeaaDoor.Sy
open Go
set_option linter.unusedVariables false
set_option linter.unusedSimpArgs false

theorem Post.wr_congr {B B' : Nat → Value} {σ : St} {w w' : World} {val : AV} {wr1 wr2 : Heap} {rd : List Nat} {u : Value} (h : ∀ i, look i (wr1 ++ σ.heap) = look i (wr2 ++ σ.heap)) (hp : Post B σ w ⟨val, wr1, rd⟩ B' u w') :
    Post B σ w ⟨val, wr2, rd⟩ B' u w' := by
  have own : ∀ b, Owned B' (wr2 ++ σ.heap) b → Owned B' (wr1 ++ σ.heap) b := fun b ⟨i, e, h1, h2⟩ => ⟨i, e, by rw [h]; exact h1, h2⟩
  have own1 : ∀ b x, Own1 B' (wr1 ++ σ.heap) b x → Own1 B' (wr2 ++ σ.heap) b x := fun b x ⟨i, e, h1, h2⟩ => ⟨i, e, by rw [← h]; exact h1, h2⟩
  refine ⟨hp.vr, hp.same, hp.low, ⟨fun i e hi => hp.heap.ent i e (by rw [h]; exact hi), fun i j e e' b hi hj => hp.heap.apart i j e e' b (by rw [h]; exact hi) (by rw [h]; exact hj), fun i e hi j hj => ?_⟩,
    ⟨hp.fr.os, hp.fr.tape, hp.fr.output, hp.fr.size, hp.fr.keep, hp.fr.low, fun b hb => ?_, fun i e b hi hb => hp.fr.looks i e b (by rw [h]; exact hi) hb⟩, fun i hi => ?_⟩
  · have := hp.heap.closed i e (by rw [h]; exact hi) j hj
    simp only at this ⊢
    rw [← h]; exact this
  · rcases hp.fr.owns b (own b hb) with ⟨h1, h2⟩ | h1
    · exact .inl ⟨h1, fun x hx => by obtain ⟨x', p, q⟩ := h2 x hx; exact ⟨x', p, own1 b x' q⟩⟩
    · exact .inr h1
  · have := hp.ids i hi
    simp only at this ⊢
    rw [← h]; exact this

def loN : Option Int → Nat
  | none => 0
  | some l => l.toNat
def hiN (n : Nat) : Option Int → Nat
  | none => n
  | some h => h.toNat

def OptV : Option Int → Option Value → Prop
  | none, none => True
  | some l, some v => ∃ k, v = .int k l
  | _, _ => False

def OptR (B : Nat → Value) : Option AV → Option Value → Prop
  | none, none => True
  | some a, some v => VR B a v
  | _, _ => False

theorem loOf_ok {B : Nat → Value} {x : Option AV} {v : Option Value} {l : Option Int} (hx : OptR B x v) (h : loOf x = some l) : OptV l v := by
  cases x with
  | none =>
    simp only [loOf, Option.some.injEq] at h
    subst h
    cases v with
    | none => trivial
    | some v => exact hx.elim
  | some a =>
    cases a <;> simp only [loOf, reduceCtorEq] at h
    rename_i k n
    simp only [Option.some.injEq] at h
    subst h
    cases v with
    | none => exact hx.elim
    | some v => exact ⟨k, VR_int hx⟩

theorem bounds_ok {R : Type} {n : Nat} {lo hi : Option Int} {K : Option R} {r : R} (h : boundsK n lo hi K = some r) : K = some r ∧ loN lo ≤ hiN n hi ∧ hiN n hi ≤ n ∧
    ∀ {P : Program} (w : World) (isS : Bool) (cap : Nat) (lv hv : Option Value), n ≤ cap → OptV lo lv → OptV hi hv → (Instr.sliceBounds isS n cap lv hv none).run P w = .ok (loN lo, hiN n hi, cap) w := by
  have hb : ∀ {P : Program} (w : World) (k : IntKind) (i : Int) (y : Nat) (code : BoundsCode), 0 ≤ i → i ≤ y → (Instr.sliceBound (.int k i) y code).run P w = .ok i.toNat w := fun w k i y code h0 h1 => by
    simp [Instr.sliceBound, asIntOf, h0, h1]
  cases lo with
  | none =>
    cases hi with
    | none =>
      refine ⟨h, Nat.zero_le _, Nat.le_refl _, fun w isS cap lv hv hc h1 h2 => ?_⟩
      cases lv <;> cases hv <;> first | exact h1.elim | exact h2.elim | rfl
    | some hh =>
      replace h := bif_eq_some h
      rcases h with ⟨h0, h⟩ | ⟨_, h⟩
      · have h0 := of_decide_eq_true h0
        replace h := bif_eq_some h
        rcases h with ⟨h1, h⟩ | ⟨_, h⟩
        · have h1 := of_decide_eq_true h1
          refine ⟨h, Nat.zero_le _, by simp only [hiN]; omega, fun w isS cap lv hv hc g1 g2 => ?_⟩
          cases lv with
          | some _ => exact g1.elim
          | none =>
            cases hv with
            | none => exact g2.elim
            | some v =>
              obtain ⟨k, rfl⟩ := g2
              unfold Instr.sliceBounds
              simp only [Sem.run_bind, Sem.run_pure, Result.andThen_ok]
              rw [hb w k hh cap _ h0 (by omega)]
              rfl
        · cases h
      · cases h
  | some l =>
    cases hi with
    | none =>
      replace h := bif_eq_some h
      rcases h with ⟨h0, h⟩ | ⟨_, h⟩
      · have h0 := of_decide_eq_true h0
        replace h := bif_eq_some h
        rcases h with ⟨h1, h⟩ | ⟨_, h⟩
        · have h1 := of_decide_eq_true h1
          refine ⟨h, by simp only [loN, hiN]; omega, Nat.le_refl _, fun w isS cap lv hv hc g1 g2 => ?_⟩
          cases hv with
          | some _ => exact g2.elim
          | none =>
            cases lv with
            | none => exact g1.elim
            | some v =>
              obtain ⟨k, rfl⟩ := g1
              unfold Instr.sliceBounds
              simp only [Sem.run_bind, Sem.run_pure, Result.andThen_ok]
              rw [hb w k l n _ h0 h1]
              rfl
        · cases h
      · cases h
    | some hh =>
      replace h := bif_eq_some h
      rcases h with ⟨h0, h⟩ | ⟨_, h⟩
      · have h0 := of_decide_eq_true h0
        replace h := bif_eq_some h
        rcases h with ⟨h1, h⟩ | ⟨_, h⟩
        · have h1 := of_decide_eq_true h1
          replace h := bif_eq_some h
          rcases h with ⟨h2, h⟩ | ⟨_, h⟩
          · have h2 := of_decide_eq_true h2
            replace h := bif_eq_some h
            rcases h with ⟨h3, h⟩ | ⟨_, h⟩
            · have h3 := of_decide_eq_true h3
              refine ⟨h, by simp only [loN, hiN]; omega, by simp only [hiN]; omega, fun w isS cap lv hv hc g1 g2 => ?_⟩
              cases lv with
              | none => exact g1.elim
              | some v1 =>
                cases hv with
                | none => exact g2.elim
                | some v2 =>
                  obtain ⟨k1, rfl⟩ := g1
                  obtain ⟨k2, rfl⟩ := g2
                  unfold Instr.sliceBounds
                  simp only [Sem.run_bind, Sem.run_pure, Result.andThen_ok]
                  rw [hb w k2 hh cap _ h0 (by omega)]
                  simp only [Result.andThen_ok]
                  rw [hb w k1 l hh.toNat _ h2 (by omega)]
                  rfl
            · cases h
          · cases h
        · cases h
      · cases h

theorem partL_eq {α : Type} (xs : List α) (lo hi : Option Int) : partL xs lo hi = (xs.take (hiN xs.length hi)).drop (loN lo) := by
  cases lo <;> cases hi <;> simp [partL, loN, hiN]

theorem bst_part (s : List Int) (a b : Nat) : (bst s).extract a b = bst ((s.take b).drop a) := by
  unfold bst
  rw [ByteArray.extract_mk, ← List.map_drop, ← List.map_take]
  congr 3
  rw [List.drop_take]

theorem byteL_part {s : List Int} (h : byteL s) (a b : Nat) : byteL ((s.take b).drop a) := fun y hy => h y (List.mem_of_mem_take (List.mem_of_mem_drop hy))

theorem flatMap_drop {t : Ty} : ∀ (xs : List t.den) (n : Nat), (∀ x ∈ xs, wfT t x) → (xs.drop n).flatMap (cellsT t) = (xs.flatMap (cellsT t)).drop (n * t.size)
  | xs, 0, _ => by simp
  | [], n + 1, _ => by simp
  | x :: xs, n + 1, hw => by
    have hx := length_cellsT t x (hw x (by simp))
    have e : (cellsT t x).drop ((n + 1) * t.size) = [] := List.drop_of_length_le (by rw [hx, Nat.succ_mul]; omega)
    have e2 : (n + 1) * t.size - t.size = n * t.size := by rw [Nat.succ_mul, Nat.add_sub_cancel]
    rw [List.drop_succ_cons, flatMap_drop xs n (fun y hy => hw y (by simp [hy])), List.flatMap_cons, List.drop_append, e, List.nil_append, hx, e2]

/-- Where a part begins. -/
def sliced' (a : Option Addr) (l h cap size : Nat) : Value := .slice (if cap = l then a else a.map (·.add (l * size))) (h - l) (cap - l)

theorem ro_part {b : Value} {t : Ty} {xs : List t.den} {w : World} {a : Option Addr} {cap l h : Nat} (hb : b = .slice a xs.length cap) (hr : RoRows b t xs w) (hl : l ≤ h) (hh : h ≤ xs.length) (hc : xs.length ≤ cap) :
    RoRows (sliced' a l h cap t.size) t ((xs.take h).drop l) w := by
  obtain ⟨a', k, e1, e2⟩ := hr
  rw [hb] at e1
  simp only [Value.slice.injEq, true_and] at e1
  obtain ⟨rfl, rfl⟩ := e1
  have hlen : ((xs.take h).drop l).length = h - l := by rw [List.length_drop, List.length_take]; omega
  refine ⟨_, xs.length + k - h, by rw [hlen]; unfold sliced'; congr 1; omega, fun j x hj => ?_⟩
  rw [List.getElem?_drop, List.getElem?_take] at hj
  split at hj
  · rename_i hlt
    obtain ⟨h1, bl, o, h2, h3, h4⟩ := e2 _ x hj
    have hcl : ¬ xs.length + k = l := fun e => by omega
    refine ⟨h1, bl, o + l * t.size, ?_, h3, fun m u hm => ?_⟩
    · rw [if_neg hcl, h2]
      simp [Addr.add_mid]
    · have := h4 m u hm
      rw [Nat.add_mul] at this
      rw [← this]; congr 2; omega
  · cases hj

theorem own_part {w : World} {e : TypeId} {t : Ty} {xs : List t.den} {a : Option Addr} {cap l : Nat} (hw : ∀ x ∈ xs, wfT t x) (hr : OwnRow w e t.size (.slice a xs.length cap) xs.length (xs.flatMap (cellsT t))) (hl : l ≤ xs.length) :
    OwnRow w e t.size (sliced' a l xs.length cap t.size) (xs.drop l).length ((xs.drop l).flatMap (cellsT t)) := by
  obtain ⟨h1, h2⟩ := hr
  refine ⟨flatMap_length _ (fun x hx => hw x (List.mem_of_mem_drop hx)), ?_⟩
  rw [List.length_drop]
  rcases h2 with ⟨h2, h3⟩ | ⟨g, o, cap', cur, e1, e2, e3, e4, e5, e6⟩
  · simp only [Value.slice.injEq] at h2
    obtain ⟨rfl, h4, rfl⟩ := h2
    left
    unfold sliced'
    rw [h4]
    have : l = 0 := by omega
    subst this
    exact ⟨rfl, rfl⟩
  · simp only [Value.slice.injEq, true_and] at e1
    obtain ⟨rfl, rfl⟩ := e1
    right
    unfold sliced'
    by_cases hc : cap = l
    · have hz0 : cap - l = 0 := by omega
      have hz : xs.length - l = 0 := by omega
      have hz1 : o ≤ cur.size := by omega
      rw [if_pos hc]
      refine ⟨g, o, cap - l, cur, rfl, e2, by omega, by omega, by rw [hz0, Nat.zero_mul]; exact hz1, ?_⟩
      rw [hz, Nat.zero_mul, List.take_zero, List.drop_of_length_le (by omega)]
      rfl
    · rw [if_neg hc]
      have hm : cap * t.size = l * t.size + (cap - l) * t.size := by rw [← Nat.add_mul]; congr 1; omega
      refine ⟨g, o + l * t.size, cap - l, cur, by simp [Addr.add_mid], e2, by omega, by omega, by omega, ?_⟩
      rw [flatMap_drop xs l hw, ← e6, List.drop_take, List.drop_drop, ← Nat.sub_mul]

theorem end_part {t : Ty} {e : TypeId} {xs ys : List t.den} {g o l h cap m m2 : Nat} (hl : l ≤ h) (hh : h ≤ xs.length) (hc : xs.length ≤ cap) (hy : ys.length = h - l) :
    endE (.rows m e t ys) (sliced' (some ⟨g, o, none⟩) l h cap t.size) ≤ endE (.rows m2 e t xs) (.slice (some ⟨g, o, none⟩) xs.length cap) ∧
      (h = xs.length → l < cap → endE (.rows m e t ys) (sliced' (some ⟨g, o, none⟩) l h cap t.size) = endE (.rows m2 e t xs) (.slice (some ⟨g, o, none⟩) xs.length cap)) := by
  unfold sliced'
  by_cases he : cap = l
  · rw [if_pos he]
    simp only [endE, hy]
    have : h - l = 0 := by omega
    rw [this]
    exact ⟨by omega, fun _ _ => by omega⟩
  · rw [if_neg he]
    simp only [Option.map_some, Addr.add_mid, endE, hy]
    have e2 : h * t.size = l * t.size + (h - l) * t.size := by rw [← Nat.add_mul]; congr 1; omega
    have e3 := Nat.mul_le_mul_right t.size hh
    exact ⟨by omega, fun e _ => by rw [← e]; omega⟩

theorem VR_mk_vec {B : Nat → Value} {id : Nat} {u : Value} (h : ∃ a n c, u = .slice a n c) : VR (upd B id u) (.vec id) u := by
  rw [VR_atom rfl rfl]
  exact ⟨(upd_self B id u).symm, h⟩

theorem VR_str' {B : Nat → Value} {s : List Int} {u : Value} (h : VR B (.str s) u) : byteL s ∧ u = .string (bst s) := (VR_atom rfl rfl).1 h

theorem blkR_ro {e : TypeId} {t : Ty} {xs : List t.den} {a : Option Addr} {n c b : Nat} (h : blkR (.rows 0 e t xs) (.slice a n c) = some b) : ∃ x, a = some x ∧ x.block = b ∧ xs ≠ [] := by
  cases xs with
  | nil => cases a <;> cases h
  | cons y ys =>
    cases a with
    | none => cases h
    | some x => simp only [blkR, Option.some.injEq] at h; exact ⟨x, rfl, h, by simp⟩

theorem blkR_rows {m : Nat} {e : TypeId} {t : Ty} {xs : List t.den} {a : Option Addr} {n c b : Nat} (h : blkR (.rows m e t xs) (.slice a n c) = some b) : ∃ x, a = some x ∧ x.block = b := by
  cases a with
  | none => cases m <;> cases xs <;> cases h
  | some x =>
    refine ⟨x, rfl, ?_⟩
    cases m <;> cases xs <;> simp_all [blkR]

theorem blkR_own {m : Nat} {e : TypeId} {t : Ty} {xs : List t.den} {x : Addr} {n c : Nat} : blkR (.rows (m + 1) e t xs) (.slice (some x) n c) = some x.block := by
  cases xs <;> rfl

theorem blkO_rows {m : Nat} {e : TypeId} {t : Ty} {xs : List t.den} {a : Option Addr} {n c b : Nat} (h : blkO (.rows (m + 1) e t xs) (.slice a n c) = some b) : ∃ x, a = some x ∧ x.block = b ∧ (m = 0 → n < c) := by
  cases a with
  | none => cases h
  | some x =>
    simp only [blkO] at h
    cases hc : (Nat.beq m 0 && Nat.ble c n) <;> simp only [hc, cond_true, cond_false, reduceCtorEq, Option.some.injEq] at h
    refine ⟨x, rfl, h, fun e => ?_⟩
    subst e
    simp only [Nat.beq_refl, Bool.true_and] at hc
    exact Nat.lt_of_not_le fun g => by rw [Nat.ble_eq_true_of_le g] at hc; cases hc

theorem blkO_mk {m : Nat} {e : TypeId} {t : Ty} {xs : List t.den} {x : Addr} {n c : Nat} (h : m = 0 → n < c) : blkO (.rows (m + 1) e t xs) (.slice (some x) n c) = some x.block := by
  simp only [blkO]
  cases hc : (Nat.beq m 0 && Nat.ble c n)
  · rfl
  · simp only [Bool.and_eq_true] at hc
    have := h (Nat.eq_of_beq_eq_true hc.1)
    have := Nat.le_of_ble_eq_true hc.2
    omega

theorem part_block {a : Option Addr} {l h cap s : Nat} {x : Addr} {n c : Nat} (hu : sliced' a l h cap s = .slice (some x) n c) : ∃ y, a = some y ∧ y.block = x.block := by
  unfold sliced' at hu
  simp only [Value.slice.injEq] at hu
  split at hu
  · exact ⟨x, hu.1, rfl⟩
  · cases a with
    | none => simp at hu
    | some y =>
      simp only [Option.map_some, Option.some.injEq] at hu
      refine ⟨y, rfl, ?_⟩
      rw [← hu.1]
      simp only [Addr.add]
      split <;> rfl

/-- An own row's base, if there is one. -/
theorem own_base {w : World} {e : TypeId} {size n : Nat} {v : Value} {cs : List Value} (h : OwnRow w e size v n cs) : ∃ a c, v = .slice a n c ∧ n ≤ c ∧ ∀ x, a = some x → ∃ g o, x = ⟨g, o, none⟩ := by
  obtain ⟨_, h2⟩ := h
  rcases h2 with ⟨h2, h3⟩ | ⟨g, o, cap, cur, e1, e2, e3, _⟩
  · exact ⟨none, 0, by rw [h2, h3], by omega, fun x hx => by cases hx⟩
  · exact ⟨_, cap, e1, e3, fun x hx => by cases hx; exact ⟨g, o, rfl⟩⟩

theorem vec_cap {B : Nat → Value} {v : Nat} {w : World} {m : Nat} {e : TypeId} {t : Ty} {xs : List t.den} {a : Option Addr} {n c : Nat} (hr : EntR B v w (.rows m e t xs)) (hB : B v = .slice a n c) : n = xs.length ∧ n ≤ c := by
  cases m with
  | zero =>
    obtain ⟨a', k, h1, _⟩ := hr
    rw [hB] at h1
    simp only [Value.slice.injEq] at h1
    exact ⟨h1.2.1, by omega⟩
  | succ m =>
    obtain ⟨a', c', h1, h2, _⟩ := own_base hr.1
    rw [hB] at h1
    simp only [Value.slice.injEq] at h1
    exact ⟨h1.2.1, by omega⟩

theorem part_ro {e : TypeId} {t : Ty} {xs : List t.den} {w : World} {B : Nat → Value} {v : Nat} {a : Option Addr} {cap l h : Nat} (hb : B v = .slice a xs.length cap) (hr : EntR B v w (.rows 0 e t xs)) (hl : l ≤ h) (hh : h ≤ xs.length) (hc : xs.length ≤ cap) :
    Part (.rows 0 e t xs) (.rows 0 e t xs) (.rows 0 e t ((xs.take h).drop l)) (B v) (sliced' a l h cap t.size) := by
  have hlen : ((xs.take h).drop l).length = h - l := by rw [List.length_drop, List.length_take]; omega
  have key : ∀ b, blkR (.rows 0 e t ((xs.take h).drop l)) (sliced' a l h cap t.size) = some b → blkR (.rows 0 e t xs) (B v) = some b := fun b hb' => by
    have hu : ∃ a' n c, sliced' a l h cap t.size = .slice a' n c := ⟨_, _, _, rfl⟩
    obtain ⟨a', n, c, hu⟩ := hu
    rw [hu] at hb'
    obtain ⟨x, rfl, hx, hne⟩ := blkR_ro hb'
    obtain ⟨y, rfl, hy⟩ := part_block hu
    rw [hb]
    cases xs with
    | nil => simp at hne
    | cons z zs => simp only [blkR]; rw [hy, hx]
  have hend : endE (.rows 0 e t ((xs.take h).drop l)) (sliced' a l h cap t.size) ≤ endE (.rows 0 e t xs) (B v) := by
    rw [hb]
    cases a with
    | none => unfold sliced'; split <;> exact Nat.zero_le _
    | some x =>
      obtain ⟨a', cap', e1, e2⟩ := hr
      rw [hb] at e1
      simp only [Value.slice.injEq, true_and] at e1
      obtain ⟨rfl, rfl⟩ := e1
      by_cases hz : xs.length = 0
      · have h0 : h = 0 := by omega
        have l0 : l = 0 := by omega
        subst h0; subst l0
        have hx : xs = [] := List.eq_nil_of_length_eq_zero hz
        subst hx
        unfold sliced'
        split
        · simp [endE]
        · simp only [Option.map_some, endE, Nat.zero_mul, List.take_zero, List.drop_zero, List.length_nil, Nat.add_zero]
          simp only [Addr.add]
          split <;> simp_all
      · obtain ⟨_, bl, o, h2, _⟩ := e2 0 xs[0] (by simp)
        cases h2
        exact (end_part hl hh hc hlen).1
  exact ⟨key, fun b hb' => hb', fun b hb' => by (rw [ro_noO rfl] at hb'; cases hb'), fun b hb' => by (rw [ro_noO rfl] at hb'; cases hb'), fun _ => ⟨rfl, rfl, hend, Nat.le_refl _⟩⟩

theorem part_tail {m : Nat} {e : TypeId} {t : Ty} {xs : List t.den} {w : World} {B : Nat → Value} {v : Nat} {a : Option Addr} {cap l : Nat} (hb : B v = .slice a xs.length cap) (ha : ∀ x, a = some x → ∃ g o, x = ⟨g, o, none⟩) (hl : l ≤ xs.length) (hc : xs.length ≤ cap) :
    Part (.rows (m + 1) e t xs) (.rows 0 e t xs) (.rows 1 e t (xs.drop l)) (B v) (sliced' a l xs.length cap t.size) := by
  have hlen : (xs.drop l).length = xs.length - l := List.length_drop
  have hu : ∃ a' n c, sliced' a l xs.length cap t.size = .slice a' n c := ⟨_, _, _, rfl⟩
  obtain ⟨a', n, c, hu⟩ := hu
  refine ⟨fun b hb' => ?_, fun b hb' => ?_, fun b hb' => ?_, fun b hb' => by (rw [ro_noO rfl] at hb'; cases hb'), fun h => by cases h⟩
  · rw [hu] at hb'
    obtain ⟨x, rfl, hx⟩ := blkR_rows hb'
    obtain ⟨y, rfl, hy⟩ := part_block hu
    rw [hb, blkR_own, hy, hx]
  · rw [hb] at hb' ⊢
    obtain ⟨x, rfl, hx, _⟩ := blkR_ro hb'
    rw [blkR_own, hx]
  · rw [hu] at hb'
    obtain ⟨x, rfl, hx, hlt⟩ := blkO_rows (m := 0) hb'
    obtain ⟨y, rfl, hy⟩ := part_block hu
    have hlt := hlt rfl
    have hn : n = xs.length - l ∧ c = cap - l := by
      have := hu; unfold sliced' at this; simp only [Value.slice.injEq] at this; exact ⟨this.2.1.symm, this.2.2.symm⟩
    obtain ⟨g, o, rfl⟩ := ha y rfl
    have he := (end_part (e := e) (m := 1) (m2 := 0) (xs := xs) (ys := xs.drop l) (g := g) (o := o) (cap := cap) hl (Nat.le_refl _) hc hlen).2 rfl (by omega)
    have he2 : endE (.rows (m + 1) e t xs) (B v) = endE (.rows 0 e t xs) (B v) := by rw [hb]; rfl
    refine ⟨?_, ⟨rfl, rfl, ?_⟩, fun _ => ?_⟩
    · rw [hb, blkO_mk (fun _ => by omega), hy, hx]
    · rw [hb, he]; exact Nat.le_refl _
    · rw [he2, hb, he]; exact Nat.le_refl _

theorem part_head {m : Nat} {e : TypeId} {t : Ty} {xs : List t.den} {w : World} {B : Nat → Value} {v : Nat} {a : Option Addr} {cap l h : Nat} (hb : B v = .slice a xs.length cap) (ha : ∀ x, a = some x → ∃ g o, x = ⟨g, o, none⟩) (hl : l ≤ h) (hh : h ≤ xs.length) (hc : xs.length ≤ cap) :
    Part (.rows (m + 1) e t xs) (.rows 1 e t xs) (.rows 0 e t ((xs.take h).drop l)) (B v) (sliced' a l h cap t.size) := by
  have hlen : ((xs.take h).drop l).length = h - l := by rw [List.length_drop, List.length_take]; omega
  have hu : ∃ a' n c, sliced' a l h cap t.size = .slice a' n c := ⟨_, _, _, rfl⟩
  obtain ⟨a', n, c, hu⟩ := hu
  refine ⟨fun b hb' => ?_, fun b hb' => ?_, fun b hb' => by (rw [ro_noO rfl] at hb'; cases hb'), fun b hb' => ?_, fun h => by cases h⟩
  · rw [hu] at hb'
    obtain ⟨x, rfl, hx⟩ := blkR_rows hb'
    obtain ⟨y, rfl, hy⟩ := part_block hu
    rw [hb, blkR_own, hy, hx]
  · rw [hb] at hb' ⊢
    obtain ⟨x, rfl, hx⟩ := blkR_rows hb'
    rw [blkR_own, hx]
  · rw [hb] at hb'
    obtain ⟨x, rfl, hx, hlt⟩ := blkO_rows (m := 0) hb'
    obtain ⟨g, o, rfl⟩ := ha x rfl
    refine ⟨?_, fun _ => ⟨rfl, by rw [hb]; exact Nat.le_refl _⟩, fun _ => ⟨rfl, rfl, ?_⟩⟩
    · rw [hb, blkO_mk (fun _ => hlt rfl), hx]
    · rw [hb]
      exact (end_part hl hh hc hlen).1

/-- An own row is one to look at. -/
theorem own_ro {B : Nat → Value} {v : Nat} {w : World} {m : Nat} {e : TypeId} {t : Ty} {xs : List t.den} (hr : EntR B v w (.rows (m + 1) e t xs)) : EntR B v w (.rows 0 e t xs) := by
  obtain ⟨h1, h2⟩ := hr
  have hv := vec_base (o := m + 1) (e := e) ⟨h1, h2⟩
  obtain ⟨a, c, e1, e2⟩ := hv
  refine ⟨a, c - xs.length, by rw [e1]; congr 1; have := (vec_cap (m := m + 1) (e := e) ⟨h1, h2⟩ e1).2; omega, fun j x hj => ?_⟩
  have hx := h2 x (List.mem_of_getElem? hj)
  obtain ⟨bl, o, rfl⟩ := e2 (by have := (List.getElem?_eq_some_iff.1 hj).1; omega)
  refine ⟨hx, bl, o, rfl, ?_, fun q y hq => ?_⟩
  · exact EntR_lt (e := .rows (m + 1) e t xs) (B := B) (i := v) ⟨h1, h2⟩ (by rw [e1, blkR_own])
  · have := h1.cell (b := bl) (o := o) (by rw [e1]; rfl) (j * t.size + q) y (flatMap_get xs j h2 hj hq)
    rw [← this]; congr 2; omega

theorem own_one {B : Nat → Value} {v : Nat} {w : World} {m m2 : Nat} {e : TypeId} {t : Ty} {xs : List t.den} (hr : EntR B v w (.rows (m + 1) e t xs)) : EntR B v w (.rows (m2 + 1) e t xs) := hr

theorem EntR_at {B : Nat → Value} {id : Nat} {w : World} {u : Value} {e : Ent} (hi : e.ids = []) (h : EntR (fun _ => u) id w e) : EntR (upd B id u) id w e :=
  EntR_congr (B := fun _ => u) (upd_self B id u).symm (fun j hj => by rw [hi] at hj; cases hj) h

theorem wf_part {t : Ty} {xs : List t.den} (h : ∀ x ∈ xs, wfT t x) (l h' : Nat) : ∀ x ∈ (xs.take h').drop l, wfT t x := fun x hx => h x (List.mem_of_mem_take (List.mem_of_mem_drop hx))

section
variable {R : Type}

theorem sliceK_ok {P : Program} {B : Nat → Value} {σ : St} {w : World} {d : Option Nat} {t : TypeId} {x : AV} {lo hi : Option AV} {u : Value} {lv hv : Option Value} {K : Eff → Option R} {r : R} (hh : HeapR B σ.heap w) (hxi : ∀ i ∈ x.ids, (look i σ.heap).isSome = true)
    (hx : VR B x u) (hlo : OptR B lo lv) (hhi : OptR B hi hv) (h : sliceK P σ.heap d t x lo hi K = some r) :
    ∃ ef, K ef = some r ∧ ∃ B' q, Post B σ w ef B' q w ∧ (Instr.sliceAt t u lv hv none).run P w = .ok q w := by
  unfold sliceK at h
  split at h
  · rename_i lo' hi' e1 e2
    have ol := loOf_ok hlo e1
    have oh := loOf_ok hhi e2
    split at h
    · rename_i ht
      split at h
      · rename_i s
        obtain ⟨hs, rfl⟩ := VR_str' hx
        obtain ⟨h, b1, b2, b3⟩ := bounds_ok h
        refine ⟨_, h, B, .string (bst (partL s lo' hi')), Post.pure hh ((VR_atom rfl rfl).2 ⟨by rw [partL_eq]; exact byteL_part hs _ _, rfl⟩) (fun j hj => by cases hj), ?_⟩
        rw [run_sliceAt_string w t _ _ _ _ ht]
        unfold Instr.slice
        rw [Sem.run_bind, run_underlying ht w]
        simp only [Result.andThen_ok, Option.isSome_none, Bool.false_eq_true, if_false, pure_bind, Sem.run_bind]
        rw [size_bst, b3 w false s.length lv hv (Nat.le_refl _) ol oh]
        simp only [Result.andThen_ok, Sem.run_pure]
        rw [bst_part, partL_eq]
      · cases h
    · rename_i e ht
      split at h
      · rename_i v d
        split at h
        · rename_i m e' ty xs hl
          split at h
          · rename_i inf hinf
            replace h := bif_eq_some h
            rcases h with ⟨h0, h⟩ | ⟨_, h⟩
            · simp only [Bool.and_eq_true] at h0
              have he := Nat.eq_of_beq_eq_true h0.1
              have hs := Nat.eq_of_beq_eq_true h0.2
              subst he
              split at h
              · rename_i hn
                obtain ⟨h, b1, b2, b3⟩ := bounds_ok h
                have hr := hh.ent v _ hl
                obtain ⟨a, cap, hB, hbase⟩ := vec_base hr
                rw [VR_vec hx, hB]
                have hcap : xs.length ≤ cap := (vec_cap hr hB).2
                have run : (Instr.sliceAt t (.slice a xs.length cap) lv hv none).run P w = .ok (sliced' a (loN lo') (hiN xs.length hi') cap ty.size) w := by
                  rw [run_sliceAt_slice w t _ _ _ _ (by unfold Program.elem; rw [ht])]
                  unfold Instr.slice
                  rw [Sem.run_bind, run_underlying ht w]
                  simp only [Result.andThen_ok, Sem.run_bind]
                  rw [b3 w true cap lv hv hcap ol oh]
                  simp only [Result.andThen_ok, Sem.run_bind]
                  rw [run_sizeOf' hinf w]
                  simp only [Result.andThen_ok, Sem.run_pure, hs]
                  rfl
                have hvec : VR (upd B (1000 + d) (sliced' a (loN lo') (hiN xs.length hi') cap ty.size)) (.vec (1000 + d)) (sliced' a (loN lo') (hiN xs.length hi') cap ty.size) := VR_mk_vec ⟨_, _, _, rfl⟩
                have hids : ∀ j ∈ (AV.vec (1000 + d)).ids, j = 1000 + d := fun j hj => by simpa [AV.ids] using hj
                split at h
                · refine ⟨_, h, upd B (1000 + d) (sliced' a (loN lo') (hiN xs.length hi') cap ty.size), _, ?_, run⟩
                  have hro : EntR (fun _ => sliced' a (loN lo') (hiN xs.length hi') cap ty.size) (1000 + d) w (.rows 0 e' ty (partL xs lo' hi')) := by
                    rw [partL_eq]
                    exact ro_part hB hr b1 b2 hcap
                  have hp := Post.part (rd := [v]) hh hn (Nat.le_add_right _ _) hl (part_ro (w := w) hB hr b1 b2 hcap) (by rw [← partL_eq]; exact EntR_at rfl hro) hr rfl rfl hvec hids
                  rw [← partL_eq] at hp
                  refine Post.wr_congr (fun i => ?_) hp
                  simp only [List.cons_append, List.nil_append, look_cons]
                  by_cases hid : i = 1000 + d
                  · rw [if_pos hid, if_pos hid]
                  · rw [if_neg hid, if_neg hid]
                    by_cases hiv : i = v
                    · rw [if_pos hiv, hiv, hl]
                    · rw [if_neg hiv]
                · rename_i m'
                  have hown := hr.1
                  obtain ⟨a', c', g1, g2, g3⟩ := own_base hown
                  rw [hB] at g1
                  cases g1
                  cases hi' with
                  | none =>
                    simp only at h
                    refine ⟨_, h, upd B (1000 + d) (sliced' a (loN lo') (hiN xs.length none) cap ty.size), _, ?_, run⟩
                    rw [partL_eq]
                    simp only [hiN, List.take_length] at *
                    refine Post.part hh hn (Nat.le_add_right _ _) hl (part_tail (w := w) hB g3 b1 hcap) (EntR_at rfl ?_) (own_ro hr) rfl rfl hvec hids
                    exact ⟨own_part hr.2 (hB ▸ hown) b1, fun x hx => hr.2 x (List.mem_of_mem_drop hx)⟩
                  | some hv' =>
                    simp only at h
                    refine ⟨_, h, upd B (1000 + d) (sliced' a (loN lo') (hiN xs.length (some hv')) cap ty.size), _, ?_, run⟩
                    rw [partL_eq]
                    refine Post.part hh hn (Nat.le_add_right _ _) hl (part_head (w := w) hB g3 b1 b2 hcap) (EntR_at rfl ?_) (own_one hr) rfl rfl hvec hids
                    exact ro_part hB (own_ro hr) b1 b2 hcap
              · cases h
            · cases h
          · cases h
        · cases h
      · cases h
    · rename_i n e ht
      split at h
      · rename_i p
        split at h
        · rename_i inf hinf
          split at h
          · rename_i e3
            have hb : boundsK n none hi' (K ⟨.asl p (hiN n hi') n, [], []⟩) = some r := by
              cases hi' with
              | none => exact h
              | some z => exact h
            obtain ⟨h, b1, b2, b3⟩ := bounds_ok hb
            obtain ⟨b, o, hb, rfl⟩ := VR_ptr hx
            cases lv with
            | some _ => exact ol.elim
            | none =>
              refine ⟨_, h, B, _, Post.pure hh (u := .slice (some ⟨b, o + p.st + dyOff p.dys, none⟩) (hiN n hi') n) ((VR_atom rfl rfl).2 ⟨b, o, hb, rfl⟩) (fun j hj => hxi j hj), ?_⟩
              unfold Instr.sliceAt
              rw [Sem.run_bind, run_underlying ht w]
              simp only [Result.andThen_ok, Instr.sureAddr, pure_bind, Sem.run_bind]
              rw [b3 w false n none hv (Nat.le_refl _) ol oh]
              simp only [Result.andThen_ok, Sem.run_bind]
              rw [run_sizeOf' hinf w]
              simp only [Result.andThen_ok, Sem.run_pure, loN, Nat.zero_mul, Nat.sub_zero, addr_add, Nat.add_zero, ite_self]
          · cases h
        · cases h
      · cases h
    · cases h
  · cases h

end

end Go.Proofs.YtkcdbbflelgbeaaDoor.Sy
