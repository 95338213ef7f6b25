/- Each operation of the machine Sy does what the model's does. -/
import Derived.Test.YtkgpjplncfginaaGreatDoorSy10
namespace Go.Proofs.YtkgpjplncfginaaGreatDoor.Sy
open Go
set_option linter.unusedVariables false
set_option linter.unusedSimpArgs false

theorem evO_ok {N : Nat} {B : Bz} {σ : St} {a : Act} {w : World} (hr : Rel N B σ a w) {x : Option Operand} {v : Option AV} (h : evO σ x = some v) : OptR B v (x.map a.eval) := by
  cases x with
  | none => simp only [evO, Option.some.injEq] at h; subst h; trivial
  | some x =>
    simp only [evO] at h
    split at h
    · rename_i u hu
      cases h
      exact (ev_ok hr hu).1
    · cases h

theorem Post.rds {B B' : Bz} {σ : St} {w w' : World} {val : AV} {wr : Heap} {rd rd' : List Nat} {u : Value} (h : Post B σ w ⟨val, wr, rd⟩ B' u w') : Post B σ w ⟨val, wr, rd'⟩ B' u w' :=
  ⟨h.vr, h.same, h.low, h.heap, h.fr, h.ids⟩

theorem frzParts_ok {B : Bz} {H : Heap} {w : World} {k : Nat} (hk : k ≤ 1) (hh : HeapR B H w) : ∀ {ps : List (Nat × AV)} {us : List (Nat × Value)}, All2 (fun p u => p.1 = u.1 ∧ VR B p.2 u.2) ps us → All2 (fun p u => p.1 = u.1 ∧ VR B p.2 u.2) (frzParts k H ps) us
  | [], [], _ => trivial
  | [], _ :: _, h => h.elim
  | _ :: _, [], h => h.elim
  | (i, v) :: ps, u :: us, ⟨⟨h1, h2⟩, h3⟩ => ⟨⟨h1, frzR_VR hk hh h2⟩, frzParts_ok hk hh h3⟩

theorem frzParts_ids {B : Bz} {H : Heap} {w : World} {k : Nat} (hk : k ≤ 1) (hh : HeapR B H w) : ∀ {ps : List (Nat × AV)} {p : Nat × AV}, p ∈ frzParts k H ps → ∀ i ∈ p.2.ids, ∃ q ∈ ps, i ∈ q.2.ids
  | [], p, h, _, _ => by cases h
  | (i, v) :: ps, p, h, j, hj => by
    simp only [frzParts, List.mem_cons] at h
    rcases h with rfl | h
    · exact ⟨(i, v), by simp, (frzR_ok hk hh).2.2.1 j hj⟩
    · obtain ⟨q, h1, h2⟩ := frzParts_ids hk hh h j hj
      exact ⟨q, by simp [h1], h2⟩

theorem frzParts_len (k : Nat) (H : Heap) : ∀ (ps : List (Nat × AV)), (frzParts k H ps).length = ps.length
  | [] => rfl
  | _ :: ps => congrArg (· + 1) (frzParts_len k H ps)

theorem norm_VR {B : Bz} {t : Ty} {v : AV} {x : Value} (h : VR B v x) : VR B (normT t v) x := by
  by_cases ht : v.isTup = true
  · have : normT t v = v := by cases t <;> cases v <;> first | rfl | cases ht
    rw [this]; exact h
  · have ht : v.isTup = false := by simpa using ht
    have ha : (normT t v).isAgg = v.isAgg := by cases t <;> cases v <;> rfl
    refine VR_of_VR0 ?_ (by rw [isTup_norm]; exact ht)
    have h := VR0_of_VR h ht
    unfold VR0 at h ⊢
    rw [ha]
    split
    · rename_i hg
      rw [if_pos hg] at h
      obtain ⟨cs, h1, h2⟩ := h
      exact ⟨cs, CR_norm t v cs h1, h2⟩
    · rename_i hg
      rw [if_neg hg] at h
      have h2 := CR_norm t v [x] (CR_of_AR h)
      obtain ⟨y, e, hy⟩ := AR_of_CR (by rw [ha]; simpa using hg) h2
      cases e
      exact hy

theorem frzArgs_ok {P : Program} {B : Bz} {H : Heap} {w : World} (hh : HeapR B H w) : ∀ {ts : List TypeId} {as : List AV} {vs : List Value}, All2 (VR B) as vs → All2 (VR B) (frzArgs P H ts as) vs
  | ts, [], [], _ => by cases ts <;> trivial
  | _, [], _ :: _, h => h.elim
  | _, _ :: _, [], h => h.elim
  | [], a :: as, v :: vs, ⟨h1, h2⟩ => ⟨by
      cases a.isAgg
      · exact h1
      · exact frzR_VR (Nat.le_refl _) hh h1, frzArgs_ok hh h2⟩
  | t :: ts, a :: as, v :: vs, ⟨h1, h2⟩ => ⟨by
      cases a.isAgg
      · exact h1
      · simp only [cond_true]
        split
        · exact norm_VR (frzR_VR (Nat.le_refl _) hh h1)
        · exact frzR_VR (Nat.le_refl _) hh h1, frzArgs_ok hh h2⟩

theorem DRs_strs {z : Frz} : ∀ {l : List (List Int)}, (∀ s ∈ l, byteL s) → @RsR (List Int) (DR z .str) l (l.map fun s => Value.string (bst s))
  | [], _ => rfl
  | s :: l, h => ⟨[.string (bst s)], _, rfl, ⟨h s (by simp), rfl⟩, DRs_strs (fun x hx => h x (by simp [hx]))⟩

theorem fz_partL {z : Frz} {v : Value} {t : Ty} {xs : List t.den} {a : Option Addr} {cap : Nat} {lo hi : Option Int} (hb : v = .slice a xs.length cap) (hr : FzR z (DR z t) xs v) (hl : loN lo ≤ hiN xs.length hi) (hh : hiN xs.length hi ≤ xs.length) (hc : xs.length ≤ cap) :
    FzR z (DR z t) (partL xs lo hi) (sliced' a (loN lo) (hiN xs.length hi) cap t.size) := by
  rw [partL_eq]
  exact fz_part hb hr hl hh hc

theorem sliceG_ok {R : Type} {P : Program} {E : Env} {B : Bz} {σ : St} {w : World} {d : Option Nat} {t : TypeId} {gg : Nat} {lo hi : Option AV} {u : Value} {lv hv : Option Value} {K : Eff → Option R} {r : R} (hh : HeapR B σ.heap w)
    (hx : VR B (.gptr gg 0 []) u) (hlo : OptR B lo lv) (hhi : OptR B hi hv) (h : sliceG P E σ.heap d t gg lo hi K = some r) :
    ∃ ef, K ef = some r ∧ ∃ B' q, Post B σ w ef B' q w ∧ (Instr.sliceAt t u lv hv none).run P w = .ok q w := by
  unfold sliceG at h
  split at h
  · rename_i d n e ht
    split at h
    · rename_i inf hinf
      split at h
      · rename_i i hgi
        split at h
        · rename_i g' ty x hl
          split at h
          · rename_i hn
            split at h
            · rename_i lo' hi' e1 e2
              have ol := loOf_ok hlo e1
              have oh := loOf_ok hhi e2
              replace h := bif_eq_some h
              rcases h with ⟨hc, h⟩ | ⟨_, h⟩
              · simp only [Bool.and_eq_true] at hc
                obtain ⟨⟨⟨c1, c2⟩, c3⟩, c4⟩ := hc
                have c1 := Nat.eq_of_beq_eq_true c1; have c3 := Nat.eq_of_beq_eq_true c3; have c4 := Nat.eq_of_beq_eq_true c4
                subst c1
                subst c3
                obtain ⟨h, b1, b2, b3⟩ := bounds_ok h
                obtain rfl := VR_gptr hx
                obtain ⟨_, cs, hd, hz⟩ := hh.ent i _ hl
                obtain ⟨hcs, hby⟩ := DR_strs ty x cs c2 hd
                have hfull : FzR B.z (DR B.z .str) (strsL ty x) (.slice (some ⟨g', 0, none⟩) (strsL ty x).length (strsL ty x).length) :=
                  ⟨some ⟨g', 0, none⟩, 0, (strsL ty x).map (fun s => Value.string (bst s)), rfl, fun _ => ⟨g', 0, rfl⟩, DRs_strs hby, fun j y hj => ⟨g', 0, rfl, by rw [Nat.zero_add]; exact hz j y (by rw [hcs]; exact hj)⟩⟩
                have hpart := fz_partL (t := .str) (lo := lo') (hi := hi') rfl hfull b1 b2 (Nat.le_refl _)
                have hp := Post.row (rd := [i]) (e := e) (t := .str) hh hn (Nat.le_add_right 1000 d) hpart
                refine ⟨_, h, _, _, hp, ?_⟩
                unfold Instr.sliceAt
                rw [Sem.run_bind, run_underlying ht w]
                simp only [Result.andThen_ok, Instr.sureAddr, pure_bind, Sem.run_bind]
                rw [b3 w false (strsL ty x).length lv hv (Nat.le_refl _) ol oh]
                simp only [Result.andThen_ok, Sem.run_bind]
                rw [run_sizeOf' hinf w]
                simp only [Result.andThen_ok, Sem.run_pure, sliced', c4, Option.map_some, Nat.zero_add, dyOff]
                split <;> rfl
              · cases h
            · cases h
          · cases h
        · cases h
      · cases h
    · cases h
  · cases h

theorem op_ok {P : Program} {E : Env} {N : Nat} (hE : ∀ f, ∀ c ∈ E.fn f, CalleeOK P f c) {o : Oper} {σ : St} {ef : Eff} (h : opK P E o σ some = some ef) : OpOK P N o σ ef := by
  obtain ⟨dst, op, type, pos, after, guard⟩ := o
  unfold opK at h
  simp only at h
  split at h
  · -- move
    split at h
    · rename_i x v hv
      cases h
      refine .of_pure fun B a w hr => ?_
      obtain ⟨h1, h2⟩ := ev_ok hr hv
      exact ⟨_, h1, h2, rfl⟩
    · cases h
  · split at h
    · rename_i x v hv
      cases h
      refine .of_pure fun B a w hr => ?_
      obtain ⟨h1, h2⟩ := ev_ok hr hv
      exact ⟨_, h1, h2, rfl⟩
    · cases h
  · -- pick
    rename_i c x y
    split at h
    · rename_i t ht
      have run : ∀ {B : Bz} {a : Act} {w : World}, Rel N B σ a w → (execOp a.eval { dst, op := .pick c x y, type, pos, after, guard }).run P w = .ok (.value (if t then a.eval x else a.eval y)) w := fun hr => by
        have := VR_bool (ev_ok hr ht).1
        simp only [execOp, this, asBool, pure_bind]
        rfl
      replace h := bif_eq_some h
      rcases h with ⟨rfl, h⟩ | ⟨rfl, h⟩
      · split at h
        · rename_i v hv
          cases h
          refine .of_pure fun B a w hr => ?_
          obtain ⟨h1, h2⟩ := ev_ok hr hv
          exact ⟨_, h1, h2, run hr⟩
        · cases h
      · split at h
        · rename_i v hv
          cases h
          refine .of_pure fun B a w hr => ?_
          obtain ⟨h1, h2⟩ := ev_ok hr hv
          exact ⟨_, h1, h2, run hr⟩
        · cases h
    · cases h
  · -- alloc
    rename_i t
    split at h
    · rename_i d
      split at h
      · rename_i z hz
        split at h
        · rename_i hl
          cases h
          obtain ⟨i, zv, hi, hzv, hzi, hzt, hzc⟩ := zeroA_ok hz
          refine .of_value fun B a w hr => ⟨_, _, _, Post.new (cs := zv.cells) (ty := t) hr.heap hl (by omega) (hzc B) (fun i hi => by rw [hzi] at hi; cases hi), run_v (run_alloc' hi hzv w)⟩
        · cases h
      · cases h
    · cases h
  · -- box
    rename_i t x
    split at h
    · rename_i d
      split at h
      · rename_i v hv
        split at h
        · rename_i hl
          replace h := bif_eq_some h
          rcases h with ⟨_, h⟩ | ⟨ht, h⟩
          · cases h
          · cases h
            refine .of_value fun B a w hr => ?_
            obtain ⟨h1, h2⟩ := ev_ok hr hv
            exact ⟨_, _, _, Post.new (ty := t) hr.heap hl (by omega) (VR0_cells (VR0_of_VR h1 ht)) h2, run_v (run_box' w)⟩
        · cases h
      · cases h
    · cases h
  · -- build
    rename_i t parts
    split at h
    · rename_i ps hps
      split at h
      · rename_i v hv
        cases h
        refine .of_pure fun B a w hr => ?_
        obtain ⟨h1, h2⟩ := evParts_ok hr hps
        obtain ⟨h3, q, h4, h5⟩ := buildK_ok (frzParts_ok (Nat.zero_le _) hr.heap h1) hv w
        refine ⟨q, h4, fun i hi => ?_, run_v ?_⟩
        · obtain ⟨p, hp, hi⟩ := h3 i hi
          obtain ⟨p', hp', hi⟩ := frzParts_ids (Nat.zero_le _) hr.heap hp i hi
          exact h2 p' hp' i hi
        · have : (Array.map (fun p : Nat × Operand => (p.1, a.eval p.2)) parts) = (parts.toList.map fun p => (p.1, a.eval p.2)).toArray := by apply Array.ext'; simp
          rw [← this] at h5
          exact h5
      · cases h
    · cases h
  · -- buildSlice
    rename_i t n parts
    split at h
    · rename_i d
      split at h
      · rename_i ps hps
        split at h
        · rename_i e hu
          split at h
          · rename_i ty hty
            split at h
            · rename_i inf hi
              split at h
              · rename_i z hz
                replace h := bif_eq_some h
                rcases h with ⟨hc, h⟩ | ⟨_, h⟩
                · simp only [Bool.and_eq_true] at hc
                  obtain ⟨⟨⟨⟨⟨h1, h2⟩, h3⟩, h4⟩, h5⟩, h6⟩ := hc
                  have h1 := Nat.eq_of_beq_eq_true h1; have h2 := Nat.eq_of_beq_eq_true h2; have h3 := blt_lt h3; have h4 := Nat.eq_of_beq_eq_true h4
                  have h5 := blt_lt h5; have h6 := blt_lt h6
                  split at h
                  · rename_i xs hxs
                    split at h
                    · rename_i hl
                      cases h
                      refine .of_value fun B a w hr => ?_
                      obtain ⟨p1, p2⟩ := evParts_ok hr hps
                      obtain ⟨q1, rs, q2, q3⟩ := decAll_ok (frzParts_ok (Nat.le_refl _) hr.heap p1) hxs
                      rw [frzParts_len] at q1 q3
                      obtain ⟨zz, hzz⟩ : ∃ zz : Array Value, zz = if n * ty.size = 0 then #[] else z.cells := ⟨_, rfl⟩
                      obtain ⟨out, q4, q5⟩ := q3 ((Array.range (n * ty.size)).map (zz[· % zz.size]!)) (by simp [h4])
                      have hout : out.toList = rs := by
                        rw [q5, Nat.zero_mul, splice_all]
                        rw [DRs.length q2, q1, h4]; simp
                      have hxl : xs.length = n := by rw [q1, h4]
                      refine ⟨_, _, _, Post.newRows (e := e) hr.heap hl (by omega) (by rw [hout]; exact q2) (by unfold maxLen; omega), run_v ?_⟩
                      unfold Instr.buildSlice
                      rw [Sem.run_bind, run_underlying hu w]
                      simp only [Result.andThen_ok]
                      rw [Sem.run_bind, run_sizeOf' hi w]
                      simp only [Result.andThen_ok, h1]
                      have hm : n * ty.size ≤ 10000 * 1000 := Nat.mul_le_mul (by omega) (by omega)
                      rw [if_neg (by omega)]
                      have hparts : (Array.map (fun p : Nat × Operand => (p.1, a.eval p.2)) parts).toList = parts.toList.map fun p => (p.1, a.eval p.2) := by simp
                      by_cases hz0 : n * ty.size = 0
                      · rw [if_pos hz0] at hzz ⊢
                        subst hzz
                        rw [pure_bind]
                        rw [show (Array.map (fun (x : Nat × Operand) => (x.1, a.eval x.2)) parts).toList = parts.toList.map fun p => (p.1, a.eval p.2) from hparts]
                        rw [q4]
                        simp only [hxl]
                        rfl
                      · rw [if_neg hz0] at hzz ⊢
                        subst hzz
                        rw [Sem.run_bind, run_zeroValue hi hz w]
                        simp only [Result.andThen_ok, pure_bind]
                        rw [show (Array.map (fun (x : Nat × Operand) => (x.1, a.eval x.2)) parts).toList = parts.toList.map fun p => (p.1, a.eval p.2) from hparts]
                        rw [q4]
                        simp only [hxl]
                        rfl
                    · cases h
                  · cases h
                · cases h
              · cases h
            · cases h
          · cases h
        · cases h
      · cases h
    · cases h
  · -- load
    rename_i t x
    split at h
    · rename_i p hp
      split at h
      · rename_i n g ht
        split at h
        · rename_i e he
          rw [loadE_nat] at h
          obtain ⟨v, hv, h2⟩ := Option.bind_eq_some_iff.1 h
          refine .of_value fun B a w hr => ?_
          obtain ⟨h1, _⟩ := ev_ok hr hp
          obtain ⟨u, hk, _, hi, q, h3, h4⟩ := load_op hr.heap h1 ht he hv
          cases hk
          obtain ⟨ef', hk, B', hp⟩ := rowK_ok hr.heap h3 hi h2
          cases hk
          exact ⟨B', q, w, hp, run_v h4⟩
        · cases h
      · cases h
    · rename_i gg st dys hp
      split at h
      · rename_i n g ht
        split at h
        · rename_i i hgi
          split at h
          · rename_i g' ty x0 he
            replace h := bif_eq_some h
            rcases h with ⟨hc, h⟩ | ⟨_, h⟩
            · have hc := Nat.eq_of_beq_eq_true hc
              subst hc
              rw [globK_nat] at h
              obtain ⟨v, hv, h2⟩ := Option.bind_eq_some_iff.1 h
              refine .of_value fun B a w hr => ?_
              obtain ⟨h1, _⟩ := ev_ok hr hp
              obtain ⟨u, hk, _, hi, q, h3, h4⟩ := loadG_op hr.heap h1 ht he hv
              cases hk
              obtain ⟨ef', hk, B', hp⟩ := rowK_ok hr.heap h3 hi h2
              cases hk
              exact ⟨B', q, w, hp, run_v h4⟩
            · cases h
          · cases h
        · cases h
      · cases h
    · cases h
  · -- store
    rename_i t x y
    split at h
    · rename_i p hp
      split at h
      · rename_i u hu
        split at h
        · rename_i n g ht
          replace h := bif_eq_some h
          rcases h with ⟨hc, h⟩ | ⟨_, h⟩
          · simp only [Bool.and_eq_true, Bool.not_eq_true'] at hc
            split at h
            · rename_i e he
              refine .of_skip fun B a w hr => ?_
              obtain ⟨h1, _⟩ := ev_ok hr hp
              obtain ⟨h2, h3⟩ := ev_ok hr hu
              obtain ⟨f1, f2, f3, _⟩ := frzR_ok (Nat.zero_le 1) hr.heap (v := u)
              obtain ⟨e', hk, w', h4, h5⟩ := store_op hr.heap h1 (frzR_VR (Nat.zero_le 1) hr.heap h2) (fun j hj => h3 j (f3 j hj)) ht (by rw [frzR_size]; exact Nat.eq_of_beq_eq_true hc.1) (by rw [f2]; exact hc.2) he h
              cases hk
              exact ⟨B, w', h4.rds, run_u h5⟩
            · cases h
          · cases h
        · cases h
      · cases h
    · cases h
  · -- nilCheck
    rename_i x
    split at h
    · rename_i p hp
      cases h
      refine .of_pure fun B a w hr => ?_
      obtain ⟨h1, h2⟩ := ev_ok hr hp
      refine ⟨_, h1, h2, ?_⟩
      obtain ⟨b, o, _, e⟩ := VR_ptr h1
      simp only [execOp, e]
      rfl
    · rename_i gg st dys hp
      cases h
      refine .of_pure fun B a w hr => ?_
      obtain ⟨h1, h2⟩ := ev_ok hr hp
      refine ⟨_, h1, h2, ?_⟩
      simp only [execOp, VR_gptr h1]
      rfl
    · cases h
  · -- binOp
    rename_i op' t x y yt
    split at h
    · rename_i u hu
      split at h
      · rename_i v hv
        rw [binK_nat] at h
        obtain ⟨z, hz, h2⟩ := Option.bind_eq_some_iff.1 h
        cases h2
        refine .of_pure fun B a w hr => ?_
        obtain ⟨h1, _⟩ := ev_ok hr hu
        obtain ⟨h2, _⟩ := ev_ok hr hv
        obtain ⟨z', hk, hi, q, h3, h4⟩ := binK_ok (a := x) (b := y) h1 h2 hz w
        cases hk
        exact ⟨q, h3, fun i hm => (by rw [hi] at hm; cases hm), run_v h4⟩
      · cases h
    · cases h
  · -- unOp
    rename_i op' t x
    split at h
    · rename_i u hu
      rw [unK_nat] at h
      obtain ⟨z, hz, h2⟩ := Option.bind_eq_some_iff.1 h
      cases h2
      refine .of_pure fun B a w hr => ?_
      obtain ⟨h1, _⟩ := ev_ok hr hu
      obtain ⟨z', hk, hi, q, h3, h4⟩ := unK_ok (P := P) h1 hz w
      cases hk
      exact ⟨q, h3, fun i hm => (by rw [hi] at hm; cases hm), run_v h4⟩
    · cases h
  · -- convert
    rename_i s d x
    split at h
    · rename_i u hu
      obtain ⟨z, rd, rfl⟩ : ∃ z rd, ef = ⟨z, [], rd⟩ := by
        unfold convK at h
        split at h
        · split at h
          · split at h
            · cases h; exact ⟨_, _, rfl⟩
            · cases h
          · cases h
        · split at h
          · split at h
            · split at h
              · replace h := bif_eq_some h
                rcases h with ⟨_, h⟩ | ⟨_, h⟩
                · rw [bytesK_nat] at h
                  obtain ⟨xs, _, h⟩ := Option.bind_eq_some_iff.1 h
                  cases h; exact ⟨_, _, rfl⟩
                · cases h
              · cases h
            · cases h
          · cases h
      refine .of_pure fun B a w hr => ?_
      obtain ⟨h1, _⟩ := ev_ok hr hu
      obtain ⟨z', rd', hk, hi, q, h3, h4⟩ := convK_ok hr.heap h1 h
      cases hk
      exact ⟨q, h3, fun i hm => (by rw [hi] at hm; cases hm), run_v h4⟩
    · cases h
  · -- fieldAddr
    rename_i s x f
    split at h
    · rename_i u hu
      rw [fieldK_nat] at h
      obtain ⟨z, hz, h2⟩ := Option.bind_eq_some_iff.1 h
      cases h2
      refine .of_pure fun B a w hr => ?_
      obtain ⟨h1, h1'⟩ := ev_ok hr hu
      obtain ⟨z', hk, hi, q, h3, h4⟩ := fieldK_ok h1 hz w
      cases hk
      exact ⟨q, h3, fun i hm => h1' i (by rw [← hi]; exact hm), run_v h4⟩
    · cases h
  · -- indexAddr
    rename_i t x i
    split at h
    · rename_i u hu
      split at h
      · rename_i j hj
        obtain ⟨z, rd, rfl⟩ : ∃ z rd, ef = ⟨z, [], rd⟩ := by
          unfold indexK at h
          (repeat' split at h) <;> first | (cases h; done) | (replace h := bif_eq_some h; rcases h with ⟨_, h⟩ | ⟨_, h⟩ <;> first | (cases h; done) | (replace h := bif_eq_some h; rcases h with ⟨_, h⟩ | ⟨_, h⟩ <;> cases h; exact ⟨_, _, rfl⟩))
        refine .of_pure fun B a w hr => ?_
        obtain ⟨h1, h1'⟩ := ev_ok hr hu
        obtain ⟨h2, _⟩ := ev_ok hr hj
        obtain ⟨z', rd', hk, hi, q, h3, h4⟩ := indexK_ok hr.heap h1' h1 h2 h
        cases hk
        exact ⟨q, h3, hi, run_v h4⟩
      · cases h
    · cases h
  · -- index
    rename_i t x i
    split at h
    · rename_i u hu
      split at h
      · rename_i j hj
        rw [indexVK_nat] at h
        obtain ⟨z, hz, h2⟩ := Option.bind_eq_some_iff.1 h
        cases h2
        refine .of_pure fun B a w hr => ?_
        obtain ⟨h1, _⟩ := ev_ok hr hu
        obtain ⟨h2, _⟩ := ev_ok hr hj
        obtain ⟨z', hk, hi, q, h3, h4⟩ := indexVK_ok h1 h2 hz w
        cases hk
        exact ⟨q, h3, fun i hm => (by rw [hi] at hm; cases hm), run_v h4⟩
      · cases h
    · cases h
  · -- slice
    rename_i t x lo hi mx
    split at h
    · cases h
    · split at h
      · rename_i u hu
        split at h
        · rename_i l hl
          split at h
          · rename_i hh' hhi
            refine .of_value fun B a w hr => ?_
            obtain ⟨h1, h1'⟩ := ev_ok hr hu
            split at h
            · obtain ⟨ef', hk, B', q, h2, h3⟩ := sliceG_ok hr.heap h1 (evO_ok hr hl) (evO_ok hr hhi) h
              cases hk
              exact ⟨B', q, w, h2, run_v h3⟩
            · obtain ⟨ef', hk, B', q, h2, h3⟩ := sliceK_ok hr.heap h1' h1 (evO_ok hr hl) (evO_ok hr hhi) h
              cases hk
              exact ⟨B', q, w, h2, run_v h3⟩
          · cases h
        · cases h
      · cases h
  · -- field
    rename_i t x f
    split at h
    · rename_i u hu
      rw [fieldVK_nat] at h
      obtain ⟨z, hz, h2⟩ := Option.bind_eq_some_iff.1 h
      refine .of_value fun B a w hr => ?_
      obtain ⟨h1, h1'⟩ := ev_ok hr hu
      obtain ⟨z', hk, hi, q, h3, h4⟩ := fieldVK_ok h1 hz w
      cases hk
      obtain ⟨ef', hk, B', hp⟩ := rowK_ok hr.heap h3 (fun i hm => h1' i (hi i hm)) h2
      cases hk
      exact ⟨B', q, w, hp, run_v h4⟩
    · cases h
  · -- makeSlice
    rename_i t l c
    split at h
    · rename_i u hu
      split at h
      · rename_i v hv
        refine .of_value fun B a w hr => ?_
        obtain ⟨ef', hk, B', q, w', h2, h3⟩ := makeSliceK_ok hr.heap (ev_ok hr hu).1 (ev_ok hr hv).1 h
        cases hk
        exact ⟨B', q, w', h2, run_v h3⟩
      · cases h
    · cases h
  · -- range
    rename_i t x
    split at h
    · rename_i u hu
      refine .of_value fun B a w hr => ?_
      obtain ⟨ef', hk, B', q, w', h2, h3⟩ := rangeK_ok hr.heap (ev_ok hr hu).1 h
      cases hk
      exact ⟨B', q, w', h2, run_v h3⟩
    · cases h
  · -- next
    rename_i x s
    split at h
    · rename_i u hu
      replace h := bif_eq_some h
      rcases h with ⟨rfl, h⟩ | ⟨_, h⟩
      · refine .of_value fun B a w hr => ?_
        obtain ⟨ef', hk, B', q, w', h2, h3⟩ := nextK_ok (ty := type) hr.heap (ev_ok hr hu).1 h
        cases hk
        exact ⟨B', q, w', h2, run_v h3⟩
      · cases h
    · cases h
  · -- extract
    rename_i x i
    split at h
    · rename_i u hu
      split at h
      · rename_i z hz
        cases h
        refine .of_pure fun B a w hr => ?_
        obtain ⟨h1, h1'⟩ := ev_ok hr hu
        obtain ⟨h2, h3, q, h4, h5⟩ := nthT_ok (P := P) h1 hz w
        exact ⟨q, VR_of_VR0 h4 h2, fun j hj => h1' j (h3 j hj), run_v h5⟩
      · cases h
    · cases h
  · -- call
    rename_i c
    split at h
    · rename_i args hargs
      have hmap : ∀ (ρ : Operand → Value), c.args.map ρ = (c.args.toList.map ρ).toArray := fun ρ => by apply Array.ext'; simp
      split at h
      · rename_i b hb
        refine .of_value fun B a w hr => ?_
        obtain ⟨h1, _⟩ := evAll_ok hr hargs
        obtain ⟨B', u, w', e3, e4⟩ := builtinK_ok (P := P) hr.heap h1 h type _
        refine ⟨B', u, w', e3, ?_⟩
        simp only [execOp, resolve, hb, pure_bind, invoke]
        rw [hmap]
        exact e4
      · rename_i x hf
        split at h
        case h_2 => cases h
        rename_i f hx
        intro B a w hr K Q hK
        obtain ⟨h1, _⟩ := evAll_ok hr hargs
        have hev : a.eval x = .func (.func f) #[] #[] := by
          have := (VR_atom (B := B) (v := .fn f) rfl rfl).1 (ev_ok hr hx).1
          exact this
        have hrun : execOp a.eval { dst, op := .call c, type, pos, after, guard } = callFunc f (c.args.toList.map a.eval).toArray := by
          simp only [execOp, resolve, hf, hev, Deferred.ofValue, pure_bind, invoke, hmap]
          simp
        rw [callK_nat] at h
        obtain ⟨ef0, hcall, he0⟩ := Option.bind_eq_some_iff.1 h
        cases he0
        unfold Oper.wp
        rw [hrun]
        rcases callK_ok hE hr.heap (frzArgs_ok hr.heap h1) hcall with ⟨u, hp, he⟩ | ⟨he, hc⟩
        · rw [he]; exact hK B u w (Post.rds (rd := ef0.rd) hp)
        · rw [he]
          refine hc.mono fun e w' => ?_
          rintro ⟨u, B', rfl, hp⟩
          exact hK B' u w' (Post.rds (rd := ef0.rd) hp)
      · cases h
    · cases h
  · cases h

end Go.Proofs.YtkgpjplncfginaaGreatDoor.Sy
