/- The operations of the machine Sx do what the model's operations do: the theorem. -/
import Derived.Test.YtjciljaojcekeaaSx8
namespace Go.Proofs.Ytjciljaojcekeaa.Sx
open Go
set_option linter.unusedVariables false
set_option linter.unusedSimpArgs false

theorem pickC_mem {args : List AV} {L : Heap} : ∀ {l : List Callee} {c : Callee}, pickC args L l = some c → c ∈ l
  | .ext T run val :: r, c, h => by
    simp only [pickC, Option.some.injEq] at h
    subst h; exact List.mem_cons_self ..
  | .go T ok run val wr :: r, c, h => by
    simp only [pickC] at h
    replace h := bif_eq_some h
    rcases h with ⟨_, h⟩ | ⟨_, h⟩
    · simp only [Option.some.injEq] at h
      subst h; exact List.mem_cons_self ..
    · exact List.mem_cons_of_mem _ (pickC_mem h)

theorem callK_ok {P : Program} {E : Env} (hE : ∀ f, ∀ c ∈ E.fn f, CalleeOK P f c) {B : Nat → Value} {σ : St} {w : World} {f : FuncId} {args : List AV} {vs : List Value} {ef : Eff}
    (hh : HeapR B σ.heap w) (ha : All2 (VR B) args vs) (h : callK E σ.heap f args some = some ef) :
    (∃ u, Post B σ w ef B u w ∧ (callFunc f vs.toArray).run P w = .ok (.value u) w) ∨
    ((callFunc f vs.toArray).run P w = .ok (.enter f vs.toArray) w ∧ Calls P f vs.toArray w (fun e w' => ∃ u, e = .returned u ∧ Post B σ w ef B u w')) := by
  unfold callK at h
  simp only at h
  split at h
  · rename_i L hL
    split at h
    · rename_i T run val hg
      replace h := bif_eq_some h
      rcases h with ⟨_, h⟩ | ⟨_, h⟩
      · obtain ⟨t, h1, h⟩ := Option.bind_eq_some_iff.1 h
        replace h := bif_eq_some h
        rcases h with ⟨h2, h⟩ | ⟨_, h⟩
        · cases h
          obtain ⟨u, hu, hrun⟩ := hE f _ (pickC_mem hg) args t h1 B vs w ha
          exact .inl ⟨u, Post.pure hh hu (fun i hi => by rw [List.isEmpty_iff.1 h2] at hi; cases hi), hrun⟩
        · cases h
      · cases h
    · rename_i T okf run val wrf hg
      replace h := bif_eq_some h
      rcases h with ⟨hlen, h⟩ | ⟨_, h⟩
      · obtain ⟨hcall, hgo⟩ := hE f _ (pickC_mem hg)
        obtain ⟨t, ht, h1⟩ := Option.bind_eq_some_iff.1 h
        have hsem := hgo _ _ _ ht
        replace h1 := bif_eq_some h1
        rcases h1 with ⟨hc, h1⟩ | ⟨_, h1⟩
        · simp only [Bool.and_eq_true] at hc
          obtain ⟨hv, hback⟩ := hc
          simp only [Option.some.injEq] at h1
          subst h1
          generalize val (renAll (fun i => idxN i (uniq (idsAll args))) args) L t = v at *
          generalize wrf (renAll (fun i => idxN i (uniq (idsAll args))) args) L t = wr at *
          right
          refine ⟨hcall _ _, ?_⟩
          have hlen : (uniq (idsAll args)).length < 1000 := blt_lt hlen
          generalize hids : uniq (idsAll args) = ids at *
          have hnd : ids.Nodup := by rw [← hids]; exact nodup_uniq _
          have hmem : ∀ x, x ∈ ids ↔ x ∈ idsAll args := fun x => by rw [← hids]; exact mem_uniq
          obtain ⟨hl1, hl2⟩ := localH_ok hL
          have hπ : ∀ j i, ids[j]? = some i → ids.getD j 0 = i := fun j i h => by simp [List.getD, h]
          have hπρ : ∀ i ∈ ids, ids.getD (idxN i ids) 0 = i := fun i h => hπ _ _ (getElem?_idxN h)
          have hinj : ∀ a b, a < ids.length → b < ids.length → ids.getD a 0 = ids.getD b 0 → a = b := fun a b ha hb e => by
            have ha' : ids[a]? = some (ids.getD a 0) := by simp [List.getD, ha]
            have hb' : ids[b]? = some (ids.getD b 0) := by simp [List.getD, hb]
            rw [← idxN_of hnd ha', ← idxN_of hnd hb', e]
          have hloc : ∀ j, j < ids.length → ∃ e, look (ids.getD j 0) σ.heap = some e ∧ look j L = some (e.ren (fun i => idxN i ids)) ∧ ∀ k ∈ e.ids, k ∈ ids := fun j hj => by
            obtain ⟨i, e, p1, p2, p3, p4⟩ := hl1 j (Nat.zero_le _) (by omega)
            rw [Nat.sub_zero] at p1
            exact ⟨e, by rw [hπ j i p1]; exact p2, p3, p4⟩
          have hlocN : ∀ j e', look j L = some e' → j < ids.length := fun j e' h => by
            rcases Nat.lt_or_ge j ids.length with hj | hj
            · exact hj
            · rw [hl2 j (.inr (by omega))] at h; cases h
          -- the callee's heap
          have hLR : HeapR (fun j => B (ids.getD j 0)) L w := by
            refine ⟨fun j e' h => ?_, fun i j e1 e2 b h1 h2 hij ho hb => ?_, fun j e' h m hm => ?_⟩
            · obtain ⟨e, p1, p2, p3⟩ := hloc j (hlocN j e' h)
              rw [p2] at h; cases h
              have he := hh.ent _ e p1
              rw [EntR_ren (i := ids.getD j 0) (by show B (ids.getD j 0) = B (ids.getD (idxN (ids.getD j 0) ids) 0); rw [hπρ]; exact List.mem_of_getElem? (i := j) (by simp [List.getD, hlocN j _ p2]))]
              refine EntR_congr ?_ (fun k hk => ?_) he
              · rw [hπρ]; exact List.mem_of_getElem? (i := j) (by simp [List.getD, hlocN j _ p2])
              · rw [hπρ k (p3 k hk)]
            · obtain ⟨e3, p1, p2, _⟩ := hloc i (hlocN i e1 h1)
              obtain ⟨e4, q1, q2, _⟩ := hloc j (hlocN j e2 h2)
              rw [p2] at h1; cases h1
              rw [q2] at h2; cases h2
              rw [own_ren] at ho
              rw [blkE_ren] at hb ⊢
              exact hh.apart _ _ e3 e4 b p1 q1 (fun e => hij (hinj i j (hlocN i _ p2) (hlocN j _ q2) e)) ho hb
            · obtain ⟨e, p1, p2, p3⟩ := hloc j (hlocN j e' h)
              rw [p2] at h; cases h
              rw [entIds_ren] at hm
              obtain ⟨k, hk, rfl⟩ := List.mem_map.1 hm
              have hki := getElem?_idxN (p3 k hk)
              obtain ⟨_, _, hs, _⟩ := hloc (idxN k ids) (List.getElem?_eq_some_iff.1 hki).1
              rw [hs]; rfl
          have hargs := All2_ren (ρ := fun i => idxN i ids) (π := fun j => ids.getD j 0) (B := B) (args := args) (vs := vs) (fun i hi => hπρ i ((hmem i).2 hi)) ha
          have hargIds : ∀ i ∈ idsAll (renAll (fun i => idxN i ids) args), (look i L).isSome = true := fun i hi => by
            rw [idsAll_ren] at hi
            obtain ⟨k, hk, rfl⟩ := List.mem_map.1 hi
            have hki := getElem?_idxN ((hmem k).2 hk)
            obtain ⟨_, _, hs, _⟩ := hloc (idxN k ids) (List.getElem?_eq_some_iff.1 hki).1
            rw [hs]; rfl
          refine (hsem _ w vs hLR hargs hargIds).mono fun e w' => ?_
          rintro ⟨u, B1, he, hu, hlow, hheap, hfr⟩
          refine ⟨u, he, ?_⟩
          have hB1 : ∀ j, j < ids.length → B1 j = B (ids.getD j 0) := fun j hj => hlow j (by omega)
          have hbk := backOk_ok hback
          obtain ⟨hlb1, hlb2⟩ := look_back (π := fun j => ids.getD j 0) hinj (fun j e h => (hbk j e h).1)
          -- what an entry is behind the call
          have hcase : ∀ i e', look i (backH (fun j => ids.getD j 0) wr ++ σ.heap) = some e' →
              (∃ j e, j < ids.length ∧ ids.getD j 0 = i ∧ look j wr = some e ∧ e' = e.ren (fun j => ids.getD j 0)) ∨
              (look i σ.heap = some e' ∧ ((∃ j, j < ids.length ∧ ids.getD j 0 = i ∧ look j wr = none) ∨ i ∉ ids)) := fun i e' h => by
            rw [look_append] at h
            by_cases him : i ∈ ids
            · have hki := getElem?_idxN him
              have hjl := (List.getElem?_eq_some_iff.1 hki).1
              have hji := hπ _ _ hki
              have := hlb1 (idxN i ids) hjl
              rw [hji] at this
              cases hw : look (idxN i ids) wr with
              | some e =>
                rw [this, hw] at h
                simp only [Option.map_some, Option.some_or, Option.some.injEq] at h
                exact .inl ⟨_, e, hjl, hji, hw, h.symm⟩
              | none =>
                rw [this, hw] at h
                simp only [Option.map_none, Option.none_or] at h
                exact .inr ⟨h, .inl ⟨_, hjl, hji, hw⟩⟩
            · cases hb : look i (backH (fun j => ids.getD j 0) wr) with
              | some e =>
                obtain ⟨j, hj, hji⟩ := hlb2 i e hb
                exact absurd (hji ▸ (by have : ids[j]? = some (ids.getD j 0) := by simp [List.getD, hj]
                                        exact List.mem_of_getElem? this)) him
              | none =>
                rw [hb] at h
                simp only [Option.none_or] at h
                exact .inr ⟨h, .inr him⟩
          -- own as before, the same block
          have hsame : ∀ i e', look i (backH (fun j => ids.getD j 0) wr ++ σ.heap) = some e' → ∃ e0, look i σ.heap = some e0 ∧ e0.own = e'.own ∧ blkE e' (B i) = blkE e0 (B i) := fun i e' h => by
            rcases hcase i e' h with ⟨j, e, hj, hji, hw, rfl⟩ | ⟨h, _⟩
            · obtain ⟨_, ho, ⟨e0, hl0, ho0⟩, _⟩ := hbk j e (mem_of_look hw)
              obtain ⟨e1, p1, p2, _⟩ := hloc j hj
              rw [p2] at hl0; cases hl0
              rw [own_ren] at ho0
              rw [hji] at p1
              refine ⟨e1, p1, by rw [own_ren, ho, ho0], ?_⟩
              rw [blkE_ren]
              cases e with
              | cell v => cases e1 with
                | cell v1 => rfl
                | rows o1 _ _ _ => simp only [Ent.own] at ho0; subst ho0; simp [blkE]
              | rows o _ _ _ =>
                simp only [Ent.own] at ho; subst ho
                cases e1 with
                | cell v1 => simp [blkE]
                | rows o1 _ _ _ => simp only [Ent.own] at ho0; subst ho0; simp [blkE]
            · exact ⟨e', h, rfl, rfl⟩
          have hkeep : ∀ i e', look i σ.heap = some e' → i ∉ ids → ∀ b, blkE e' (B i) = some b → w'.heap[b]? = w.heap[b]? := fun i e' h him b hb => by
            refine hfr.keep b (EntR_lt (hh.ent i e' h) hb) ?_
            rintro ⟨j, e2, hj2, ho2, hb2⟩
            obtain ⟨e3, p1, p2, _⟩ := hloc j (hlocN j e2 hj2)
            rw [p2] at hj2; cases hj2
            rw [own_ren] at ho2; rw [blkE_ren] at hb2
            refine hh.apart _ i e3 e' b p1 h (fun e => him ?_) ho2 hb2 hb
            rw [← e]
            exact List.mem_of_getElem? (i := j) (by simp [List.getD, hlocN j _ p2])
          refine ⟨?_, fun _ _ => rfl, fun _ _ => rfl, ⟨?_, ?_, ?_⟩, ⟨hfr.os, hfr.tape, hfr.output, hfr.size, ?_, ?_⟩, ?_⟩
          · refine VR_ren.2 (VR_congr (fun i hi => ?_) hu)
            exact hB1 i (blt_lt (List.all_eq_true.1 hv i hi))
          · intro i e' h
            rcases hcase i e' h with ⟨j, e, hj, hji, hw, rfl⟩ | ⟨h, ⟨j, hj, hji, hw⟩ | him⟩
            · have he := hheap.ent j e (by rw [look_append, hw]; rfl)
              obtain ⟨_, _, _, hids'⟩ := hbk j e (mem_of_look hw)
              rw [EntR_ren (i := j) (by rw [hji])]
              exact EntR_congr (hB1 j hj) (fun k hk => hB1 k (hids' k hk)) he
            · obtain ⟨e1, p1, p2, p3⟩ := hloc j hj
              rw [hji] at p1
              rw [p1] at h; cases h
              have he := hheap.ent j _ (by rw [look_append, hw]; exact p2)
              rw [EntR_ren (i := i) (by rw [hB1 j hj, hji, hB1 _ (by have := getElem?_idxN (show i ∈ ids from hji ▸ List.mem_of_getElem? (i := j) (by simp [List.getD, hj])); exact (List.getElem?_eq_some_iff.1 this).1), hπρ i (hji ▸ List.mem_of_getElem? (i := j) (by simp [List.getD, hj]))])] at he
              refine EntR_congr ?_ (fun k hk => ?_) he
              · have him : i ∈ ids := hji ▸ List.mem_of_getElem? (i := j) (by simp [List.getD, hj])
                rw [hB1 _ (List.getElem?_eq_some_iff.1 (getElem?_idxN him)).1, hπρ i him]
              · rw [hB1 _ (List.getElem?_eq_some_iff.1 (getElem?_idxN (p3 k hk))).1, hπρ k (p3 k hk)]
            · exact EntR_world hfr.size (hkeep i e' h him) (hh.ent i e' h)
          · intro i j e1 e2 b h1 h2 hij ho hb
            obtain ⟨e3, p1, p2, p3⟩ := hsame i e1 h1
            obtain ⟨e4, q1, _, q3⟩ := hsame j e2 h2
            rw [q3]
            rw [p3] at hb
            exact hh.apart i j e3 e4 b p1 q1 hij (p2.trans ho) hb
          · intro i e' h k hk
            rcases hcase i e' h with ⟨j, e, hj, hji, hw, rfl⟩ | ⟨h, _⟩
            · obtain ⟨_, _, _, hids'⟩ := hbk j e (mem_of_look hw)
              rw [entIds_ren] at hk
              obtain ⟨m, hm, rfl⟩ := List.mem_map.1 hk
              obtain ⟨e1, p1, _⟩ := hloc m (hids' m hm)
              exact isSome_append (by rw [p1]; rfl)
            · exact isSome_append (hh.closed i e' h k hk)
          · intro b hb hn
            refine hfr.keep b hb ?_
            rintro ⟨j, e2, hj2, ho2, hb2⟩
            obtain ⟨e3, p1, p2, _⟩ := hloc j (hlocN j e2 hj2)
            rw [p2] at hj2; cases hj2
            rw [own_ren] at ho2; rw [blkE_ren] at hb2
            exact hn ⟨_, e3, p1, ho2, hb2⟩
          · rintro b ⟨i, e', h, ho, hb⟩
            obtain ⟨e3, p1, p2, p3⟩ := hsame i e' h
            exact .inl ⟨i, e3, p1, p2.trans ho, by rw [← p3]; exact hb⟩
          · intro i hi
            simp only [ids_ren] at hi
            obtain ⟨m, hm, rfl⟩ := List.mem_map.1 hi
            obtain ⟨e1, p1, _⟩ := hloc m (blt_lt (List.all_eq_true.1 hv m hm))
            exact isSome_append (by rw [p1]; rfl)
        · cases h1
      · cases h
    · cases h
  · cases h

theorem mxAll_ok {P : Program} {B : Nat → Value} {k : IntKind} {w : World} : ∀ {r : List AV} {vs : List Value} {x y : Int}, mxAll k x r = some y → All2 (VR B) r vs →
    (vs.foldlM Builtin.max2 (.int k x) : Sem Value).run P w = .ok (.int k y) w
  | [], [], x, y, h, _ => by simp only [mxAll, Option.some.injEq] at h; subst h; rfl
  | [], _ :: _, _, _, _, hf => hf.elim
  | _ :: _, [], _, _, _, hf => hf.elim
  | a :: r, v :: vs, x, y, h, ⟨h1, h2⟩ => by
    cases a with
    | int k' z =>
      simp only [mxAll] at h
      replace h := bif_eq_some h
      rcases h with ⟨hk, h⟩ | ⟨_, h⟩
      · have hk := of_decide_eq_true hk
        subst hk
        rw [VR_int h1, List.foldlM_cons]
        simp only [Builtin.max2, pure_bind]
        exact mxAll_ok h h2
      · cases h
    | _ => simp [mxAll] at h

theorem mnAll_ok {P : Program} {B : Nat → Value} {k : IntKind} {w : World} : ∀ {r : List AV} {vs : List Value} {x y : Int}, mnAll k x r = some y → All2 (VR B) r vs →
    (vs.foldlM Builtin.min2 (.int k x) : Sem Value).run P w = .ok (.int k y) w
  | [], [], x, y, h, _ => by simp only [mnAll, Option.some.injEq] at h; subst h; rfl
  | [], _ :: _, _, _, _, hf => hf.elim
  | _ :: _, [], _, _, _, hf => hf.elim
  | a :: r, v :: vs, x, y, h, ⟨h1, h2⟩ => by
    cases a with
    | int k' z =>
      simp only [mnAll] at h
      replace h := bif_eq_some h
      rcases h with ⟨hk, h⟩ | ⟨_, h⟩
      · have hk := of_decide_eq_true hk
        subst hk
        rw [VR_int h1, List.foldlM_cons]
        simp only [Builtin.min2, pure_bind]
        exact mnAll_ok h h2
      · cases h
    | _ => simp [mnAll] at h

theorem builtinK_ok {P : Program} {B : Nat → Value} {σ : St} {b : Builtin} {ts : List TypeId} {args : List AV} {vs : List Value} {ef : Eff} {w : World} (hh : HeapR B σ.heap w) (ha : All2 (VR B) args vs)
    (h : builtinK P σ.heap b ts args some = some ef) : ∃ v rd u, ef = ⟨v, [], rd⟩ ∧ v.ids = [] ∧ VR B v u ∧ ∀ (ty : TypeId) (cs : Array Bool), (builtin b ts.toArray ty cs vs.toArray).run P w = .ok (.value u) w := by
  unfold builtinK at h
  split at h
  · split at h
    · rename_i t ts'
      split at h
      · rename_i x r
        cases vs with
        | nil => exact ha.elim
        | cons v vs =>
          obtain ⟨hx, _⟩ := ha
          have run : ∀ {u : Value}, (∀ ty, (Builtin.len_ (t :: ts').toArray ty (v :: vs).toArray).run P w = .ok u w) → ∀ (ty : TypeId) (cs : Array Bool), (builtin .len (t :: ts').toArray ty cs (v :: vs).toArray).run P w = .ok (.value u) w := fun hr ty cs => run_v (hr ty)
          split at h
          · rename_i hu
            split at h
            · cases h
              refine ⟨_, _, _, rfl, rfl, VR_mk_int B _ _, run fun ty => ?_⟩
              rw [VR_str hx]
              unfold Builtin.len_
              simp [run_underlying hu, goInt]
            · cases h
          · rename_i e hu
            split at h
            · cases h
              refine ⟨_, _, _, rfl, rfl, VR_mk_int B _ _, run fun ty => ?_⟩
              rw [VR_nils hx]
              unfold Builtin.len_
              simp [run_underlying hu, goInt]
            · rename_i vv
              split at h
              · rename_i ow ee t' xs hl
                cases h
                refine ⟨_, _, _, rfl, rfl, VR_mk_int B _ _, run fun ty => ?_⟩
                obtain ⟨a, c, hB, _⟩ := vec_base (hh.ent vv _ hl)
                rw [VR_vec hx, hB]
                unfold Builtin.len_
                simp [run_underlying hu, goInt]
              · cases h
            · cases h
          · cases h
      · cases h
    · cases h
  · split at h
    · rename_i k x r
      split at h
      · rename_i y hy
        cases h
        cases vs with
        | nil => exact ha.elim
        | cons v vs =>
          obtain ⟨hx, hr⟩ := ha
          refine ⟨_, _, _, rfl, rfl, VR_mk_int B _ _, fun ty cs => run_v ?_⟩
          rw [VR_int hx]
          exact mxAll_ok hy hr
      · cases h
    · cases h
  · split at h
    · rename_i k x r
      split at h
      · rename_i y hy
        cases h
        cases vs with
        | nil => exact ha.elim
        | cons v vs =>
          obtain ⟨hx, hr⟩ := ha
          refine ⟨_, _, _, rfl, rfl, VR_mk_int B _ _, fun ty cs => run_v ?_⟩
          rw [VR_int hx]
          exact mnAll_ok hy hr
      · cases h
    · cases h
  · cases h

theorem buildK_ok {P : Program} {B : Nat → Value} {t : TypeId} {ps : List (Nat × AV)} {us : List (Nat × Value)} {v : AV} (hf : All2 (fun p u => p.1 = u.1 ∧ VR B p.2 u.2) ps us) (h : buildK P t ps = some v) (w : World) :
    (∀ i ∈ v.ids, ∃ p ∈ ps, i ∈ p.2.ids) ∧ ∃ q, VR B v q ∧ (Instr.build t us.toArray).run P w = .ok q w := by
  unfold buildK at h
  split at h
  · rename_i z hz
    obtain ⟨inf, zv, hi, hzv, hzi, hzt, hzc⟩ := zeroA_ok hz
    have hagg : ∀ {cells : Array Value} {z' : AV} {place : Nat → Option (Nat × Nat)}, z.isAgg = true → buildParts z place ps = some z' → z'.isAgg = true := by
      intro _ z' place hza hb
      have key : ∀ (ps : List (Nat × AV)) (z z' : AV), z.isAgg = true → buildParts z place ps = some z' → z'.isAgg = true := by
        intro ps
        induction ps with
        | nil => intro z z' hz h; simp only [buildParts, Option.some.injEq] at h; subst h; exact hz
        | cons p ps ih =>
          intro z z' hz h
          obtain ⟨i, v⟩ := p
          simp only [buildParts] at h
          split at h
          · replace h := bif_eq_some h
            rcases h with ⟨_, h⟩ | ⟨_, h⟩
            · split at h
              · rename_i z1 hz1
                refine ih z1 z' ?_ h
                cases z with
                | arr k m xs =>
                  simp only [setNav] at hz1
                  replace hz1 := bif_eq_some hz1
                  rcases hz1 with ⟨hc, hz1⟩ | ⟨_, hz1⟩
                  · simp only [Bool.and_eq_true] at hc; cases hz1; exact hc.2
                  · split at hz1
                    · replace hz1 := bif_eq_some hz1
                      rcases hz1 with ⟨_, hz1⟩ | ⟨_, hz1⟩ <;> cases hz1
                      rfl
                    · cases hz1
                | unit =>
                  simp only [setNav] at hz1
                  replace hz1 := bif_eq_some hz1
                  rcases hz1 with ⟨hc, hz1⟩ | ⟨_, hz1⟩
                  · simp only [Bool.and_eq_true] at hc; cases hz1; exact hc.2
                  · cases hz1
                | one a =>
                  simp only [setNav] at hz1
                  replace hz1 := bif_eq_some hz1
                  rcases hz1 with ⟨hc, hz1⟩ | ⟨_, hz1⟩
                  · simp only [Bool.and_eq_true] at hc; cases hz1; exact hc.2
                  · split at hz1 <;> cases hz1
                    rfl
                | pair a b =>
                  simp only [setNav] at hz1
                  replace hz1 := bif_eq_some hz1
                  rcases hz1 with ⟨hc, hz1⟩ | ⟨_, hz1⟩
                  · simp only [Bool.and_eq_true] at hc; cases hz1; exact hc.2
                  · replace hz1 := bif_eq_some hz1
                    rcases hz1 with ⟨_, hz1⟩ | ⟨_, hz1⟩ <;> split at hz1 <;> cases hz1 <;> rfl
                | _ => cases hz
              · cases h
            · cases h
          · cases h
      exact key ps z z' hza hb
    split at h
    · rename_i fs hu
      replace h := bif_eq_some h
      rcases h with ⟨hc, h⟩ | ⟨_, h⟩
      · simp only [Bool.and_eq_true] at hc
        obtain ⟨hids, out, hfill, hout⟩ := buildParts_ok (hzc B) hf h
        refine ⟨fun i hi => (hids i hi).elim (fun h => by rw [hzi] at h; cases h) id, .agg out, by simpa using VR_of_CR_agg hout (hagg (cells := out) hc.2 h), ?_⟩
        unfold Instr.build
        rw [Sem.run_bind, run_zeroValue hi hzv w]
        simp only [Result.andThen_ok]
        rw [Sem.run_bind, run_underlying hu w]
        simp only [Result.andThen_ok]
        have hpl : ∃ places : Array (Nat × Nat), (fs.mapM (fun f => do pure (f.offset, ← sizeOf f.type)) : Sem (Array (Nat × Nat))).run P w = .ok places w ∧ ∀ i, fieldPlaces P fs.toList i = places[i]? := by
          refine ⟨(fs.toList.map fun f => (f.offset, P.cellsOf f.type)).toArray, ?_, fun i => ?_⟩
          · rw [Array.mapM_eq_mapM_toList]
            have hall := List.all_eq_true.1 hc.1
            have key : ∀ (l : List Field), (∀ f ∈ l, (P.info? f.type).isSome = true) → (l.mapM (fun f => do pure (f.offset, ← sizeOf f.type)) : Sem (List (Nat × Nat))).run P w = .ok (l.map fun f => (f.offset, P.cellsOf f.type)) w := by
              intro l
              induction l with
              | nil => intro _; rfl
              | cons f l ih =>
                intro hl
                obtain ⟨inf', hinf⟩ := Option.isSome_iff_exists.1 (hl f (by simp))
                rw [List.mapM_cons, Sem.run_bind, Sem.run_bind, run_sizeOf' hinf w]
                simp only [Result.andThen_ok, Sem.run_pure]
                rw [Sem.run_bind, ih (fun g hg => hl g (by simp [hg]))]
                simp [Program.cellsOf, hinf]
            rw [Sem.run_map, key fs.toList hall]
            rfl
          · unfold fieldPlaces
            simp only [List.getElem?_toArray, List.getElem?_map, Array.getElem?_toList]
            cases hf : fs[i]? with
            | none => simp
            | some f =>
              obtain ⟨inf', hinf⟩ := Option.isSome_iff_exists.1 (List.all_eq_true.1 hc.1 f (by simpa using Array.mem_of_getElem? hf))
              simp [hinf, Program.cellsOf]
        obtain ⟨places, hp1, hp2⟩ := hpl
        rw [Sem.run_bind, hp1]
        simp only [Result.andThen_ok]
        rw [show (fun x => places[x]?) = fieldPlaces P fs.toList from funext fun i => (hp2 i).symm, hfill]
        rfl
      · cases h
    · rename_i n e hu
      split at h
      · rename_i inf' hinf
        replace h := bif_eq_some h
        rcases h with ⟨hc, h⟩ | ⟨_, h⟩
        · obtain ⟨hids, out, hfill, hout⟩ := buildParts_ok (hzc B) hf h
          refine ⟨fun i hi => (hids i hi).elim (fun h => by rw [hzi] at h; cases h) id, .agg out, by simpa using VR_of_CR_agg hout (hagg (cells := out) hc h), ?_⟩
          unfold Instr.build
          rw [Sem.run_bind, run_zeroValue hi hzv w]
          simp only [Result.andThen_ok]
          rw [Sem.run_bind, run_underlying hu w]
          simp only [Result.andThen_ok]
          rw [Sem.run_bind, run_sizeOf' hinf w]
          simp only [Result.andThen_ok, hfill]
          rfl
        · cases h
      · cases h
    · cases h
  · cases h

end Go.Proofs.Ytjciljaojcekeaa.Sx
