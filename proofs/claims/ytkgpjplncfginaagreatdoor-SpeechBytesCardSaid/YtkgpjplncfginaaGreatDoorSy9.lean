/- The operations of the machine Sy do what the model's operations do: the theorem. -/
import Derived.Test.YtkgpjplncfginaaGreatDoorSy8
namespace Go.Proofs.YtkgpjplncfginaaGreatDoor.Sy
open Go
set_option linter.unusedVariables false
set_option linter.unusedSimpArgs false

theorem pickC_mem {args : List AV} {L : Heap} : ∀ {l : List Callee} {c : Callee}, pickC args L l = some c → c ∈ l
  | .ext T run val :: r, c, h => by
    simp only [pickC, Option.some.injEq] at h
    subst h; exact List.mem_cons_self ..
  | .go T ok run val wr :: r, c, h => by
    simp only [pickC] at h
    replace h := bif_eq_some h
    rcases h with ⟨_, h⟩ | ⟨_, h⟩
    · simp only [Option.some.injEq] at h
      subst h; exact List.mem_cons_self ..
    · exact List.mem_cons_of_mem _ (pickC_mem h)
  | .alt T U ok run val1 wr1 val2 wr2 :: r, c, h => by
    simp only [pickC] at h
    replace h := bif_eq_some h
    rcases h with ⟨_, h⟩ | ⟨_, h⟩
    · simp only [Option.some.injEq] at h
      subst h; exact List.mem_cons_self ..
    · exact List.mem_cons_of_mem _ (pickC_mem h)

theorem AV.ren_ren {ρ π : Nat → Nat} : ∀ (v : AV), (∀ i ∈ v.ids, π (ρ i) = i) → (v.ren ρ).ren π = v := by
  intro v
  induction v with
  | ptr p =>
    intro h
    cases p with
    | none => rfl
    | some p => simp only [AV.ren]; rw [h p.id (by simp [AV.ids])]
  | vec i => intro h; simp only [AV.ren]; rw [h i (by simp [AV.ids])]
  | asl p n l => intro h; simp only [AV.ren]; rw [h p.id (by simp [AV.ids])]
  | one a ih => intro h; simp only [AV.ren]; rw [ih h]
  | pair a b iha ihb => intro h; simp only [AV.ren]; rw [iha (fun i hi => h i (by simp [AV.ids, hi])), ihb (fun i hi => h i (by simp [AV.ids, hi]))]
  | tcons a b iha ihb => intro h; simp only [AV.ren]; rw [iha (fun i hi => h i (by simp [AV.ids, hi])), ihb (fun i hi => h i (by simp [AV.ids, hi]))]
  | _ => intro _; rfl

theorem Ent.ren_ren {ρ π : Nat → Nat} (e : Ent) (h : ∀ i ∈ e.ids, π (ρ i) = i) : (e.ren ρ).ren π = e := by
  cases e with
  | cell v => simp only [Ent.ren]; rw [AV.ren_ren v h]
  | _ => rfl

theorem backId_lt {ids : List Nat} {d j : Nat} (h : j < ids.length) : backId ids d j = ids.getD j 0 := by
  unfold backId; rw [Nat.ble_eq_true_of_le (show j + 1 ≤ ids.length from h) |> (fun h => (h : Nat.blt j ids.length = true))]; rfl

theorem backId_ge {ids : List Nat} {d j : Nat} (h : ids.length ≤ j) : backId ids d j = freshId d (j - newB) := by
  unfold backId
  cases hb : Nat.blt j ids.length
  · rw [cond_false]
  · have := blt_lt hb; omega

theorem mul_inj_aux {a d k p q : Nat} (hk : 0 < k) (h : a + d + k * (p + 1) = a + d + k * (q + 1)) : p = q :=
  Nat.add_right_cancel (Nat.eq_of_mul_eq_mul_left hk (Nat.add_left_cancel h))

theorem big_pos : 0 < 100000 := Nat.lt_of_lt_of_le (Nat.zero_lt_one) (Nat.le_of_ble_eq_true rfl)

theorem freshId_inj {d p q : Nat} (h : freshId d p = freshId d q) : p = q := mul_inj_aux (a := 1000) (d := d) big_pos h

/-- The callee, on what is handed on, leaves what the caller then has. -/
theorem back_ok {P : Program} {B : Bz} {σ : St} {w : World} {f : FuncId} {args : List AV} {vs : List Value} {ids : List Nat} {L wr : Heap} {v : AV} {d : Nat} (hnd : ids.Nodup) (hmem : ∀ x ∈ idsAll args, x ∈ ids) (hlen : ids.length < 1000)
    (hL : localH σ.heap (fun i => idxN i ids) ids 0 ids = some L) (hh : HeapR B σ.heap w) (ha : All2 (VR B) args vs) (hsem : CallSem P f (renAll (fun i => idxN i ids) args) L v wr)
    (hv : v.ids.all (known wr ids.length) = true) (hback : backOk L σ.heap wr ids.length d wr = true) :
    Calls P f vs.toArray w (fun e w' => ∃ u B', e = .returned u ∧ Post B σ w ⟨v.ren (backId ids d), backH (backId ids d) wr, ids⟩ B' u w') := by
  obtain ⟨hl1, hl2⟩ := localH_ok hL
  have hπ : ∀ j i, ids[j]? = some i → ids.getD j 0 = i := fun j i h => by simp [List.getD, h]
  have hπρ : ∀ i ∈ ids, ids.getD (idxN i ids) 0 = i := fun i h => hπ _ _ (getElem?_idxN h)
  have hidx : ∀ i ∈ ids, idxN i ids < ids.length := fun i h => (List.getElem?_eq_some_iff.1 (getElem?_idxN h)).1
  have hinj : ∀ a b, a < ids.length → b < ids.length → ids.getD a 0 = ids.getD b 0 → a = b := fun a b ha hb e => by
    have ha' : ids[a]? = some (ids.getD a 0) := by simp [List.getD, ha]
    have hb' : ids[b]? = some (ids.getD b 0) := by simp [List.getD, hb]
    rw [← idxN_of hnd ha', ← idxN_of hnd hb', e]
  have hidsMem : ∀ j, j < ids.length → ids.getD j 0 ∈ ids := fun j hj => List.mem_of_getElem? (i := j) (by simp [List.getD, hj])
  have hloc : ∀ j, j < ids.length → ∃ e, look (ids.getD j 0) σ.heap = some e ∧ look j L = some (e.ren (fun i => idxN i ids)) ∧ ∀ k ∈ e.ids, k ∈ ids := fun j hj => by
    obtain ⟨i, e, p1, p2, p3, p4⟩ := hl1 j (Nat.zero_le _) (by omega)
    rw [Nat.sub_zero] at p1
    exact ⟨e, by rw [hπ j i p1]; exact p2, p3, p4⟩
  have hlocN : ∀ j e', look j L = some e' → j < ids.length := fun j e' h => by
    rcases Nat.lt_or_ge j ids.length with hj | hj
    · exact hj
    · rw [hl2 j (.inr (by omega))] at h; cases h
  -- the callee's heap
  have hLR : HeapR (B.ren fun j => ids.getD j 0) L w := by
    refine ⟨fun j e' h => ?_, hh.fz, fun i j e1 e2 b h1 h2 hij ho hb => ?_, fun j e' b o u h hb hz => ?_, fun j e' h m hm => ?_⟩
    · have hj := hlocN j e' h
      obtain ⟨e, p1, p2, p3⟩ := hloc j hj
      rw [p2] at h; cases h
      rw [EntR_ren (i := ids.getD j 0) (by show B (ids.getD j 0) = B (ids.getD (idxN (ids.getD j 0) ids) 0); rw [hπρ _ (hidsMem j hj)])]
      refine EntR_congr (B := B) (B' := (B.ren fun j => ids.getD j 0).ren fun i => idxN i ids) (Zle.refl _) ?_ (fun k hk => ?_) (hh.ent _ e p1)
      · show B _ = B (ids.getD (idxN (ids.getD j 0) ids) 0)
        rw [hπρ _ (hidsMem j hj)]
      · show B _ = B (ids.getD (idxN k ids) 0)
        rw [hπρ k (p3 k hk)]
    · obtain ⟨e3, p1, p2, _⟩ := hloc i (hlocN i e1 h1)
      obtain ⟨e4, q1, q2, _⟩ := hloc j (hlocN j e2 h2)
      have hi := hlocN i _ h1
      have hj := hlocN j _ h2
      rw [p2] at h1; cases h1
      rw [q2] at h2; cases h2
      rw [blkO_ren] at ho hb
      exact hh.apart _ _ e3 e4 b p1 q1 (fun e => hij (hinj i j hi hj e)) ho hb
    · obtain ⟨e3, p1, p2, _⟩ := hloc j (hlocN j e' h)
      rw [p2] at h; cases h
      rw [blkO_ren] at hb
      rw [mode_ren, endE_ren]
      exact hh.zo _ e3 b o u p1 hb hz
    · obtain ⟨e, p1, p2, p3⟩ := hloc j (hlocN j e' h)
      rw [p2] at h; cases h
      rw [entIds_ren] at hm
      obtain ⟨k, hk, rfl⟩ := List.mem_map.1 hm
      obtain ⟨_, _, hs, _⟩ := hloc (idxN k ids) (hidx k (p3 k hk))
      rw [hs]; rfl
  have hargs := All2_ren (ρ := fun i => idxN i ids) (π := fun j => ids.getD j 0) (B := B) (args := args) (vs := vs) (fun i hi => hπρ i (hmem i hi)) ha
  have hargIds : ∀ i ∈ idsAll (renAll (fun i => idxN i ids) args), (look i L).isSome = true := fun i hi => by
    rw [idsAll_ren] at hi
    obtain ⟨k, hk, rfl⟩ := List.mem_map.1 hi
    obtain ⟨_, _, hs, _⟩ := hloc (idxN k ids) (hidx k (hmem k hk))
    rw [hs]; rfl
  refine (hsem _ w vs hLR hargs hargIds).mono fun e w' => ?_
  rintro ⟨u, B1, he, hu, hlow, hheap, hfr⟩
  have hbk := backOk_ok hback
  have hnew : ids.length ≤ newB := by unfold newB; omega
  generalize hpi : backId ids d = π
  have hπl : ∀ j, j < ids.length → π j = ids.getD j 0 := fun j hj => by rw [← hpi, backId_lt hj]
  have hπg : ∀ j, newB ≤ j → π j = freshId d (j - newB) := fun j hj => by rw [← hpi, backId_ge (by omega)]
  let D : Nat → Prop := fun j => j < ids.length ∨ (newB ≤ j ∧ look (freshId d (j - newB)) σ.heap = none)
  have hInH : ∀ j, j < ids.length → ∃ e, look (π j) σ.heap = some e := fun j hj => by
    obtain ⟨e, p1, _⟩ := hloc j hj
    exact ⟨e, by rw [hπl j hj]; exact p1⟩
  have hDinj : ∀ a b, D a → D b → π a = π b → a = b := fun a b ha hb e => by
    rcases ha with ha | ⟨ha, ha'⟩
    · rcases hb with hb | ⟨hb, hb'⟩
      · rw [hπl a ha, hπl b hb] at e; exact hinj a b ha hb e
      · obtain ⟨z, hz⟩ := hInH a ha
        rw [e, hπg b hb, hb'] at hz; cases hz
    · rcases hb with hb | ⟨hb, hb'⟩
      · obtain ⟨z, hz⟩ := hInH b hb
        rw [← e, hπg a ha, ha'] at hz; cases hz
      · rw [hπg a ha, hπg b hb] at e
        have := freshId_inj e
        omega
  obtain ⟨hlb1, hlb2⟩ := look_back (π := π) (D := D) hDinj (wr := wr) (fun j e h => (hbk j e h).1)
  have hWD : ∀ j x, look j (wr ++ L) = some x → D j := fun j x h => by
    rw [look_append] at h
    cases hw : look j wr with
    | some y => exact (hbk j y (mem_of_look hw)).1
    | none =>
      rw [hw, Option.none_or] at h
      exact .inl (hlocN j x h)
  let B2 : Bz := ⟨fun i => if i < 1000 ∨ (look i σ.heap).isSome = true then B i else B1 (newB + ((i - 1000 - d) / 100000 - 1)), B1.z⟩
  have hB2f : ∀ i, B2 i = if i < 1000 ∨ (look i σ.heap).isSome = true then B i else B1 (newB + ((i - 1000 - d) / 100000 - 1)) := fun i => rfl
  have hB2H : ∀ i, (look i σ.heap).isSome = true → B2 i = B i := fun i h => if_pos (.inr h)
  have hB2 : ∀ j, D j → B2 (π j) = B1 j := fun j hj => by
    rcases hj with hj | ⟨hj, hj'⟩
    · obtain ⟨e, p1, _⟩ := hloc j hj
      rw [hπl j hj, hB2H _ (by rw [p1]; rfl)]
      exact (hlow j (by omega)).symm
    · rw [hπg j hj]
      have h1 : ¬ (freshId d (j - newB) < 1000 ∨ (look (freshId d (j - newB)) σ.heap).isSome = true) := by
        rw [hj']; unfold freshId; simp
        exact Nat.le_trans (Nat.le_add_right 1000 d) (Nat.le_add_right _ _)
      rw [hB2f, if_neg h1]
      refine congrArg B1.f ?_
      unfold freshId
      have : (1000 + d + 100000 * (j - newB + 1) - 1000 - d) / 100000 = j - newB + 1 := by omega
      rw [this]
      omega
  have hI : Inner B (B.ren fun j => ids.getD j 0) B1 B2 σ.heap L (wr ++ L) (backH π wr ++ σ.heap) π := by
    refine ⟨rfl, rfl, fun j e h => ?_, fun j x h => ?_, fun j e h => isSome_append (by rw [h]; rfl), fun i e h => ?_, fun a b x y h1 h2 e => hDinj a b (hWD a x h1) (hWD b y h2) e, fun i e h => ⟨hB2H i (by rw [h]; rfl), isSome_append (by rw [h]; rfl)⟩⟩
    · have hj := hlocN j e h
      obtain ⟨e3, p1, p2, _⟩ := hloc j hj
      rw [p2] at h; cases h
      exact ⟨by rw [hπl j hj]; rfl, e3, _, by rw [hπl j hj]; exact p1, rfl⟩
    · refine ⟨?_, hB2 j (hWD j x h)⟩
      have hb := hlb1 j (hWD j x h)
      rw [look_append] at h ⊢
      rw [hb]
      cases hw : look j wr with
      | some y =>
        rw [hw] at h
        simp only [Option.some_or, Option.some.injEq] at h
        subst h; rfl
      | none =>
        rw [hw, Option.none_or] at h
        have hj := hlocN j x h
        obtain ⟨e3, p1, p2, p3⟩ := hloc j hj
        rw [p2] at h; cases h
        simp only [Option.map_none, Option.none_or]
        rw [hπl j hj, p1, Ent.ren_ren e3 (fun i hi => ?_)]
        rw [hπl _ (hidx i (p3 i hi)), hπρ i (p3 i hi)]
    · rw [look_append] at h
      cases hb : look i (backH π wr) with
      | some y =>
        obtain ⟨j, g1, g2, g3⟩ := hlb2 i y hb
        obtain ⟨z, hz⟩ := Option.isSome_iff_exists.1 g3
        exact .inl ⟨j, z, by rw [look_append, hz]; rfl, g2.symm⟩
      | none =>
        rw [hb, Option.none_or] at h
        by_cases him : i ∈ ids
        · obtain ⟨e3, p1, p2, _⟩ := hloc (idxN i ids) (hidx i him)
          obtain ⟨z, hz⟩ := Option.isSome_iff_exists.1 (isSome_append (a := wr) (show (look (idxN i ids) L).isSome = true by rw [p2]; rfl))
          exact .inl ⟨idxN i ids, z, hz, by rw [hπl _ (hidx i him), hπρ i him]⟩
        · refine .inr ⟨h, fun j x hj e => him ?_⟩
          have hjl := hlocN j x hj
          rw [← e, hπl j hjl]
          exact hidsMem j hjl
  obtain ⟨r1, r2⟩ := inner_ok hI hh hheap hfr
  have hknown : ∀ k, known wr ids.length k = true → ∃ x, look k (wr ++ L) = some x := fun k hk => by
    rcases known_iff.1 hk with hk | ⟨_, hk⟩
    · obtain ⟨e, _, p2, _⟩ := hloc k hk
      exact Option.isSome_iff_exists.1 (isSome_append (a := wr) (show (look k L).isSome = true by rw [p2]; rfl))
    · obtain ⟨z, hz⟩ := Option.isSome_iff_exists.1 hk
      exact ⟨z, by rw [look_append, hz]; rfl⟩
  refine ⟨u, B2, he, ?_, hB2H, fun i hi => if_pos (.inl hi), r1, r2, fun i hi => ?_⟩
  · refine VR_ren.2 (VR_congr (B := B1) (B' := B2.ren π) (Zle.refl _) (fun i hi => ?_) hu)
    obtain ⟨x, hx⟩ := hknown i (List.all_eq_true.1 hv i hi)
    exact (hB2 i (hWD i x hx)).symm
  · simp only [ids_ren] at hi
    obtain ⟨m, hm, rfl⟩ := List.mem_map.1 hi
    obtain ⟨x, hx⟩ := hknown m (List.all_eq_true.1 hv m hm)
    rw [(hI.dst m x hx).1]; rfl

theorem callK_ok {P : Program} {E : Env} (hE : ∀ f, ∀ c ∈ E.fn f, CalleeOK P f c) {B : Bz} {σ : St} {w : World} {d : Option Nat} {f : FuncId} {args : List AV} {vs : List Value} {ef : Eff}
    (hh : HeapR B σ.heap w) (ha : All2 (VR B) args vs) (h : callK E σ.heap d f args some = some ef) :
    (∃ u, Post B σ w ef B u w ∧ (callFunc f vs.toArray).run P w = .ok (.value u) w) ∨
    ((callFunc f vs.toArray).run P w = .ok (.enter f vs.toArray) w ∧ Calls P f vs.toArray w (fun e w' => ∃ u B', e = .returned u ∧ Post B σ w ef B' u w')) := by
  unfold callK at h
  simp only at h
  have hcl := close_ok (H := σ.heap) 64 (addNew [] (idsAll args ++ E.gl f)) 0 (nodup_addNew _ [] List.nodup_nil)
  have hmem : ∀ x ∈ idsAll args, x ∈ close σ.heap 64 (addNew [] (idsAll args ++ E.gl f)) 0 := fun x hx => hcl.2 x (mem_addNew.2 (.inr (List.mem_append.2 (.inl hx))))
  generalize close σ.heap 64 (addNew [] (idsAll args ++ E.gl f)) 0 = ids at *
  split at h
  · rename_i L hL
    split at h
    · rename_i T run val hg
      replace h := bif_eq_some h
      rcases h with ⟨_, h⟩ | ⟨_, h⟩
      · obtain ⟨t, h1, h⟩ := Option.bind_eq_some_iff.1 h
        replace h := bif_eq_some h
        rcases h with ⟨h2, h⟩ | ⟨_, h⟩
        · cases h
          obtain ⟨u, hu, hrun⟩ := hE f _ (pickC_mem hg) args t h1 B vs w ha
          exact .inl ⟨u, Post.pure hh hu (fun i hi => by rw [List.isEmpty_iff.1 h2] at hi; cases hi), hrun⟩
        · cases h
      · cases h
    · rename_i T okf run val wrf hg
      replace h := bif_eq_some h
      rcases h with ⟨hlen, h⟩ | ⟨_, h⟩
      · obtain ⟨hcall, hgo⟩ := hE f _ (pickC_mem hg)
        obtain ⟨t, ht, h1⟩ := Option.bind_eq_some_iff.1 h
        replace h1 := bif_eq_some h1
        rcases h1 with ⟨hc, h1⟩ | ⟨_, h1⟩
        · simp only [Bool.and_eq_true] at hc
          simp only [Option.some.injEq] at h1
          subst h1
          exact .inr ⟨hcall _ _, back_ok hcl.1 hmem (blt_lt hlen) hL hh ha (hgo _ _ _ ht) hc.1 hc.2⟩
        · cases h1
      · cases h
    · rename_i T U okf run val1 wr1 val2 wr2 hg
      replace h := bif_eq_some h
      rcases h with ⟨hlen, h⟩ | ⟨_, h⟩
      · obtain ⟨hcall, hgo⟩ := hE f _ (pickC_mem hg)
        obtain ⟨s, hs, h1⟩ := Option.bind_eq_some_iff.1 h
        have hgo := hgo _ _ _ hs
        cases s with
        | inl t =>
          simp only [sel] at h1
          replace h1 := bif_eq_some h1
          rcases h1 with ⟨hc, h1⟩ | ⟨_, h1⟩
          · simp only [Bool.and_eq_true] at hc
            simp only [Option.some.injEq] at h1
            subst h1
            exact .inr ⟨hcall _ _, back_ok hcl.1 hmem (blt_lt hlen) hL hh ha (hgo.1 t rfl) hc.1 hc.2⟩
          · cases h1
        | inr t =>
          simp only [sel] at h1
          replace h1 := bif_eq_some h1
          rcases h1 with ⟨hc, h1⟩ | ⟨_, h1⟩
          · simp only [Bool.and_eq_true] at hc
            simp only [Option.some.injEq] at h1
            subst h1
            exact .inr ⟨hcall _ _, back_ok hcl.1 hmem (blt_lt hlen) hL hh ha (hgo.2 t rfl) hc.1 hc.2⟩
          · cases h1
      · cases h
    · cases h
  · cases h

theorem mxAll_ok {P : Program} {B : Bz} {k : IntKind} {w : World} : ∀ {r : List AV} {vs : List Value} {x y : Int}, mxAll k x r = some y → All2 (VR B) r vs →
    (vs.foldlM Builtin.max2 (.int k x) : Sem Value).run P w = .ok (.int k y) w
  | [], [], x, y, h, _ => by simp only [mxAll, Option.some.injEq] at h; subst h; rfl
  | [], _ :: _, _, _, _, hf => hf.elim
  | _ :: _, [], _, _, _, hf => hf.elim
  | a :: r, v :: vs, x, y, h, ⟨h1, h2⟩ => by
    cases a with
    | int k' z =>
      simp only [mxAll] at h
      replace h := bif_eq_some h
      rcases h with ⟨hk, h⟩ | ⟨_, h⟩
      · have hk := of_decide_eq_true hk
        subst hk
        rw [VR_int h1, List.foldlM_cons]
        simp only [Builtin.max2, pure_bind]
        exact mxAll_ok h h2
      · cases h
    | _ => simp [mxAll] at h

theorem mnAll_ok {P : Program} {B : Bz} {k : IntKind} {w : World} : ∀ {r : List AV} {vs : List Value} {x y : Int}, mnAll k x r = some y → All2 (VR B) r vs →
    (vs.foldlM Builtin.min2 (.int k x) : Sem Value).run P w = .ok (.int k y) w
  | [], [], x, y, h, _ => by simp only [mnAll, Option.some.injEq] at h; subst h; rfl
  | [], _ :: _, _, _, _, hf => hf.elim
  | _ :: _, [], _, _, _, hf => hf.elim
  | a :: r, v :: vs, x, y, h, ⟨h1, h2⟩ => by
    cases a with
    | int k' z =>
      simp only [mnAll] at h
      replace h := bif_eq_some h
      rcases h with ⟨hk, h⟩ | ⟨_, h⟩
      · have hk := of_decide_eq_true hk
        subst hk
        rw [VR_int h1, List.foldlM_cons]
        simp only [Builtin.min2, pure_bind]
        exact mnAll_ok h h2
      · cases h
    | _ => simp [mnAll] at h

theorem builtinK_ok {P : Program} {B : Bz} {σ : St} {b : Builtin} {d : Option Nat} {ts : List TypeId} {args : List AV} {vs : List Value} {ef : Eff} {w : World} (hh : HeapR B σ.heap w) (ha : All2 (VR B) args vs)
    (h : builtinK P σ.heap d b ts args some = some ef) (ty : TypeId) (cs : Array Bool) : ∃ B' u w', Post B σ w ef B' u w' ∧ (builtin b ts.toArray ty cs vs.toArray).run P w = .ok (.value u) w' := by
  unfold builtinK at h
  have pure : ∀ {v : AV} {rd : List Nat} {u : Value} (hi : v.ids = []) (hv : VR B v u), Post B σ w ⟨v, [], rd⟩ B u w := fun hi hv => Post.pure hh hv (fun i h => by rw [hi] at h; cases h)
  split at h
  · split at h
    · rename_i t ts'
      split at h
      · rename_i x r
        cases vs with
        | nil => exact ha.elim
        | cons v vs =>
          obtain ⟨hx, _⟩ := ha
          have run : ∀ {u : Value}, ((Builtin.len_ (t :: ts').toArray ty (v :: vs).toArray).run P w = .ok u w) → (builtin .len (t :: ts').toArray ty cs (v :: vs).toArray).run P w = .ok (.value u) w := fun hr => run_v hr
          split at h
          · rename_i hu
            split at h
            · cases h
              refine ⟨_, _, _, pure rfl (VR_mk_int B _ _), run ?_⟩
              rw [(VR_str hx).2]
              unfold Builtin.len_
              simp [run_underlying hu, goInt, size_bst]
            · cases h
          · rename_i e hu
            split at h
            · cases h
              refine ⟨_, _, _, pure rfl (VR_mk_int B _ _), run ?_⟩
              rw [VR_nils hx]
              unfold Builtin.len_
              simp [run_underlying hu, goInt]
            · rename_i vv
              split at h
              · rename_i ow ee t' xs hl
                cases h
                refine ⟨_, _, _, pure rfl (VR_mk_int B _ _), run ?_⟩
                obtain ⟨a, c, hB, _⟩ := vec_base (hh.ent vv _ hl)
                rw [VR_vec hx, hB]
                unfold Builtin.len_
                simp [run_underlying hu, goInt]
              · cases h
            · rename_i vo
              obtain ⟨n, hn, h⟩ := Option.bind_eq_some_iff.1 h
              cases h
              refine ⟨_, _, _, pure rfl (VR_mk_int B _ _), run ?_⟩
              obtain ⟨rfl, _⟩ := (VR_atom rfl rfl).1 hx
              unfold opqLen at hn
              split at hn
              · cases hn
                unfold Builtin.len_
                simp [run_underlying hu, goInt]
              · cases hn
            · cases h
          · cases h
      · cases h
    · cases h
  · split at h
    · rename_i k x r
      split at h
      · rename_i y hy
        cases h
        cases vs with
        | nil => exact ha.elim
        | cons v vs =>
          obtain ⟨hx, hr⟩ := ha
          refine ⟨_, _, _, pure rfl (VR_mk_int B _ _), run_v ?_⟩
          rw [VR_int hx]
          exact mxAll_ok hy hr
      · cases h
    · cases h
  · split at h
    · rename_i k x r
      split at h
      · rename_i y hy
        cases h
        cases vs with
        | nil => exact ha.elim
        | cons v vs =>
          obtain ⟨hx, hr⟩ := ha
          refine ⟨_, _, _, pure rfl (VR_mk_int B _ _), run_v ?_⟩
          rw [VR_int hx]
          exact mnAll_ok hy hr
      · cases h
    · cases h
  · split at h
    · rename_i t u s x
      match vs, ha with
      | [sv, xv], ⟨hs, hx, _⟩ =>
        obtain ⟨ef', hk, B', y, w', hp, hrun⟩ := appendK_ok (tt := ty) hh hs hx h
        cases hk
        exact ⟨B', y, w', hp, run_v hrun⟩
    · cases h
  · split at h
    · rename_i t ts' x y
      match vs, ha with
      | [xv, yv], ⟨hx, hy, _⟩ =>
        obtain ⟨ef', hk, B', y, w', hp, hrun⟩ := copyK_ok (tt := ty) (ats := (t :: ts').toArray) rfl hh hx hy h
        cases hk
        exact ⟨B', y, w', hp, run_v hrun⟩
    · cases h
  · cases h

theorem buildK_ok {P : Program} {B : Bz} {t : TypeId} {ps : List (Nat × AV)} {us : List (Nat × Value)} {v : AV} (hf : All2 (fun p u => p.1 = u.1 ∧ VR B p.2 u.2) ps us) (h : buildK P t ps = some v) (w : World) :
    (∀ i ∈ v.ids, ∃ p ∈ ps, i ∈ p.2.ids) ∧ ∃ q, VR B v q ∧ (Instr.build t us.toArray).run P w = .ok q w := by
  unfold buildK at h
  split at h
  · rename_i z hz
    obtain ⟨inf, zv, hi, hzv, hzi, hzt, hzc⟩ := zeroA_ok hz
    have hagg : ∀ {cells : Array Value} {z' : AV} {place : Nat → Option (Nat × Nat)}, z.isAgg = true → buildParts z place ps = some z' → z'.isAgg = true := by
      intro _ z' place hza hb
      have key : ∀ (ps : List (Nat × AV)) (z z' : AV), z.isAgg = true → buildParts z place ps = some z' → z'.isAgg = true := by
        intro ps
        induction ps with
        | nil => intro z z' hz h; simp only [buildParts, Option.some.injEq] at h; subst h; exact hz
        | cons p ps ih =>
          intro z z' hz h
          obtain ⟨i, v⟩ := p
          simp only [buildParts] at h
          split at h
          · replace h := bif_eq_some h
            rcases h with ⟨_, h⟩ | ⟨_, h⟩
            · split at h
              · rename_i z1 hz1
                refine ih z1 z' ?_ h
                cases z with
                | arr k m xs =>
                  simp only [setNav] at hz1
                  replace hz1 := bif_eq_some hz1
                  rcases hz1 with ⟨hc, hz1⟩ | ⟨_, hz1⟩
                  · simp only [Bool.and_eq_true] at hc; cases hz1; exact hc.2
                  · split at hz1
                    · replace hz1 := bif_eq_some hz1
                      rcases hz1 with ⟨_, hz1⟩ | ⟨_, hz1⟩ <;> cases hz1
                      rfl
                    · cases hz1
                | unit =>
                  simp only [setNav] at hz1
                  replace hz1 := bif_eq_some hz1
                  rcases hz1 with ⟨hc, hz1⟩ | ⟨_, hz1⟩
                  · simp only [Bool.and_eq_true] at hc; cases hz1; exact hc.2
                  · cases hz1
                | one a =>
                  simp only [setNav] at hz1
                  replace hz1 := bif_eq_some hz1
                  rcases hz1 with ⟨hc, hz1⟩ | ⟨_, hz1⟩
                  · simp only [Bool.and_eq_true] at hc; cases hz1; exact hc.2
                  · split at hz1 <;> cases hz1
                    rfl
                | pair a b =>
                  simp only [setNav] at hz1
                  replace hz1 := bif_eq_some hz1
                  rcases hz1 with ⟨hc, hz1⟩ | ⟨_, hz1⟩
                  · simp only [Bool.and_eq_true] at hc; cases hz1; exact hc.2
                  · replace hz1 := bif_eq_some hz1
                    rcases hz1 with ⟨_, hz1⟩ | ⟨_, hz1⟩ <;> split at hz1 <;> cases hz1 <;> rfl
                | _ => cases hz
              · cases h
            · cases h
          · cases h
      exact key ps z z' hza hb
    split at h
    · rename_i fs hu
      replace h := bif_eq_some h
      rcases h with ⟨hc, h⟩ | ⟨_, h⟩
      · simp only [Bool.and_eq_true] at hc
        obtain ⟨hids, out, hfill, hout⟩ := buildParts_ok (hzc B) hf h
        refine ⟨fun i hi => (hids i hi).elim (fun h => by rw [hzi] at h; cases h) id, .agg out, by simpa using VR_of_CR_agg hout (hagg (cells := out) hc.2 h), ?_⟩
        unfold Instr.build
        rw [Sem.run_bind, run_zeroValue hi hzv w]
        simp only [Result.andThen_ok]
        rw [Sem.run_bind, run_underlying hu w]
        simp only [Result.andThen_ok]
        have hpl : ∃ places : Array (Nat × Nat), (fs.mapM (fun f => do pure (f.offset, ← sizeOf f.type)) : Sem (Array (Nat × Nat))).run P w = .ok places w ∧ ∀ i, fieldPlaces P fs.toList i = places[i]? := by
          refine ⟨(fs.toList.map fun f => (f.offset, P.cellsOf f.type)).toArray, ?_, fun i => ?_⟩
          · rw [Array.mapM_eq_mapM_toList]
            have hall := List.all_eq_true.1 hc.1
            have key : ∀ (l : List Field), (∀ f ∈ l, (P.info? f.type).isSome = true) → (l.mapM (fun f => do pure (f.offset, ← sizeOf f.type)) : Sem (List (Nat × Nat))).run P w = .ok (l.map fun f => (f.offset, P.cellsOf f.type)) w := by
              intro l
              induction l with
              | nil => intro _; rfl
              | cons f l ih =>
                intro hl
                obtain ⟨inf', hinf⟩ := Option.isSome_iff_exists.1 (hl f (by simp))
                rw [List.mapM_cons, Sem.run_bind, Sem.run_bind, run_sizeOf' hinf w]
                simp only [Result.andThen_ok, Sem.run_pure]
                rw [Sem.run_bind, ih (fun g hg => hl g (by simp [hg]))]
                simp [Program.cellsOf, hinf]
            rw [Sem.run_map, key fs.toList hall]
            rfl
          · unfold fieldPlaces
            simp only [List.getElem?_toArray, List.getElem?_map, Array.getElem?_toList]
            cases hf : fs[i]? with
            | none => simp
            | some f =>
              obtain ⟨inf', hinf⟩ := Option.isSome_iff_exists.1 (List.all_eq_true.1 hc.1 f (by simpa using Array.mem_of_getElem? hf))
              simp [hinf, Program.cellsOf]
        obtain ⟨places, hp1, hp2⟩ := hpl
        rw [Sem.run_bind, hp1]
        simp only [Result.andThen_ok]
        rw [show (fun x => places[x]?) = fieldPlaces P fs.toList from funext fun i => (hp2 i).symm, hfill]
        rfl
      · cases h
    · rename_i n e hu
      split at h
      · rename_i inf' hinf
        replace h := bif_eq_some h
        rcases h with ⟨hc, h⟩ | ⟨_, h⟩
        · obtain ⟨hids, out, hfill, hout⟩ := buildParts_ok (hzc B) hf h
          refine ⟨fun i hi => (hids i hi).elim (fun h => by rw [hzi] at h; cases h) id, .agg out, by simpa using VR_of_CR_agg hout (hagg (cells := out) hc h), ?_⟩
          unfold Instr.build
          rw [Sem.run_bind, run_zeroValue hi hzv w]
          simp only [Result.andThen_ok]
          rw [Sem.run_bind, run_underlying hu w]
          simp only [Result.andThen_ok]
          rw [Sem.run_bind, run_sizeOf' hinf w]
          simp only [Result.andThen_ok, hfill]
          rfl
        · cases h
      · cases h
    · cases h
  · cases h

end Go.Proofs.YtkgpjplncfginaaGreatDoor.Sy
