/- Regions of the machine Sy whose order is open: the theorem. -/
import Derived.Test.YtkgpjplncfginaaGreatDoorSy13
namespace Go.Proofs.YtkgpjplncfginaaGreatDoor.Sy
open Go
set_option linter.unusedVariables false
set_option linter.unusedSimpArgs false

structure Open (P : Program) (E : Env) (N : Nat) (all : List Oper) (efs : List Eff) (σ0 : St) : Prop where
  len : all.length = efs.length
  step : ∀ j o ef, (all.zip efs)[j]? = some (o, ef) → okDst N o.dst = true ∧ stepF P E all o (foldS (fun m => decide (m < j)) (all.zip efs) 0 σ0) = some ef
  low : ∀ j o, all[j]? = some o → edgesLow j o = true
  pair : ∀ i j o ef o' ef', i < j → (all.zip efs)[i]? = some (o', ef') → (all.zip efs)[j]? = some (o, ef) → PairOK all (recOf all o' ef') (recOf all o ef) i j

theorem mem_zip {α β : Type} {as : List α} {bs : List β} {j : Nat} {a : α} {b : β} (h : (as.zip bs)[j]? = some (a, b)) : as[j]? = some a ∧ bs[j]? = some b := by
  rw [List.getElem?_zip_eq_some] at h
  exact h

theorem open_of {P : Program} {E : Env} {N : Nat} {all : List Oper} {efs : List Eff} {σ0 σn : St} (h : Lex P E N all all σ0 efs σn) (hc : chk all all efs [] [] = true) :
    Open P E N all efs σ0 ∧ Alike (foldS (fun _ => true) (all.zip efs) 0 σ0) σn := by
  obtain ⟨h1, h2, h3⟩ := lex_fold 0 h
  obtain ⟨c1, c2⟩ := chk_ok hc rfl (fun j => by simp) (fun m hm => by simp at hm)
  refine ⟨⟨h1, fun j o ef hj => by have := h2 j o ef hj; rw [Nat.zero_add] at this; exact this, fun j o hj => by have := c1 j o hj; simpa using this, fun i j o ef o' ef' hij hi hj => ?_⟩, h3⟩
  obtain ⟨p1, p2⟩ := mem_zip hi
  obtain ⟨q1, q2⟩ := mem_zip hj
  have := (c2 j o ef q1 q2).2 i o' ef' hij p1 p2
  simpa using this

theorem disj_ok {a b : List Nat} (h : disj a b = true) {x : Nat} (ha : x ∈ a) (hb : x ∈ b) : False := by
  have := List.all_eq_true.1 h x ha
  rw [memN_iff.2 hb] at this
  cases this

theorem notIn_ok {d : Option Nat} {l : List Nat} (h : notIn d l = true) {t : Nat} (hd : d = some t) (hl : t ∈ l) : False := by
  subst hd
  simp only [notIn] at h
  rw [memN_iff.2 hl] at h
  cases h

theorem dstNe_ok {a b : Option Nat} (h : dstNe a b = true) {t : Nat} (ha : a = some t) (hb : b = some t) : False := by
  subst ha hb
  simp [dstNe] at h

theorem indep_ok {a b : Rec} (h : indep a b = true) : dstNe a.dst b.dst = true ∧ notIn a.dst b.looks = true ∧ notIn b.dst a.looks = true ∧ disj a.wr b.rd = true ∧ disj a.wr b.wr = true ∧ disj b.wr a.rd = true := by
  simp only [indep, Bool.and_eq_true] at h
  obtain ⟨⟨⟨⟨⟨h1, h2⟩, h3⟩, h4⟩, h5⟩, h6⟩ := h
  exact ⟨h1, h2, h3, h4, h5, h6⟩

theorem mem_looks {all : List Oper} {o : Oper} {ef : Eff} {t : Nat} (h : t ∈ opTmps o.op ∨ (∃ j w, o.guard = some (j, w) ∧ guardT all j = some t)) : t ∈ (recOf all o ef).looks := by
  simp only [recOf]
  rcases h with h | ⟨j, w, h1, h2⟩
  · split
    · split
      · exact List.mem_cons_of_mem _ h
      · exact h
    · exact h
  · rw [h1]
    simp only [h2]
    exact List.mem_cons_self ..

/-- A step that may come now does what it does in the text's order. -/
theorem step_any {P : Program} {E : Env} {N : Nat} {all : List Oper} {efs : List Eff} {σ0 : St} (ho : Open P E N all efs σ0) {S : Nat → Bool} (hc : ClosedS all S) {i : Nat} {o : Oper} {ef : Eff} (hi : (all.zip efs)[i]? = some (o, ef))
    (hs : S i = false) (ha : AncIn all S i) :
    stepF P E all o (foldS S (all.zip efs) 0 σ0) = some ef ∧
    ∀ S', S' i = true → (∀ m, m ≠ i → S' m = S m) → Alike ((foldS S (all.zip efs) 0 σ0).app o.dst ef) (foldS S' (all.zip efs) 0 σ0) := by
  have before : ∀ m o' ef', m < i → (all.zip efs)[m]? = some (o', ef') → S m = true ∨ indep (recOf all o' ef') (recOf all o ef) = true := fun m o' ef' hm hp => by
    rcases ho.pair m i o ef o' ef' hm hp hi with h | h
    · exact .inr h
    · exact .inl (h S hc ha)
  have after : ∀ m o' ef', i < m → (all.zip efs)[m]? = some (o', ef') → S m = false ∨ indep (recOf all o ef) (recOf all o' ef') = true := fun m o' ef' hm hp => by
    rcases ho.pair i m o' ef' o ef hm hi hp with h | h
    · exact .inr h
    · cases hsm : S m
      · exact .inl rfl
      · have := h S hc (hc m hsm)
        rw [hs] at this; cases this
  constructor
  · refine stepF_local (ho.step i o ef hi).2 (fun t ht => ?_) (fun x hx => ?_)
    · refine fold_env (fun m p hp hd => ?_) rfl
      obtain ⟨o', ef'⟩ := p
      rw [Nat.zero_add]
      have hl := mem_looks (ef := ef) ht
      rcases Nat.lt_trichotomy m i with hm | hm | hm
      · rcases before m o' ef' hm hp with h | h
        · rw [h]; simp [hm]
        · exact (notIn_ok (indep_ok h).2.1 hd hl).elim
      · subst hm; rw [hs]; simp
      · rcases after m o' ef' hm hp with h | h
        · rw [h]; simp; omega
        · exact (notIn_ok (indep_ok h).2.2.1 hd hl).elim
    · refine fold_heap (fun m p hp hd => ?_) rfl
      obtain ⟨o', ef'⟩ := p
      rw [Nat.zero_add]
      rcases Nat.lt_trichotomy m i with hm | hm | hm
      · rcases before m o' ef' hm hp with h | h
        · rw [h]; simp [hm]
        · obtain ⟨_, _, _, h4, h5, _⟩ := indep_ok h
          rcases List.mem_append.1 hx with hx | hx
          · exact (disj_ok h4 hd hx).elim
          · exact (disj_ok h5 hd hx).elim
      · subst hm; rw [hs]; simp
      · rcases after m o' ef' hm hp with h | h
        · rw [h]; simp; omega
        · obtain ⟨_, _, _, h4, h5, h6⟩ := indep_ok h
          rcases List.mem_append.1 hx with hx | hx
          · exact (disj_ok h6 hd hx).elim
          · exact (disj_ok h5 hx hd).elim
  · intro S' hs' hne
    refine ⟨fun t => ?_, fun x => ?_⟩
    · rw [look_app_env]
      by_cases hd : o.dst = some t
      · rw [if_pos hd]
        symm
        refine fold_last_env _ hi (by rw [Nat.zero_add]; exact hs') hd (fun m p hm hp hdm => ?_)
        obtain ⟨o', ef'⟩ := p
        rw [Nat.zero_add, hne m (by omega)]
        rcases after m o' ef' hm hp with h | h
        · exact h
        · exact (dstNe_ok (indep_ok h).1 hd hdm).elim
      · rw [if_neg hd]
        refine fold_env (fun m p hp hdm => ?_) rfl
        rw [Nat.zero_add]
        refine (hne m (fun e => ?_)).symm
        subst e
        rw [hp] at hi; cases hi
        exact hd hdm
    · rw [look_app_heap]
      by_cases hd : x ∈ keys ef.wr
      · rw [if_pos hd]
        symm
        refine fold_last_heap _ hi (by rw [Nat.zero_add]; exact hs') hd (fun m p hm hp hdm => ?_)
        obtain ⟨o', ef'⟩ := p
        rw [Nat.zero_add, hne m (by omega)]
        rcases after m o' ef' hm hp with h | h
        · exact h
        · exact (disj_ok (indep_ok h).2.2.2.2.1 hd hdm).elim
      · rw [if_neg hd]
        refine fold_heap (fun m p hp hdm => ?_) rfl
        rw [Nat.zero_add]
        refine (hne m (fun e => ?_)).symm
        subst e
        rw [hp] at hi; cases hi
        exact hd hdm

def listedS (listed : Array Bool) (m : Nat) : Bool := listed.getD m false

theorem listed_set {listed : Array Bool} {i : Nat} (hi : i < listed.size) : listedS (listed.setIfInBounds i true) i = true ∧ ∀ m, m ≠ i → listedS (listed.setIfInBounds i true) m = listedS listed m := by
  refine ⟨by simp [listedS, hi], fun m hm => ?_⟩
  unfold listedS
  exact getD_set_ne false (Ne.symm hm)

theorem any_ok {P : Program} {E : Env} {N : Nat} (hE : ∀ f, ∀ c ∈ E.fn f, CalleeOK P f c) {all : List Oper} {efs : List Eff} {σ0 : St} (ho : Open P E N all efs σ0) {Q : Exit → Act → World → Prop} {B0 : Bz} {w0 : World}
    (hQ : ∀ B a w, Rn N B0 σ0 w0 B (foldS (fun _ => true) (all.zip efs) 0 σ0) a w → Q .normal a w) :
    ∀ (fuel : Nat) (listed : Array Bool) (B : Bz) (a : Act) (w : World), listed.size = all.length → ClosedS all (listedS listed) → cnt (listedS listed) all.length ≤ fuel →
      Rn N B0 σ0 w0 B (foldS (listedS listed) (all.zip efs) 0 σ0) a w → wpAny P .any all.toArray Q fuel listed a w := by
  have hdone : ∀ (listed : Array Bool) (B : Bz) (a : Act) (w : World), (∀ m, m < all.length → listedS listed m = true) → Rn N B0 σ0 w0 B (foldS (listedS listed) (all.zip efs) 0 σ0) a w → Q .normal a w := by
    intro listed B a w hall hr
    refine hQ B a w (hr.alike (Alike.refl σ0) ⟨fun t => fold_env (fun m p hp _ => ?_) rfl, fun i => fold_heap (fun m p hp _ => ?_) rfl⟩) <;>
    · rw [Nat.zero_add]
      refine hall m ?_
      obtain ⟨o', ef'⟩ := p
      exact (List.getElem?_eq_some_iff.1 (mem_zip hp).1).1
  have hready : ∀ (listed : Array Bool), listed.size = all.length → Region.ready .any all.toArray listed = [] → ∀ m, m < all.length → listedS listed m = true := by
    intro listed hsz hnil m
    induction m using Nat.strongRecOn with
    | _ m ih =>
      intro hm
      cases hs : listedS listed m
      · exfalso
        have hmem : m ∈ Region.ready .any all.toArray listed := by
          rw [mem_ready]
          have hlt : m < listed.size := by omega
          refine ⟨?_, all[m], by simp [hm], fun e he hb => ?_⟩
          · have : listedS listed m = listed.getD m true := by simp [listedS, hlt]
            rw [← this]; exact hs
          · have hlow := ho.low m all[m] (by simp [hm])
            have := List.all_eq_true.1 hlow e (by simpa using he)
            simp only [hb, Bool.not_true, Bool.false_or] at this
            have hlt' := blt_lt this
            exact ih e.on hlt' (by omega)
        rw [hnil] at hmem; cases hmem
      · rfl
  intro fuel
  induction fuel with
  | zero =>
    intro listed B a w hsz hc hcnt hr
    have hall := cnt_zero (Nat.le_zero.1 hcnt)
    refine ⟨?_, hdone listed B a w hall hr⟩
    cases hrd : Region.ready .any all.toArray listed with
    | nil => rfl
    | cons x xs =>
      have hx : x ∈ Region.ready .any all.toArray listed := by rw [hrd]; exact List.mem_cons_self ..
      rw [mem_ready] at hx
      obtain ⟨h0, o, hox, _⟩ := hx
      have hlt : x < all.length := by simpa using (Array.getElem?_eq_some_iff.1 hox).1
      have := hall x hlt
      have hlt' : x < listed.size := by omega
      simp [listedS, hlt'] at this h0
      rw [this] at h0; cases h0
  | succ fuel ih =>
    intro listed B a w hsz hc hcnt hr
    refine ⟨fun hnil => hdone listed B a w (hready listed hsz hnil) hr, fun i hi => ?_⟩
    rw [mem_ready] at hi
    obtain ⟨h0, o, hoi, hedges⟩ := hi
    have hlt : i < all.length := by simpa using (Array.getElem?_eq_some_iff.1 hoi).1
    have hoi' : all[i]? = some o := by simpa using hoi
    have hlt2 : i < efs.length := by rw [← ho.len]; exact hlt
    have hzip : (all.zip efs)[i]? = some (o, efs[i]) := by
      rw [List.getElem?_zip_eq_some]; exact ⟨hoi', by simp [hlt2]⟩
    have hlt' : i < listed.size := by omega
    have hsi : listedS listed i = false := by simpa [listedS, hlt'] using h0
    have hanc : AncIn all (listedS listed) i := fun o' ho' e he hb => by
      rw [hoi'] at ho'; cases ho'
      exact hedges e he hb
    obtain ⟨hst, hal⟩ := step_any ho hc hzip hsi hanc
    obtain ⟨hset, hne⟩ := listed_set hlt'
    have hc' : ClosedS all (listedS (listed.setIfInBounds i true)) := fun j hj o' ho' e he hb => by
      have hsub : ∀ m, listedS listed m = true → listedS (listed.setIfInBounds i true) m = true := fun m hm => by
        by_cases e : m = i
        · subst e; exact hset
        · rw [hne m e]; exact hm
      by_cases e' : j = i
      · subst e'; exact hsub _ (hanc o' ho' e he hb)
      · rw [hne j e'] at hj
        exact hsub _ (hc j hj o' ho' e he hb)
    have hcnt' : cnt (listedS (listed.setIfInBounds i true)) all.length ≤ fuel := by
      have := (cnt_set hsi hset hne (n := all.length)).1 hlt
      omega
    have hd := (ho.step i o _ hzip).1
    have := step_wp hE hst hr.rel (K := wpAny P .any all.toArray Q fuel (listed.setIfInBounds i true)) (Q := Q) (fun B' u w' hp => by
      refine ih _ B' _ w' (by simpa using hsz) hc' hcnt' ?_
      exact (hr.trans (Rn.post hd hr.rel hp)).alike (Alike.refl σ0) (hal _ hset hne))
    unfold wpOp
    rw [hoi]
    simp only
    split
    · rename_i hw; rw [if_pos hw] at this; exact .inl this
    · rename_i hw; rw [if_neg hw] at this; exact this

theorem Rel.drew {N : Nat} {B : Bz} {σ : St} {a : Act} {w : World} (h : Rel N B σ a w) : Rel N B σ a { w with drawn := w.drawn + 1 } :=
  ⟨h.size, h.defers, h.env, h.closed, h.heap.heapEq rfl⟩

theorem region_any {P : Program} {E : Env} {N : Nat} (hE : ∀ f, ∀ c ∈ E.fn f, CalleeOK P f c) (hm : P.follows .mixedOrders = true) {id : Nat} {ops : Array Oper} {σ σ' : St} {efs : List Eff} (h : Lex P E N ops.toList ops.toList σ efs σ')
    (hc : chk ops.toList ops.toList efs [] [] = true) {B : Bz} {a : Act} {w : World} (hr : Rel N B σ a w)
    {Q : Exit → Act → World → Prop} (hQ : ∀ B' a' w', Rn N B σ w B' σ' a' w' → Q .normal a' w') : (Code.region id ops true).wp P Q a w := by
  obtain ⟨ho, hal⟩ := open_of h hc
  refine wp_region_any hm ?_
  have hn : ∀ m, listedS (Array.replicate ops.size false) m = false := fun m => by
    unfold listedS
    by_cases hlt : m < ops.size
    · simp [hlt]
    · simp [Array.getElem?_eq_none (show (Array.replicate ops.size false).size ≤ m by simp; omega)]
  have hrefl : Rn N B σ w B (foldS (listedS (Array.replicate ops.size false)) (ops.toList.zip efs) 0 σ) a { w with drawn := w.drawn + 1 } := by
    rw [foldS_none (fun m _ => hn m)]
    exact ⟨hr.drew, fun _ _ => rfl, ⟨rfl, rfl, rfl, Nat.le_refl _, fun _ _ _ => rfl, Zle.refl _, fun _ _ _ h => .inl h, fun _ h => .inl h⟩⟩
  have := any_ok hE ho (Q := Q) (B0 := B) (w0 := w) (fun B' a' w' hrn => hQ B' a' w' (hrn.alike (Alike.refl σ) hal)) ops.size (Array.replicate ops.size false) B a { w with drawn := w.drawn + 1 } (by simp)
    (fun j hj => by rw [hn] at hj; cases hj) (by have := cnt_le (listedS (Array.replicate ops.size false)) ops.toList.length; simpa using this) hrefl
  simpa using this

end Go.Proofs.YtkgpjplncfginaaGreatDoor.Sy
