/- An operation looks at little: calls, and all of them. -/
import Derived.Test.YtkgpjplncfginaaGreatDoorSyH
namespace Go.Proofs.YtkgpjplncfginaaGreatDoor.Sy
open Go
set_option linter.unusedVariables false
set_option linter.unusedSimpArgs false

theorem close_sub {H : Heap} : ∀ (f : Nat) (acc : List Nat) (k : Nat), ∀ x ∈ acc, x ∈ close H f acc k
  | 0, acc, k, x, hx => hx
  | f + 1, acc, k, x, hx => by
    simp only [close]
    split
    · split
      · exact close_sub f _ _ x (mem_addNew.2 (.inl hx))
      · exact hx
    · exact hx

theorem close_congr {H H' : Heap} : ∀ {f : Nat} {acc : List Nat} {k : Nat}, (∀ i ∈ close H f acc k, look i H' = look i H) → close H' f acc k = close H f acc k
  | 0, acc, k, _ => rfl
  | f + 1, acc, k, h => by
    have hs := close_sub (H := H) (f + 1) acc k
    simp only [close] at h hs ⊢
    split
    · rename_i i hi
      have hm : look i H' = look i H := h i (hs i (List.mem_of_getElem? hi))
      rw [hm]
      rw [hi] at h
      simp only at h
      split
      · rename_i e he
        rw [he] at h
        simp only at h
        exact close_congr h
      · rfl
    · rfl

theorem backOk_congr {L H H' all : Heap} {m d : Nat} : ∀ {r : Heap}, (∀ j e, (j, e) ∈ r → m ≤ j → look (freshId d (j - newB)) H' = look (freshId d (j - newB)) H) → backOk L H' all m d r = backOk L H all m d r
  | [], _ => rfl
  | (j, e) :: r, h => by
    simp only [backOk]
    rw [backOk_congr (r := r) (fun j e hm => h j e (List.mem_cons_of_mem _ hm))]
    cases hb : Nat.blt j m
    · rw [h j e (List.mem_cons_self ..) (blt_ge hb)]
    · rfl

theorem keys_back {π : Nat → Nat} : ∀ {wr : Heap} {j : Nat} {e : Ent}, (j, e) ∈ wr → π j ∈ keys (backH π wr)
  | (j0, e0) :: r, j, e, h => by
    rcases List.mem_cons.1 h with h | h
    · cases h; simp [backH, keys]
    · simp only [backH, keys, List.mem_cons]; exact .inr (keys_back h)

theorem back_local {L H H' wr : Heap} {ids : List Nat} {d : Nat} (hh : ∀ i ∈ keys (backH (backId ids d) wr), look i H' = look i H) : backOk L H' wr ids.length d wr = backOk L H wr ids.length d wr :=
  backOk_congr fun j e hm hj => by
    have := hh _ (keys_back (π := backId ids d) hm)
    rwa [backId_ge hj] at this

theorem callK_local {E : Env} {H H' : Heap} {d : Option Nat} {f : FuncId} {args : List AV} {ef : Eff} (h : callK E H d f args some = some ef) (hh : ∀ i ∈ ef.rd ++ keys ef.wr, look i H' = look i H) : callK E H' d f args some = some ef := by
  have hcl : ∀ i ∈ close H 64 (addNew [] (idsAll args ++ E.gl f)) 0, look i H' = look i H := by
    unfold callK at h
    simp only at h
    split at h
    · split at h
      · replace h := bif_eq_some h
        rcases h with ⟨he, h⟩ | ⟨_, h⟩
        · intro i hi; rw [List.isEmpty_iff.1 he] at hi; cases hi
        · cases h
      · replace h := bif_eq_some h
        rcases h with ⟨_, h⟩ | ⟨_, h⟩
        · obtain ⟨t, _, h⟩ := Option.bind_eq_some_iff.1 h
          replace h := bif_eq_some h
          rcases h with ⟨_, h⟩ | ⟨_, h⟩
          · cases h
            exact fun i hi => hh i (List.mem_append_left _ hi)
          · cases h
        · cases h
      · replace h := bif_eq_some h
        rcases h with ⟨_, h⟩ | ⟨_, h⟩
        · obtain ⟨s, _, h⟩ := Option.bind_eq_some_iff.1 h
          cases s <;> simp only [sel] at h <;> replace h := bif_eq_some h <;> rcases h with ⟨_, h⟩ | ⟨_, h⟩ <;> cases h <;> exact fun i hi => hh i (List.mem_append_left _ hi)
        · cases h
      · cases h
    · cases h
  unfold callK at h ⊢
  simp only at h ⊢
  rw [close_congr hcl]
  generalize close H 64 (addNew [] (idsAll args ++ E.gl f)) 0 = ids at *
  rw [localH_congr hcl]
  split at h
  · rename_i L hL
    split at h
    · exact h
    · replace h := bif_eq_some h
      rcases h with ⟨hb, h⟩ | ⟨_, h⟩
      · obtain ⟨t, ht, h⟩ := Option.bind_eq_some_iff.1 h
        replace h := bif_eq_some h
        rcases h with ⟨hc, h⟩ | ⟨_, h⟩
        · cases h
          rw [hb, ht]
          simp only [cond_true, Option.bind_some]
          rw [back_local (fun i hi => hh i (List.mem_append_right _ hi)), hc]
          rfl
        · cases h
      · cases h
    · replace h := bif_eq_some h
      rcases h with ⟨hb, h⟩ | ⟨_, h⟩
      · obtain ⟨s, hs, h⟩ := Option.bind_eq_some_iff.1 h
        rw [hb, hs]
        simp only [cond_true, Option.bind_some]
        cases s with
        | inl t =>
          simp only [sel] at h ⊢
          replace h := bif_eq_some h
          rcases h with ⟨hc, h⟩ | ⟨_, h⟩
          · cases h
            rw [back_local (fun i hi => hh i (List.mem_append_right _ hi)), hc]
            rfl
          · cases h
        | inr t =>
          simp only [sel] at h ⊢
          replace h := bif_eq_some h
          rcases h with ⟨hc, h⟩ | ⟨_, h⟩
          · cases h
            rw [back_local (fun i hi => hh i (List.mem_append_right _ hi)), hc]
            rfl
          · cases h
      · cases h
    · cases h
  · cases h

theorem op_local {P : Program} {E : Env} {o : Oper} {σ σ' : St} {ef : Eff} (h : opK P E o σ some = some ef) (ht : ∀ t ∈ opTmps o.op, look t σ'.env = look t σ.env)
    (hh : ∀ i ∈ ef.rd ++ keys ef.wr, look i σ'.heap = look i σ.heap) : opK P E o σ' some = some ef := by
  unfold opK at h ⊢
  split
  · rename_i x ho
    rw [ho] at h ht
    (try simp only at h)
    rw [ev_congr ht]; exact h
  · rename_i x ho
    rw [ho] at h ht
    (try simp only at h)
    rw [ev_congr ht]; exact h
  · rename_i c x y ho
    rw [ho] at h ht
    (try simp only at h)
    rw [ev_congr (x := c) (fun t h => ht t (by simp [opTmps, h])), ev_congr (x := x) (fun t h => ht t (by simp [opTmps, h])), ev_congr (x := y) (fun t h => ht t (by simp [opTmps, h]))]; exact h
  · rename_i t ho
    rw [ho] at h
    (try simp only at h)
    split at h
    · split at h
      · split at h
        · rename_i hl
          cases h
          rw [hh]
          · rw [hl]
          · simp [keys]
        · cases h
      · cases h
    · cases h
  · rename_i t x ho
    rw [ho] at h ht
    (try simp only at h)
    rw [ev_congr ht]
    split at h
    · split at h
      · split at h
        · rename_i hl
          replace h := bif_eq_some h
          rcases h with ⟨_, h⟩ | ⟨hc, h⟩
          · cases h
          · cases h
            rw [hh]
            · rw [hl, hc]; rfl
            · simp [keys]
        · cases h
      · cases h
    · cases h
  · rename_i t ps ho
    rw [ho] at h ht
    (try simp only at h)
    rw [evParts_congr ht]
    split at h
    · rename_i ps' hps
      have hrd : ef.rd = partIds ps' := by
        have h2 := h
        split at h2
        · cases h2; rfl
        · cases h2
      rw [frzParts_congr (H := σ.heap) (fun i hi => hh i (by rw [hrd]; simp [hi]))]
      exact h
    · cases h
  · rename_i t n ps ho
    rw [ho] at h ht
    (try simp only at h)
    rw [evParts_congr ht]
    split at h
    · split at h
      · split at h
        · split at h
          · split at h
            · split at h
              · replace h := bif_eq_some h
                rcases h with ⟨hc, h⟩ | ⟨_, h⟩
                · rw [hc]
                  simp only [cond_true]
                  split at h
                  · split at h
                    · rename_i hdec _ hl
                      cases h
                      rw [frzParts_congr (H := σ.heap) (fun i hi => hh i (by simp [hi])), hdec]
                      simp only
                      rw [hh]
                      · rw [hl]
                      · simp [keys]
                    · cases h
                  · cases h
                · cases h
              · cases h
            · cases h
          · cases h
        · cases h
      · cases h
    · cases h
  · rename_i t x ho
    rw [ho] at h ht
    (try simp only at h)
    rw [ev_congr ht]
    split at h
    · rename_i p hp
      split at h
      · rename_i n g hg
        split at h
        · rename_i e he
          rw [loadE_nat] at h
          obtain ⟨v, h2, hv⟩ := Option.bind_eq_some_iff.1 h
          rw [hh p.id (by rw [rowK_rd hv]; simp), he]
          simp only
          rw [loadE_nat, h2]
          exact rowK_local hv hh
        · cases h
      · cases h
    · rename_i gg st dys hp
      split at h
      · rename_i n g hg
        split at h
        · rename_i i hgi
          split at h
          · rename_i g' ty x0 he
            replace h := bif_eq_some h
            rcases h with ⟨hc, h⟩ | ⟨_, h⟩
            · rw [globK_nat] at h
              obtain ⟨v, h2, hv⟩ := Option.bind_eq_some_iff.1 h
              rw [hh i (by rw [rowK_rd hv]; simp), he]
              simp only [hc, cond_true]
              rw [globK_nat, h2]
              exact rowK_local hv hh
            · cases h
          · cases h
        · cases h
      · cases h
    · cases h
  · rename_i t x y ho
    rw [ho] at h ht
    (try simp only at h)
    rw [ev_congr (x := x) (fun t h => ht t (by simp [opTmps, h])), ev_congr (x := y) (fun t h => ht t (by simp [opTmps, h]))]
    split at h
    · rename_i p hp
      split at h
      · rename_i u hu
        split at h
        · rename_i n g hg
          replace h := bif_eq_some h
          rcases h with ⟨hc, h⟩ | ⟨_, h⟩
          · split at h
            · rename_i e he
              rw [hc]
              simp only [cond_true]
              have hwr : keys ef.wr = [p.id] ∧ ef.rd = u.ids := by
                have h2 := h
                rw [storeE_nat] at h2
                obtain ⟨v, _, hv⟩ := Option.bind_eq_some_iff.1 h2
                cases hv; exact ⟨rfl, rfl⟩
              rw [hh p.id (by rw [hwr.1]; simp), he, frzR_congr (H := σ.heap) (fun i hi => hh i (by rw [hwr.2]; simp [hi]))]
              exact h
            · cases h
          · cases h
        · cases h
      · cases h
    · cases h
  · rename_i x ho
    rw [ho] at h ht
    (try simp only at h)
    rw [ev_congr ht]; exact h
  · rename_i op t x y yt ho
    rw [ho] at h ht
    (try simp only at h)
    rw [ev_congr (x := x) (fun t h => ht t (by simp [opTmps, h])), ev_congr (x := y) (fun t h => ht t (by simp [opTmps, h]))]; exact h
  · rename_i op t x ho
    rw [ho] at h ht
    (try simp only at h)
    rw [ev_congr ht]; exact h
  · rename_i s d x ho
    rw [ho] at h ht
    (try simp only at h)
    rw [ev_congr ht]
    split at h
    · exact convK_local h hh
    · cases h
  · rename_i s x f ho
    rw [ho] at h ht
    (try simp only at h)
    rw [ev_congr ht]; exact h
  · rename_i t x i ho
    rw [ho] at h ht
    (try simp only at h)
    rw [ev_congr (x := x) (fun t h => ht t (by simp [opTmps, h])), ev_congr (x := i) (fun t h => ht t (by simp [opTmps, h]))]
    split at h
    · rename_i u hu
      split at h
      · rename_i j hj
        unfold indexK at h ⊢
        split at h
        · split at h
          · exact h
          · split at h
            · rename_i v
              split at h
              · rename_i hl
                split at h
                · rename_i inf hinf
                  replace h := bif_eq_some h
                  rcases h with ⟨hc, h⟩ | ⟨_, h⟩
                  · replace h := bif_eq_some h
                    rcases h with ⟨hc2, h⟩ | ⟨_, h⟩
                    · cases h
                      rw [hh v (by simp), hl]
                      simp only [hc, hc2, cond_true]
                    · cases h
                  · cases h
                · cases h
              · cases h
            · cases h
          · cases h
        · cases h
      · cases h
    · cases h
  · rename_i t x i ho
    rw [ho] at h ht
    (try simp only at h)
    rw [ev_congr (x := x) (fun t h => ht t (by simp [opTmps, h])), ev_congr (x := i) (fun t h => ht t (by simp [opTmps, h]))]; exact h
  · rename_i t x lo hi mx ho
    rw [ho] at h ht
    (try simp only at h)
    cases mx with
    | some _ => cases h
    | none =>
      simp only at h ⊢
      rw [ev_congr (x := x) (fun t h => ht t (by simp [opTmps, h])), evO_congr (x := lo) (fun t h => ht t (by simp [opTmps, h])), evO_congr (x := hi) (fun t h => ht t (by simp [opTmps, h]))]
      split at h
      · split at h
        · split at h
          · split at h
            · exact sliceG_local h hh
            · exact sliceK_local h hh
          · cases h
        · cases h
      · cases h
  · rename_i t x f ho
    rw [ho] at h ht
    (try simp only at h)
    rw [ev_congr ht]
    split at h
    · rw [fieldVK_nat] at h
      obtain ⟨v, h2, hv⟩ := Option.bind_eq_some_iff.1 h
      rw [fieldVK_nat, h2]
      exact rowK_local hv hh
    · cases h
  · rename_i t x y ho
    rw [ho] at h ht
    (try simp only at h)
    rw [ev_congr (x := x) (fun t h => ht t (by simp [opTmps, h])), ev_congr (x := y) (fun t h => ht t (by simp [opTmps, h]))]
    split at h
    · split at h
      · exact makeSliceK_local h hh
      · cases h
    · cases h
  · rename_i t x ho
    rw [ho] at h ht
    (try simp only at h)
    rw [ev_congr ht]
    split at h
    · exact rangeK_local h hh
    · cases h
  · rename_i x s ho
    rw [ho] at h ht
    (try simp only at h)
    rw [ev_congr ht]
    split at h
    · rcases bif_eq_some h with ⟨hs, h⟩ | ⟨_, h⟩
      · rw [hs]
        exact nextK_local h hh
      · cases h
    · cases h
  · rename_i x i ho
    rw [ho] at h ht
    (try simp only at h)
    rw [ev_congr ht]; exact h
  · rename_i c ho
    rw [ho] at h ht
    (try simp only at h)
    rw [evAll_congr (fun t hh => ht t (by simp [opTmps, hh]))]
    split at h
    · split at h
      · unfold builtinK at h ⊢
        split at h
        · split at h
          · split at h
            · split at h
              · exact h
              · split at h
                · exact h
                · split at h
                  · rename_i hl
                    cases h
                    rw [hh]
                    · rw [hl]
                    · simp
                  · cases h
                · exact h
                · cases h
              · cases h
            · cases h
          · cases h
        · exact h
        · exact h
        · split at h
          · exact appendK_local h hh
          · cases h
        · split at h
          · exact copyK_local h hh
          · cases h
        · cases h
      · rename_i x hc
        have hx : ev σ' x = ev σ x := ev_congr (fun t hh => ht t (by simp [opTmps, calleeTmps, hc, hh]))
        simp only [hx]
        split at h
        · rename_i args _ _ f hf
          rw [callK_nat] at h
          obtain ⟨ef0, h2, he0⟩ := Option.bind_eq_some_iff.1 h
          cases he0
          rw [frzArgs_congr (H := σ.heap) (fun i hi => hh i (by simp [hi])), callK_nat, callK_local h2 (fun i hi => hh i (by
            simp only [List.mem_append] at hi ⊢
            rcases hi with hi | hi
            · exact .inl (.inr hi)
            · exact .inr hi))]
          rfl
        · cases h
      · cases h
    · cases h
  · exfalso
    revert h
    split <;> first | (intro h; cases h; done) | (simp_all; done) | (simp_all; rename_i hx _; exact absurd rfl (hx _ _ _ _ _ rfl rfl rfl rfl))

end Go.Proofs.YtkgpjplncfginaaGreatDoor.Sy
