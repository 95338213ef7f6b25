/- Regions of the machine Sy whose order is open: every order comes to what the text's order comes to. -/
import Derived.Test.YtkgpjplncfginaaGreatDoorSy12
namespace Go.Proofs.YtkgpjplncfginaaGreatDoor.Sy
open Go
set_option linter.unusedVariables false
set_option linter.unusedSimpArgs false

/-- Those steps that S names, in the text's order. -/
def foldS (S : Nat → Bool) : List (Oper × Eff) → Nat → St → St
  | [], _, σ => σ
  | (o, ef) :: r, k, σ => foldS S r (k + 1) (if S k = true then σ.app o.dst ef else σ)

theorem foldS_none {S : Nat → Bool} : ∀ {l : List (Oper × Eff)} {k : Nat} {σ : St}, (∀ m, k ≤ m → S m = false) → foldS S l k σ = σ
  | [], _, _, _ => rfl
  | (o, ef) :: r, k, σ, h => by
    simp only [foldS, h k (Nat.le_refl _), Bool.false_eq_true, if_false]
    exact foldS_none (fun m hm => h m (by omega))

theorem lex_fold {P : Program} {E : Env} {N : Nat} {all : List Oper} : ∀ {l : List Oper} {σ : St} {efs : List Eff} {σ' : St} (k : Nat), Lex P E N all l σ efs σ' →
    l.length = efs.length ∧ (∀ j o ef, (l.zip efs)[j]? = some (o, ef) → okDst N o.dst = true ∧ stepF P E all o (foldS (fun m => decide (m < k + j)) (l.zip efs) k σ) = some ef) ∧ Alike (foldS (fun _ => true) (l.zip efs) k σ) σ'
  | [], σ, efs, σ', k, ⟨h1, h2⟩ => by subst h1; exact ⟨rfl, fun j o ef h => by simp at h, h2⟩
  | o :: l, σ, efs, σ', k, ⟨ef, efs', h1, hd, h2, h3⟩ => by
    subst h1
    obtain ⟨p1, p2, p3⟩ := lex_fold (k + 1) h3
    refine ⟨by simp [p1], fun j o' ef' h => ?_, ?_⟩
    · cases j with
      | zero =>
        simp only [List.zip_cons_cons, List.getElem?_cons_zero, Option.some.injEq, Prod.mk.injEq] at h
        obtain ⟨rfl, rfl⟩ := h
        rw [foldS_none (fun m hm => by simp; omega)]
        exact ⟨hd, h2⟩
      | succ j =>
        simp only [List.zip_cons_cons, List.getElem?_cons_succ] at h
        obtain ⟨q1, q2⟩ := p2 j o' ef' h
        refine ⟨q1, ?_⟩
        simp only [List.zip_cons_cons, foldS]
        rw [if_pos (by simp)]
        rw [show k + (j + 1) = k + 1 + j by omega]
        exact q2
    · simp only [List.zip_cons_cons, foldS, if_true]
      exact p3

theorem look_app_env (σ : St) (d : Option Nat) (ef : Eff) (t : Nat) : look t (σ.app d ef).env = if d = some t then some ef.val else look t σ.env := by
  cases d with
  | none => simp [St.app]
  | some d =>
    simp only [St.app, look_cons, Option.some.injEq]
    by_cases e : t = d
    · subst e; simp
    · rw [if_neg e, if_neg (Ne.symm e)]

theorem look_none_of {i : Nat} : ∀ {H : Heap}, i ∉ keys H → look i H = none
  | [], _ => rfl
  | (j, e) :: r, h => by
    simp only [keys, List.mem_cons, not_or] at h
    rw [look_cons, if_neg h.1]
    exact look_none_of h.2

theorem look_some_of {i : Nat} : ∀ {H : Heap}, i ∈ keys H → ∃ e, look i H = some e
  | (j, e) :: r, h => by
    rw [look_cons]
    by_cases hij : i = j
    · exact ⟨e, if_pos hij⟩
    · rw [if_neg hij]
      simp only [keys, List.mem_cons] at h
      exact look_some_of (h.resolve_left hij)

theorem look_app_heap (σ : St) (d : Option Nat) (ef : Eff) (i : Nat) : look i (σ.app d ef).heap = if i ∈ keys ef.wr then look i ef.wr else look i σ.heap := by
  simp only [St.app, look_append]
  by_cases h : i ∈ keys ef.wr
  · rw [if_pos h]
    obtain ⟨e, he⟩ := look_some_of h
    rw [he]; rfl
  · rw [if_neg h, look_none_of h]; rfl

theorem fold_env {S S' : Nat → Bool} {t : Nat} : ∀ {l : List (Oper × Eff)} {k : Nat} {σ σ' : St}, (∀ m p, l[m]? = some p → p.1.dst = some t → S (k + m) = S' (k + m)) → look t σ.env = look t σ'.env →
    look t (foldS S l k σ).env = look t (foldS S' l k σ').env
  | [], _, _, _, _, h => h
  | (o, ef) :: r, k, σ, σ', hs, h => by
    simp only [foldS]
    refine fold_env (fun m p hm hp => by have := hs (m + 1) p (by simpa using hm) hp; rw [show k + (m + 1) = k + 1 + m by omega] at this; exact this) ?_
    by_cases hd : o.dst = some t
    · have := hs 0 (o, ef) rfl hd
      simp only [Nat.add_zero] at this
      rw [this]
      cases S' k
      · exact h
      · simp only [if_true, look_app_env, hd]
    · have e1 : ∀ (c : Bool) (σ : St), look t (if c = true then σ.app o.dst ef else σ).env = look t σ.env := fun c σ => by
        cases c
        · rfl
        · simp only [if_true, look_app_env, hd, if_false]
      rw [e1, e1]; exact h

theorem fold_heap {S S' : Nat → Bool} {i : Nat} : ∀ {l : List (Oper × Eff)} {k : Nat} {σ σ' : St}, (∀ m p, l[m]? = some p → i ∈ keys p.2.wr → S (k + m) = S' (k + m)) → look i σ.heap = look i σ'.heap →
    look i (foldS S l k σ).heap = look i (foldS S' l k σ').heap
  | [], _, _, _, _, h => h
  | (o, ef) :: r, k, σ, σ', hs, h => by
    simp only [foldS]
    refine fold_heap (fun m p hm hp => by have := hs (m + 1) p (by simpa using hm) hp; rw [show k + (m + 1) = k + 1 + m by omega] at this; exact this) ?_
    by_cases hd : i ∈ keys ef.wr
    · have := hs 0 (o, ef) rfl hd
      simp only [Nat.add_zero] at this
      rw [this]
      cases S' k
      · exact h
      · simp only [if_true, look_app_heap, hd]
    · have e1 : ∀ (c : Bool) (σ : St), look i (if c = true then σ.app o.dst ef else σ).heap = look i σ.heap := fun c σ => by
        cases c
        · rfl
        · simp only [if_true, look_app_heap, hd, if_false]
      rw [e1, e1]; exact h

theorem fold_last_env {S : Nat → Bool} {t : Nat} (l : List (Oper × Eff)) : ∀ {k j : Nat} {σ : St} {o : Oper} {ef : Eff}, l[j]? = some (o, ef) → S (k + j) = true → o.dst = some t →
    (∀ m p, j < m → l[m]? = some p → p.1.dst = some t → S (k + m) = false) → look t (foldS S l k σ).env = some ef.val := by
  induction l with
  | nil => intro k j σ o ef hj; simp at hj
  | cons p r ih =>
    obtain ⟨o, ef⟩ := p
    intro k j σ o' ef' hj hs hd hn
    cases j with
    | zero =>
      simp only [List.getElem?_cons_zero, Option.some.injEq, Prod.mk.injEq] at hj
      obtain ⟨rfl, rfl⟩ := hj
      simp only [Nat.add_zero] at hs
      simp only [foldS, hs, if_true]
      rw [fold_env (S' := fun _ => false) (σ' := σ.app o.dst ef) (fun m p hm hp => by
        have := hn (m + 1) p (by omega) (by simpa using hm) hp
        rw [show k + (m + 1) = k + 1 + m by omega] at this
        rw [this]) rfl, foldS_none (fun _ _ => rfl), look_app_env, if_pos hd]
    | succ j =>
      simp only [foldS]
      refine ih (j := j) (by simpa using hj) (by rw [show k + 1 + j = k + (j + 1) by omega]; exact hs) hd (fun m p hjm hm hp => ?_)
      rw [show k + 1 + m = k + (m + 1) by omega]
      exact hn (m + 1) p (by omega) (by simpa using hm) hp

theorem fold_last_heap {S : Nat → Bool} {i : Nat} (l : List (Oper × Eff)) : ∀ {k j : Nat} {σ : St} {o : Oper} {ef : Eff}, l[j]? = some (o, ef) → S (k + j) = true → i ∈ keys ef.wr →
    (∀ m p, j < m → l[m]? = some p → i ∈ keys p.2.wr → S (k + m) = false) → look i (foldS S l k σ).heap = look i ef.wr := by
  induction l with
  | nil => intro k j σ o ef hj; simp at hj
  | cons p r ih =>
    obtain ⟨o, ef⟩ := p
    intro k j σ o' ef' hj hs hd hn
    cases j with
    | zero =>
      simp only [List.getElem?_cons_zero, Option.some.injEq, Prod.mk.injEq] at hj
      obtain ⟨rfl, rfl⟩ := hj
      simp only [Nat.add_zero] at hs
      simp only [foldS, hs, if_true]
      rw [fold_heap (S' := fun _ => false) (σ' := σ.app o.dst ef) (fun m p hm hp => by
        have := hn (m + 1) p (by omega) (by simpa using hm) hp
        rw [show k + (m + 1) = k + 1 + m by omega] at this
        rw [this]) rfl, foldS_none (fun _ _ => rfl), look_app_heap, if_pos hd]
    | succ j =>
      simp only [foldS]
      refine ih (j := j) (by simpa using hj) (by rw [show k + 1 + j = k + (j + 1) by omega]; exact hs) hd (fun m p hjm hm hp => ?_)
      rw [show k + 1 + m = k + (m + 1) by omega]
      exact hn (m + 1) p (by omega) (by simpa using hm) hp

/-! ### Who waits for whom -/

def AncIn (all : List Oper) (S : Nat → Bool) (j : Nat) : Prop := ∀ o, all[j]? = some o → ∀ e ∈ o.after, Region.binds .any e = true → S e.on = true

def ClosedS (all : List Oper) (S : Nat → Bool) : Prop := ∀ j, S j = true → AncIn all S j

theorem ancM_ok {acc : List Nat} {o : Oper} {i : Nat} (h : (ancM acc o).testBit i = true) : ∃ e ∈ o.after, Region.binds .any e = true ∧ (i = e.on ∨ (acc.getD e.on 0).testBit i = true) := by
  unfold ancM at h
  have key : ∀ (l : List Edge) (s : Nat), (l.foldl (fun s e => bif Region.binds .any e then s ||| (1 <<< e.on) ||| acc.getD e.on 0 else s) s).testBit i = true →
      s.testBit i = true ∨ ∃ e ∈ l, Region.binds .any e = true ∧ (i = e.on ∨ (acc.getD e.on 0).testBit i = true) := by
    intro l
    induction l with
    | nil => intro s h; exact .inl h
    | cons e l ih =>
      intro s h
      simp only [List.foldl_cons] at h
      rcases ih _ h with h | ⟨e', he', h⟩
      · cases hb : Region.binds .any e
        · rw [hb] at h; exact .inl h
        · rw [hb] at h
          simp only [cond_true, Nat.testBit_or, Bool.or_eq_true] at h
          rcases h with (h | h) | h
          · exact .inl h
          · refine .inr ⟨e, by simp, hb, .inl ?_⟩
            rw [Nat.one_shiftLeft, Nat.testBit_two_pow] at h
            simpa using (of_decide_eq_true h).symm
          · exact .inr ⟨e, by simp, hb, .inr h⟩
      · exact .inr ⟨e', by simp [he'], h⟩
  rcases key _ _ h with h | ⟨e, he, h⟩
  · simp at h
  · exact ⟨e, by simpa using he, h⟩

/-- The pair of an earlier and a later step: apart, or the later one waits for the earlier one. -/
def PairOK (all : List Oper) (a b : Rec) (i j : Nat) : Prop := indep a b = true ∨ ∀ S, ClosedS all S → AncIn all S j → S i = true

theorem chkAgainst_ok {m : Nat} {r : Rec} : ∀ {l : List Rec} {i : Nat}, chkAgainst m r i l = true → ∀ j x, l[j]? = some x → m.testBit (i + j) = true ∨ indep x r = true
  | y :: l, i, h, 0, x, hj => by
    simp only [List.getElem?_cons_zero, Option.some.injEq] at hj
    subst hj
    simp only [chkAgainst, Bool.and_eq_true, Bool.or_eq_true] at h
    simpa using h.1
  | y :: l, i, h, j + 1, x, hj => by
    simp only [List.getElem?_cons_succ] at hj
    simp only [chkAgainst, Bool.and_eq_true] at h
    have := chkAgainst_ok h.2 j x hj
    rw [show i + 1 + j = i + (j + 1) by omega] at this
    exact this

theorem chk_ok {all : List Oper} : ∀ {l : List Oper} {efs : List Eff} {anc : List Nat} {recs : List Rec}, chk all l efs anc recs = true → anc.length = recs.length → (∀ j, all[anc.length + j]? = l[j]?) →
    (∀ m, m < anc.length → ∀ S, ClosedS all S → AncIn all S m → ∀ i, (anc.getD m 0).testBit i = true → S i = true) →
    (∀ j o, l[j]? = some o → edgesLow (anc.length + j) o = true) ∧
    ∀ j o ef, l[j]? = some o → efs[j]? = some ef →
      (∀ i x, recs[i]? = some x → PairOK all x (recOf all o ef) i (anc.length + j)) ∧
      (∀ i o' ef', i < j → l[i]? = some o' → efs[i]? = some ef' → PairOK all (recOf all o' ef') (recOf all o ef) (anc.length + i) (anc.length + j))
  | [], efs, anc, recs, _, _, _, _ => ⟨fun j o h => by simp at h, fun j o ef h => by simp at h⟩
  | o :: l, [], anc, recs, h, _, _, _ => by simp [chk] at h
  | o :: l, ef :: efs, anc, recs, h, hlen, hall, hanc => by
    simp only [chk, Bool.and_eq_true] at h
    obtain ⟨⟨h1, h2⟩, h3⟩ := h
    have hown : ∀ S, ClosedS all S → AncIn all S anc.length → ∀ i, (ancM anc o).testBit i = true → S i = true := fun S hc ha i hi => by
      obtain ⟨e, he, hb, hor⟩ := ancM_ok hi
      have hso := ha o (by have := hall 0; simpa using this) e he hb
      rcases hor with rfl | hor
      · exact hso
      · have hlt : e.on < anc.length := by
          have := List.all_eq_true.1 h1 e (by simpa using he)
          simp only [hb, Bool.not_true, Bool.false_or] at this
          exact blt_lt this
        exact hanc e.on hlt S hc (hc _ hso) i hor
    have hanc' : ∀ m, m < (anc ++ [ancM anc o]).length → ∀ S, ClosedS all S → AncIn all S m → ∀ i, ((anc ++ [ancM anc o]).getD m 0).testBit i = true → S i = true := fun m hm S hc ha i hi => by
      by_cases hml : m < anc.length
      · rw [show (anc ++ [ancM anc o]).getD m 0 = anc.getD m 0 by simp [List.getD, List.getElem?_append_left hml]] at hi
        exact hanc m hml S hc ha i hi
      · have : m = anc.length := by simp at hm; omega
        subst this
        rw [show (anc ++ [ancM anc o]).getD anc.length 0 = ancM anc o by simp [List.getD]] at hi
        exact hown S hc ha i hi
    obtain ⟨q1, q2⟩ := chk_ok h3 (by simp [hlen]) (fun j => by have := hall (j + 1); simpa [Nat.add_assoc, Nat.add_comm 1 j] using this) hanc'
    have hagainst := chkAgainst_ok h2
    refine ⟨fun j o' hj => ?_, fun j o' ef' hj hef => ?_⟩
    · cases j with
      | zero => simp only [List.getElem?_cons_zero, Option.some.injEq] at hj; subst hj; exact h1
      | succ j =>
        have := q1 j o' (by simpa using hj)
        simpa [Nat.add_assoc, Nat.add_comm 1 j] using this
    · cases j with
      | zero =>
        simp only [List.getElem?_cons_zero, Option.some.injEq] at hj hef
        subst hj hef
        refine ⟨fun i x hx => ?_, fun i o'' ef'' hi => by omega⟩
        rcases hagainst i x hx with h | h
        · exact .inr fun S hc ha => hown S hc (by simpa using ha) i (by simpa using h)
        · exact .inl h
      | succ j =>
        obtain ⟨r1, r2⟩ := q2 j o' ef' (by simpa using hj) (by simpa using hef)
        have e1 : (anc ++ [ancM anc o]).length + j = anc.length + (j + 1) := by simp; omega
        rw [e1] at r1 r2
        refine ⟨fun i x hx => ?_, fun i o'' ef'' hi hio hief => ?_⟩
        · exact r1 i x (by rw [List.getElem?_append_left (List.getElem?_eq_some_iff.1 hx).1]; exact hx)
        · cases i with
          | zero =>
            simp only [List.getElem?_cons_zero, Option.some.injEq] at hio hief
            subst hio hief
            have := r1 anc.length (recOf all o ef) (by rw [hlen]; simp)
            simpa using this
          | succ i =>
            have := r2 i o'' ef'' (by omega) (by simpa using hio) (by simpa using hief)
            rw [show (anc ++ [ancM anc o]).length + i = anc.length + (i + 1) by simp; omega] at this
            exact this

/-! ### How many are left -/

def cnt (S : Nat → Bool) : Nat → Nat
  | 0 => 0
  | n + 1 => (if S n = true then 0 else 1) + cnt S n

theorem cnt_zero {S : Nat → Bool} : ∀ {n : Nat}, cnt S n = 0 → ∀ m, m < n → S m = true
  | n + 1, h, m, hm => by
    simp only [cnt] at h
    have h1 := Nat.eq_zero_of_add_eq_zero_right h
    have h2 := Nat.eq_zero_of_add_eq_zero_left h
    by_cases e : m = n
    · subst e
      cases hs : S m
      · rw [hs] at h1; simp at h1
      · rfl
    · exact cnt_zero h2 m (by omega)

theorem cnt_le (S : Nat → Bool) : ∀ n, cnt S n ≤ n
  | 0 => Nat.le_refl _
  | n + 1 => by have := cnt_le S n; simp only [cnt]; split <;> omega

theorem cnt_set {S S' : Nat → Bool} {i : Nat} (hi : S i = false) (hi' : S' i = true) (ho : ∀ m, m ≠ i → S' m = S m) : ∀ {n : Nat}, (i < n → cnt S' n + 1 = cnt S n) ∧ (n ≤ i → cnt S' n = cnt S n)
  | 0 => ⟨fun h => by omega, fun _ => rfl⟩
  | n + 1 => by
    obtain ⟨h1, h2⟩ := cnt_set hi hi' ho (n := n)
    refine ⟨fun h => ?_, fun h => ?_⟩
    · by_cases e : n = i
      · subst e
        simp only [cnt, hi, hi', h2 (Nat.le_refl _), if_true]
        simp; omega
      · simp only [cnt, ho n e]
        have := h1 (by omega)
        omega
    · simp only [cnt, ho n (by omega), h2 (by omega)]

end Go.Proofs.YtkgpjplncfginaaGreatDoor.Sy
