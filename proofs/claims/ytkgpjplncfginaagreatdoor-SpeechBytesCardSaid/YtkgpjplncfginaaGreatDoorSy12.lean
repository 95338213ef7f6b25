/- Regions of the machine Sy, continued: the walk in the text's order, and any other order. -/
import Derived.Test.YtkgpjplncfginaaGreatDoorSyI
namespace Go.Proofs.YtkgpjplncfginaaGreatDoor.Sy
open Go
set_option linter.unusedVariables false
set_option linter.unusedSimpArgs false

section
variable {R : Type}

theorem stepK_ok {P : Program} {E : Env} {all : List Oper} {o : Oper} {σ : St} {K : Eff → St → Option R} {r : R} (h : stepK P E all o σ K = some r) :
    ∃ ef σ1, K ef σ1 = some r ∧ Alike σ σ1 ∧ stepF P E all o σ = some ef := by
  have loc : ∀ {σ1 : St} {ef : Eff}, Alike σ σ1 → opK P E o σ1 some = some ef → opK P E o σ some = some ef := fun ha h => op_local h (fun t _ => ha.env t) (fun i _ => ha.heap i)
  unfold stepK at h
  unfold stepF
  split at h
  · rename_i hg
    rw [op_nat] at h
    obtain ⟨ef, h1, h2⟩ := Option.bind_eq_some_iff.1 h
    exact ⟨ef, σ, h2, Alike.refl σ, h1⟩
  · split at h
    · cases h
    · rename_i t ht
      split at h
      · rename_i b hb
        replace h := bif_eq_some h
        rcases h with ⟨rfl, h⟩ | ⟨rfl, h⟩
        · replace h := bif_eq_some h
          rcases h with ⟨rfl, h⟩ | ⟨rfl, h⟩
          · rw [op_nat] at h
            obtain ⟨ef, h1, h2⟩ := Option.bind_eq_some_iff.1 h
            exact ⟨ef, _, h2, know_alike hb, by simpa using loc (know_alike hb) h1⟩
          · exact ⟨_, _, h, know_alike hb, by simp⟩
        · replace h := bif_eq_some h
          rcases h with ⟨rfl, h⟩ | ⟨rfl, h⟩
          · exact ⟨_, _, h, know_alike hb, by simp⟩
          · rw [op_nat] at h
            obtain ⟨ef, h1, h2⟩ := Option.bind_eq_some_iff.1 h
            exact ⟨ef, _, h2, know_alike hb, by simpa using loc (know_alike hb) h1⟩
      · exact ⟨_, _, h, Alike.refl σ, rfl⟩
      · cases h

end

/-- The steps in the text's order. -/
def Lex (P : Program) (E : Env) (N : Nat) (all : List Oper) : List Oper → St → List Eff → St → Prop
  | [], σ, efs, σ' => efs = [] ∧ Alike σ σ'
  | o :: r, σ, efs, σ' => ∃ ef efs', efs = ef :: efs' ∧ okDst N o.dst = true ∧ stepF P E all o σ = some ef ∧ Lex P E N all r (σ.app o.dst ef) efs' σ'

theorem app_alike {σ σ' : St} (h : Alike σ σ') (d : Option Nat) (ef : Eff) : Alike (σ.app d ef) (σ'.app d ef) := by
  refine ⟨fun t => ?_, fun i => ?_⟩
  · cases d with
    | none => exact h.env t
    | some d => simp only [St.app, look_cons, h.env t]
  · simp only [St.app, look_append, h.heap i]

theorem stepF_local {P : Program} {E : Env} {all : List Oper} {o : Oper} {σ σ' : St} {ef : Eff} (h : stepF P E all o σ = some ef)
    (ht : ∀ t, t ∈ opTmps o.op ∨ (∃ j w, o.guard = some (j, w) ∧ guardT all j = some t) → look t σ'.env = look t σ.env)
    (hh : ∀ i ∈ ef.rd ++ keys ef.wr, look i σ'.heap = look i σ.heap) : stepF P E all o σ' = some ef := by
  unfold stepF at h ⊢
  split
  · rename_i hg
    rw [hg] at h
    exact op_local h (fun t h => ht t (.inl h)) hh
  · rename_i j want hg
    rw [hg] at h
    simp only at h
    split
    · rename_i hn; rw [hn] at h; cases h
    · rename_i t htt
      rw [htt] at h
      simp only at h
      rw [ht t (.inr ⟨j, want, hg, htt⟩)]
      split at h
      · rename_i b hb
        by_cases e : b = want
        · rw [if_pos e] at h ⊢
          exact op_local h (fun t h => ht t (.inl h)) hh
        · rw [if_neg e] at h ⊢; exact h
      · exact h
      · cases h

theorem Lex_alike {P : Program} {E : Env} {N : Nat} {all : List Oper} : ∀ {l : List Oper} {σ σ1 : St} {efs : List Eff} {σ' : St}, Alike σ σ1 → Lex P E N all l σ efs σ' → Lex P E N all l σ1 efs σ'
  | [], σ, σ1, efs, σ', ha, ⟨h1, h2⟩ => ⟨h1, ha.symm.trans h2⟩
  | o :: l, σ, σ1, efs, σ', ha, ⟨ef, efs', h1, h2, h3, h4⟩ =>
    ⟨ef, efs', h1, h2, stepF_local h3 (fun t _ => (ha.env t).symm) (fun i _ => (ha.heap i).symm), Lex_alike (app_alike ha _ _) h4⟩

theorem opsK_ok {R : Type} {P : Program} {E : Env} {N : Nat} {all : List Oper} : ∀ {l : List Oper} {σ : St} {tr : List Eff} {K : St → List Eff → Option R} {r : R}, opsK P E N all l σ tr K = some r →
    ∃ σ' efs, K σ' (efs.reverse ++ tr) = some r ∧ Lex P E N all l σ efs σ'
  | [], σ, tr, K, r, h => ⟨σ, [], h, rfl, Alike.refl σ⟩
  | o :: l, σ, tr, K, r, h => by
    simp only [opsK] at h
    replace h := bif_eq_some h
    rcases h with ⟨hd, h⟩ | ⟨_, h⟩
    · obtain ⟨ef, σ1, h1, h2, h3⟩ := stepK_ok h
      obtain ⟨σ', efs, h4, h5⟩ := opsK_ok h1
      refine ⟨σ', ef :: efs, by simpa using h4, ef, efs, rfl, hd, h3, ?_⟩
      exact Lex_alike (app_alike h2.symm _ _) h5
    · cases h

theorem yielded_of {N : Nat} {B : Bz} {σ : St} {a : Act} {w : World} {all : List Oper} {j t : Nat} (hr : Rel N B σ a w) (ht : guardT all j = some t) :
    (∀ b, look t σ.env = some (.bool b) → yielded all.toArray a.tmps j = some b) ∧ (look t σ.env = some .tnil → yielded all.toArray a.tmps j = none) := by
  have key : ∀ v, look t σ.env = some v → yielded all.toArray a.tmps j = match a.tmps.getD t undef with | .bool b => some b | _ => none := fun v hv => by
    obtain ⟨hlt, _⟩ := hr.env t v hv
    have hlt : t < a.tmps.size := by rw [hr.size]; exact hlt
    unfold yielded
    have : ((all.toArray[j]?).bind (·.dst)) = some t := by simpa [guardT] using ht
    rw [this]
    simp only [Option.bind_some]
    have e : a.tmps.getD t undef = a.tmps[t] := by simp [Array.getD, hlt]
    rw [Array.getElem?_eq_getElem hlt, e]
    cases a.tmps[t] <;> rfl
  refine ⟨fun b hb => ?_, fun hb => ?_⟩
  · rw [key _ hb, VR_bool (hr.env t _ hb).2]
  · rw [key _ hb]
    have := (hr.env t _ hb).2
    simp only [VR, AV.isTup, if_true] at this
    obtain ⟨vs, _, e⟩ := this
    rw [e]

/-- One step, as the model takes it. -/
theorem step_wp {P : Program} {E : Env} {N : Nat} (hE : ∀ f, ∀ c ∈ E.fn f, CalleeOK P f c) {all : List Oper} {o : Oper} {σ : St} {ef : Eff} (h : stepF P E all o σ = some ef) {B : Bz} {a : Act} {w : World}
    (hr : Rel N B σ a w) {K : Act → World → Prop} {Q : Exit → Act → World → Prop} (hK : ∀ B' u w', Post B σ w ef B' u w' → K (a.put o.dst u) w') :
    if Region.wanted o (yielded all.toArray a.tmps) then o.wp P a w K Q else K (a.put o.dst undef) w := by
  unfold stepF at h
  have hskip : Post B σ w skipEff B undef w := Post.pure hr.heap VR_undef (fun i hi => by simp [AV.ids] at hi)
  split at h
  · rename_i hg
    have : Region.wanted o (yielded all.toArray a.tmps) = true := by simp [Region.wanted, hg]
    rw [if_pos this]
    exact op_ok hE h B a w hr K Q hK
  · rename_i j want hg
    split at h
    · cases h
    · rename_i t ht
      obtain ⟨hy1, hy2⟩ := yielded_of hr ht
      split at h
      · rename_i b hb
        have hw : Region.wanted o (yielded all.toArray a.tmps) = (b == want) := by
          simp only [Region.wanted, hg, hy1 b hb]
          cases b <;> cases want <;> rfl
        by_cases e : b = want
        · rw [if_pos e] at h
          rw [hw, if_pos (by simpa using e)]
          exact op_ok hE h B a w hr K Q hK
        · rw [if_neg e] at h
          cases h
          rw [hw, if_neg (by simpa using e)]
          exact hK B undef w hskip
      · rename_i hb
        cases h
        have hw : Region.wanted o (yielded all.toArray a.tmps) = false := by
          simp only [Region.wanted, hg, hy2 hb]; rfl
        rw [hw]
        exact hK B undef w hskip
      · cases h

theorem seq_ok {P : Program} {E : Env} {N : Nat} (hE : ∀ f, ∀ c ∈ E.fn f, CalleeOK P f c) {all : List Oper} {Q : Exit → Act → World → Prop} : ∀ {l : List Oper} {σ : St} {efs : List Eff} {σ' : St}, Lex P E N all l σ efs σ' →
    ∀ {B : Bz} {a : Act} {w : World}, Rel N B σ a w → (∀ B' a' w', Rn N B σ w B' σ' a' w' → Q .normal a' w') → wpList P all.toArray Q l a w
  | [], σ, efs, σ', ⟨_, h⟩, B, a, w, hr, hQ => hQ B a w ((Rn.refl hr).alike (Alike.refl σ) h)
  | o :: l, σ, efs, σ', ⟨ef, efs', _, hd, h2, h3⟩, B, a, w, hr, hQ => by
    have := step_wp hE h2 hr (K := wpList P all.toArray Q l) (Q := Q) (fun B' u w' hp => seq_ok hE h3 (hp.rel hd hr) (fun B'' a' w'' hn => hQ B'' a' w'' ((Rn.post hd hr hp).trans hn)))
    unfold wpList
    split
    · rename_i hw; rw [if_pos hw] at this; exact .inl this
    · rename_i hw; rw [if_neg hw] at this; exact this

theorem region_seq {P : Program} {E : Env} {N : Nat} (hE : ∀ f, ∀ c ∈ E.fn f, CalleeOK P f c) {id : Nat} {ops : Array Oper} {σ σ' : St} {efs : List Eff} (h : Lex P E N ops.toList ops.toList σ efs σ') {B : Bz} {a : Act} {w : World} (hr : Rel N B σ a w)
    {Q : Exit → Act → World → Prop} (hQ : ∀ B' a' w', Rn N B σ w B' σ' a' w' → Q .normal a' w') : (Code.region id ops false).wp P Q a w :=
  wp_region_list (by have := seq_ok hE h hr hQ; simpa using this)

/-! ### Any order -/

structure Rec where
  dst : Option Nat
  looks : List Nat
  rd : List Nat
  wr : List Nat

def recOf (all : List Oper) (o : Oper) (ef : Eff) : Rec :=
  { dst := o.dst
    looks := (match o.guard with
      | some (j, _) => (match guardT all j with
        | some t => t :: opTmps o.op
        | none => opTmps o.op)
      | none => opTmps o.op)
    rd := ef.rd
    wr := keys ef.wr }

def disj (a b : List Nat) : Bool := a.all (fun x => !memN x b)

def notIn (d : Option Nat) (l : List Nat) : Bool := match d with
  | some t => !memN t l
  | none => true

def dstNe (a b : Option Nat) : Bool := match a with
  | some t => (match b with
    | some u => !Nat.beq t u
    | none => true)
  | none => true

def indep (a b : Rec) : Bool := dstNe a.dst b.dst && notIn a.dst b.looks && notIn b.dst a.looks && disj a.wr b.rd && disj a.wr b.wr && disj b.wr a.rd

def ancM (acc : List Nat) (o : Oper) : Nat := o.after.toList.foldl (fun s e => bif Region.binds .any e then s ||| (1 <<< e.on) ||| acc.getD e.on 0 else s) 0

def edgesLow (k : Nat) (o : Oper) : Bool := o.after.toList.all (fun e => !Region.binds .any e || Nat.blt e.on k)

/-- Each is apart from, or waits for, each one ahead of it. -/
def chkAgainst (m : Nat) (r : Rec) : Nat → List Rec → Bool
  | _, [] => true
  | i, x :: xs => (m.testBit i || indep x r) && chkAgainst m r (i + 1) xs

def chk (all : List Oper) : List Oper → List Eff → List Nat → List Rec → Bool
  | [], _, _, _ => true
  | o :: l, ef :: efs, anc, recs =>
    edgesLow anc.length o && chkAgainst (ancM anc o) (recOf all o ef) 0 recs && chk all l efs (anc ++ [ancM anc o]) (recs ++ [recOf all o ef])
  | _ :: _, [], _, _ => false

end Go.Proofs.YtkgpjplncfginaaGreatDoor.Sy
