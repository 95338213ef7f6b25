/- Regions of the machine Sy: one after the other, and in whatever order. -/
import Derived.Test.YtkgpjplncfginaaGreatDoorSyG
import Derived.Tactics
namespace Go.Proofs.YtkgpjplncfginaaGreatDoor.Sy
open Go
set_option linter.unusedVariables false
set_option linter.unusedSimpArgs false

/-! ### The same to look at -/

structure Alike (σ σ' : St) : Prop where
  env : ∀ t, look t σ.env = look t σ'.env
  heap : ∀ i, look i σ.heap = look i σ'.heap

theorem Alike.refl (σ : St) : Alike σ σ := ⟨fun _ => rfl, fun _ => rfl⟩
theorem Alike.symm {σ σ' : St} (h : Alike σ σ') : Alike σ' σ := ⟨fun t => (h.env t).symm, fun i => (h.heap i).symm⟩
theorem Alike.trans {a b c : St} (h : Alike a b) (k : Alike b c) : Alike a c := ⟨fun t => (h.env t).trans (k.env t), fun i => (h.heap i).trans (k.heap i)⟩

theorem HeapR_alike {B : Bz} {H H' : Heap} {w : World} (h : ∀ i, look i H = look i H') (hr : HeapR B H w) : HeapR B H' w :=
  ⟨fun i e he => hr.ent i e (by rw [h]; exact he), hr.fz, fun i j e e' b h1 h2 => hr.apart i j e e' b (by rw [h]; exact h1) (by rw [h]; exact h2), fun i e b o u h1 => hr.zo i e b o u (by rw [h]; exact h1), fun i e he j hj => by rw [← h]; exact hr.closed i e (by rw [h]; exact he) j hj⟩

theorem Owned_alike {B : Bz} {H H' : Heap} {b : Nat} (h : ∀ i, look i H = look i H') (ho : Owned B H b) : Owned B H' b := by
  obtain ⟨i, e, h1, h2⟩ := ho
  exact ⟨i, e, by rw [← h]; exact h1, h2⟩

theorem Fr_alike {B B' : Bz} {H H1 H' H1' : Heap} {w w' : World} (h : ∀ i, look i H = look i H1) (h' : ∀ i, look i H' = look i H1') (hf : Fr B H w B' H' w') : Fr B H1 w B' H1' w' :=
  ⟨hf.os, hf.tape, hf.output, hf.size, fun b hb hn => hf.keep b hb (fun ho => hn (Owned_alike h ho)), hf.zle, fun b o u hz => (hf.znew b o u hz).imp_right (.imp_left (Owned_alike h)), fun b ho => (hf.owns b (Owned_alike (fun i => (h' i).symm) ho)).imp_left (Owned_alike h)⟩

theorem Rel_alike {N : Nat} {B : Bz} {σ σ' : St} {a : Act} {w : World} (h : Alike σ σ') (hr : Rel N B σ a w) : Rel N B σ' a w :=
  ⟨hr.size, hr.defers, fun t v ht => hr.env t v (by rw [h.env]; exact ht), fun t v ht i hi => by rw [← h.heap]; exact hr.closed t v (by rw [h.env]; exact ht) i hi, HeapR_alike h.heap hr.heap⟩

/-! ### A run from state to state -/

structure Rn (N : Nat) (B : Bz) (σ : St) (w : World) (B' : Bz) (σ' : St) (a' : Act) (w' : World) : Prop where
  rel : Rel N B' σ' a' w'
  low : ∀ i, i < 1000 → B' i = B i
  fr : Fr B σ.heap w B' σ'.heap w'

theorem Rn.refl {N : Nat} {B : Bz} {σ : St} {a : Act} {w : World} (h : Rel N B σ a w) : Rn N B σ w B σ a w := ⟨h, fun _ _ => rfl, Fr.refl _ _ _⟩

theorem Rn.trans {N : Nat} {B B1 B2 : Bz} {σ σ1 σ2 : St} {w w1 w2 : World} {a1 a2 : Act} (h : Rn N B σ w B1 σ1 a1 w1) (k : Rn N B1 σ1 w1 B2 σ2 a2 w2) : Rn N B σ w B2 σ2 a2 w2 :=
  ⟨k.rel, fun i hi => (k.low i hi).trans (h.low i hi), h.fr.trans k.fr⟩

theorem Rn.alike {N : Nat} {B B' : Bz} {σ σ' σ1 σ1' : St} {w w' : World} {a' : Act} (h : Alike σ σ1) (h' : Alike σ' σ1') (hr : Rn N B σ w B' σ' a' w') : Rn N B σ1 w B' σ1' a' w' :=
  ⟨Rel_alike h' hr.rel, hr.low, Fr_alike h.heap h'.heap hr.fr⟩

theorem Rn.post {N : Nat} {B B' : Bz} {σ : St} {a : Act} {w w' : World} {ef : Eff} {u : Value} {d : Option Nat} (hd : okDst N d = true) (hr : Rel N B σ a w) (hp : Post B σ w ef B' u w') :
    Rn N B σ w B' (σ.app d ef) (a.put d u) w' := ⟨hp.rel hd hr, hp.low, hp.fr⟩

/-! ### A step -/

def skipEff : Eff := ⟨.tnil, [], []⟩

def St.know (σ : St) (t : Nat) (b : Bool) : St := { σ with env := (t, .bool b) :: σ.env }

theorem know_alike {σ : St} {t : Nat} {b : Bool} (h : look t σ.env = some (.bool b)) : Alike σ (σ.know t b) :=
  ⟨fun s => by
    simp only [St.know, look_cons]
    by_cases e : s = t
    · subst e; rw [if_pos rfl, h]
    · rw [if_neg e], fun _ => rfl⟩

section
variable {R : Type}

def guardT (all : List Oper) (j : Nat) : Option Nat := (all[j]?).bind (·.dst)

def stepK (P : Program) (E : Env) (all : List Oper) (o : Oper) (σ : St) (K : Eff → St → Option R) : Option R :=
  match o.guard with
  | none => opK P E o σ (fun ef => K ef σ)
  | some (j, want) => (match guardT all j with
    | none => none
    | some t => (match look t σ.env with
      | some (.bool b) => bif b then (bif want then opK P E o (σ.know t true) (fun ef => K ef (σ.know t true)) else K skipEff (σ.know t true))
          else (bif want then K skipEff (σ.know t false) else opK P E o (σ.know t false) (fun ef => K ef (σ.know t false)))
      | some .tnil => K skipEff σ
      | _ => none))

def keys : Heap → List Nat
  | [] => []
  | (i, _) :: r => i :: keys r

def opsK (P : Program) (E : Env) (N : Nat) (all : List Oper) : List Oper → St → List Eff → (St → List Eff → Option R) → Option R
  | [], σ, tr, K => K σ tr
  | o :: r, σ, tr, K => bif okDst N o.dst then stepK P E all o σ (fun ef σ1 => opsK P E N all r (σ1.app o.dst ef) (ef :: tr) K) else none

/-- What a step is, without a continuation. -/
def stepF (P : Program) (E : Env) (all : List Oper) (o : Oper) (σ : St) : Option Eff :=
  match o.guard with
  | none => opK P E o σ some
  | some (j, want) => (match guardT all j with
    | none => none
    | some t => (match look t σ.env with
      | some (.bool b) => if b = want then opK P E o σ some else some skipEff
      | some .tnil => some skipEff
      | _ => none))

end

/-! ### What an operation looks at -/

def tmpOf : Operand → List Nat
  | .tmp t => [t]
  | _ => []

def tmpO : Option Operand → List Nat
  | some x => tmpOf x
  | none => []

def tmpsOf : List Operand → List Nat
  | [] => []
  | x :: r => tmpOf x ++ tmpsOf r

def tmpsOf2 : List (Nat × Operand) → List Nat
  | [] => []
  | (_, x) :: r => tmpOf x ++ tmpsOf2 r

def calleeTmps : Go.Callee → List Nat
  | .value x => tmpOf x
  | _ => []

def opTmps : Op → List Nat
  | .move x | .assign x | .box _ x | .load _ x | .nilCheck x | .unOp _ _ x | .convert _ _ x | .fieldAddr _ x _ | .extract x _ | .field _ x _ | .range _ x | .next x _ => tmpOf x
  | .slice _ x lo hi _ => tmpOf x ++ (tmpO lo ++ tmpO hi)
  | .pick c a b => tmpOf c ++ (tmpOf a ++ tmpOf b)
  | .build _ ps => tmpsOf2 ps.toList
  | .buildSlice _ _ ps => tmpsOf2 ps.toList
  | .store _ x y | .binOp _ _ x y _ | .indexAddr _ x y | .index _ x y | .makeSlice _ x y => tmpOf x ++ tmpOf y
  | .call c => tmpsOf c.args.toList ++ calleeTmps c.callee
  | _ => []

theorem ev_congr {σ σ' : St} {x : Operand} (h : ∀ t ∈ tmpOf x, look t σ'.env = look t σ.env) : ev σ' x = ev σ x := by
  cases x with
  | tmp t => exact h t (List.mem_singleton.2 rfl)
  | _ => rfl

theorem evO_congr {σ σ' : St} {x : Option Operand} (h : ∀ t ∈ tmpO x, look t σ'.env = look t σ.env) : evO σ' x = evO σ x := by
  cases x with
  | none => rfl
  | some x => simp only [evO]; rw [ev_congr h]

theorem evAll_congr {σ σ' : St} : ∀ {xs : List Operand}, (∀ t ∈ tmpsOf xs, look t σ'.env = look t σ.env) → evAll σ' xs = evAll σ xs
  | [], _ => rfl
  | x :: xs, h => by
    simp only [evAll]
    rw [ev_congr (fun t ht => h t (by simp [tmpsOf, ht])), evAll_congr (fun t ht => h t (by simp [tmpsOf, ht]))]

theorem evParts_congr {σ σ' : St} : ∀ {xs : List (Nat × Operand)}, (∀ t ∈ tmpsOf2 xs, look t σ'.env = look t σ.env) → evParts σ' xs = evParts σ xs
  | [], _ => rfl
  | (i, x) :: xs, h => by
    simp only [evParts]
    rw [ev_congr (fun t ht => h t (by simp [tmpsOf2, ht])), evParts_congr (fun t ht => h t (by simp [tmpsOf2, ht]))]

theorem frzR_congr {H H' : Heap} {k : Nat} : ∀ {v : AV}, (∀ i ∈ v.ids, look i H' = look i H) → frzR k H' v = frzR k H v := by
  intro v
  induction v with
  | vec i => intro h; simp only [frzR]; rw [h i (by simp [AV.ids])]
  | one a ih => intro h; simp only [frzR]; rw [ih h]
  | pair a b iha ihb => intro h; simp only [frzR]; rw [iha (fun i hi => h i (by simp [AV.ids, hi])), ihb (fun i hi => h i (by simp [AV.ids, hi]))]
  | _ => intro _; rfl

theorem frzParts_congr {H H' : Heap} {k : Nat} : ∀ {ps : List (Nat × AV)}, (∀ i ∈ partIds ps, look i H' = look i H) → frzParts k H' ps = frzParts k H ps
  | [], _ => rfl
  | (i, v) :: ps, h => by
    simp only [frzParts]
    rw [frzR_congr (fun i hi => h i (by simp [partIds, hi])), frzParts_congr (fun i hi => h i (by simp [partIds, hi]))]

theorem frzArgs_congr {P : Program} {H H' : Heap} : ∀ {ts : List TypeId} {as : List AV}, (∀ i ∈ idsAll as, look i H' = look i H) → frzArgs P H' ts as = frzArgs P H ts as
  | ts, [], _ => by cases ts <;> rfl
  | [], v :: as, h => by
    simp only [frzArgs]
    rw [frzR_congr (fun i hi => h i (by simp [idsAll, hi])), frzArgs_congr (fun i hi => h i (by simp [idsAll, hi]))]
  | t :: ts, v :: as, h => by
    simp only [frzArgs]
    rw [frzR_congr (fun i hi => h i (by simp [idsAll, hi])), frzArgs_congr (fun i hi => h i (by simp [idsAll, hi]))]

theorem localH_congr {H H' : Heap} {ρ : Nat → Nat} {ids : List Nat} : ∀ {r : List Nat} {j : Nat}, (∀ i ∈ r, look i H' = look i H) → localH H' ρ ids j r = localH H ρ ids j r
  | [], _, _ => rfl
  | i :: r, j, h => by
    simp only [localH]
    rw [h i (by simp), localH_congr (fun k hk => h k (by simp [hk]))]

end Go.Proofs.YtkgpjplncfginaaGreatDoor.Sy
