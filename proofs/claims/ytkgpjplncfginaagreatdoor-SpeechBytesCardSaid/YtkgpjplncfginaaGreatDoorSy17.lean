/- Shapes of arguments, of heaps and of loops' states, and summaries made of them. -/
import Derived.Test.YtkgpjplncfginaaGreatDoorSy16
import Derived.Laws.Externs
namespace Go.Proofs.YtkgpjplncfginaaGreatDoor.Sy
open Go
set_option linter.unusedVariables false
set_option linter.unusedSimpArgs false

inductive Sh where
  | data (t : Ty) | ptr (i : Nat) | pat (i st : Nat) | pdy (i st s : Nat) | nilp | vec (i : Nat) | nils | opq | fn (f : FuncId) | one (a : Sh) | pair (a b : Sh)

def Sh.den : Sh → Type
  | .data t => t.den
  | .opq => Value
  | .pdy _ _ _ => Nat
  | .one a => a.den
  | .pair a b => a.den × b.den
  | _ => Unit

def Sh.mk : (s : Sh) → s.den → AV
  | .data t, x => enc t x
  | .ptr i, _ => .ptr (some ⟨i, 0, []⟩)
  | .pat i st, _ => .ptr (some ⟨i, st, []⟩)
  | .pdy i st s, k => .ptr (some ⟨i, st, [(k, s)]⟩)
  | .nilp, _ => .ptr none
  | .vec i, _ => .vec i
  | .nils, _ => .nils
  | .opq, v => .opq v
  | .fn f, _ => .fn f
  | .one a, x => .one (a.mk x)
  | .pair a b, x => .pair (a.mk x.1) (b.mk x.2)

def AV.isPtr (i : Nat) : AV → Option Unit
  | .ptr (some p) => bif Nat.beq p.id i && Nat.beq p.st 0 && p.dys.isEmpty then some () else none
  | _ => none
def AV.isPat (i st : Nat) : AV → Option Unit
  | .ptr (some p) => bif Nat.beq p.id i && Nat.beq p.st st && p.dys.isEmpty then some () else none
  | _ => none
def AV.isPdy (i st s : Nat) : AV → Option Nat
  | .ptr (some p) => (match p.dys with
    | [(k, s')] => bif Nat.beq p.id i && Nat.beq p.st st && Nat.beq s' s then some k else none
    | _ => none)
  | _ => none
def AV.isNilp : AV → Option Unit
  | .ptr none => some ()
  | _ => none
def AV.isVec (i : Nat) : AV → Option Unit
  | .vec j => bif Nat.beq j i then some () else none
  | _ => none
def AV.isNils : AV → Option Unit
  | .nils => some ()
  | _ => none
def AV.asOpq : AV → Option Value
  | .opq v => some v
  | _ => none

def AV.isFn (f : FuncId) : AV → Option Unit
  | .fn g => bif Nat.beq g f then some () else none
  | _ => none

def Sh.de : (s : Sh) → AV → Option s.den
  | .data t, v => dec t v
  | .ptr i, v => v.isPtr i
  | .pat i st, v => v.isPat i st
  | .pdy i st s, v => v.isPdy i st s
  | .nilp, v => v.isNilp
  | .vec i, v => v.isVec i
  | .nils, v => v.isNils
  | .opq, v => v.asOpq
  | .fn f, v => v.isFn f
  | .one a, v => (match v.asOne with
    | some x => a.de x
    | none => none)
  | .pair a b, v => (match v.asPair with
    | some p => (match a.de p.1 with
      | some u => (match b.de p.2 with
        | some w => some (u, w)
        | none => none)
      | none => none)
    | none => none)

theorem Sh.de_ok : ∀ (s : Sh) (v : AV) (x : s.den), s.de v = some x → v = s.mk x
  | .data t, v, x, h => dec_enc t v x h
  | .ptr i, v, x, h => by
    cases v with
    | ptr p =>
      cases p with
      | none => cases h
      | some p =>
        simp only [Sh.de, AV.isPtr] at h
        replace h := bif_eq_some h
        rcases h with ⟨hc, _⟩ | ⟨_, h⟩
        · simp only [Bool.and_eq_true] at hc
          obtain ⟨⟨h1, h2⟩, h3⟩ := hc
          replace h1 := Nat.eq_of_beq_eq_true h1
          replace h2 := Nat.eq_of_beq_eq_true h2
          replace h3 := List.isEmpty_iff.1 h3
          obtain ⟨a, b, c⟩ := p
          simp only at h1 h2 h3
          subst h1 h2 h3; rfl
        · cases h
    | _ => cases h
  | .pat i st, v, x, h => by
    cases v with
    | ptr p =>
      cases p with
      | none => cases h
      | some p =>
        simp only [Sh.de, AV.isPat] at h
        replace h := bif_eq_some h
        rcases h with ⟨hc, _⟩ | ⟨_, h⟩
        · simp only [Bool.and_eq_true] at hc
          obtain ⟨⟨h1, h2⟩, h3⟩ := hc
          replace h1 := Nat.eq_of_beq_eq_true h1
          replace h2 := Nat.eq_of_beq_eq_true h2
          replace h3 := List.isEmpty_iff.1 h3
          obtain ⟨a, b, c⟩ := p
          simp only at h1 h2 h3
          subst h1 h2 h3; rfl
        · cases h
    | _ => cases h
  | .pdy i st s, v, x, h => by
    cases v with
    | ptr p =>
      cases p with
      | none => cases h
      | some p =>
        obtain ⟨a, b, c⟩ := p
        simp only [Sh.de, AV.isPdy] at h
        split at h
        · rename_i k s' hc
          replace h := bif_eq_some h
          rcases h with ⟨hc', h⟩ | ⟨_, h⟩
          · simp only [Bool.and_eq_true] at hc'
            obtain ⟨⟨h1, h2⟩, h3⟩ := hc'
            replace h1 := Nat.eq_of_beq_eq_true h1
            replace h2 := Nat.eq_of_beq_eq_true h2
            replace h3 := Nat.eq_of_beq_eq_true h3
            cases h
            subst h1 h2 h3; rfl
          · cases h
        · cases h
    | _ => cases h
  | .nilp, v, x, h => by
    cases v with
    | ptr p => cases p <;> first | rfl | cases h
    | _ => cases h
  | .vec i, v, x, h => by
    cases v with
    | vec j =>
      simp only [Sh.de, AV.isVec] at h
      replace h := bif_eq_some h
      rcases h with ⟨hc, _⟩ | ⟨_, h⟩
      · rw [Nat.eq_of_beq_eq_true hc]; rfl
      · cases h
    | _ => cases h
  | .nils, v, x, h => by cases v <;> first | rfl | cases h
  | .opq, v, x, h => by
    cases v with
    | opq u => cases h; rfl
    | _ => cases h
  | .fn f, v, x, h => by
    cases v with
    | fn g =>
      simp only [Sh.de, AV.isFn] at h
      replace h := bif_eq_some h
      rcases h with ⟨hc, _⟩ | ⟨_, h⟩
      · rw [Nat.eq_of_beq_eq_true hc]; rfl
      · cases h
    | _ => cases h
  | .one a, v, x, h => by
    simp only [Sh.de] at h
    split at h
    · rename_i y hy; rw [AV.asOne_eq hy, Sh.de_ok a y x h]; rfl
    · cases h
  | .pair a b, v, x, h => by
    simp only [Sh.de] at h
    split at h
    · rename_i p hp
      split at h
      · rename_i u hu
        split at h
        · rename_i w hw
          cases h
          rw [AV.asPair_eq hp, Sh.de_ok a _ _ hu, Sh.de_ok b _ _ hw]; rfl
        · cases h
      · cases h
    · cases h

inductive ESh where
  | cell (s : Sh) | rows (m : Nat) (e : TypeId) (t : Ty) | iter | dead | glob (g : Nat) (t : Ty)

def ESh.den : ESh → Type
  | .cell s => s.den
  | .rows _ _ t => List t.den
  | .iter => ByteArray × Nat
  | .dead => Unit
  | .glob _ t => t.den

def ESh.mk : (s : ESh) → s.den → Ent
  | .cell s, x => .cell (s.mk x)
  | .rows m e t, xs => .rows m e t xs
  | .iter, p => .iter p.1 p.2
  | .dead, _ => .dead
  | .glob g t, x => .glob g t x

def castRows (t t' : Ty) (h : t = t') (xs : List t.den) : List t'.den := h ▸ xs

def Ent.asCell : Ent → Option AV
  | .cell v => some v
  | _ => none
def Ent.asIter : Ent → Option (ByteArray × Nat)
  | .iter s p => some (s, p)
  | _ => none
def Ent.asDead : Ent → Option Unit
  | .dead => some ()
  | _ => none
def castDen (t t' : Ty) (h : t = t') (x : t.den) : t'.den := h ▸ x
def Ent.asGlob (g : Nat) (t : Ty) : Ent → Option t.den
  | .glob g' t' x => if h : t' = t then (bif Nat.beq g' g then some (castDen t' t h x) else none) else none
  | _ => none
def Ent.asRows (m : Nat) (e : TypeId) (t : Ty) : Ent → Option (List t.den)
  | .rows m' e' t' xs => if h : t' = t then (bif Nat.beq m' m && Nat.beq e' e then some (castRows t' t h xs) else none) else none
  | _ => none

def ESh.de : (s : ESh) → Ent → Option s.den
  | .cell s, v => (match v.asCell with
    | some v => s.de v
    | none => none)
  | .iter, v => v.asIter
  | .dead, v => v.asDead
  | .rows m e t, v => v.asRows m e t
  | .glob g t, v => v.asGlob g t

theorem ESh.de_ok : ∀ (s : ESh) (v : Ent) (x : s.den), s.de v = some x → v = s.mk x := by
  intro s v x h
  cases s with
  | cell s =>
    simp only [ESh.de] at h
    split at h
    · rename_i u hu
      have : v = .cell u := by cases v <;> simp [Ent.asCell] at hu; subst hu; rfl
      rw [this]
      simp only [ESh.mk]; rw [Sh.de_ok s u x h]
    · cases h
  | iter =>
    have h : v.asIter = some x := h
    cases v with
    | iter a b =>
      have h2 : (a, b) = x := Option.some.inj h
      subst h2; rfl
    | _ => simp [Ent.asIter] at h
  | dead =>
    have h : v.asDead = some x := h
    cases v with
    | dead => rfl
    | _ => simp [Ent.asDead] at h
  | rows m e t =>
    have h : v.asRows m e t = some x := h
    cases v with
    | rows m' e' t' xs =>
      simp only [Ent.asRows] at h
      split at h
      · rename_i ht
        subst ht
        replace h := bif_eq_some h
        rcases h with ⟨hc, h⟩ | ⟨_, h⟩
        · simp only [Bool.and_eq_true] at hc
          obtain ⟨h1, h2⟩ := hc
          have h1 := Nat.eq_of_beq_eq_true h1
          have h2 := Nat.eq_of_beq_eq_true h2
          subst h1 h2
          cases h
          rfl
        · cases h
      · cases h
    | _ => simp [Ent.asRows] at h
  | glob g t =>
    have h : v.asGlob g t = some x := h
    cases v with
    | glob g' t' y =>
      simp only [Ent.asGlob] at h
      split at h
      · rename_i ht
        subst ht
        replace h := bif_eq_some h
        rcases h with ⟨hc, h⟩ | ⟨_, h⟩
        · have hc := Nat.eq_of_beq_eq_true hc
          subst hc
          cases h
          rfl
        · cases h
      · cases h
    | _ => simp [Ent.asGlob] at h

def denL : List Sh → Type
  | [] => Unit
  | s :: r => s.den × denL r

def mkL : (l : List Sh) → denL l → List AV
  | [], _ => []
  | s :: r, x => s.mk x.1 :: mkL r x.2

def deL : (l : List Sh) → List AV → Option (denL l)
  | [], [] => some ()
  | [], _ :: _ => none
  | _ :: _, [] => none
  | s :: r, v :: vs => (match s.de v with
    | some x => (match deL r vs with
      | some y => some (x, y)
      | none => none)
    | none => none)

theorem deL_ok : ∀ (l : List Sh) (vs : List AV) (x : denL l), deL l vs = some x → vs = mkL l x
  | [], [], _, _ => rfl
  | [], _ :: _, _, h => by cases h
  | _ :: _, [], _, h => by cases h
  | s :: r, v :: vs, x, h => by
    simp only [deL] at h
    split at h
    · rename_i u hu
      split at h
      · rename_i y hy
        cases h
        simp only [mkL]
        rw [Sh.de_ok s v u hu, deL_ok r vs y hy]
      · cases h
    · cases h

theorem length_mkL : ∀ (l : List Sh) (x : denL l), (mkL l x).length = l.length
  | [], _ => rfl
  | s :: r, x => by simp [mkL, length_mkL r x.2]

def denH : List (Nat × ESh) → Type
  | [] => Unit
  | (_, s) :: r => s.den × denH r

def mkH : (l : List (Nat × ESh)) → denH l → Heap
  | [], _ => []
  | (i, s) :: r, x => (i, s.mk x.1) :: mkH r x.2

def deH : (l : List (Nat × ESh)) → Heap → Option (denH l)
  | [], [] => some ()
  | [], _ :: _ => none
  | _ :: _, [] => none
  | (i, s) :: r, (j, v) :: vs => bif Nat.beq j i then (match s.de v with
    | some x => (match deH r vs with
      | some y => some (x, y)
      | none => none)
    | none => none) else none

theorem deH_ok : ∀ (l : List (Nat × ESh)) (vs : Heap) (x : denH l), deH l vs = some x → vs = mkH l x
  | [], [], _, _ => rfl
  | [], _ :: _, _, h => by cases h
  | _ :: _, [], _, h => by cases h
  | (i, s) :: r, (j, v) :: vs, x, h => by
    simp only [deH] at h
    replace h := bif_eq_some h
    rcases h with ⟨hj, h⟩ | ⟨_, h⟩
    · have hj := Nat.eq_of_beq_eq_true hj
      subst hj
      split at h
      · rename_i u hu
        split at h
        · rename_i y hy
          cases h
          simp only [mkH]
          rw [ESh.de_ok s v u hu, deH_ok r vs y hy]
        · cases h
      · cases h
    · cases h

def denS : List (Nat × Sh) → Type
  | [] => Unit
  | (_, s) :: r => s.den × denS r

def mkS : (l : List (Nat × Sh)) → denS l → List (Nat × AV)
  | [], _ => []
  | (i, s) :: r, x => (i, s.mk x.1) :: mkS r x.2

def deS : (l : List (Nat × Sh)) → List (Nat × AV) → Option (denS l)
  | [], [] => some ()
  | [], _ :: _ => none
  | _ :: _, [] => none
  | (i, s) :: r, (j, v) :: vs => bif Nat.beq j i then (match s.de v with
    | some x => (match deS r vs with
      | some y => some (x, y)
      | none => none)
    | none => none) else none

theorem deS_ok : ∀ (l : List (Nat × Sh)) (vs : List (Nat × AV)) (x : denS l), deS l vs = some x → vs = mkS l x
  | [], [], _, _ => rfl
  | [], _ :: _, _, h => by cases h
  | _ :: _, [], _, h => by cases h
  | (i, s) :: r, (j, v) :: vs, x, h => by
    simp only [deS] at h
    replace h := bif_eq_some h
    rcases h with ⟨hj, h⟩ | ⟨_, h⟩
    · have hj := Nat.eq_of_beq_eq_true hj
      subst hj
      split at h
      · rename_i u hu
        split at h
        · rename_i y hy
          cases h
          simp only [mkS]
          rw [Sh.de_ok s v u hu, deS_ok r vs y hy]
        · cases h
      · cases h
    · cases h

/-! ### Callees by shape -/

def sigRun {T : Type} (ps : List Sh) (hs : List (Nat × ESh)) (F : denL ps → denH hs → Option T) (args : List AV) (L : Heap) : Option T :=
  match deL ps args with
  | some d => (match deH hs L with
    | some e => F d e
    | none => none)
  | none => none

def sigCallee {T : Type} (ps : List Sh) (hs : List (Nat × ESh)) (F : denL ps → denH hs → Option T) (val : T → AV) (wr : T → Heap) : Callee :=
  .go T (fun args L => (match deL ps args with
    | some _ => (deH hs L).isSome
    | none => false)) (sigRun ps hs F) (fun _ _ t => val t) (fun _ _ t => wr t)

def leafFn {T : Type} (hs : List (Nat × ESh)) (ids : List Nat) (e : denH hs) (val : T → AV) (wr : T → Heap) (t : T) : Option (AV × Heap) :=
  (pickH (wr t ++ mkH hs e) ids).bind (fun H => some (val t, H))

theorem look_mkH {i : Nat} : ∀ {l : List (Nat × ESh)} {x : denH l}, (look i (mkH l x)).isSome = true → i ∈ l.map (·.1)
  | [], _, h => by cases h
  | (j, s) :: r, x, h => by
    simp only [mkH, look_cons] at h
    by_cases e : i = j
    · subst e; simp
    · rw [if_neg e] at h
      simp only [List.map_cons, List.mem_cons]
      exact .inr (look_mkH h)

theorem mkH_look {i : Nat} : ∀ {l : List (Nat × ESh)} {x : denH l}, i ∈ l.map (·.1) → (look i (mkH l x)).isSome = true
  | (j, s) :: l, x, h => by
    simp only [mkH, look_cons]
    by_cases e : i = j
    · rw [if_pos e]; rfl
    · rw [if_neg e]
      simp only [List.map_cons, List.mem_cons] at h
      exact mkH_look (h.resolve_left e)

theorem pickH_total {H : Heap} : ∀ {ids : List Nat}, (∀ i ∈ ids, (look i H).isSome = true) → ∃ l, pickH H ids = some l
  | [], _ => ⟨[], rfl⟩
  | i :: r, h => by
    obtain ⟨e, he⟩ := Option.isSome_iff_exists.1 (h i (by simp))
    obtain ⟨l, hl⟩ := pickH_total (ids := r) (fun j hj => h j (by simp [hj]))
    exact ⟨(i, e) :: l, by simp only [pickH, he, hl]⟩

/-- The entries of a final heap are those that are told. -/
def allOf (ids : List Nat) (hs : List (Nat × ESh)) (wr : Heap) : Bool := allIn ids (keys wr) && allIn ids (hs.map (·.1)) && allIn (keys wr ++ hs.map (·.1)) ids

theorem allOf_ok {ids : List Nat} {hs : List (Nat × ESh)} {wr : Heap} {e : denH hs} (h : allOf ids hs wr = true) : (∃ H, pickH (wr ++ mkH hs e) ids = some H) ∧ ∀ i, (look i (wr ++ mkH hs e)).isSome = true → i ∈ ids := by
  simp only [allOf, Bool.and_eq_true] at h
  obtain ⟨⟨h1, h2⟩, h3⟩ := h
  refine ⟨pickH_total fun i hi => ?_, fun i hi => ?_⟩
  · rcases List.mem_append.1 (allIn_ok h3 i hi) with hk | hk
    · obtain ⟨x, hx⟩ := look_some_of hk
      rw [look_append, hx]; rfl
    · exact isSome_append (mkH_look hk)
  · by_cases hk : i ∈ keys wr
    · exact allIn_ok h1 i hk
    · rw [look_append, look_none_of hk, Option.none_or] at hi
      exact allIn_ok h2 i (look_mkH hi)

theorem callee_sig {P : Program} {E : Env} {f : FuncId} {fn : Func} {c : Code} {N : Nat} (hf : FnIs P f fn c N) (hm : P.follows .mixedOrders = true) (hE : ∀ f, ∀ c ∈ E.fn f, CalleeOK P f c) (hl : LoopsOK P E N 0 c)
    {T : Type} (ps : List Sh) (hs : List (Nat × ESh)) (cells : List (Place × Nat × Hint)) (hints : List Hint) (ids : List Nat) (F : denL ps → denH hs → Option T) (val : T → AV) (wr : T → Heap) (hk : Nat.ble ps.length N = true) (hw : ∀ t, allOf ids hs (wr t) = true)
    (h : ∀ d e, runFn P E N c fn.results.toList cells hints (hs.map (·.1)) (mkL ps d) (mkH hs e) = (F d e).bind (leafFn hs ids e val wr)) : CalleeOK P f (sigCallee ps hs F val wr) := by
  refine callee_ok hf hm hE hl cells hints (hs.map (·.1)) ids ps.length (Nat.le_of_ble_eq_true hk) (fun args L t ht => ?_) _
  unfold sigRun at ht
  split at ht
  · rename_i d hd
    split at ht
    · rename_i e he
      have h1 := deL_ok _ _ _ hd
      have h2 := deH_ok _ _ _ he
      subst h1 h2
      have h3 := h d e
      rw [ht] at h3
      simp only [Option.bind_some, leafFn] at h3
      obtain ⟨⟨H, hp⟩, hi⟩ := allOf_ok (e := e) (hw t)
      rw [hp] at h3
      exact ⟨H, h3, hp, length_mkL ps d, hi⟩
    · cases ht
  · cases ht

def sigAlt {T U : Type} (ps : List Sh) (hs : List (Nat × ESh)) (F : denL ps → denH hs → Option (T ⊕ U)) (val1 : T → AV) (wr1 : T → Heap) (val2 : U → AV) (wr2 : U → Heap) : Callee :=
  .alt T U (fun args L => (match deL ps args with
    | some _ => (deH hs L).isSome
    | none => false)) (sigRun ps hs F) val1 wr1 val2 wr2

theorem callee_alt {P : Program} {E : Env} {f : FuncId} {fn : Func} {c : Code} {N : Nat} (hf : FnIs P f fn c N) (hm : P.follows .mixedOrders = true) (hE : ∀ f, ∀ c ∈ E.fn f, CalleeOK P f c) (hl : LoopsOK P E N 0 c)
    {T U : Type} (ps : List Sh) (hs : List (Nat × ESh)) (cells : List (Place × Nat × Hint)) (hints : List Hint) (ids1 ids2 : List Nat) (F : denL ps → denH hs → Option (T ⊕ U)) (val1 : T → AV) (wr1 : T → Heap) (val2 : U → AV) (wr2 : U → Heap) (hk : Nat.ble ps.length N = true)
    (hw1 : ∀ t, allOf ids1 hs (wr1 t) = true) (hw2 : ∀ t, allOf ids2 hs (wr2 t) = true)
    (h : ∀ d e, runFn P E N c fn.results.toList cells hints (hs.map (·.1)) (mkL ps d) (mkH hs e) = (F d e).bind (fun s => sel s (leafFn hs ids1 e val1 wr1) (leafFn hs ids2 e val2 wr2))) : CalleeOK P f (sigAlt ps hs F val1 wr1 val2 wr2) := by
  refine callee_ok2 hf hm hE hl cells hints (hs.map (·.1)) ids1 ids2 ps.length (Nat.le_of_ble_eq_true hk) (fun args L s ht => ?_) _
  unfold sigRun at ht
  split at ht
  · rename_i d hd
    split at ht
    · rename_i e he
      have h1 := deL_ok _ _ _ hd
      have h2 := deH_ok _ _ _ he
      subst h1 h2
      have h3 := h d e
      rw [ht] at h3
      simp only [Option.bind_some] at h3
      refine ⟨length_mkL ps d, fun t e1 => ?_, fun t e1 => ?_⟩
      · subst e1
        simp only [sel, leafFn] at h3
        obtain ⟨⟨H, hp⟩, hi⟩ := allOf_ok (e := e) (hw1 t)
        rw [hp] at h3
        exact ⟨H, h3, hp, hi⟩
      · subst e1
        simp only [sel, leafFn] at h3
        obtain ⟨⟨H, hp⟩, hi⟩ := allOf_ok (e := e) (hw2 t)
        rw [hp] at h3
        exact ⟨H, h3, hp, hi⟩
    · cases ht
  · cases ht

/-! ### Loops by shape -/

def sigDec (slots : List (Nat × Sh)) (cells : List (Place × Nat × Hint)) (hints : List (Nat × Hint)) (keep : List Nat) (hs : List (Nat × ESh)) (σ : St) : Option (denS slots × denH hs) :=
  match recast cells hints keep σ with
  | some σ' => (match deS slots σ'.env with
    | some d => (match deH hs σ'.heap with
      | some e => some (d, e)
      | none => none)
    | none => none)
  | none => none

def sigLoop {V W : Type} (slots : List (Nat × Sh)) (cells : List (Place × Nat × Hint)) (hints : List (Nat × Hint)) (keep : List Nat) (hs : List (Nat × ESh)) (id : Nat) (l : denS slots → denH hs → Option (V ⊕ W)) (out : denS slots → denH hs → V → St) (ret : denS slots → denH hs → W → St) : LoopSum :=
  .mk V W id (fun σ => (sigDec slots cells hints keep hs σ).bind (fun p => l p.1 p.2))
    (fun σ v => match sigDec slots cells hints keep hs σ with
      | some p => out p.1 p.2 v
      | none => ⟨[], []⟩)
    (fun σ q => match sigDec slots cells hints keep hs σ with
      | some p => ret p.1 p.2 q
      | none => ⟨[], []⟩)

def finBy (oc : List (Place × Nat × Hint)) (os : List (Nat × Hint)) (oi : List Nat) (rc : List (Place × Nat × Hint)) (rs : List (Nat × Hint)) (ri : List Nat) : Ex → St → Option St
  | .ret, σ => recast rc rs ri σ
  | _, σ => recast oc os oi σ

theorem keeps_finBy (N : Nat) (oc : List (Place × Nat × Hint)) (os : List (Nat × Hint)) (oi : List Nat) (rc : List (Place × Nat × Hint)) (rs : List (Nat × Hint)) (ri : List Nat) (e : Ex) : Keeps N (finBy oc os oi rc rs ri e) := by
  cases e <;> exact keeps_recast N _ _ _

def exitOf {V W : Type} (id : Nat) (out : V → St) (ret : W → St) (t : V ⊕ W) : Option (Ex × St) := match t with
  | .inl v => some (.exit id, out v)
  | .inr q => some (.ret, ret q)

theorem loop_sig {P : Program} {E : Env} {N : Nat} (hm : P.follows .mixedOrders = true) (hE : ∀ f, ∀ c ∈ E.fn f, CalleeOK P f c) {cur : Nat} {body : Code} (hl : LoopsOK P E N cur body) {V W : Type} (slots : List (Nat × Sh)) (cells : List (Place × Nat × Hint)) (hints : List (Nat × Hint)) (keep : List Nat) (hs : List (Nat × ESh))
    (id : Nat) (l : denS slots → denH hs → Option (V ⊕ W)) (out : denS slots → denH hs → V → St) (ret : denS slots → denH hs → W → St) (oc : List (Place × Nat × Hint)) (os : List (Nat × Hint)) (oi : List Nat) (rc : List (Place × Nat × Hint)) (rs : List (Nat × Hint)) (ri : List Nat) (k : Nat)
    (h : ∀ d e, loopIt P E N cur body (recast cells hints keep) (finBy oc os oi rc rs ri) k ⟨mkS slots d, mkH hs e⟩ = (l d e).bind (exitOf id (out d e) (ret d e))) :
    LoopOK P N body (sigLoop slots cells hints keep hs id l out ret) := by
  intro σ t ht
  obtain ⟨p, hp, hlp⟩ := Option.bind_eq_some_iff.1 ht
  have hdec := hp
  unfold sigDec at hp
  split at hp
  · rename_i σ' hσ'
    split at hp
    · rename_i d hd
      split at hp
      · rename_i e he
        cases hp
        have h1 := deS_ok _ _ _ hd
        have h2 := deH_ok _ _ _ he
        obtain ⟨env, heap⟩ := σ'
        simp only at h1 h2
        subst h1 h2
        have h3 := h d e
        rw [hlp] at h3
        have hrun := fun {ex : Ex} {σ2 : St} (hh : loopIt P E N cur body (recast cells hints keep) (finBy oc os oi rc rs ri) k ⟨mkS slots d, mkH hs e⟩ = some (ex, σ2)) =>
          runs_loop hm hE hl (keeps_recast N _ _ _) (keeps_finBy N oc os oi rc rs ri) hσ' hh
        cases t with
        | inl v => simp only [hdec]; exact hrun h3
        | inr q => simp only [hdec]; exact hrun h3
      · cases hp
    · cases hp
  · cases hp

def sigLoopX {V : Type} (slots : List (Nat × Sh)) (cells : List (Place × Nat × Hint)) (hints : List (Nat × Hint)) (keep : List Nat) (hs : List (Nat × ESh)) (id : Nat) (l : denS slots → denH hs → Option V) (out : denS slots → denH hs → V → St) : LoopSum :=
  .ex V id (fun σ => (sigDec slots cells hints keep hs σ).bind (fun p => l p.1 p.2))
    (fun σ v => match sigDec slots cells hints keep hs σ with
      | some p => out p.1 p.2 v
      | none => ⟨[], []⟩)

theorem loop_sigX {P : Program} {E : Env} {N : Nat} (hm : P.follows .mixedOrders = true) (hE : ∀ f, ∀ c ∈ E.fn f, CalleeOK P f c) {cur : Nat} {body : Code} (hl : LoopsOK P E N cur body) {V : Type} (slots : List (Nat × Sh)) (cells : List (Place × Nat × Hint)) (hints : List (Nat × Hint)) (keep : List Nat) (hs : List (Nat × ESh))
    (id : Nat) (l : denS slots → denH hs → Option V) (out : denS slots → denH hs → V → St) (oc : List (Place × Nat × Hint)) (os : List (Nat × Hint)) (oi : List Nat) (rc : List (Place × Nat × Hint)) (rs : List (Nat × Hint)) (ri : List Nat) (k : Nat)
    (h : ∀ d e, loopIt P E N cur body (recast cells hints keep) (finBy oc os oi rc rs ri) k ⟨mkS slots d, mkH hs e⟩ = (l d e).bind (fun v => some (.exit id, out d e v))) :
    LoopOK P N body (sigLoopX slots cells hints keep hs id l out) := by
  intro σ t ht
  obtain ⟨p, hp, hlp⟩ := Option.bind_eq_some_iff.1 ht
  have hdec := hp
  unfold sigDec at hp
  split at hp
  · rename_i σ' hσ'
    split at hp
    · rename_i d hd
      split at hp
      · rename_i e he
        cases hp
        have h1 := deS_ok _ _ _ hd
        have h2 := deH_ok _ _ _ he
        obtain ⟨env, heap⟩ := σ'
        simp only at h1 h2
        subst h1 h2
        have h3 := h d e
        rw [hlp] at h3
        have hrun := runs_loop hm hE hl (keeps_recast N _ _ _) (keeps_finBy N oc os oi rc rs ri) hσ' h3
        simp only [hdec]
        exact hrun
      · cases hp
    · cases hp
  · cases hp

def sigLoopR {V : Type} (slots : List (Nat × Sh)) (cells : List (Place × Nat × Hint)) (hints : List (Nat × Hint)) (keep : List Nat) (hs : List (Nat × ESh)) (l : denS slots → denH hs → Option V) (out : denS slots → denH hs → V → St) : LoopSum :=
  .rt V (fun σ => (sigDec slots cells hints keep hs σ).bind (fun p => l p.1 p.2))
    (fun σ v => match sigDec slots cells hints keep hs σ with
      | some p => out p.1 p.2 v
      | none => ⟨[], []⟩)

theorem loop_sigR {P : Program} {E : Env} {N : Nat} (hm : P.follows .mixedOrders = true) (hE : ∀ f, ∀ c ∈ E.fn f, CalleeOK P f c) {cur : Nat} {body : Code} (hl : LoopsOK P E N cur body) {V : Type} (slots : List (Nat × Sh)) (cells : List (Place × Nat × Hint)) (hints : List (Nat × Hint)) (keep : List Nat) (hs : List (Nat × ESh))
    (l : denS slots → denH hs → Option V) (out : denS slots → denH hs → V → St) (oc : List (Place × Nat × Hint)) (os : List (Nat × Hint)) (oi : List Nat) (rc : List (Place × Nat × Hint)) (rs : List (Nat × Hint)) (ri : List Nat) (k : Nat)
    (h : ∀ d e, loopIt P E N cur body (recast cells hints keep) (finBy oc os oi rc rs ri) k ⟨mkS slots d, mkH hs e⟩ = (l d e).bind (fun v => some (.ret, out d e v))) :
    LoopOK P N body (sigLoopR slots cells hints keep hs l out) := by
  intro σ t ht
  obtain ⟨p, hp, hlp⟩ := Option.bind_eq_some_iff.1 ht
  have hdec := hp
  unfold sigDec at hp
  split at hp
  · rename_i σ' hσ'
    split at hp
    · rename_i d hd
      split at hp
      · rename_i e he
        cases hp
        have h1 := deS_ok _ _ _ hd
        have h2 := deH_ok _ _ _ he
        obtain ⟨env, heap⟩ := σ'
        simp only at h1 h2
        subst h1 h2
        have h3 := h d e
        rw [hlp] at h3
        have hrun := runs_loop hm hE hl (keeps_recast N _ _ _) (keeps_finBy N oc os oi rc rs ri) hσ' h3
        simp only [hdec]
        exact hrun
      · cases hp
    · cases hp
  · cases hp

/-- A loop's rounds, one by one. -/
theorem loopIt_zero {P : Program} {E : Env} {N cur : Nat} {body : Code} {nm : St → Option St} {fin : Ex → St → Option St} (σ : St) : loopIt P E N cur body nm fin 0 σ = none := rfl

def roundK (P : Program) (E : Env) (N cur : Nat) (body : Code) (nm : St → Option St) (fin : Ex → St → Option St) (G : St → Option (Ex × St)) (σ : St) : Option (Ex × St) :=
  exec P E N cur body σ (fun e σ' => match e with
    | .normal => (nm σ').bind G
    | .exit i => (fin (.exit i) σ').bind (fun s => some (.exit i, s))
    | .ret => (fin .ret σ').bind (fun s => some (.ret, s)))

theorem loopIt_succ {P : Program} {E : Env} {N cur : Nat} {body : Code} {nm : St → Option St} {fin : Ex → St → Option St} (n : Nat) (σ : St) :
    loopIt P E N cur body nm fin (n + 1) σ = roundK P E N cur body nm fin (loopIt P E N cur body nm fin n) σ := rfl

/-- The rounds, once it is known what one round comes to. -/
theorem loopIt_eq {P : Program} {E : Env} {N cur : Nat} {body : Code} {nm : St → Option St} {fin : Ex → St → Option St} {D : Type} (mk : D → St) (step : (D → Option (Ex × St)) → D → Option (Ex × St)) (l : Nat → D → Option (Ex × St))
    (h0 : ∀ d, l 0 d = none) (h1 : ∀ n d, l (n + 1) d = step (l n) d) (h : ∀ G d, roundK P E N cur body nm fin G (mk d) = step (fun d => G (mk d)) d) :
    ∀ n d, loopIt P E N cur body nm fin n (mk d) = l n d := by
  intro n
  induction n with
  | zero => intro d; rw [h0]; rfl
  | succ n ih =>
    intro d
    rw [loopIt_succ, h, h1]
    congr 1
    funext d
    exact ih d

/-! ### What the model has itself -/

def add64 (x y c : Int) : Option (Int × Int) :=
  bif decide (c = 0) || decide (c = 1) then some (Int.ofNat ((x.toNat + y.toNat + c.toNat) % 2 ^ 64), Int.ofNat ((x.toNat + y.toNat + c.toNat) / 2 ^ 64)) else none

def sub64 (x y c : Int) : Option (Int × Int) :=
  bif decide (c = 0) || decide (c = 1) then some (Int.ofNat ((x.toNat + 2 ^ 64 - y.toNat - c.toNat) % 2 ^ 64), Int.ofNat (if x.toNat < y.toNat + c.toNat then 1 else 0)) else none

def pair64 (t : Int × Int) : AV := .tcons (.int .u64 t.1) (.tcons (.int .u64 t.2) .tnil)

def run3 (g : Int → Int → Int → Option (Int × Int)) : List AV → Option (Int × Int)
  | [x, y, z] => (match x.asInt .u64 with
    | some a => (match y.asInt .u64 with
      | some b => (match z.asInt .u64 with
        | some c => g a b c
        | none => none)
      | none => none)
    | none => none)
  | _ => none

theorem run3_ok {g : Int → Int → Int → Option (Int × Int)} {args : List AV} {t : Int × Int} (h : run3 g args = some t) : ∃ a b c, args = [.int .u64 a, .int .u64 b, .int .u64 c] ∧ g a b c = some t := by
  unfold run3 at h
  split at h
  · rename_i x y z
    split at h
    · rename_i a ha
      split at h
      · rename_i b hb
        split at h
        · rename_i c hc
          rw [AV.asInt_eq ha, AV.asInt_eq hb, AV.asInt_eq hc]
          exact ⟨a, b, c, rfl, h⟩
        · cases h
      · cases h
    · cases h
  · cases h

theorem VR_pair64 {B : Bz} (t : Int × Int) : VR B (pair64 t) (.tuple #[.int .u64 t.1, .int .u64 t.2]) := by
  simp only [pair64, VR, AV.isTup, if_true]
  exact ⟨[.int .u64 t.1, .int .u64 t.2], ⟨_, _, rfl, VR0_of_VR (VR_mk_int B _ _) rfl, ⟨_, _, rfl, VR0_of_VR (VR_mk_int B _ _) rfl, rfl⟩⟩, rfl⟩

def add64E : Array Value → Sem Value := fun args => do
  let (x, y, c) ← Extern.MathBitsCarry.three "Add64" args
  pure (Extern.MathBitsCarry.pair ((x + y + c) % Extern.MathBitsCarry.m64) ((x + y + c) / Extern.MathBitsCarry.m64))

def sub64E : Array Value → Sem Value := fun args => do
  let (x, y, b) ← Extern.MathBitsCarry.three "Sub64" args
  pure (Extern.MathBitsCarry.pair ((x + Extern.MathBitsCarry.m64 - y - b) % Extern.MathBitsCarry.m64) (if x < y + b then 1 else 0))

theorem ext_add64 {P : Program} {f : FuncId} {fn : Func} (hf : P.funcs[f]? = some fn) (hb : fn.body = none) (hx : Extern.findNext fn = none) (hg : (fn.name == "runtime.NumGoroutine") = false)
    (he : Extern.find fn = some add64E) : CalleeOK P f (.ext (Int × Int) (run3 add64) pair64) := by
  intro args t ht B vs w ha
  obtain ⟨a, b, c, rfl, h⟩ := run3_ok ht
  match vs, ha with
  | [u, v, x], ⟨h1, h2, h3, _⟩ =>
    rw [VR_int h1, VR_int h2, VR_int h3]
    unfold add64 at h
    replace h := bif_eq_some h
    rcases h with ⟨hc, h⟩ | ⟨_, h⟩
    · cases h
      refine ⟨_, VR_pair64 _, ?_⟩
      rw [run_callFunc_extern hf hg (by rw [hb]; rfl) hx he]
      simp only [Bool.or_eq_true, decide_eq_true_eq] at hc
      rcases hc with rfl | rfl <;> rfl
    · cases h

theorem ext_sub64 {P : Program} {f : FuncId} {fn : Func} (hf : P.funcs[f]? = some fn) (hb : fn.body = none) (hx : Extern.findNext fn = none) (hg : (fn.name == "runtime.NumGoroutine") = false)
    (he : Extern.find fn = some sub64E) : CalleeOK P f (.ext (Int × Int) (run3 sub64) pair64) := by
  intro args t ht B vs w ha
  obtain ⟨a, b, c, rfl, h⟩ := run3_ok ht
  match vs, ha with
  | [u, v, x], ⟨h1, h2, h3, _⟩ =>
    rw [VR_int h1, VR_int h2, VR_int h3]
    unfold sub64 at h
    replace h := bif_eq_some h
    rcases h with ⟨hc, h⟩ | ⟨_, h⟩
    · cases h
      refine ⟨_, VR_pair64 _, ?_⟩
      rw [run_callFunc_extern hf hg (by rw [hb]; rfl) hx he]
      simp only [Bool.or_eq_true, decide_eq_true_eq] at hc
      rcases hc with rfl | rfl <;> rfl
    · cases h

end Go.Proofs.YtkgpjplncfginaaGreatDoor.Sy
