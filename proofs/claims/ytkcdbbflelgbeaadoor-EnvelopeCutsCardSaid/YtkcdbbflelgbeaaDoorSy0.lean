/- The abstract values and heaps of the machine Sy, and what it means that a world of the model realizes them. -/
import Derived.Calls
import Derived.Orders
import Derived.Laws.AppendOwn
import Derived.KernelRfl
import Derived.Below
namespace Go.Proofs.YtkcdbbflelgbeaaDoor.Sy
open Go
set_option linter.unusedVariables false
set_option linter.unusedSimpArgs false

def All2 {α β : Type} (R : α → β → Prop) : List α → List β → Prop
  | [], [] => True
  | a :: as, b :: bs => R a b ∧ All2 R as bs
  | _, _ => False

/-! ### Strings as lists of their bytes -/

def byteL (s : List Int) : Prop := ∀ y ∈ s, 0 ≤ y ∧ y < 256
def bst (s : List Int) : ByteArray := ⟨(s.map fun n => UInt8.ofNat n.toNat).toArray⟩
def unb (s : ByteArray) : List Int := s.data.toList.map fun b => ((b.toNat : Nat) : Int)

theorem bst_unb (s : ByteArray) : bst (unb s) = s := by
  unfold bst unb
  rw [List.map_map]
  have : (fun n : Int => UInt8.ofNat n.toNat) ∘ (fun b : UInt8 => ((b.toNat : Nat) : Int)) = id := by
    funext b
    simp
  rw [this, List.map_id]

theorem byteL_unb (s : ByteArray) : byteL (unb s) := by
  intro y hy
  unfold unb at hy
  obtain ⟨b, _, rfl⟩ := List.mem_map.1 hy
  have := b.toNat_lt
  exact ⟨by omega, by omega⟩

theorem unb_bst {s : List Int} (h : byteL s) : unb (bst s) = s := by
  unfold bst unb
  simp only [List.map_map]
  have : ∀ l : List Int, byteL l → l.map ((fun b : UInt8 => ((b.toNat : Nat) : Int)) ∘ fun n : Int => UInt8.ofNat n.toNat) = l := by
    intro l
    induction l with
    | nil => intro _; rfl
    | cons x r ih =>
      intro hl
      have hx := hl x (by simp)
      rw [List.map_cons, ih (fun y hy => hl y (by simp [hy]))]
      congr 1
      simp only [Function.comp, UInt8.toNat_ofNat']
      omega
  exact this s h

theorem size_bst (s : List Int) : (bst s).size = s.length := by
  simp [bst, ByteArray.size]

/-! ### Codes of the types whose values are plain data -/

inductive Ty where
  | int (k : IntKind) | bool | str | arr (k : IntKind) (n : Nat) | opq | one (a : Ty) | pair (a b : Ty)
  deriving DecidableEq

def Ty.den : Ty → Type
  | .int _ => Int
  | .bool => Bool
  | .str => List Int
  | .arr _ _ => List Int
  | .opq => Value
  | .one a => a.den
  | .pair a b => a.den × b.den

def Ty.dflt : (t : Ty) → t.den
  | .int _ => (0 : Int)
  | .bool => false
  | .str => ([] : List Int)
  | .arr _ n => (List.replicate n 0 : List Int)
  | .opq => (Value.slice none 0 0 : Value)
  | .one a => a.dflt
  | .pair a b => (a.dflt, b.dflt)

def Ty.size : Ty → Nat
  | .int _ => 1
  | .bool => 1
  | .str => 1
  | .arr _ n => n
  | .opq => 1
  | .one a => a.size
  | .pair a b => a.size + b.size

/-- The cells of a datum. -/
def cellsT : (t : Ty) → t.den → List Value
  | .int k, n => [.int k n]
  | .bool, b => [.bool b]
  | .str, s => [.string (bst s)]
  | .arr k _, xs => List.map (Value.int k) xs
  | .opq, v => [v]
  | .one a, x => cellsT a x
  | .pair a b, x => cellsT a x.1 ++ cellsT b x.2

/-- Its arrays have their lengths. -/
def wfT : (t : Ty) → t.den → Prop
  | .int _, _ => True
  | .bool, _ => True
  | .str, s => byteL s
  | .arr _ n, xs => List.length xs = n
  | .opq, v => Value.oneCell' v = true
  | .one a, x => wfT a x
  | .pair a b, x => wfT a x.1 ∧ wfT b x.2

theorem length_cellsT : ∀ (t : Ty) (x : t.den), wfT t x → (cellsT t x).length = t.size
  | .int _, _, _ => rfl
  | .bool, _, _ => rfl
  | .str, _, _ => rfl
  | .arr k _, xs, h => (List.length_map (f := Value.int k) (as := xs)).trans h
  | .opq, _, _ => rfl
  | .one a, x, h => length_cellsT a x h
  | .pair a b, x, h => by
    simp only [cellsT, Ty.size, List.length_append, length_cellsT a x.1 h.1, length_cellsT b x.2 h.2]

/-! ### Abstract values -/

structure Ptr where
  id : Nat
  st : Nat
  dys : List (Nat × Nat)

inductive AV where
  | int (k : IntKind) (n : Int)
  | bool (b : Bool)
  | str (s : List Int)
  | ptr (p : Option Ptr)
  | nils
  | vec (i : Nat)
  | asl (p : Ptr) (n len : Nat)
  | fn (f : FuncId)
  | opq (v : Value)
  | gptr (g st : Nat) (dys : List (Nat × Nat))
  | arr (k : IntKind) (n : Nat) (xs : List Int)
  | unit
  | one (a : AV)
  | pair (a b : AV)
  | tnil
  | tcons (a b : AV)

def AV.size : AV → Nat
  | .arr _ n _ => n
  | .unit => 0
  | .one a => a.size
  | .pair a b => a.size + b.size
  | .tnil => 0
  | .tcons _ _ => 0
  | _ => 1

def AV.isAgg : AV → Bool
  | .arr .. | .unit | .one _ | .pair .. => true
  | _ => false

def AV.isTup : AV → Bool
  | .tnil | .tcons .. => true
  | _ => false

def AV.ids : AV → List Nat
  | .ptr (some p) => [p.id]
  | .vec i => [i]
  | .asl p _ _ => [p.id]
  | .one a => a.ids
  | .pair a b => a.ids ++ b.ids
  | .tcons a b => a.ids ++ b.ids
  | _ => []

def enc : (t : Ty) → t.den → AV
  | .int k, n => .int k n
  | .bool, b => .bool b
  | .str, s => .str s
  | .arr k n, xs => .arr k n xs
  | .opq, v => .opq v
  | .one a, x => .one (enc a x)
  | .pair a b, x => .pair (enc a x.1) (enc b x.2)

def AV.asInt (k : IntKind) : AV → Option Int
  | .int k' n => bif decide (k' = k) then some n else none
  | _ => none
def AV.asBool : AV → Option Bool
  | .bool b => some b
  | _ => none
def AV.asStr : AV → Option (List Int)
  | .str s => some s
  | _ => none
def AV.asArr (k : IntKind) (n : Nat) : AV → Option (List Int)
  | .arr k' n' xs => bif decide (k' = k) && Nat.beq n' n then some xs else none
  | _ => none
def AV.asV : AV → Option Value
  | .opq v => some v
  | _ => none
def AV.asOne : AV → Option AV
  | .one a => some a
  | _ => none
def AV.asPair : AV → Option (AV × AV)
  | .pair a b => some (a, b)
  | _ => none

theorem AV.asInt_eq {k : IntKind} {v : AV} {n : Int} (h : v.asInt k = some n) : v = .int k n := by
  cases v <;> simp only [AV.asInt, reduceCtorEq] at h
  rename_i k' m
  cases hk : decide (k' = k) <;> simp [hk] at h
  subst h; rw [of_decide_eq_true hk]
theorem AV.asBool_eq {v : AV} {n : Bool} (h : v.asBool = some n) : v = .bool n := by
  cases v <;> simp [AV.asBool] at h
  subst h; rfl
theorem AV.asStr_eq {v : AV} {n : List Int} (h : v.asStr = some n) : v = .str n := by
  cases v <;> simp [AV.asStr] at h
  subst h; rfl
theorem AV.asArr_eq {k : IntKind} {n : Nat} {v : AV} {xs : List Int} (h : v.asArr k n = some xs) : v = .arr k n xs := by
  cases v <;> simp only [AV.asArr, reduceCtorEq] at h
  rename_i k' n' ys
  cases hk : decide (k' = k) <;> cases hn : Nat.beq n' n <;> simp [hk, hn] at h
  subst h; rw [of_decide_eq_true hk, Nat.eq_of_beq_eq_true hn]
theorem AV.asV_eq {v : AV} {n : Value} (h : v.asV = some n) : v = .opq n := by
  cases v <;> simp [AV.asV] at h
  subst h; rfl
theorem AV.asOne_eq {v a : AV} (h : v.asOne = some a) : v = .one a := by
  cases v <;> simp [AV.asOne] at h
  subst h; rfl
theorem AV.asPair_eq {v : AV} {p : AV × AV} (h : v.asPair = some p) : v = .pair p.1 p.2 := by
  cases v <;> simp [AV.asPair] at h
  subst h; rfl

def dec : (t : Ty) → AV → Option t.den
  | .int k, v => v.asInt k
  | .bool, v => v.asBool
  | .str, v => v.asStr
  | .arr k n, v => v.asArr k n
  | .opq, v => v.asV
  | .one a, v => match v.asOne with
    | some x => dec a x
    | none => none
  | .pair a b, v => match v.asPair with
    | some p => (match dec a p.1 with
      | some u => (match dec b p.2 with
        | some w => some (u, w)
        | none => none)
      | none => none)
    | none => none

theorem dec_enc : ∀ (t : Ty) (v : AV) (x : t.den), dec t v = some x → v = enc t x
  | .int _, _, _, h => AV.asInt_eq h
  | .bool, _, _, h => AV.asBool_eq h
  | .str, _, _, h => AV.asStr_eq h
  | .arr _ _, _, _, h => AV.asArr_eq h
  | .opq, _, _, h => AV.asV_eq h
  | .one a, v, x, h => by
    simp only [dec] at h
    split at h
    · rename_i y hy; rw [AV.asOne_eq hy, dec_enc a y x h]; rfl
    · cases h
  | .pair a b, v, x, h => by
    simp only [dec] at h
    split at h
    · rename_i p hp
      split at h
      · rename_i u hu
        split at h
        · rename_i w hw
          cases h
          rw [AV.asPair_eq hp, dec_enc a _ _ hu, dec_enc b _ _ hw]; rfl
        · cases h
      · cases h
    · cases h

theorem ids_enc : ∀ (t : Ty) (x : t.den), (enc t x).ids = []
  | .int _, _ => rfl
  | .bool, _ => rfl
  | .str, _ => rfl
  | .arr _ _, _ => rfl
  | .opq, _ => rfl
  | .one a, x => ids_enc a x
  | .pair a b, x => by simp [enc, AV.ids, ids_enc a x.1, ids_enc b x.2]

/-! ### What realizes them -/

def baseOf : Value → Option Addr
  | .pointer (some a) => some a
  | .slice (some a) _ _ => some a
  | _ => none

def dyOff : List (Nat × Nat) → Nat
  | [] => 0
  | (i, s) :: r => i * s + dyOff r

def AR (B : Nat → Value) : AV → Value → Prop
  | .int k n, x => x = .int k n
  | .bool b, x => x = .bool b
  | .str s, x => byteL s ∧ x = .string (bst s)
  | .ptr none, x => x = .pointer none
  | .ptr (some p), x => ∃ b o, baseOf (B p.id) = some ⟨b, o, none⟩ ∧ x = .pointer (some ⟨b, o + p.st + dyOff p.dys, none⟩)
  | .nils, x => x = .slice none 0 0
  | .vec i, x => x = B i ∧ ∃ a n c, x = .slice a n c
  | .asl p n len, x => ∃ b o, baseOf (B p.id) = some ⟨b, o, none⟩ ∧ x = .slice (some ⟨b, o + p.st + dyOff p.dys, none⟩) n len
  | .fn f, x => x = .func (.func f) #[] #[]
  | .opq v, x => x = v ∧ v.oneCell' = true
  | .gptr g st dys, x => x = .pointer (some ⟨g, st + dyOff dys, none⟩)
  | _, _ => False

def CR (B : Nat → Value) : AV → List Value → Prop
  | .arr k n xs, cs => xs.length = n ∧ cs = xs.map (Value.int k)
  | .unit, cs => cs = []
  | .one a, cs => CR B a cs
  | .pair a b, cs => ∃ c1 c2, cs = c1 ++ c2 ∧ CR B a c1 ∧ CR B b c2
  | v, cs => ∃ x, cs = [x] ∧ AR B v x

def VR0 (B : Nat → Value) (v : AV) (x : Value) : Prop :=
  if v.isAgg = true then ∃ cs, CR B v cs ∧ x = .agg cs.toArray else AR B v x

def TR (B : Nat → Value) : AV → List Value → Prop
  | .tnil, vs => vs = []
  | .tcons a b, vs => ∃ v r, vs = v :: r ∧ VR0 B a v ∧ TR B b r
  | _, _ => False

def VR (B : Nat → Value) (v : AV) (x : Value) : Prop :=
  if v.isTup = true then ∃ vs, TR B v vs ∧ x = .tuple vs.toArray else VR0 B v x

theorem AR_congr {B B' : Nat → Value} {v : AV} {x : Value} (h : ∀ i ∈ v.ids, B i = B' i) (hr : AR B v x) : AR B' v x := by
  cases v with
  | ptr p =>
    cases p with
    | none => exact hr
    | some p => simp only [AR] at hr ⊢; rw [← h p.id (by simp [AV.ids])]; exact hr
  | vec i => simp only [AR] at hr ⊢; rw [← h i (by simp [AV.ids])]; exact hr
  | asl p n len => simp only [AR] at hr ⊢; rw [← h p.id (by simp [AV.ids])]; exact hr
  | _ => exact hr

theorem CR_congr {B B' : Nat → Value} : ∀ {v : AV} {cs : List Value}, (∀ i ∈ v.ids, B i = B' i) → CR B v cs → CR B' v cs := by
  intro v
  induction v with
  | one a ih => intro cs h hr; exact ih h hr
  | pair a b iha ihb =>
    intro cs h ⟨c1, c2, e, h1, h2⟩
    exact ⟨c1, c2, e, iha (fun i hi => h i (by simp [AV.ids, hi])) h1, ihb (fun i hi => h i (by simp [AV.ids, hi])) h2⟩
  | arr k n xs => intro cs _ hr; exact hr
  | unit => intro cs _ hr; exact hr
  | _ => intro cs h ⟨x, e, hx⟩; exact ⟨x, e, AR_congr h hx⟩

theorem VR0_congr {B B' : Nat → Value} {v : AV} {x : Value} (h : ∀ i ∈ v.ids, B i = B' i) (hr : VR0 B v x) : VR0 B' v x := by
  unfold VR0 at *
  split
  · rename_i ha; rw [if_pos ha] at hr; obtain ⟨cs, hc, e⟩ := hr; exact ⟨cs, CR_congr h hc, e⟩
  · rename_i ha; rw [if_neg ha] at hr; exact AR_congr h hr

theorem TR_congr {B B' : Nat → Value} : ∀ {v : AV} {vs : List Value}, (∀ i ∈ v.ids, B i = B' i) → TR B v vs → TR B' v vs := by
  intro v
  induction v with
  | tcons a b _ ihb =>
    intro vs h ⟨x, r, e, h1, h2⟩
    exact ⟨x, r, e, VR0_congr (fun i hi => h i (by simp [AV.ids, hi])) h1, ihb (fun i hi => h i (by simp [AV.ids, hi])) h2⟩
  | _ => intro vs _ hr; exact hr

theorem VR_congr {B B' : Nat → Value} {v : AV} {x : Value} (h : ∀ i ∈ v.ids, B i = B' i) (hr : VR B v x) : VR B' v x := by
  unfold VR at *
  split
  · rename_i ha; rw [if_pos ha] at hr; obtain ⟨cs, hc, e⟩ := hr; exact ⟨cs, TR_congr h hc, e⟩
  · rename_i ha; rw [if_neg ha] at hr; exact VR0_congr h hr

theorem CR_enc {B : Nat → Value} : ∀ (t : Ty) (x : t.den) (cs : List Value), CR B (enc t x) cs ↔ wfT t x ∧ cs = cellsT t x
  | .int _, _, cs => by simp [enc, CR, AR, wfT, cellsT]
  | .bool, _, cs => by simp [enc, CR, AR, wfT, cellsT]
  | .str, s, cs => by
    simp only [enc, CR, AR, wfT, cellsT]
    constructor
    · rintro ⟨x, rfl, h, rfl⟩; exact ⟨h, rfl⟩
    · rintro ⟨h, rfl⟩; exact ⟨_, rfl, h, rfl⟩
  | .arr _ _, _, cs => by simp [enc, CR, wfT, cellsT]
  | .opq, v, cs => by
    simp only [enc, CR, AR, wfT, cellsT]
    constructor
    · rintro ⟨x, rfl, rfl, h⟩; exact ⟨h, rfl⟩
    · rintro ⟨h, rfl⟩; exact ⟨v, rfl, rfl, h⟩
  | .one a, x, cs => by simp only [enc, CR, wfT, cellsT]; exact CR_enc a x cs
  | .pair a b, x, cs => by
    simp only [enc, CR, wfT, cellsT]
    constructor
    · rintro ⟨c1, c2, e, h1, h2⟩
      obtain ⟨w1, e1⟩ := (CR_enc a x.1 c1).1 h1
      obtain ⟨w2, e2⟩ := (CR_enc b x.2 c2).1 h2
      exact ⟨⟨w1, w2⟩, by rw [e, e1, e2]⟩
    · rintro ⟨⟨w1, w2⟩, e⟩
      exact ⟨_, _, e, (CR_enc a x.1 _).2 ⟨w1, rfl⟩, (CR_enc b x.2 _).2 ⟨w2, rfl⟩⟩

/-- What may lie in cells. -/
def AV.plain (v : AV) : Bool := !v.isTup

theorem CR_length {B : Nat → Value} : ∀ {v : AV} {cs : List Value}, CR B v cs → cs.length = v.size := by
  intro v
  induction v with
  | one a ih => intro cs h; exact ih h
  | pair a b iha ihb => intro cs ⟨c1, c2, e, h1, h2⟩; rw [e, List.length_append, iha h1, ihb h2]; rfl
  | arr k n xs => intro cs ⟨h, e⟩; rw [e, List.length_map, h]; rfl
  | unit => intro cs h; rw [h]; rfl
  | tnil => intro cs ⟨x, e, hx⟩; exact hx.elim
  | tcons a b _ _ => intro cs ⟨x, e, hx⟩; exact hx.elim
  | _ => intro cs ⟨x, e, hx⟩; rw [e]; rfl

theorem AR_no_agg {B : Nat → Value} {v : AV} {x : Value} (h : AR B v x) : ∀ cs, x ≠ .agg cs := by
  intro cs e; subst e
  cases v with
  | ptr p => cases p <;> simp [AR] at h
  | opq u => have := h.2; rw [← h.1] at this; cases this
  | vec i => obtain ⟨_, a, n, c, e⟩ := h; cases e
  | asl p n len => obtain ⟨b, o, _, e⟩ := h; cases e
  | _ => simp [AR] at h

theorem cells_one {x : Value} (h : ∀ cs, x ≠ .agg cs) : x.cells = #[x] := by
  cases x with
  | agg cs => exact absurd rfl (h cs)
  | _ => rfl

theorem CR_of_AR {B : Nat → Value} {v : AV} {x : Value} (h : AR B v x) : CR B v [x] := by
  cases v <;> first | exact ⟨x, rfl, h⟩ | exact h.elim

/-- The cells of what a value realizes. -/
theorem VR0_cells {B : Nat → Value} {v : AV} {x : Value} (h : VR0 B v x) : CR B v x.cells.toList := by
  unfold VR0 at h
  split at h
  · obtain ⟨cs, hc, e⟩ := h; subst e; simpa [Value.cells] using hc
  · rw [cells_one (AR_no_agg h)]; exact CR_of_AR h

theorem AR_of_CR {B : Nat → Value} {v : AV} {cs : List Value} (ha : v.isAgg = false) (h : CR B v cs) : ∃ x, cs = [x] ∧ AR B v x := by
  cases v <;> first | exact h | simp [AV.isAgg] at ha

/-! ### nil slices where the type says that they are only looked at from outside -/

def normT : Ty → AV → AV
  | .opq, .nils => .opq (.slice none 0 0)
  | .one a, .one v => .one (normT a v)
  | .pair a b, .pair u v => .pair (normT a u) (normT b v)
  | _, v => v

theorem CR_norm {B : Nat → Value} : ∀ (t : Ty) (v : AV) (cs : List Value), CR B v cs → CR B (normT t v) cs := by
  intro t
  induction t with
  | opq =>
    intro v cs h
    cases v <;> first | exact h | skip
    obtain ⟨x, rfl, hx⟩ := h
    simp only [AR] at hx
    subst hx
    exact ⟨_, rfl, rfl, rfl⟩
  | one a ih =>
    intro v cs h
    cases v <;> first | exact h | exact ih _ _ h
  | pair a b iha ihb =>
    intro v cs h
    cases v <;> first | exact h | skip
    obtain ⟨c1, c2, e, h1, h2⟩ := h
    exact ⟨c1, c2, e, iha _ _ h1, ihb _ _ h2⟩
  | _ => intro v cs h; exact h

/-! ### Blocks -/

/-- 'rows m': m = 0: they are only read; m = 1: they are ours to be grown, their beginnings may be read by others; m = 2: they are ours alone. -/
inductive Ent where
  | cell (v : AV)
  | rows (m : Nat) (e : TypeId) (t : Ty) (xs : List t.den)
  | iter (s : ByteArray) (pos : Nat)
  | dead
  | glob (g : Nat) (t : Ty) (x : t.den)

def Ent.ids : Ent → List Nat
  | .cell v => v.ids
  | _ => []

def Ent.mode : Ent → Nat
  | .cell _ => 2
  | .rows m _ _ _ => m
  | .iter _ _ => 2
  | .dead => 0
  | .glob _ _ _ => 0

/-- The block that an entry may write. -/
def blkO : Ent → Value → Option Nat
  | .cell _, .pointer (some a) => some a.block
  | .iter _ _, .pointer (some a) => some a.block
  | .rows (m + 1) _ _ _, .slice (some a) n c => bif Nat.beq m 0 && Nat.ble c n then none else some a.block
  | _, _ => none

/-- The block that an entry looks into. -/
def blkR : Ent → Value → Option Nat
  | .cell _, .pointer (some a) => some a.block
  | .iter _ _, .pointer (some a) => some a.block
  | .glob _ _ _, .pointer (some a) => some a.block
  | .rows 0 _ _ [], _ => none
  | .rows _ _ _ _, .slice (some a) _ _ => some a.block
  | _, _ => none

/-- Behind the last cell that it looks at. -/
def endE : Ent → Value → Nat
  | .rows _ _ t xs, .slice (some a) _ _ => a.off + xs.length * t.size
  | _, _ => 0

def Ent.isRo : Ent → Bool
  | .rows 0 _ _ _ => true
  | _ => false

/-- Rows that are only read. -/
def RoRows (b : Value) (t : Ty) (xs : List t.den) (w : World) : Prop :=
  ∃ a k, b = .slice a xs.length (xs.length + k) ∧ ∀ j x, xs[j]? = some x → wfT t x ∧ ∃ bl o, a = some ⟨bl, o, none⟩ ∧
    bl < w.heap.size ∧ ∀ m u, (cellsT t x)[m]? = some u → w.cell? ⟨bl, o + j * t.size + m, none⟩ = some u

/-- Rows of our own. -/
def OwnRow (w : World) (e : TypeId) (size : Nat) (v : Value) (n : Nat) (cs : List Value) : Prop :=
  cs.length = n * size ∧ ((v = .slice none 0 0 ∧ n = 0) ∨ ∃ g o cap cur, v = .slice (some ⟨g, o, none⟩) n cap ∧ w.heap[g]? = some (.cells cur e (0, 0)) ∧ n ≤ cap ∧ cap ≤ maxLen ∧ o + cap * size ≤ cur.size ∧ (cur.toList.drop o).take (n * size) = cs)

def EntR (B : Nat → Value) (i : Nat) (w : World) : Ent → Prop
  | .cell v => ∃ b cs ty, B i = .pointer (some ⟨b, 0, none⟩) ∧ w.heap[b]? = some (.cells cs ty (0, 0)) ∧ CR B v cs.toList
  | .rows 0 _ t xs => RoRows (B i) t xs w
  | .rows (_ + 1) e t xs => OwnRow w e t.size (B i) xs.length (xs.flatMap (cellsT t)) ∧ ∀ x ∈ xs, wfT t x
  | .iter s pos => ∃ b, B i = .pointer (some ⟨b, 0, none⟩) ∧ w.heap[b]? = some (.stringIter s pos)
  | .dead => True
  | .glob g t x => B i = .pointer (some ⟨g, 0, none⟩) ∧ g < w.heap.size ∧ wfT t x ∧ ∀ j u, (cellsT t x)[j]? = some u → w.cell? ⟨g, j, none⟩ = some u

abbrev Heap := List (Nat × Ent)

def look {α : Type} (i : Nat) : List (Nat × α) → Option α
  | [] => none
  | (j, x) :: r => bif Nat.beq i j then some x else look i r

theorem look_cons {α : Type} (i j : Nat) (x : α) (r : List (Nat × α)) : look i ((j, x) :: r) = if i = j then some x else look i r := by
  simp only [look]
  by_cases h : i = j
  · subst h; rw [if_pos rfl, Nat.beq_refl]; rfl
  · rw [if_neg h]
    cases hb : Nat.beq i j
    · rfl
    · exact absurd (Nat.eq_of_beq_eq_true hb) h

theorem look_append {α : Type} (i : Nat) : ∀ (a b : List (Nat × α)), look i (a ++ b) = (look i a).or (look i b)
  | [], b => by simp [look]
  | (j, x) :: a, b => by
    rw [List.cons_append, look_cons, look_cons, look_append i a b]
    split <;> simp

def Owned (B : Nat → Value) (H : Heap) (b : Nat) : Prop := ∃ i e, look i H = some e ∧ blkO e (B i) = some b
/-- Grown behind 'h' alone. -/
def Own1 (B : Nat → Value) (H : Heap) (b h : Nat) : Prop := ∃ i e, look i H = some e ∧ blkO e (B i) = some b ∧ e.mode = 1 ∧ endE e (B i) = h

/-- What another entry may share with one that may write. -/
def Shares (e : Ent) (v : Value) (e' : Ent) (v' : Value) : Prop := e.mode = 1 ∧ e'.isRo = true ∧ endE e' v' ≤ endE e v

structure HeapR (B : Nat → Value) (H : Heap) (w : World) : Prop where
  ent : ∀ i e, look i H = some e → EntR B i w e
  apart : ∀ i j e e' b, look i H = some e → look j H = some e' → i ≠ j → blkO e (B i) = some b → blkR e' (B j) = some b → Shares e (B i) e' (B j)
  closed : ∀ i e, look i H = some e → ∀ j ∈ e.ids, (look j H).isSome = true

theorem EntR_congr {B B' : Nat → Value} {i : Nat} {w : World} {e : Ent} (hi : B i = B' i) (h : ∀ j ∈ e.ids, B j = B' j) (hr : EntR B i w e) : EntR B' i w e := by
  cases e with
  | cell v =>
    obtain ⟨b, cs, ty, h1, h2, h3⟩ := hr
    exact ⟨b, cs, ty, hi ▸ h1, h2, CR_congr h h3⟩
  | iter s pos =>
    obtain ⟨b, h1, h2⟩ := hr
    exact ⟨b, hi ▸ h1, h2⟩
  | dead => trivial
  | glob g t x => exact ⟨hi ▸ hr.1, hr.2⟩
  | rows m e t xs =>
    cases m
    · simp only [EntR] at hr ⊢; rw [← hi]; exact hr
    · simp only [EntR] at hr ⊢; rw [← hi]; exact hr

/-- What it may write it looks into. -/
theorem blkR_of_O {e : Ent} {v : Value} {b : Nat} (h : blkO e v = some b) : blkR e v = some b := by
  cases e with
  | cell x =>
    cases v with
    | pointer a =>
      cases a with
      | none => simp [blkO] at h
      | some a => exact h
    | _ => simp [blkO] at h
  | iter s pos =>
    cases v with
    | pointer a =>
      cases a with
      | none => simp [blkO] at h
      | some a => exact h
    | _ => simp [blkO] at h
  | dead => simp [blkO] at h
  | glob g t x => simp [blkO] at h
  | rows m e t xs =>
    cases m with
    | zero => simp [blkO] at h
    | succ m =>
      cases v with
      | slice a n c =>
        cases a with
        | none => simp [blkO] at h
        | some a =>
          simp only [blkO] at h
          cases hc : (Nat.beq m 0 && Nat.ble c n) <;> simp only [hc, cond_true, cond_false, reduceCtorEq] at h
          cases xs <;> exact h
      | _ => simp [blkO] at h

/-- The world may change where the entry doesn't look. -/
theorem EntR_world {B : Nat → Value} {i : Nat} {w w' : World} {e : Ent} (hs : w.heap.size ≤ w'.heap.size) (h : ∀ b, blkR e (B i) = some b → w'.heap[b]? = w.heap[b]?) (hr : EntR B i w e) : EntR B i w' e := by
  cases e with
  | cell v =>
    obtain ⟨b, cs, ty, h1, h2, h3⟩ := hr
    exact ⟨b, cs, ty, h1, by rw [h b (by rw [h1]; rfl)]; exact h2, h3⟩
  | iter s pos =>
    obtain ⟨b, h1, h2⟩ := hr
    exact ⟨b, h1, by rw [h b (by rw [h1]; rfl)]; exact h2⟩
  | dead => trivial
  | glob g t x =>
    obtain ⟨h1, h2, h3, h4⟩ := hr
    refine ⟨h1, Nat.lt_of_lt_of_le h2 hs, h3, fun j u hj => ?_⟩
    rw [← h4 j u hj]
    unfold World.cell?
    rw [h g (by rw [h1]; rfl)]
  | rows m e t xs =>
    cases m
    · obtain ⟨a, cap, h1, h2⟩ := hr
      refine ⟨a, cap, h1, fun j x hj => ?_⟩
      obtain ⟨hw, bl, o, ha, hlt, hc⟩ := h2 j x hj
      refine ⟨hw, bl, o, ha, Nat.lt_of_lt_of_le hlt hs, fun m u hm => ?_⟩
      rw [← hc m u hm]
      unfold World.cell?
      cases xs with
      | nil => simp at hj
      | cons y ys => rw [h bl (by rw [h1, ha]; rfl)]
    · obtain ⟨⟨h1, h2⟩, h3⟩ := hr
      refine ⟨⟨h1, ?_⟩, h3⟩
      rcases h2 with h2 | ⟨g, o, cap, cur, e1, e2, r⟩
      · exact .inl h2
      · refine .inr ⟨g, o, cap, cur, e1, ?_, r⟩
        rw [h g (by rw [e1]; cases xs <;> rfl)]; exact e2

/-- Rows that are only read may lie ahead of what is grown. -/
theorem EntR_low {B : Nat → Value} {i : Nat} {w w' : World} {e : Ent} (hs : w.heap.size ≤ w'.heap.size) (hro : e.isRo = true) (h : ∀ b, blkR e (B i) = some b → ∀ o, o < endE e (B i) → w'.cell? ⟨b, o, none⟩ = w.cell? ⟨b, o, none⟩)
    (hr : EntR B i w e) : EntR B i w' e := by
  cases e with
  | cell v => cases hro
  | iter s pos => cases hro
  | dead => cases hro
  | glob g t x => cases hro
  | rows m e t xs =>
    cases m with
    | succ m => cases hro
    | zero =>
      obtain ⟨a, cap, h1, h2⟩ := hr
      refine ⟨a, cap, h1, fun j x hj => ?_⟩
      obtain ⟨hw, bl, o, ha, hlt, hc⟩ := h2 j x hj
      refine ⟨hw, bl, o, ha, Nat.lt_of_lt_of_le hlt hs, fun m u hm => ?_⟩
      rw [← hc m u hm]
      cases xs with
      | nil => simp at hj
      | cons y ys =>
        refine h bl (by rw [h1, ha]; rfl) _ ?_
        have hjl := (List.getElem?_eq_some_iff.1 hj).1
        have hml := (List.getElem?_eq_some_iff.1 hm).1
        rw [length_cellsT t x hw] at hml
        have := Nat.mul_le_mul_right t.size (show j + 1 ≤ (y :: ys).length from hjl)
        rw [Nat.add_mul, Nat.one_mul] at this
        rw [h1, ha]
        simp only [endE]
        omega

/-- An entry's block is there. -/
theorem EntR_lt {B : Nat → Value} {i : Nat} {w : World} {e : Ent} {b : Nat} (hr : EntR B i w e) (hb : blkR e (B i) = some b) : b < w.heap.size := by
  cases e with
  | cell v =>
    obtain ⟨b', cs, ty, h1, h2, h3⟩ := hr
    rw [h1] at hb; simp [blkR] at hb; subst hb
    exact (Array.getElem?_eq_some_iff.1 h2).1
  | iter s pos =>
    obtain ⟨b', h1, h2⟩ := hr
    rw [h1] at hb; simp [blkR] at hb; subst hb
    exact (Array.getElem?_eq_some_iff.1 h2).1
  | dead => cases h : B i <;> rw [h] at hb <;> cases hb
  | glob g t x =>
    obtain ⟨h1, h2, _⟩ := hr
    rw [h1] at hb; simp [blkR] at hb; subst hb
    exact h2
  | rows m e t xs =>
    cases m
    · obtain ⟨a, cap, h1, h2⟩ := hr
      cases xs with
      | nil => rw [h1] at hb; cases hb
      | cons x xs =>
        obtain ⟨_, bl, o, ha, hlt, _⟩ := h2 0 x rfl
        rw [h1, ha] at hb
        simp [blkR] at hb
        subst hb; exact hlt
    · obtain ⟨⟨h1, h2⟩, h3⟩ := hr
      rcases h2 with h2 | ⟨g, o, cap, cur, e1, e2, r⟩
      · rw [h2.1] at hb; cases xs <;> simp [blkR] at hb
      · rw [e1] at hb
        have : g = b := by cases xs <;> simpa [blkR] using hb
        subst this
        exact (Array.getElem?_eq_some_iff.1 e2).1

theorem Owned.lt {B : Nat → Value} {H : Heap} {w : World} {b : Nat} (h : HeapR B H w) (ho : Owned B H b) : b < w.heap.size := by
  obtain ⟨i, e, hi, hb⟩ := ho
  exact EntR_lt (h.ent i e hi) (blkR_of_O hb)

/-! ### What may have turned: the frame -/

/-- Something in the heap looks there as well, and if it only looks, 'e' looks no further. -/
def Seen (B : Nat → Value) (H : Heap) (e : Ent) (v : Value) (b : Nat) : Prop := ∃ j x, look j H = some x ∧ blkR x (B j) = some b ∧ (x.isRo = true → e.isRo = true ∧ endE e v ≤ endE x (B j))

theorem Seen.self {B : Nat → Value} {H : Heap} {i : Nat} {e : Ent} {b : Nat} (h : look i H = some e) (hb : blkR e (B i) = some b) : Seen B H e (B i) b := ⟨i, e, h, hb, fun hr => ⟨hr, Nat.le_refl _⟩⟩

structure Fr (B : Nat → Value) (H : Heap) (w : World) (B' : Nat → Value) (H' : Heap) (w' : World) : Prop where
  os : w'.os = w.os
  tape : w'.tape = w.tape
  output : w'.output = w.output
  size : w.heap.size ≤ w'.heap.size
  keep : ∀ b, b < w.heap.size → ¬ Owned B H b → w'.heap[b]? = w.heap[b]?
  low : ∀ b h, b < w.heap.size → Own1 B H b h → ∀ o, o < h → w'.cell? ⟨b, o, none⟩ = w.cell? ⟨b, o, none⟩
  owns : ∀ b, Owned B' H' b → (Owned B H b ∧ ∀ h, Own1 B H b h → ∃ h', h ≤ h' ∧ Own1 B' H' b h') ∨ w.heap.size ≤ b
  looks : ∀ i e b, look i H' = some e → blkR e (B' i) = some b → Seen B H e (B' i) b ∨ w.heap.size ≤ b

theorem Fr.refl (B : Nat → Value) (H : Heap) (w : World) : Fr B H w B H w :=
  ⟨rfl, rfl, rfl, Nat.le_refl _, fun _ _ _ => rfl, fun _ _ _ _ _ _ => rfl, fun _ h => .inl ⟨h, fun x hx => ⟨x, Nat.le_refl _, hx⟩⟩, fun _ _ _ h hb => .inl (Seen.self h hb)⟩

theorem Fr.trans {B B1 B2 : Nat → Value} {H H1 H2 : Heap} {w w1 w2 : World} (h : Fr B H w B1 H1 w1) (k : Fr B1 H1 w1 B2 H2 w2) : Fr B H w B2 H2 w2 where
  os := k.os.trans h.os
  tape := k.tape.trans h.tape
  output := k.output.trans h.output
  size := Nat.le_trans h.size k.size
  keep := fun b hb hn => by
    have hn1 : ¬ Owned B1 H1 b := fun ho => (h.owns b ho).elim (fun g => hn g.1) (fun hle => by omega)
    rw [k.keep b (Nat.lt_of_lt_of_le hb h.size) hn1, h.keep b hb hn]
  low := fun b x hb ho o hlt => by
    have hb1 := Nat.lt_of_lt_of_le hb h.size
    by_cases hc : Owned B1 H1 b
    · rcases h.owns b hc with ⟨_, g⟩ | g
      · obtain ⟨x', hx, ho'⟩ := g x ho
        rw [k.low b x' hb1 ho' o (by omega), h.low b x hb ho o hlt]
      · omega
    · rw [← h.low b x hb ho o hlt]
      unfold World.cell?
      rw [k.keep b hb1 hc]
  owns := fun b ho => by
    rcases k.owns b ho with ⟨h1, g1⟩ | h1
    · rcases h.owns b h1 with ⟨h2, g2⟩ | h2
      · refine .inl ⟨h2, fun x hx => ?_⟩
        obtain ⟨x1, p1, q1⟩ := g2 x hx
        obtain ⟨x2, p2, q2⟩ := g1 x1 q1
        exact ⟨x2, Nat.le_trans p1 p2, q2⟩
      · exact .inr h2
    · exact .inr (Nat.le_trans h.size h1)
  looks := fun i e b hi hb => by
    rcases k.looks i e b hi hb with ⟨j, x, p1, p2, p3⟩ | h1
    · rcases h.looks j x b p1 p2 with ⟨j0, x0, q1, q2, q3⟩ | h1
      · refine .inl ⟨j0, x0, q1, q2, fun hr => ?_⟩
        obtain ⟨r1, r2⟩ := q3 hr
        obtain ⟨s1, s2⟩ := p3 r1
        exact ⟨s1, Nat.le_trans s2 r2⟩
      · exact .inr h1
    · exact .inr (Nat.le_trans h.size h1)

end Go.Proofs.YtkcdbbflelgbeaaDoor.Sy
