/- The abstract values and heaps of the machine Sy, and what it means that a world of the model realizes them. -/
import Derived.Calls
import Derived.Orders
import Derived.Laws.AppendOwn
import Derived.KernelRfl
import Derived.Below
namespace Go.Proofs.YtkgpjplncfginaaGreatDoor.Sy
open Go
set_option linter.unusedVariables false
set_option linter.unusedSimpArgs false

def All2 {α β : Type} (R : α → β → Prop) : List α → List β → Prop
  | [], [] => True
  | a :: as, b :: bs => R a b ∧ All2 R as bs
  | _, _ => False

/-! ### Strings as lists of their bytes -/

def byteL (s : List Int) : Prop := ∀ y ∈ s, 0 ≤ y ∧ y < 256
def bst (s : List Int) : ByteArray := ⟨(s.map fun n => UInt8.ofNat n.toNat).toArray⟩
def unb (s : ByteArray) : List Int := s.data.toList.map fun b => ((b.toNat : Nat) : Int)

theorem bst_unb (s : ByteArray) : bst (unb s) = s := by
  unfold bst unb
  rw [List.map_map]
  have : (fun n : Int => UInt8.ofNat n.toNat) ∘ (fun b : UInt8 => ((b.toNat : Nat) : Int)) = id := by
    funext b
    simp
  rw [this, List.map_id]

theorem byteL_unb (s : ByteArray) : byteL (unb s) := by
  intro y hy
  unfold unb at hy
  obtain ⟨b, _, rfl⟩ := List.mem_map.1 hy
  have := b.toNat_lt
  exact ⟨by omega, by omega⟩

theorem unb_bst {s : List Int} (h : byteL s) : unb (bst s) = s := by
  unfold bst unb
  simp only [List.map_map]
  have : ∀ l : List Int, byteL l → l.map ((fun b : UInt8 => ((b.toNat : Nat) : Int)) ∘ fun n : Int => UInt8.ofNat n.toNat) = l := by
    intro l
    induction l with
    | nil => intro _; rfl
    | cons x r ih =>
      intro hl
      have hx := hl x (by simp)
      rw [List.map_cons, ih (fun y hy => hl y (by simp [hy]))]
      congr 1
      simp only [Function.comp, UInt8.toNat_ofNat']
      omega
  exact this s h

theorem size_bst (s : List Int) : (bst s).size = s.length := by
  simp [bst, ByteArray.size]

/-! ### Codes of the types whose values are plain data -/

inductive Ty where
  | int (k : IntKind) | bool | str | arr (k : IntKind) (n : Nat) | opq | one (a : Ty) | pair (a b : Ty) | row (e : TypeId) (a : Ty)
  deriving DecidableEq

def Ty.den : Ty → Type
  | .int _ => Int
  | .bool => Bool
  | .str => List Int
  | .arr _ _ => List Int
  | .opq => Value
  | .one a => a.den
  | .pair a b => a.den × b.den
  | .row _ a => List a.den

def Ty.dflt : (t : Ty) → t.den
  | .int _ => (0 : Int)
  | .bool => false
  | .str => ([] : List Int)
  | .arr _ n => (List.replicate n 0 : List Int)
  | .opq => (Value.slice none 0 0 : Value)
  | .one a => a.dflt
  | .pair a b => (a.dflt, b.dflt)
  | .row _ _ => []

def Ty.size : Ty → Nat
  | .int _ => 1
  | .bool => 1
  | .str => 1
  | .arr _ n => n
  | .opq => 1
  | .one a => a.size
  | .pair a b => a.size + b.size
  | .row _ _ => 1

/-! ### Memory that stays as it is -/

abbrev Frz := Nat → Nat → Option Value

def Zle (z z' : Frz) : Prop := ∀ b o u, z b o = some u → z' b o = some u
theorem Zle.refl (z : Frz) : Zle z z := fun _ _ _ h => h
theorem Zle.trans {z z1 z2 : Frz} (h : Zle z z1) (k : Zle z1 z2) : Zle z z2 := fun b o u e => k b o u (h b o u e)

/-- What is known of the world: what the names stand for, and which cells stay as they are. -/
structure Bz where
  f : Nat → Value
  z : Frz

instance : CoeFun Bz (fun _ => Nat → Value) := ⟨Bz.f⟩

/-- The cells of data, one behind the other. -/
def RsR {α : Type} (R : α → List Value → Prop) : List α → List Value → Prop
  | [], cs => cs = []
  | x :: xs, cs => ∃ c1 c2, cs = c1 ++ c2 ∧ R x c1 ∧ RsR R xs c2

/-- A row whose cells stay as they are. -/
def FzR {α : Type} (z : Frz) (R : α → List Value → Prop) (xs : List α) (v : Value) : Prop :=
  ∃ a k cs, v = .slice a xs.length (xs.length + k) ∧ (0 < xs.length → ∃ bl o, a = some ⟨bl, o, none⟩) ∧ RsR R xs cs ∧ ∀ j u, cs[j]? = some u → ∃ bl o, a = some ⟨bl, o, none⟩ ∧ z bl (o + j) = some u

/-- The cells of a datum. -/
def DR (z : Frz) : (t : Ty) → t.den → List Value → Prop
  | .int k, n, cs => cs = [.int k n]
  | .bool, b, cs => cs = [.bool b]
  | .str, s, cs => byteL s ∧ cs = [.string (bst s)]
  | .arr k n, xs, cs => List.length xs = n ∧ cs = List.map (Value.int k) xs
  | .opq, v, cs => Value.oneCell' v = true ∧ cs = [v]
  | .one a, x, cs => DR z a x cs
  | .pair a b, x, cs => ∃ c1 c2, cs = c1 ++ c2 ∧ DR z a x.1 c1 ∧ DR z b x.2 c2
  | .row _ a, xs, cs => ∃ v, cs = [v] ∧ FzR z (DR z a) xs v

abbrev DRs (z : Frz) (t : Ty) : List t.den → List Value → Prop := RsR (DR z t)

theorem RsR.mono {α : Type} {R R' : α → List Value → Prop} (hR : ∀ x cs, R x cs → R' x cs) : ∀ {xs : List α} {cs : List Value}, RsR R xs cs → RsR R' xs cs
  | [], _, h => h
  | _ :: _, _, ⟨c1, c2, e, h1, h2⟩ => ⟨c1, c2, e, hR _ _ h1, h2.mono hR⟩

theorem FzR.mono {α : Type} {z z' : Frz} {R R' : α → List Value → Prop} {xs : List α} {v : Value} (hz : Zle z z') (hR : ∀ x cs, R x cs → R' x cs) (h : FzR z R xs v) : FzR z' R' xs v := by
  obtain ⟨a, k, cs, h1, h0, h2, h3⟩ := h
  refine ⟨a, k, cs, h1, h0, h2.mono hR, fun j u hj => ?_⟩
  obtain ⟨bl, o, e1, e2⟩ := h3 j u hj
  exact ⟨bl, o, e1, hz _ _ _ e2⟩

theorem DR.mono {z z' : Frz} (hz : Zle z z') : ∀ (t : Ty) (x : t.den) (cs : List Value), DR z t x cs → DR z' t x cs
  | .int _, _, _, h => h
  | .bool, _, _, h => h
  | .str, _, _, h => h
  | .arr _ _, _, _, h => h
  | .opq, _, _, h => h
  | .one a, x, cs, h => DR.mono hz a x cs h
  | .pair a b, x, cs, ⟨c1, c2, e, h1, h2⟩ => ⟨c1, c2, e, DR.mono hz a _ _ h1, DR.mono hz b _ _ h2⟩
  | .row _ a, xs, cs, ⟨v, e, h⟩ => ⟨v, e, h.mono hz (DR.mono hz a)⟩

theorem DRs.mono {z z' : Frz} (hz : Zle z z') {t : Ty} {xs : List t.den} {cs : List Value} (h : DRs z t xs cs) : DRs z' t xs cs := RsR.mono (DR.mono hz t) h

theorem DR.length {z : Frz} : ∀ {t : Ty} {x : t.den} {cs : List Value}, DR z t x cs → cs.length = t.size
  | .int _, _, _, h => by rw [show _ = _ from h]; rfl
  | .bool, _, _, h => by rw [show _ = _ from h]; rfl
  | .str, _, _, h => by rw [h.2]; rfl
  | .arr k _, xs, _, h => by rw [h.2]; exact (List.length_map (f := Value.int k) (as := xs)).trans h.1
  | .opq, _, _, h => by rw [h.2]; rfl
  | .one a, x, cs, h => DR.length (t := a) h
  | .pair a b, x, cs, ⟨c1, c2, e, h1, h2⟩ => by rw [e, List.length_append, DR.length h1, DR.length h2]; rfl
  | .row _ a, xs, cs, ⟨v, e, h⟩ => by rw [e]; rfl

theorem DR.one {z : Frz} : ∀ {t : Ty} {x : t.den} {cs : List Value}, DR z t x cs → ∀ u ∈ cs, u.oneCell' = true
  | .int _, _, _, h, u, hu => by rw [show _ = _ from h] at hu; rw [List.mem_singleton.1 hu]; rfl
  | .bool, _, _, h, u, hu => by rw [show _ = _ from h] at hu; rw [List.mem_singleton.1 hu]; rfl
  | .str, _, _, h, u, hu => by rw [h.2] at hu; rw [List.mem_singleton.1 hu]; rfl
  | .arr k _, xs, _, h, u, hu => by
    rw [h.2] at hu
    obtain ⟨y, _, rfl⟩ := List.mem_map.1 hu
    rfl
  | .opq, _, _, h, u, hu => by rw [h.2] at hu; rw [List.mem_singleton.1 hu]; exact h.1
  | .one a, x, cs, h, u, hu => DR.one (t := a) h u hu
  | .pair a b, x, cs, ⟨c1, c2, e, h1, h2⟩, u, hu => by
    subst e
    rcases List.mem_append.1 hu with h | h
    · exact DR.one h1 u h
    · exact DR.one h2 u h
  | .row _ a, xs, cs, ⟨v, e, a', k, cs', h1, _⟩, u, hu => by
    subst e
    rw [List.mem_singleton.1 hu, h1]; rfl

theorem DRs.length {z : Frz} {t : Ty} : ∀ {xs : List t.den} {cs : List Value}, DRs z t xs cs → cs.length = xs.length * t.size
  | [], _, h => by rw [show _ = _ from h]; simp
  | _ :: xs, _, ⟨c1, c2, e, h1, h2⟩ => by rw [e, List.length_append, DR.length h1, DRs.length h2, List.length_cons, Nat.succ_mul]; omega

theorem DRs.one {z : Frz} {t : Ty} : ∀ {xs : List t.den} {cs : List Value}, DRs z t xs cs → ∀ u ∈ cs, u.oneCell' = true
  | [], _, h, u, hu => by rw [show _ = _ from h] at hu; cases hu
  | _ :: xs, _, ⟨c1, c2, e, h1, h2⟩, u, hu => by
    subst e
    rcases List.mem_append.1 hu with h | h
    · exact DR.one h1 u h
    · exact DRs.one h2 u h

theorem DRs.get {z : Frz} {t : Ty} : ∀ {xs : List t.den} {cs : List Value} {j : Nat} {x : t.den}, DRs z t xs cs → xs[j]? = some x → ∃ c, DR z t x c ∧ ∀ m u, c[m]? = some u → cs[j * t.size + m]? = some u
  | [], _, j, x, _, hj => by simp at hj
  | y :: xs, _, 0, x, ⟨c1, c2, e, h1, h2⟩, hj => by
    simp only [List.getElem?_cons_zero, Option.some.injEq] at hj
    subst hj e
    refine ⟨c1, h1, fun m u hm => ?_⟩
    rw [Nat.zero_mul, Nat.zero_add, List.getElem?_append_left (List.getElem?_eq_some_iff.1 hm).1]; exact hm
  | y :: xs, _, j + 1, x, ⟨c1, c2, e, h1, h2⟩, hj => by
    simp only [List.getElem?_cons_succ] at hj
    obtain ⟨c, p1, p2⟩ := DRs.get h2 hj
    subst e
    refine ⟨c, p1, fun m u hm => ?_⟩
    have hl := DR.length h1
    rw [List.getElem?_append_right (by rw [hl, Nat.succ_mul]; omega), hl, show (j + 1) * t.size + m - t.size = j * t.size + m by rw [Nat.succ_mul]; omega]
    exact p2 m u hm

theorem DRs.append {z : Frz} {t : Ty} : ∀ {xs ys : List t.den} {cs ds : List Value}, DRs z t xs cs → DRs z t ys ds → DRs z t (xs ++ ys) (cs ++ ds)
  | [], ys, _, ds, h, k => by rw [show _ = _ from h]; exact k
  | x :: xs, ys, _, ds, ⟨c1, c2, e, h1, h2⟩, k => ⟨c1, c2 ++ ds, by rw [e, List.append_assoc], h1, DRs.append h2 k⟩

theorem DRs.drop {z : Frz} {t : Ty} : ∀ (n : Nat) {xs : List t.den} {cs : List Value}, DRs z t xs cs → DRs z t (xs.drop n) (cs.drop (n * t.size))
  | 0, xs, cs, h => by simpa using h
  | n + 1, [], cs, h => by rw [show _ = _ from h]; simp [RsR]
  | n + 1, x :: xs, cs, ⟨c1, c2, e, h1, h2⟩ => by
    have hl := DR.length h1
    subst e
    have e : List.drop ((n + 1) * t.size) (c1 ++ c2) = List.drop (n * t.size) c2 := by
      rw [List.drop_append, List.drop_of_length_le (by rw [hl, Nat.succ_mul]; omega), List.nil_append, hl, show (n + 1) * t.size - t.size = n * t.size by rw [Nat.succ_mul, Nat.add_sub_cancel]]
    rw [e]
    exact DRs.drop n h2

theorem DRs.take {z : Frz} {t : Ty} : ∀ (n : Nat) {xs : List t.den} {cs : List Value}, DRs z t xs cs → DRs z t (xs.take n) (cs.take (n * t.size))
  | 0, xs, cs, h => by simp [RsR]
  | n + 1, [], cs, h => by rw [show _ = _ from h]; simp [RsR]
  | n + 1, x :: xs, cs, ⟨c1, c2, e, h1, h2⟩ => by
    have hl := DR.length h1
    subst e
    have e : List.take ((n + 1) * t.size) (c1 ++ c2) = c1 ++ List.take (n * t.size) c2 := by
      rw [List.take_append, List.take_of_length_le (by rw [hl, Nat.succ_mul]; omega), hl, show (n + 1) * t.size - t.size = n * t.size by rw [Nat.succ_mul, Nat.add_sub_cancel]]
    rw [e]
    exact ⟨c1, _, rfl, h1, DRs.take n h2⟩

theorem DRs.set {z : Frz} {t : Ty} {x : t.den} {c : List Value} (hx : DR z t x c) : ∀ {xs : List t.den} {cs : List Value} {j : Nat}, DRs z t xs cs → j < xs.length → DRs z t (List.set xs j x) (cs.take (j * t.size) ++ c ++ cs.drop (j * t.size + c.length))
  | [], _, j, _, h => by simp at h
  | y :: xs, _, 0, ⟨c1, c2, e, h1, h2⟩, h => by
    subst e
    refine ⟨c, c2, ?_, hx, h2⟩
    rw [Nat.zero_mul, List.take_zero, List.nil_append, Nat.zero_add, DR.length hx, ← DR.length h1, List.drop_left]
  | y :: xs, _, j + 1, ⟨c1, c2, e, h1, h2⟩, h => by
    subst e
    have hl := DR.length h1
    refine ⟨c1, c2.take (j * t.size) ++ c ++ c2.drop (j * t.size + c.length), ?_, h1, DRs.set hx h2 (by simpa using h)⟩
    rw [List.take_append, List.drop_append, List.take_of_length_le (by rw [hl, Nat.succ_mul]; omega), List.drop_of_length_le (by rw [hl, Nat.succ_mul]; omega), hl,
      show (j + 1) * t.size - t.size = j * t.size by rw [Nat.succ_mul, Nat.add_sub_cancel], show (j + 1) * t.size + c.length - t.size = j * t.size + c.length by rw [Nat.succ_mul]; omega]
    simp [List.append_assoc]

/-! ### Abstract values -/

structure Ptr where
  id : Nat
  st : Nat
  dys : List (Nat × Nat)

inductive AV where
  | int (k : IntKind) (n : Int)
  | bool (b : Bool)
  | str (s : List Int)
  | ptr (p : Option Ptr)
  | nils
  | vec (i : Nat)
  | asl (p : Ptr) (n len : Nat)
  | fn (f : FuncId)
  | opq (v : Value)
  | gptr (g st : Nat) (dys : List (Nat × Nat))
  | arr (k : IntKind) (n : Nat) (xs : List Int)
  | row (e : TypeId) (t : Ty) (xs : List t.den)
  | unit
  | one (a : AV)
  | pair (a b : AV)
  | tnil
  | tcons (a b : AV)

def AV.size : AV → Nat
  | .arr _ n _ => n
  | .unit => 0
  | .one a => a.size
  | .pair a b => a.size + b.size
  | .tnil => 0
  | .tcons _ _ => 0
  | _ => 1

def AV.isAgg : AV → Bool
  | .arr .. | .unit | .one _ | .pair .. => true
  | _ => false

def AV.isTup : AV → Bool
  | .tnil | .tcons .. => true
  | _ => false

def AV.ids : AV → List Nat
  | .ptr (some p) => [p.id]
  | .vec i => [i]
  | .asl p _ _ => [p.id]
  | .one a => a.ids
  | .pair a b => a.ids ++ b.ids
  | .tcons a b => a.ids ++ b.ids
  | _ => []

def enc : (t : Ty) → t.den → AV
  | .int k, n => .int k n
  | .bool, b => .bool b
  | .str, s => .str s
  | .arr k n, xs => .arr k n xs
  | .opq, v => .opq v
  | .one a, x => .one (enc a x)
  | .pair a b, x => .pair (enc a x.1) (enc b x.2)
  | .row e a, xs => .row e a xs

def AV.asInt (k : IntKind) : AV → Option Int
  | .int k' n => bif decide (k' = k) then some n else none
  | _ => none
def AV.asBool : AV → Option Bool
  | .bool b => some b
  | _ => none
def AV.asStr : AV → Option (List Int)
  | .str s => some s
  | _ => none
def AV.asArr (k : IntKind) (n : Nat) : AV → Option (List Int)
  | .arr k' n' xs => bif decide (k' = k) && Nat.beq n' n then some xs else none
  | _ => none
def AV.asV : AV → Option Value
  | .opq v => some v
  | _ => none
def AV.asOne : AV → Option AV
  | .one a => some a
  | _ => none
def AV.asPair : AV → Option (AV × AV)
  | .pair a b => some (a, b)
  | _ => none
def AV.asRow (e : TypeId) (t : Ty) : AV → Option (List t.den)
  | .row e' t' xs => bif Nat.beq e' e then (if h : t' = t then some (h ▸ xs) else none) else none
  | _ => none

theorem AV.asInt_eq {k : IntKind} {v : AV} {n : Int} (h : v.asInt k = some n) : v = .int k n := by
  cases v <;> simp only [AV.asInt, reduceCtorEq] at h
  rename_i k' m
  cases hk : decide (k' = k) <;> simp [hk] at h
  subst h; rw [of_decide_eq_true hk]
theorem AV.asBool_eq {v : AV} {n : Bool} (h : v.asBool = some n) : v = .bool n := by
  cases v <;> simp [AV.asBool] at h
  subst h; rfl
theorem AV.asStr_eq {v : AV} {n : List Int} (h : v.asStr = some n) : v = .str n := by
  cases v <;> simp [AV.asStr] at h
  subst h; rfl
theorem AV.asArr_eq {k : IntKind} {n : Nat} {v : AV} {xs : List Int} (h : v.asArr k n = some xs) : v = .arr k n xs := by
  cases v <;> simp only [AV.asArr, reduceCtorEq] at h
  rename_i k' n' ys
  cases hk : decide (k' = k) <;> cases hn : Nat.beq n' n <;> simp [hk, hn] at h
  subst h; rw [of_decide_eq_true hk, Nat.eq_of_beq_eq_true hn]
theorem AV.asV_eq {v : AV} {n : Value} (h : v.asV = some n) : v = .opq n := by
  cases v <;> simp [AV.asV] at h
  subst h; rfl
theorem AV.asOne_eq {v a : AV} (h : v.asOne = some a) : v = .one a := by
  cases v <;> simp [AV.asOne] at h
  subst h; rfl
theorem AV.asPair_eq {v : AV} {p : AV × AV} (h : v.asPair = some p) : v = .pair p.1 p.2 := by
  cases v <;> simp [AV.asPair] at h
  subst h; rfl

theorem AV.asRow_eq {e : TypeId} {t : Ty} {v : AV} {xs : List t.den} (h : v.asRow e t = some xs) : v = .row e t xs := by
  cases v <;> simp only [AV.asRow, reduceCtorEq] at h
  rename_i e' t' ys
  cases hn : Nat.beq e' e
  · rw [hn] at h; cases h
  · rw [hn, cond_true] at h
    split at h
    · rename_i ht
      subst ht
      cases h
      rw [Nat.eq_of_beq_eq_true hn]
    · cases h

def dec : (t : Ty) → AV → Option t.den
  | .int k, v => v.asInt k
  | .bool, v => v.asBool
  | .str, v => v.asStr
  | .arr k n, v => v.asArr k n
  | .opq, v => v.asV
  | .one a, v => match v.asOne with
    | some x => dec a x
    | none => none
  | .pair a b, v => match v.asPair with
    | some p => (match dec a p.1 with
      | some u => (match dec b p.2 with
        | some w => some (u, w)
        | none => none)
      | none => none)
    | none => none
  | .row e a, v => v.asRow e a

theorem dec_enc : ∀ (t : Ty) (v : AV) (x : t.den), dec t v = some x → v = enc t x
  | .int _, _, _, h => AV.asInt_eq h
  | .bool, _, _, h => AV.asBool_eq h
  | .str, _, _, h => AV.asStr_eq h
  | .arr _ _, _, _, h => AV.asArr_eq h
  | .opq, _, _, h => AV.asV_eq h
  | .one a, v, x, h => by
    simp only [dec] at h
    split at h
    · rename_i y hy; rw [AV.asOne_eq hy, dec_enc a y x h]; rfl
    · cases h
  | .pair a b, v, x, h => by
    simp only [dec] at h
    split at h
    · rename_i p hp
      split at h
      · rename_i u hu
        split at h
        · rename_i w hw
          cases h
          rw [AV.asPair_eq hp, dec_enc a _ _ hu, dec_enc b _ _ hw]; rfl
        · cases h
      · cases h
    · cases h
  | .row _ _, _, _, h => AV.asRow_eq h

theorem ids_enc : ∀ (t : Ty) (x : t.den), (enc t x).ids = []
  | .int _, _ => rfl
  | .bool, _ => rfl
  | .str, _ => rfl
  | .arr _ _, _ => rfl
  | .opq, _ => rfl
  | .one a, x => ids_enc a x
  | .pair a b, x => by simp [enc, AV.ids, ids_enc a x.1, ids_enc b x.2]
  | .row _ _, _ => rfl

/-! ### What realizes them -/

def baseOf : Value → Option Addr
  | .pointer (some a) => some a
  | .slice (some a) _ _ => some a
  | _ => none

def dyOff : List (Nat × Nat) → Nat
  | [] => 0
  | (i, s) :: r => i * s + dyOff r

def AR (B : Bz) : AV → Value → Prop
  | .int k n, x => x = .int k n
  | .bool b, x => x = .bool b
  | .str s, x => byteL s ∧ x = .string (bst s)
  | .ptr none, x => x = .pointer none
  | .ptr (some p), x => ∃ b o, baseOf (B p.id) = some ⟨b, o, none⟩ ∧ x = .pointer (some ⟨b, o + p.st + dyOff p.dys, none⟩)
  | .nils, x => x = .slice none 0 0
  | .vec i, x => x = B i ∧ ∃ a n c, x = .slice a n c
  | .asl p n len, x => ∃ b o, baseOf (B p.id) = some ⟨b, o, none⟩ ∧ x = .slice (some ⟨b, o + p.st + dyOff p.dys, none⟩) n len
  | .fn f, x => x = .func (.func f) #[] #[]
  | .opq v, x => x = v ∧ v.oneCell' = true
  | .gptr g st dys, x => x = .pointer (some ⟨g, st + dyOff dys, none⟩)
  | .row _ t xs, x => FzR B.z (DR B.z t) xs x
  | _, _ => False

def CR (B : Bz) : AV → List Value → Prop
  | .arr k n xs, cs => xs.length = n ∧ cs = xs.map (Value.int k)
  | .unit, cs => cs = []
  | .one a, cs => CR B a cs
  | .pair a b, cs => ∃ c1 c2, cs = c1 ++ c2 ∧ CR B a c1 ∧ CR B b c2
  | v, cs => ∃ x, cs = [x] ∧ AR B v x

def VR0 (B : Bz) (v : AV) (x : Value) : Prop :=
  if v.isAgg = true then ∃ cs, CR B v cs ∧ x = .agg cs.toArray else AR B v x

def TR (B : Bz) : AV → List Value → Prop
  | .tnil, vs => vs = []
  | .tcons a b, vs => ∃ v r, vs = v :: r ∧ VR0 B a v ∧ TR B b r
  | _, _ => False

def VR (B : Bz) (v : AV) (x : Value) : Prop :=
  if v.isTup = true then ∃ vs, TR B v vs ∧ x = .tuple vs.toArray else VR0 B v x

theorem AR_congr {B B' : Bz} {v : AV} {x : Value} (hz : Zle B.z B'.z) (h : ∀ i ∈ v.ids, B i = B' i) (hr : AR B v x) : AR B' v x := by
  cases v with
  | ptr p =>
    cases p with
    | none => exact hr
    | some p => simp only [AR] at hr ⊢; rw [← h p.id (by simp [AV.ids])]; exact hr
  | vec i => simp only [AR] at hr ⊢; rw [← h i (by simp [AV.ids])]; exact hr
  | asl p n len => simp only [AR] at hr ⊢; rw [← h p.id (by simp [AV.ids])]; exact hr
  | row e t xs => exact FzR.mono hz (DR.mono hz t) hr
  | _ => exact hr

theorem CR_congr {B B' : Bz} (hz : Zle B.z B'.z) : ∀ {v : AV} {cs : List Value}, (∀ i ∈ v.ids, B i = B' i) → CR B v cs → CR B' v cs := by
  intro v
  induction v with
  | one a ih => intro cs h hr; exact ih h hr
  | pair a b iha ihb =>
    intro cs h ⟨c1, c2, e, h1, h2⟩
    exact ⟨c1, c2, e, iha (fun i hi => h i (by simp [AV.ids, hi])) h1, ihb (fun i hi => h i (by simp [AV.ids, hi])) h2⟩
  | arr k n xs => intro cs _ hr; exact hr
  | unit => intro cs _ hr; exact hr
  | _ => intro cs h ⟨x, e, hx⟩; exact ⟨x, e, AR_congr hz h hx⟩

theorem VR0_congr {B B' : Bz} {v : AV} {x : Value} (hz : Zle B.z B'.z) (h : ∀ i ∈ v.ids, B i = B' i) (hr : VR0 B v x) : VR0 B' v x := by
  unfold VR0 at *
  split
  · rename_i ha; rw [if_pos ha] at hr; obtain ⟨cs, hc, e⟩ := hr; exact ⟨cs, CR_congr hz h hc, e⟩
  · rename_i ha; rw [if_neg ha] at hr; exact AR_congr hz h hr

theorem TR_congr {B B' : Bz} (hz : Zle B.z B'.z) : ∀ {v : AV} {vs : List Value}, (∀ i ∈ v.ids, B i = B' i) → TR B v vs → TR B' v vs := by
  intro v
  induction v with
  | tcons a b _ ihb =>
    intro vs h ⟨x, r, e, h1, h2⟩
    exact ⟨x, r, e, VR0_congr hz (fun i hi => h i (by simp [AV.ids, hi])) h1, ihb (fun i hi => h i (by simp [AV.ids, hi])) h2⟩
  | _ => intro vs _ hr; exact hr

theorem VR_congr {B B' : Bz} {v : AV} {x : Value} (hz : Zle B.z B'.z) (h : ∀ i ∈ v.ids, B i = B' i) (hr : VR B v x) : VR B' v x := by
  unfold VR at *
  split
  · rename_i ha; rw [if_pos ha] at hr; obtain ⟨cs, hc, e⟩ := hr; exact ⟨cs, TR_congr hz h hc, e⟩
  · rename_i ha; rw [if_neg ha] at hr; exact VR0_congr hz h hr

theorem CR_enc {B : Bz} : ∀ (t : Ty) (x : t.den) (cs : List Value), CR B (enc t x) cs ↔ DR B.z t x cs
  | .int _, _, cs => by simp [enc, CR, AR, DR]
  | .bool, _, cs => by simp [enc, CR, AR, DR]
  | .str, s, cs => by
    simp only [enc, CR, AR, DR]
    constructor
    · rintro ⟨x, rfl, h, rfl⟩; exact ⟨h, rfl⟩
    · rintro ⟨h, rfl⟩; exact ⟨_, rfl, h, rfl⟩
  | .arr _ _, _, cs => by simp [enc, CR, DR]
  | .opq, v, cs => by
    simp only [enc, CR, AR, DR]
    constructor
    · rintro ⟨x, rfl, rfl, h⟩; exact ⟨h, rfl⟩
    · rintro ⟨h, rfl⟩; exact ⟨v, rfl, rfl, h⟩
  | .one a, x, cs => by simp only [enc, CR, DR]; exact CR_enc a x cs
  | .pair a b, x, cs => by
    simp only [enc, CR, DR]
    constructor
    · rintro ⟨c1, c2, e, h1, h2⟩
      exact ⟨c1, c2, e, (CR_enc a x.1 c1).1 h1, (CR_enc b x.2 c2).1 h2⟩
    · rintro ⟨c1, c2, e, h1, h2⟩
      exact ⟨c1, c2, e, (CR_enc a x.1 c1).2 h1, (CR_enc b x.2 c2).2 h2⟩
  | .row _ a, xs, cs => by simp only [enc, CR, AR, DR]

/-- What may lie in cells. -/
def AV.plain (v : AV) : Bool := !v.isTup

theorem CR_length {B : Bz} : ∀ {v : AV} {cs : List Value}, CR B v cs → cs.length = v.size := by
  intro v
  induction v with
  | one a ih => intro cs h; exact ih h
  | pair a b iha ihb => intro cs ⟨c1, c2, e, h1, h2⟩; rw [e, List.length_append, iha h1, ihb h2]; rfl
  | arr k n xs => intro cs ⟨h, e⟩; rw [e, List.length_map, h]; rfl
  | unit => intro cs h; rw [h]; rfl
  | tnil => intro cs ⟨x, e, hx⟩; exact hx.elim
  | tcons a b _ _ => intro cs ⟨x, e, hx⟩; exact hx.elim
  | _ => intro cs ⟨x, e, hx⟩; rw [e]; rfl

theorem AR_no_agg {B : Bz} {v : AV} {x : Value} (h : AR B v x) : ∀ cs, x ≠ .agg cs := by
  intro cs e; subst e
  cases v with
  | ptr p => cases p <;> simp [AR] at h
  | opq u => have := h.2; rw [← h.1] at this; cases this
  | vec i => obtain ⟨_, a, n, c, e⟩ := h; cases e
  | asl p n len => obtain ⟨b, o, _, e⟩ := h; cases e
  | row e t xs => obtain ⟨a, k, cs, e, _⟩ := h; cases e
  | _ => simp [AR] at h

theorem cells_one {x : Value} (h : ∀ cs, x ≠ .agg cs) : x.cells = #[x] := by
  cases x with
  | agg cs => exact absurd rfl (h cs)
  | _ => rfl

theorem CR_of_AR {B : Bz} {v : AV} {x : Value} (h : AR B v x) : CR B v [x] := by
  cases v <;> first | exact ⟨x, rfl, h⟩ | exact h.elim

/-- The cells of what a value realizes. -/
theorem VR0_cells {B : Bz} {v : AV} {x : Value} (h : VR0 B v x) : CR B v x.cells.toList := by
  unfold VR0 at h
  split at h
  · obtain ⟨cs, hc, e⟩ := h; subst e; simpa [Value.cells] using hc
  · rw [cells_one (AR_no_agg h)]; exact CR_of_AR h

theorem AR_of_CR {B : Bz} {v : AV} {cs : List Value} (ha : v.isAgg = false) (h : CR B v cs) : ∃ x, cs = [x] ∧ AR B v x := by
  cases v <;> first | exact h | simp [AV.isAgg] at ha

/-! ### nil slices where the type says that they are only looked at from outside -/

def normT : Ty → AV → AV
  | .opq, .nils => .opq (.slice none 0 0)
  | .row e t, .nils => .row e t []
  | .one a, .one v => .one (normT a v)
  | .pair a b, .pair u v => .pair (normT a u) (normT b v)
  | _, v => v

theorem CR_norm {B : Bz} : ∀ (t : Ty) (v : AV) (cs : List Value), CR B v cs → CR B (normT t v) cs := by
  intro t
  induction t with
  | opq =>
    intro v cs h
    cases v <;> first | exact h | skip
    obtain ⟨x, rfl, hx⟩ := h
    simp only [AR] at hx
    subst hx
    exact ⟨_, rfl, rfl, rfl⟩
  | row e t _ =>
    intro v cs h
    cases v <;> first | exact h | skip
    obtain ⟨x, rfl, hx⟩ := h
    simp only [AR] at hx
    subst hx
    exact ⟨_, rfl, none, 0, [], rfl, fun h => (by simp at h), rfl, fun j u hj => by simp at hj⟩
  | one a ih =>
    intro v cs h
    cases v <;> first | exact h | exact ih _ _ h
  | pair a b iha ihb =>
    intro v cs h
    cases v <;> first | exact h | skip
    obtain ⟨c1, c2, e, h1, h2⟩ := h
    exact ⟨c1, c2, e, iha _ _ h1, ihb _ _ h2⟩
  | _ => intro v cs h; exact h

/-! ### Blocks -/

/-- 'rows m': m = 0: they are only read; m = 1: they are ours to be grown, their beginnings may be read by others; m = 2: they are ours alone. -/
inductive Ent where
  | cell (v : AV)
  | rows (m : Nat) (e : TypeId) (t : Ty) (xs : List t.den)
  | iter (s : ByteArray) (pos : Nat)
  | dead
  | glob (g : Nat) (t : Ty) (x : t.den)

def Ent.ids : Ent → List Nat
  | .cell v => v.ids
  | _ => []

def Ent.mode : Ent → Nat
  | .cell _ => 2
  | .rows m _ _ _ => m
  | .iter _ _ => 2
  | .dead => 0
  | .glob _ _ _ => 0

/-- The blocks that an entry may write. -/
def blkO : Ent → Value → Nat → Prop
  | .cell _, .pointer (some a), b => a.block = b
  | .iter _ _, .pointer (some a), b => a.block = b
  | .rows 1 _ _ _, .slice (some a) n c, b => n < c ∧ a.block = b
  | .rows (_ + 2) _ _ _, .slice (some a) _ _, b => a.block = b
  | _, _, _ => False

/-- Behind the last cell that it looks at. -/
def endE : Ent → Value → Nat
  | .rows _ _ t xs, .slice (some a) _ _ => a.off + xs.length * t.size
  | _, _ => 0

def Ent.isRo : Ent → Bool
  | .rows 0 _ _ _ => true
  | _ => false

/-- Rows of our own. -/
def OwnRow (w : World) (e : TypeId) (size : Nat) (v : Value) (n : Nat) (cs : List Value) : Prop :=
  cs.length = n * size ∧ ((v = .slice none 0 0 ∧ n = 0) ∨ ∃ g o cap cur, v = .slice (some ⟨g, o, none⟩) n cap ∧ w.heap[g]? = some (.cells cur e (0, 0)) ∧ n ≤ cap ∧ cap ≤ maxLen ∧ o + cap * size ≤ cur.size ∧ (cur.toList.drop o).take (n * size) = cs)

/-- Rows that are ours to be grown. -/
def Grow (w : World) (e : TypeId) (size : Nat) (v : Value) (n : Nat) : Prop :=
  ∃ a cap, v = .slice a n cap ∧ n ≤ cap ∧ (n < cap → ∃ g o cur, a = some ⟨g, o, none⟩ ∧ w.heap[g]? = some (.cells cur e (0, 0)) ∧ cap ≤ maxLen ∧ o + cap * size ≤ cur.size)

def EntR (B : Bz) (i : Nat) (w : World) : Ent → Prop
  | .cell v => ∃ b cs ty, B i = .pointer (some ⟨b, 0, none⟩) ∧ w.heap[b]? = some (.cells cs ty (0, 0)) ∧ CR B v cs.toList
  | .rows 0 _ t xs => FzR B.z (DR B.z t) xs (B i)
  | .rows 1 e t xs => FzR B.z (DR B.z t) xs (B i) ∧ Grow w e t.size (B i) xs.length
  | .rows (_ + 2) e t xs => ∃ cs, DRs B.z t xs cs ∧ OwnRow w e t.size (B i) xs.length cs
  | .iter s pos => ∃ b, B i = .pointer (some ⟨b, 0, none⟩) ∧ w.heap[b]? = some (.stringIter s pos)
  | .dead => True
  | .glob g t x => B i = .pointer (some ⟨g, 0, none⟩) ∧ ∃ cs, DR B.z t x cs ∧ ∀ j u, cs[j]? = some u → B.z g j = some u

abbrev Heap := List (Nat × Ent)

def look {α : Type} (i : Nat) : List (Nat × α) → Option α
  | [] => none
  | (j, x) :: r => bif Nat.beq i j then some x else look i r

theorem look_cons {α : Type} (i j : Nat) (x : α) (r : List (Nat × α)) : look i ((j, x) :: r) = if i = j then some x else look i r := by
  simp only [look]
  by_cases h : i = j
  · subst h; rw [if_pos rfl, Nat.beq_refl]; rfl
  · rw [if_neg h]
    cases hb : Nat.beq i j
    · rfl
    · exact absurd (Nat.eq_of_beq_eq_true hb) h

theorem look_append {α : Type} (i : Nat) : ∀ (a b : List (Nat × α)), look i (a ++ b) = (look i a).or (look i b)
  | [], b => by simp [look]
  | (j, x) :: a, b => by
    rw [List.cons_append, look_cons, look_cons, look_append i a b]
    split <;> simp

def Owned (B : Bz) (H : Heap) (b : Nat) : Prop := ∃ i e, look i H = some e ∧ blkO e (B i) b

structure HeapR (B : Bz) (H : Heap) (w : World) : Prop where
  ent : ∀ i e, look i H = some e → EntR B i w e
  fz : ∀ b o u, B.z b o = some u → w.cell? ⟨b, o, none⟩ = some u
  apart : ∀ i j e e' b, look i H = some e → look j H = some e' → i ≠ j → blkO e (B i) b → ¬ blkO e' (B j) b
  zo : ∀ i e b o u, look i H = some e → blkO e (B i) b → B.z b o = some u → e.mode = 1 ∧ o < endE e (B i)
  closed : ∀ i e, look i H = some e → ∀ j ∈ e.ids, (look j H).isSome = true

theorem EntR_congr {B B' : Bz} {i : Nat} {w : World} {e : Ent} (hz : Zle B.z B'.z) (hi : B i = B' i) (h : ∀ j ∈ e.ids, B j = B' j) (hr : EntR B i w e) : EntR B' i w e := by
  cases e with
  | cell v =>
    obtain ⟨b, cs, ty, h1, h2, h3⟩ := hr
    exact ⟨b, cs, ty, hi ▸ h1, h2, CR_congr hz h h3⟩
  | iter s pos =>
    obtain ⟨b, h1, h2⟩ := hr
    exact ⟨b, hi ▸ h1, h2⟩
  | dead => trivial
  | glob g t x =>
    obtain ⟨h1, cs, h2, h3⟩ := hr
    exact ⟨hi ▸ h1, cs, h2.mono hz, fun j u hj => hz _ _ _ (h3 j u hj)⟩
  | rows m e t xs =>
    match m, hr with
    | 0, hr => simp only [EntR] at hr ⊢; rw [← hi]; exact hr.mono hz (DR.mono hz t)
    | 1, hr => simp only [EntR] at hr ⊢; rw [← hi]; exact ⟨hr.1.mono hz (DR.mono hz t), hr.2⟩
    | m + 2, hr =>
      obtain ⟨cs, h1, h2⟩ := hr
      exact ⟨cs, DRs.mono hz h1, hi ▸ h2⟩

/-- The world may change where the entry may not write. -/
theorem EntR_world {B : Bz} {i : Nat} {w w' : World} {e : Ent} (h : ∀ b, blkO e (B i) b → w'.heap[b]? = w.heap[b]?) (hr : EntR B i w e) : EntR B i w' e := by
  cases e with
  | cell v =>
    obtain ⟨b, cs, ty, h1, h2, h3⟩ := hr
    exact ⟨b, cs, ty, h1, by rw [h b (by rw [h1]; rfl)]; exact h2, h3⟩
  | iter s pos =>
    obtain ⟨b, h1, h2⟩ := hr
    exact ⟨b, h1, by rw [h b (by rw [h1]; rfl)]; exact h2⟩
  | dead => trivial
  | glob g t x => exact hr
  | rows m e t xs =>
    match m, hr, h with
    | 0, hr, _ => exact hr
    | 1, ⟨h1, a, cap, h2, h3, h4⟩, h =>
      refine ⟨h1, a, cap, h2, h3, fun hlt => ?_⟩
      obtain ⟨g, o, cur, p1, p2, p3⟩ := h4 hlt
      exact ⟨g, o, cur, p1, by rw [h g (by rw [h2, p1]; exact ⟨hlt, rfl⟩)]; exact p2, p3⟩
    | m + 2, ⟨cs, h1, h2, h3⟩, h =>
      refine ⟨cs, h1, h2, ?_⟩
      rcases h3 with h3 | ⟨g, o, cap, cur, e1, e2, r⟩
      · exact .inl h3
      · refine .inr ⟨g, o, cap, cur, e1, ?_, r⟩
        rw [h g (by rw [e1]; rfl)]; exact e2

/-- An entry's block is there. -/
theorem EntR_lt {B : Bz} {i : Nat} {w : World} {e : Ent} {b : Nat} (hr : EntR B i w e) (hb : blkO e (B i) b) : b < w.heap.size := by
  cases e with
  | cell v =>
    obtain ⟨b', cs, ty, h1, h2, h3⟩ := hr
    rw [h1] at hb; simp only [blkO] at hb; subst hb
    exact (Array.getElem?_eq_some_iff.1 h2).1
  | iter s pos =>
    obtain ⟨b', h1, h2⟩ := hr
    rw [h1] at hb; simp only [blkO] at hb; subst hb
    exact (Array.getElem?_eq_some_iff.1 h2).1
  | dead => cases h : B i <;> rw [h] at hb <;> exact hb.elim
  | glob g t x => cases h : B i <;> rw [h] at hb <;> exact hb.elim
  | rows m e t xs =>
    match m, hr, hb with
    | 0, _, hb => cases h : B i <;> rw [h] at hb <;> exact hb.elim
    | 1, ⟨h1, a, cap, h2, h3, h4⟩, hb =>
      rw [h2] at hb
      cases a with
      | none => exact hb.elim
      | some a =>
        obtain ⟨hlt, hb⟩ := hb
        obtain ⟨g, o, cur, p1, p2, p3⟩ := h4 hlt
        cases p1
        subst hb
        exact (Array.getElem?_eq_some_iff.1 p2).1
    | m + 2, ⟨cs, h1, h2, h3⟩, hb =>
      rcases h3 with h3 | ⟨g, o, cap, cur, e1, e2, r⟩
      · rw [h3.1] at hb; exact hb.elim
      · rw [e1] at hb
        have hb : g = b := hb
        subst hb
        exact (Array.getElem?_eq_some_iff.1 e2).1

theorem Owned.lt {B : Bz} {H : Heap} {w : World} {b : Nat} (h : HeapR B H w) (ho : Owned B H b) : b < w.heap.size := by
  obtain ⟨i, e, hi, hb⟩ := ho
  exact EntR_lt (h.ent i e hi) hb

/-! ### What may have turned: the frame -/

structure Fr (B : Bz) (H : Heap) (w : World) (B' : Bz) (H' : Heap) (w' : World) : Prop where
  os : w'.os = w.os
  tape : w'.tape = w.tape
  output : w'.output = w.output
  size : w.heap.size ≤ w'.heap.size
  keep : ∀ b, b < w.heap.size → ¬ Owned B H b → w'.heap[b]? = w.heap[b]?
  zle : Zle B.z B'.z
  znew : ∀ b o u, B'.z b o = some u → B.z b o = some u ∨ Owned B H b ∨ w.heap.size ≤ b
  owns : ∀ b, Owned B' H' b → Owned B H b ∨ w.heap.size ≤ b

theorem Fr.refl (B : Bz) (H : Heap) (w : World) : Fr B H w B H w :=
  ⟨rfl, rfl, rfl, Nat.le_refl _, fun _ _ _ => rfl, Zle.refl _, fun _ _ _ h => .inl h, fun _ h => .inl h⟩

theorem Fr.trans {B B1 B2 : Bz} {H H1 H2 : Heap} {w w1 w2 : World} (h : Fr B H w B1 H1 w1) (k : Fr B1 H1 w1 B2 H2 w2) : Fr B H w B2 H2 w2 where
  os := k.os.trans h.os
  tape := k.tape.trans h.tape
  output := k.output.trans h.output
  size := Nat.le_trans h.size k.size
  keep := fun b hb hn => by
    have hn1 : ¬ Owned B1 H1 b := fun ho => (h.owns b ho).elim hn (fun hle => by omega)
    rw [k.keep b (Nat.lt_of_lt_of_le hb h.size) hn1, h.keep b hb hn]
  zle := h.zle.trans k.zle
  znew := fun b o u e => by
    rcases k.znew b o u e with g | g | g
    · exact h.znew b o u g
    · exact .inr (h.owns b g)
    · exact .inr (.inr (Nat.le_trans h.size g))
  owns := fun b ho => by
    rcases k.owns b ho with g | g
    · exact h.owns b g
    · exact .inr (Nat.le_trans h.size g)

end Go.Proofs.YtkgpjplncfginaaGreatDoor.Sy
