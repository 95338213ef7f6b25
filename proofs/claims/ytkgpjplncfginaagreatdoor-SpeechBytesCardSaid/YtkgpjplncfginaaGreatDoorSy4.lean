/- The operations of the machine Sy, as functions with a continuation. -/
import Derived.Test.YtkgpjplncfginaaGreatDoorSy3
namespace Go.Proofs.YtkgpjplncfginaaGreatDoor.Sy
open Go
set_option linter.unusedVariables false
set_option linter.unusedSimpArgs false

/-! ### Types, closed -/

def tyIx (P : Program) (t : TypeId) : Option (Nat × Bool) :=
  match P.info? t with
  | some i => (match P.underlying t with
    | some d => some (i.size, d.isRow)
    | none => none)
  | none => none

def atomV : Value → Option AV
  | .int k n => some (.int k n)
  | .bool b => some (.bool b)
  | .string s => some (.str (unb s))
  | .pointer none => some (.ptr none)
  | .slice none l c => bif Nat.beq l 0 && Nat.beq c 0 then some .nils else none
  | .nilFunc => some (.opq .nilFunc)
  | .nilIface => some (.opq .nilIface)
  | .map none => some (.opq (.map none))
  | _ => none

abbrev Parser := List Value → Option (AV × List Value)

def takeInts (k : IntKind) : Nat → List Value → Option (List Int × List Value)
  | 0, cs => some ([], cs)
  | n + 1, c :: cs => (match c with
    | .int k' x => bif decide (k' = k) then (match takeInts k n cs with
      | some (xs, r) => some (x :: xs, r)
      | none => none) else none
    | _ => none)
  | _ + 1, [] => none

def pairUp : List Parser → Parser
  | [], cs => some (.unit, cs)
  | [p], cs => p cs
  | p :: q :: r, cs => (match p cs with
    | some (a, cs') => (match pairUp (q :: r) cs' with
      | some (b, cs'') => some (.pair a b, cs'')
      | none => none)
    | none => none)

def fields (ps : List Parser) : Parser := fun cs => match ps with
  | [p] => (match p cs with
    | some (a, r) => some (.one a, r)
    | none => none)
  | ps => pairUp ps cs

def parse (P : Program) : Nat → TypeId → Parser
  | 0, _, _ => none
  | d + 1, t, cs => (match P.underlying t with
    | some (.struct fs) => fields (fs.toList.map fun f => parse P d f.type) cs
    | some (.array n e) => (match P.underlying e with
      | some (.int k) => (match takeInts k n cs with
        | some (xs, r) => some (.arr k n xs, r)
        | none => none)
      | _ => fields (List.replicate n (parse P d e)) cs)
    | some _ => (match cs with
      | c :: r => (match atomV c with
        | some v => some (v, r)
        | none => none)
      | [] => none)
    | none => none)

def zeroA (P : Program) (t : TypeId) : Option AV :=
  match P.info? t with
  | some i => (match i.zero with
    | some z => (match parse P 12 t z.cells.toList with
      | some (v, []) => some v
      | _ => none)
    | none => none)
  | none => none

def tyOf (P : Program) : Nat → TypeId → Option Ty
  | 0, _ => none
  | d + 1, t => (match P.underlying t with
    | some (.int k) => some (.int k)
    | some .bool => some .bool
    | some .string => some .str
    | some (.slice e) => (match tyOf P d e with
      | some a => some (.row e a)
      | none => some .opq)
    | some (.array n e) => (match P.underlying e with
      | some (.int k) => some (.arr k n)
      | _ => none)
    | some (.struct fs) => (match fs.toList.map fun f => tyOf P d f.type with
      | [some a] => some (.one a)
      | ts => pairs ts)
    | _ => none)
where
  pairs : List (Option Ty) → Option Ty
    | [some a] => some a
    | some a :: b :: r => (match pairs (b :: r) with
      | some c => some (.pair a c)
      | none => none)
    | _ => none

/-! ### Arithmetic -/

def addI (k : IntKind) (x y : Int) : Int := k.wrap (x + y)
def subI (k : IntKind) (x y : Int) : Int := k.wrap (x - y)
def mulI (k : IntKind) (x y : Int) : Int := k.wrap (x * y)
def quoI (k : IntKind) (x y : Int) : Int := k.wrap (x.tdiv y)
def remI (x y : Int) : Int := x.tmod y
def andI (k : IntKind) (x y : Int) : Int := k.wrap (BitVec.ofInt k.bits x &&& BitVec.ofInt k.bits y).toNat
def orI (k : IntKind) (x y : Int) : Int := k.wrap (BitVec.ofInt k.bits x ||| BitVec.ofInt k.bits y).toNat
def xorI (k : IntKind) (x y : Int) : Int := k.wrap (BitVec.ofInt k.bits x ^^^ BitVec.ofInt k.bits y).toNat
def andNotI (k : IntKind) (x y : Int) : Int := k.wrap (BitVec.ofInt k.bits x &&& ~~~BitVec.ofInt k.bits y).toNat
def shlI (k : IntKind) (x y : Int) : Int := k.wrap (x * 2 ^ (min y.toNat k.bits))
def shrI (k : IntKind) (x y : Int) : Int := x.fdiv (2 ^ (min y.toNat k.bits))
def notI (k : IntKind) (x : Int) : Int := xorI k (if k.signed then -1 else k.max) x
def mxI (x y : Int) : Int := if y > x then y else x
def mnI (x y : Int) : Int := if y < x then y else x

section
variable {R : Type}

def intBin (op : BinOp) (k : IntKind) (x y : Int) (K : AV → Option R) : Option R :=
  match op with
  | .add => K (.int k (addI k x y))
  | .sub => K (.int k (subI k x y))
  | .mul => K (.int k (mulI k x y))
  | .quo => bif decide (y = 0) then none else K (.int k (quoI k x y))
  | .rem => bif decide (y = 0) then none else K (.int k (remI x y))
  | .and => K (.int k (andI k x y))
  | .or => K (.int k (orI k x y))
  | .xor => K (.int k (xorI k x y))
  | .andNot => K (.int k (andNotI k x y))
  | .eql => K (.bool (x == y))
  | .neq => K (.bool (x != y))
  | .lss => K (.bool (decide (x < y)))
  | .leq => K (.bool (decide (x ≤ y)))
  | .gtr => K (.bool (decide (x > y)))
  | .geq => K (.bool (decide (x ≥ y)))
  | _ => none

def shiftBin (op : BinOp) (k : IntKind) (x y : Int) (K : AV → Option R) : Option R :=
  match op with
  | .shl => bif decide (y < 0) then none else K (.int k (shlI k x y))
  | .shr => bif decide (y < 0) then none else K (.int k (shrI k x y))
  | _ => none

/-- The same? -/
def eqDen : (t : Ty) → t.den → t.den → Bool
  | .int _, x, y => @decide (@Eq Int x y) (Int.instDecidableEq x y)
  | .bool, x, y => @BEq.beq Bool _ x y
  | .str, x, y => @decide (@Eq (List Int) x y) (instDecidableEqList x y)
  | .arr _ _, x, y => @decide (@Eq (List Int) x y) (instDecidableEqList x y)
  | .opq, _, _ => false
  | .one a, x, y => eqDen a x y
  | .pair a b, x, y => eqDen a x.1 y.1 && eqDen b x.2 y.2
  | .row _ _, _, _ => false

def eqFieldsT (rec : TypeId → Ty → Bool) : List Field → Nat → Ty → Bool
  | [], _, _ => false
  | [f], off, ty => f.name != "_" && Nat.beq f.offset off && rec f.type ty
  | f :: g :: r, off, .pair a b => f.name != "_" && Nat.beq f.offset off && rec f.type a && eqFieldsT rec (g :: r) (off + a.size) b
  | _, _, _ => false

/-- Can values of the type be compared part by part, and are its parts as the code says? -/
def eqTyIs (P : Program) : Nat → TypeId → Ty → Bool
  | 0, _, _ => false
  | n + 1, t, ty => (match P.info? t with
    | some inf => Nat.beq inf.size ty.size && (match P.underlying t with
      | some (.int k) => (match ty with
        | .int k' => decide (k' = k)
        | _ => false)
      | some .bool => (match ty with
        | .bool => true
        | _ => false)
      | some .string => (match ty with
        | .str => true
        | _ => false)
      | some (.array m e) => (match ty with
        | .arr k n' => Nat.beq n' m && (match P.underlying e with
          | some (.int k') => decide (k' = k) && (match P.info? e with
            | some ie => Nat.beq ie.size 1
            | none => false)
          | _ => false)
        | _ => false)
      | some (.struct fs) => !P.stoodInHeld t && (match ty with
        | .one a => (match fs.toList with
          | [f] => eqFieldsT (eqTyIs P n) [f] 0 a
          | _ => false)
        | .pair a b => (match fs.toList with
          | f :: g :: r => eqFieldsT (eqTyIs P n) (f :: g :: r) 0 (.pair a b)
          | _ => false)
        | _ => false)
      | _ => false)
    | none => false)

/-- `==` of values of a type. -/
def eqA (P : Program) (t : TypeId) (x y : AV) : Option Bool :=
  match P.underlying t with
  | some .bool => (match x, y with
    | .bool a, .bool b => some (a == b)
    | _, _ => none)
  | some (.array n e) => (match P.underlying e with
    | some (.int k) => (match P.info? e with
      | some i => (match x, y with
        | .arr k1 n1 xs, .arr k2 n2 ys => bif Nat.beq i.size 1 && decide (k1 = k) && decide (k2 = k) && Nat.beq n1 n && Nat.beq n2 n && !P.eqGuardType P.depth t then some (decide (xs = ys)) else none
        | _, _ => none)
      | none => none)
    | _ => none)
  | some (.pointer _) => (match x, y with
    | .ptr p, .ptr none => some p.isNone
    | _, _ => none)
  | some .string => (match x, y with
    | .str a, .str b => some (decide (a = b))
    | _, _ => none)
  | some (.struct _) => (match tyOf P 8 t with
    | some ty => bif x.isAgg && eqTyIs P 8 t ty && !P.eqGuardType P.depth t then (match dec ty x with
      | some a => (match dec ty y with
        | some b => some (eqDen ty a b)
        | none => none)
      | none => none) else none
    | none => none)
  | _ => none

/-- A sum of lengths that is small. -/
def fits (n : Nat) : Bool := decide (n ≤ 140737488355328)

def binK (P : Program) (op : BinOp) (t : TypeId) (x y : AV) (K : AV → Option R) : Option R :=
  match x with
  | .int k a => (match y with
    | .int k' b => (match op with
      | .shl => shiftBin .shl k a b K
      | .shr => shiftBin .shr k a b K
      | op => bif decide (k = k') then intBin op k a b K else none)
    | _ => none)
  | .str a => (match y with
    | .str b => (match op with
      | .add => bif fits (a.length + b.length) then K (.str (a ++ b)) else none
      | .eql => (match eqA P t x y with
        | some c => K (.bool c)
        | none => none)
      | .neq => (match eqA P t x y with
        | some c => K (.bool (!c))
        | none => none)
      | _ => none)
    | _ => none)
  | _ => (match op with
    | .eql => (match eqA P t x y with
      | some c => K (.bool c)
      | none => none)
    | .neq => (match eqA P t x y with
      | some c => K (.bool (!c))
      | none => none)
    | _ => none)

def unK (op : UnOp) (x : AV) (K : AV → Option R) : Option R :=
  match op with
  | .neg => (match x with
    | .int k n => K (.int k (subI k 0 n))
    | _ => none)
  | .xor => (match x with
    | .int k n => K (.int k (notI k n))
    | _ => none)
  | .not => (match x with
    | .bool b => K (.bool (!b))
    | _ => none)
  | _ => none

def byteI (n : Int) : Int := ((n.toNat % 256 : Nat) : Int)
/-- Bytes as a string's. -/
def toStr (xs : List Int) : List Int := xs.map byteI

/-- The ints that a slice holds, of bytes. -/
def bytesK (P : Program) (H : Heap) (e : TypeId) (x : AV) (K : List Int → Option R) : Option R :=
  match P.underlying e with
  | some (.int .u8) => (match x with
    | .nils => K []
    | .vec v => (match look v H with
      | some (.rows _ e' (.int .u8) xs) => bif Nat.beq e' e then K xs else none
      | _ => none)
    | .asl p n _ => (match p.dys with
      | [] => (match look p.id H with
        | some (.cell v) => (match navA v p.st with
          | some (.u8, m, xs) => bif Nat.ble n m then K (List.take n xs) else none
          | _ => none)
        | _ => none)
      | _ => none)
    | _ => none)
  | _ => none

def convK (P : Program) (H : Heap) (src dst : TypeId) (x : AV) (K : Eff → Option R) : Option R :=
  match x with
  | .int _ n => (match P.underlying src with
    | some (.int _) => (match P.underlying dst with
      | some (.int k) => K ⟨.int k (k.wrap n), [], []⟩
      | _ => none)
    | _ => none)
  | x => (match P.underlying src with
    | some (.slice e) => (match P.underlying dst with
      | some .string => (match P.info? e with
        | some inf => bif Nat.beq inf.size 1 then bytesK P H e x (fun xs => K ⟨.str (toStr xs), [], x.ids⟩) else none
        | none => none)
      | _ => none)
    | _ => none)

/-! ### Addresses and parts -/

def addN (a b : Nat) : Nat := match a with
  | 0 => b
  | a' + 1 => a' + 1 + b

def fieldK (P : Program) (s : TypeId) (x : AV) (f : Nat) (K : AV → Option R) : Option R :=
  match x with
  | .ptr (some p) => (match P.underlying s with
    | some (.struct fs) => (match fs[f]? with
      | some fd => (match P.info? fd.type with
        | some i => bif Nat.beq i.size 0 then none else K (.ptr (some ⟨p.id, p.st + fd.offset, p.dys⟩))
        | none => none)
      | none => none)
    | _ => none)
  | _ => none

def indexK (P : Program) (H : Heap) (t : TypeId) (x ix : AV) (K : Eff → Option R) : Option R :=
  match ix with
  | .int _ i => (match P.underlying t with
    | some (.array len e) => (match x with
      | .ptr (some p) => (match P.info? e with
        | some inf => bif decide (0 ≤ i) then (bif decide (i < len) then K ⟨.ptr (some ⟨p.id, p.st, p.dys ++ [(i.toNat, inf.size)]⟩), [], []⟩ else none) else none
        | none => none)
      | .gptr g st dys => (match P.info? e with
        | some inf => bif decide (0 ≤ i) then (bif decide (i < len) then K ⟨.gptr g st (dys ++ [(i.toNat, inf.size)]), [], []⟩ else none) else none
        | none => none)
      | _ => none)
    | some (.slice e) => (match x with
      | .vec v => (match look v H with
        | some (.rows _ _ _ xs) => (match P.info? e with
          | some inf => bif decide (0 ≤ i) then (bif decide (i < xs.length) then K ⟨.ptr (some ⟨v, 0, [(i.toNat, inf.size)]⟩), [], [v]⟩ else none) else none
          | none => none)
        | _ => none)
      | _ => none)
    | _ => none)
  | _ => none

/-- Strings alone, in nested pairs. -/
def AV.strs : AV → Option (List (List Int))
  | .str s => some [s]
  | .pair a b => (match a.strs with
    | some l => (match b.strs with
      | some m => some (l ++ m)
      | none => none)
    | none => none)
  | _ => none

def indexVK (P : Program) (t : TypeId) (x ix : AV) (K : AV → Option R) : Option R :=
  match ix with
  | .int _ i => (match P.underlying t with
    | some (.array len e) => (match x with
      | .arr k n xs => (match P.info? e with
        | some inf => (match P.underlying e with
          | some d => bif Nat.beq inf.size 1 && Nat.beq n len && !d.isRow then (bif decide (0 ≤ i) then (bif decide (i < len) then K (.int k (xs.getD i.toNat 0)) else none) else none) else none
          | none => none)
        | none => none)
      | .pair a b => (match (AV.pair a b).strs with
        | some l => (match P.info? e with
          | some inf => (match P.underlying e with
            | some d => bif Nat.beq inf.size 1 && Nat.beq l.length len && !d.isRow then (bif decide (0 ≤ i) then (bif decide (i < len) then K (.str (l.getD i.toNat [])) else none) else none) else none
            | none => none)
          | none => none)
        | none => none)
      | _ => none)
    | some .string => (match x with
      | .str s => bif decide (0 ≤ i) then (bif decide (i < (s.length : Int)) then K (.int .u8 (s.getD i.toNat 0)) else none) else none
      | _ => none)
    | _ => none)
  | _ => none

def nthT : AV → Nat → Option AV
  | .tcons a _, 0 => some a
  | .tcons _ b, i + 1 => nthT b i
  | _, _ => none

def fieldVK (P : Program) (s : TypeId) (x : AV) (f : Nat) (K : AV → Option R) : Option R :=
  match P.underlying s with
  | some (.struct fs) => (match fs[f]? with
    | some fd => (match tyIx P fd.type with
      | some (n, g) => bif x.isAgg then (match nav x fd.offset n g with
        | some u => K u
        | none => none) else none
      | none => none)
    | none => none)
  | _ => none

/-- A bound of a slice: what stands there, or what stands for it. -/
def boundK (b : Option AV) (dflt : Int) (K : Int → Option R) : Option R :=
  match b with
  | none => K dflt
  | some (.int _ n) => K n
  | some _ => none

def loOf (b : Option AV) : Option (Option Int) :=
  match b with
  | none => some none
  | some (.int _ n) => some (some n)
  | some _ => none

/-- A part of a list, as its bounds are told. -/
def partL {α : Type} (xs : List α) (lo hi : Option Int) : List α :=
  match lo, hi with
  | none, none => xs
  | some l, none => xs.drop l.toNat
  | none, some h => xs.take h.toNat
  | some l, some h => (xs.take h.toNat).drop l.toNat

/-- Are the bounds of a part good? -/
def boundsK (n : Nat) (lo hi : Option Int) (K : Option R) : Option R :=
  match lo, hi with
  | none, none => K
  | some l, none => bif decide (0 ≤ l) then (bif decide (l ≤ (n : Int)) then K else none) else none
  | none, some h => bif decide (0 ≤ h) then (bif decide (h ≤ (n : Int)) then K else none) else none
  | some l, some h => bif decide (0 ≤ h) then (bif decide (h ≤ (n : Int)) then (bif decide (0 ≤ l) then (bif decide (l ≤ h) then K else none) else none) else none) else none

def sliceK (P : Program) (H : Heap) (d : Option Nat) (t : TypeId) (x : AV) (lo hi : Option AV) (K : Eff → Option R) : Option R :=
  match loOf lo, loOf hi with
  | some lo, some hi => (match P.underlying t with
    | some .string => (match x with
      | .str s => boundsK s.length lo hi (K ⟨.str (partL s lo hi), [], []⟩)
      | _ => none)
    | some (.slice e) => (match x, d with
      | .vec v, some d => (match look v H with
        | some (.rows m e' ty xs) => (match P.info? e with
          | some inf => bif Nat.beq e' e && Nat.beq inf.size ty.size then (match look (1000 + d) H with
            | none => boundsK xs.length lo hi (match m with
              | 0 => K ⟨.vec (1000 + d), [(1000 + d, .rows 0 e ty (partL xs lo hi))], [v]⟩
              | _ + 1 => (match hi with
                | none => K ⟨.vec (1000 + d), [(1000 + d, .rows 1 e ty (partL xs lo hi)), (v, .rows 0 e ty xs)], [v]⟩
                | some _ => K ⟨.vec (1000 + d), [(1000 + d, .rows 0 e ty (partL xs lo hi)), (v, .rows 1 e ty xs)], [v]⟩))
            | some _ => none) else none
          | none => none)
        | _ => none)
      | _, _ => none)
    | some (.array n e) => (match x with
      | .ptr (some p) => (match P.info? e with
        | some _ => (match lo with
          | none => (match hi with
            | none => K ⟨.asl p n n, [], []⟩
            | some h => bif decide (0 ≤ h) then (bif decide (h ≤ (n : Int)) then K ⟨.asl p h.toNat n, [], []⟩ else none) else none)
          | some _ => none)
        | none => none)
      | _ => none)
    | _ => none)
  | _, _ => none

/-- Rows that are only read, inside of data: as data. -/
def frzR (k : Nat) (H : Heap) : AV → AV
  | .vec i => (match look i H with
    | some (.rows m e t xs) => bif Nat.ble m k then .row e t xs else .vec i
    | _ => .vec i)
  | .one a => .one (frzR k H a)
  | .pair a b => .pair (frzR k H a) (frzR k H b)
  | v => v

def frzParts (k : Nat) (H : Heap) : List (Nat × AV) → List (Nat × AV)
  | [] => []
  | (i, v) :: r => (i, frzR k H v) :: frzParts k H r

def partIds : List (Nat × AV) → List Nat
  | [] => []
  | (_, v) :: r => v.ids ++ partIds r

/-- Arguments: those that are put together of parts. -/
def frzArgs (P : Program) (H : Heap) : List TypeId → List AV → List AV
  | _, [] => []
  | [], v :: r => (bif v.isAgg then frzR 1 H v else v) :: frzArgs P H [] r
  | t :: ts, v :: r => (bif v.isAgg then (match tyOf P 8 t with
    | some ty => normT ty (frzR 1 H v)
    | none => frzR 1 H v) else v) :: frzArgs P H ts r

/-! ### Values that are put together -/

def buildParts (z : AV) (place : Nat → Option (Nat × Nat)) : List (Nat × AV) → Option AV
  | [] => some z
  | (i, v) :: r => (match place i with
    | some (off, n) => bif Nat.beq v.size n && !v.isTup then (match setNav z off v with
      | some z' => buildParts z' place r
      | none => none) else none
    | none => none)

def fieldPlaces (P : Program) (fs : List Field) (i : Nat) : Option (Nat × Nat) :=
  match fs[i]? with
  | some f => (match P.info? f.type with
    | some inf => some (f.offset, inf.size)
    | none => none)
  | none => none

def buildK (P : Program) (t : TypeId) (parts : List (Nat × AV)) : Option AV :=
  match zeroA P t with
  | some z => (match P.underlying t with
    | some (.struct fs) => bif fs.toList.all (fun f => (P.info? f.type).isSome) && z.isAgg then buildParts z (fieldPlaces P fs.toList) parts else none
    | some (.array _ e) => (match P.info? e with
      | some inf => bif z.isAgg then buildParts z (fun i => some (i * inf.size, inf.size)) parts else none
      | none => none)
    | _ => none)
  | none => none

def decAll (t : Ty) : Nat → List (Nat × AV) → Option (List t.den)
  | _, [] => some []
  | j, (i, v) :: r => bif Nat.beq i j then (match dec t (normT t v) with
    | some x => (match decAll t (j + 1) r with
      | some xs => some (x :: xs)
      | none => none)
    | none => none) else none

/-! ### The environment: callees and loops -/

inductive Ex where
  | normal | exit (id : Nat) | ret

/-- What a callee, or a function that the model has itself, comes to: 'run' is a function on data, 'val' and 'wr' say what is handed back and what has turned. -/
inductive Callee where
  | ext (T : Type) (run : List AV → Option T) (val : T → AV)
  | go (T : Type) (ok : List AV → Heap → Bool) (run : List AV → Heap → Option T) (val : List AV → Heap → T → AV) (wr : List AV → Heap → T → Heap)
  | alt (T U : Type) (ok : List AV → Heap → Bool) (run : List AV → Heap → Option (T ⊕ U)) (val1 : T → AV) (wr1 : T → Heap) (val2 : U → AV) (wr2 : U → Heap)

inductive LoopSum where
  | mk (V Q : Type) (id : Nat) (run : St → Option (V ⊕ Q)) (out : St → V → St) (ret : St → Q → St)
  | ex (V : Type) (id : Nat) (run : St → Option V) (out : St → V → St)
  | rt (Q : Type) (run : St → Option Q) (ret : St → Q → St)

def sel {α β γ : Type} (t : α ⊕ β) (f : α → γ) (g : β → γ) : γ := match t with
  | .inl a => f a
  | .inr b => g b

structure Env where
  fn : FuncId → List Callee
  loop : Nat → Option LoopSum
  gl : FuncId → List Nat := fun _ => []
  gid : Nat → Option Nat := fun _ => none

def AV.ren (f : Nat → Nat) : AV → AV
  | .ptr (some p) => .ptr (some ⟨f p.id, p.st, p.dys⟩)
  | .vec i => .vec (f i)
  | .asl p n len => .asl ⟨f p.id, p.st, p.dys⟩ n len
  | .one a => .one (a.ren f)
  | .pair a b => .pair (a.ren f) (b.ren f)
  | .tcons a b => .tcons (a.ren f) (b.ren f)
  | v => v

def Ent.ren (f : Nat → Nat) : Ent → Ent
  | .cell v => .cell (v.ren f)
  | e => e

def memN (x : Nat) : List Nat → Bool
  | [] => false
  | y :: r => bif Nat.beq x y then true else memN x r

def addNew (acc : List Nat) : List Nat → List Nat
  | [] => acc
  | x :: r => bif memN x acc then addNew acc r else addNew (acc ++ [x]) r

/-- With all that is reached from there. -/
def close (H : Heap) : Nat → List Nat → Nat → List Nat
  | 0, acc, _ => acc
  | f + 1, acc, k => (match acc[k]? with
    | some i => (match look i H with
      | some e => close H f (addNew acc e.ids) (k + 1)
      | none => acc)
    | none => acc)

def idxN (x : Nat) : List Nat → Nat
  | [] => 0
  | y :: r => bif Nat.beq x y then 0 else idxN x r + 1

/-- The entries that are handed on, under numbers of their own. -/
def localH (H : Heap) (ρ : Nat → Nat) (ids : List Nat) : Nat → List Nat → Option Heap
  | _, [] => some []
  | j, i :: r => (match look i H with
    | some e => bif e.ids.all (fun m => memN m ids) then (match localH H ρ ids (j + 1) r with
      | some L => some ((j, e.ren ρ) :: L)
      | none => none) else none
    | none => none)

/-- Numbers from here on are those of what a callee has made. -/
def newB : Nat := 900000
def freshId (d q : Nat) : Nat := 1000 + d + 100000 * (q + 1)

def known (wr : Heap) (m i : Nat) : Bool := Nat.blt i m || (Nat.ble newB i && (look i wr).isSome)

/-- What may become of an entry that was handed on. -/
def turns (e0 e : Ent) : Bool := match e0, e with
  | .cell _, .cell _ => true
  | .iter _ _, .iter _ _ => true
  | .rows (m + 1) _ _ _, .rows m' _ _ _ => Nat.ble m' (m + 1)
  | .rows (_ + 1) _ _ _, .dead => true
  | _, _ => false

def backOk (L H : Heap) (all : Heap) (m d : Nat) : Heap → Bool
  | [] => true
  | (j, e) :: r => (bif Nat.blt j m then (match look j L with
      | some e0 => turns e0 e
      | none => false) else Nat.ble newB j && (look (freshId d (j - newB)) H).isNone) && e.ids.all (known all m) && backOk L H all m d r

def backId (ids : List Nat) (d j : Nat) : Nat := bif Nat.blt j ids.length then ids.getD j 0 else freshId d (j - newB)

def backH (π : Nat → Nat) : Heap → Heap
  | [] => []
  | (j, e) :: r => (π j, e.ren π) :: backH π r

def idsAll : List AV → List Nat
  | [] => []
  | a :: r => a.ids ++ idsAll r

def renAll (f : Nat → Nat) : List AV → List AV
  | [] => []
  | a :: r => a.ren f :: renAll f r

def pickC (args : List AV) (L : Heap) : List Callee → Option Callee
  | [] => none
  | .ext T run val :: _ => some (.ext T run val)
  | .go T ok run val wr :: r => bif ok args L then some (.go T ok run val wr) else pickC args L r
  | .alt T U ok run val1 wr1 val2 wr2 :: r => bif ok args L then some (.alt T U ok run val1 wr1 val2 wr2) else pickC args L r

def dstN : Option Nat → Nat
  | some d => d
  | none => 99999

def callK (E : Env) (H : Heap) (d : Option Nat) (f : FuncId) (args : List AV) (K : Eff → Option R) : Option R :=
  let ids := close H 64 (addNew [] (idsAll args ++ E.gl f)) 0
  match localH H (fun i => idxN i ids) ids 0 ids with
  | some L => (match pickC (renAll (fun i => idxN i ids) args) L (E.fn f) with
    | some (.ext _ run val) => bif ids.isEmpty then (run args).bind (fun t => bif (val t).ids.isEmpty then K ⟨val t, [], []⟩ else none) else none
    | some (.go _ _ run val wr) =>
      bif Nat.blt ids.length 1000 then (run (renAll (fun i => idxN i ids) args) L).bind (fun t =>
        bif (val (renAll (fun i => idxN i ids) args) L t).ids.all (known (wr (renAll (fun i => idxN i ids) args) L t) ids.length) && backOk L H (wr (renAll (fun i => idxN i ids) args) L t) ids.length (dstN d) (wr (renAll (fun i => idxN i ids) args) L t) then
          K ⟨(val (renAll (fun i => idxN i ids) args) L t).ren (backId ids (dstN d)), backH (backId ids (dstN d)) (wr (renAll (fun i => idxN i ids) args) L t), ids⟩ else none) else none
    | some (.alt _ _ _ run val1 wr1 val2 wr2) =>
      bif Nat.blt ids.length 1000 then (run (renAll (fun i => idxN i ids) args) L).bind (fun s => sel s
        (fun t => bif (val1 t).ids.all (known (wr1 t) ids.length) && backOk L H (wr1 t) ids.length (dstN d) (wr1 t) then
          K ⟨(val1 t).ren (backId ids (dstN d)), backH (backId ids (dstN d)) (wr1 t), ids⟩ else none)
        (fun t => bif (val2 t).ids.all (known (wr2 t) ids.length) && backOk L H (wr2 t) ids.length (dstN d) (wr2 t) then
          K ⟨(val2 t).ren (backId ids (dstN d)), backH (backId ids (dstN d)) (wr2 t), ids⟩ else none)) else none
    | none => none)
  | none => none

/-! ### An operation -/

def ev (σ : St) : Operand → Option AV
  | .tmp t => look t σ.env
  | .const v => atomV v
  | .func f => some (.fn f)
  | .global g => some (.gptr g 0 [])

/-- An operand that may be missing. -/
def evO (σ : St) : Option Operand → Option (Option AV)
  | none => some none
  | some x => (match ev σ x with
    | some v => some (some v)
    | none => none)

def evAll (σ : St) : List Operand → Option (List AV)
  | [] => some []
  | x :: r => (match ev σ x with
    | some v => (match evAll σ r with
      | some vs => some (v :: vs)
      | none => none)
    | none => none)

def evParts (σ : St) : List (Nat × Operand) → Option (List (Nat × AV))
  | [] => some []
  | (i, x) :: r => (match ev σ x with
    | some v => (match evParts σ r with
      | some vs => some ((i, v) :: vs)
      | none => none)
    | none => none)

def mxAll (k : IntKind) (x : Int) : List AV → Option Int
  | [] => some x
  | .int k' y :: r => bif decide (k' = k) then mxAll k (mxI x y) r else none
  | _ => none

def mnAll (k : IntKind) (x : Int) : List AV → Option Int
  | [] => some x
  | .int k' y :: r => bif decide (k' = k) then mnAll k (mnI x y) r else none
  | _ => none

def opqLen : Value → Option Int
  | .slice _ n _ => some (n : Int)
  | _ => none

/-- What is appended. -/
def newsK (P : Program) (H : Heap) (e u : TypeId) (ty : Ty) (x : AV) (K : List ty.den → Option R) : Option R :=
  match x with
  | .nils => K []
  | .vec v => (match look v H with
    | some (.rows _ e' ty' xs) => bif Nat.beq e' e then (if h : ty' = ty then K (h ▸ xs) else none) else none
    | _ => none)
  | .str s => (match P.underlying u with
    | some .string => (match P.underlying e with
      | some (.int .u8) => (match ty with
        | .int .u8 => K s
        | _ => none)
      | _ => none)
    | _ => none)
  | .asl p n _ => (match p.dys with
    | [] => (match look p.id H with
      | some (.cell v) => (match navA v p.st with
        | some (k, m, xs) => bif Nat.ble n m then (match ty with
          | .int k' => bif decide (k' = k) then K (List.take n xs) else none
          | _ => none) else none
        | none => none)
      | _ => none)
    | _ => none)
  | _ => none

def slT (P : Program) (t u : TypeId) : Bool := match P.underlying u with
  | some .string => true
  | some (.slice _) => true
  | _ => false

def appendK (P : Program) (H : Heap) (d : Option Nat) (t u : TypeId) (s x : AV) (K : Eff → Option R) : Option R :=
  match d, P.underlying t with
  | some d, some (.slice e) => (match tyOf P 8 e with
    | some ty => (match P.info? e with
      | some inf => (match inf.zero with
        | some z => bif Nat.beq inf.size ty.size && Nat.beq z.cells.size ty.size && Nat.blt 0 ty.size && Nat.blt 0 inf.bytes && slT P t u then
          newsK P H e u ty x (fun ys => (match look (1000 + d) H with
            | none => (match s with
              | .nils => bif fits (ys.length * inf.bytes) then K ⟨.vec (1000 + d), [(1000 + d, .rows 2 e ty ys)], x.ids⟩ else none
              | .vec v => (match look v H with
                | some (.rows m e' ty' xs) => bif Nat.beq e' e then (if h : ty' = ty then bif fits ((xs.length + ys.length) * inf.bytes) then (match m with
                    | 0 => none
                    | 1 => K ⟨.vec (1000 + d), [(1000 + d, .rows 1 e ty ((h ▸ xs) ++ ys)), (v, .rows 0 e ty' xs)], v :: x.ids⟩
                    | _ + 2 => K ⟨.vec (1000 + d), [(1000 + d, .rows 2 e ty ((h ▸ xs) ++ ys)), (v, .dead)], v :: x.ids⟩) else none else none) else none
                | _ => none)
              | _ => none)
            | some _ => none)) else none
        | none => none)
      | none => none)
    | none => none)
  | _, _ => none

def copyK (P : Program) (H : Heap) (t : TypeId) (x y : AV) (K : Eff → Option R) : Option R :=
  match x, y with
  | .asl p n _, .str s => (match P.underlying t with
    | some (.slice e) => (match P.info? e with
      | some inf => bif Nat.beq inf.size 1 then (match p.dys with
        | [] => (match look p.id H with
          | some (.cell v) => (match navA v p.st with
            | some (.u8, m, xs) => bif Nat.ble n m then (match setNav v p.st (.arr .u8 m (s.take n ++ xs.drop (min s.length n))) with
              | some v' => K ⟨.int .i64 ((min s.length n : Nat) : Int), [(p.id, .cell v')], [p.id]⟩
              | none => none) else none
            | _ => none)
          | _ => none)
        | _ => none) else none
      | none => none)
    | _ => none)
  | _, _ => none

def builtinK (P : Program) (H : Heap) (d : Option Nat) (b : Builtin) (ts : List TypeId) (args : List AV) (K : Eff → Option R) : Option R :=
  match b with
  | .len => (match ts with
    | t :: _ => (match args with
      | x :: _ => (match P.underlying t with
        | some .string => (match x with
          | .str s => K ⟨.int .i64 (s.length : Int), [], []⟩
          | _ => none)
        | some (.slice _) => (match x with
          | .nils => K ⟨.int .i64 0, [], []⟩
          | .vec v => (match look v H with
            | some (.rows _ _ _ xs) => K ⟨.int .i64 (xs.length : Int), [], [v]⟩
            | _ => none)
          | .opq v => (opqLen v).bind (fun n => K ⟨.int .i64 n, [], []⟩)
          | _ => none)
        | _ => none)
      | [] => none)
    | [] => none)
  | .max => (match args with
    | .int k x :: r => (match mxAll k x r with
      | some y => K ⟨.int k y, [], []⟩
      | none => none)
    | _ => none)
  | .min => (match args with
    | .int k x :: r => (match mnAll k x r with
      | some y => K ⟨.int k y, [], []⟩
      | none => none)
    | _ => none)
  | .append => (match ts, args with
    | [t, u], [s, x] => appendK P H d t u s x K
    | _, _ => none)
  | .copy => (match ts, args with
    | t :: _, [x, y] => copyK P H t x y K
    | _, _ => none)
  | _ => none

def makeSliceK (P : Program) (H : Heap) (d : Option Nat) (t : TypeId) (l c : AV) (K : Eff → Option R) : Option R :=
  match d, P.underlying t with
  | some d, some (.slice e) => (match tyOf P 8 e with
    | some ty => (match P.info? e with
      | some inf => (match inf.zero with
        | some z => (match zeroA P e with
          | some za => (match dec ty (normT ty za) with
            | some x0 => (match l, c with
              | .int .i64 n, .int .i64 m => bif Nat.beq inf.size ty.size && Nat.beq z.cells.size ty.size && Nat.blt 0 ty.size && Nat.blt 0 inf.bytes then
                (bif decide (n = m) then (bif decide (0 ≤ n) then (bif fits (n.toNat * inf.bytes) then (match look (1000 + d) H with
                  | none => K ⟨.vec (1000 + d), [(1000 + d, .rows 2 e ty (List.replicate n.toNat x0))], []⟩
                  | some _ => none) else none) else none) else none) else none
              | _, _ => none)
            | none => none)
          | none => none)
        | none => none)
      | none => none)
    | none => none)
  | _, _ => none

def rangeK (P : Program) (H : Heap) (d : Option Nat) (t : TypeId) (x : AV) (K : Eff → Option R) : Option R :=
  match d, P.underlying t, x with
  | some d, some .string, .str s => (match look (1000 + d) H with
    | none => K ⟨.ptr (some ⟨1000 + d, 0, []⟩), [(1000 + d, .iter (bst s) 0)], []⟩
    | some _ => none)
  | _, _, _ => none

def nextK (H : Heap) (x : AV) (K : Eff → Option R) : Option R :=
  match x with
  | .ptr (some ⟨i, 0, []⟩) => (match look i H with
    | some (.iter s pos) => bif decide (pos < s.size) then K ⟨.tcons (.bool true) (.tcons (.int .i64 (pos : Int)) (.tcons (.int .i32 ((Utf8.decode s pos).1 : Int)) .tnil)), [(i, .iter s (pos + (Utf8.decode s pos).2))], [i]⟩
        else K ⟨.tcons (.bool false) .tnil, [], [i]⟩
    | _ => none)
  | _ => none

def val1 (v : AV) : Eff := ⟨v, [], []⟩

/-- A row inside of data that is loaded becomes an entry of its own. -/
def rowK (H : Heap) (d : Option Nat) (u : AV) (rd : List Nat) (K : Eff → Option R) : Option R :=
  match u with
  | .row e t xs => (match d with
    | some d => (match look (1000 + d) H with
      | none => K ⟨.vec (1000 + d), [(1000 + d, .rows 0 e t xs)], rd⟩
      | some _ => none)
    | none => none)
  | u => K ⟨u, [], rd⟩

/-- A part of a variable that is an array of strings. -/
def sliceG (P : Program) (E : Env) (H : Heap) (d : Option Nat) (t : TypeId) (gg : Nat) (lo hi : Option AV) (K : Eff → Option R) : Option R :=
  match d, P.underlying t with
  | some d, some (.array n e) => (match P.info? e with
    | some inf => (match E.gid gg with
      | some i => (match look i H with
        | some (.glob g' ty x) => (match look (1000 + d) H with
          | none => (match loOf lo, loOf hi with
            | some lo, some hi => bif Nat.beq g' gg && allStr ty && Nat.beq (strsL ty x).length n && Nat.beq inf.size 1 then
                boundsK n lo hi (K ⟨.vec (1000 + d), [(1000 + d, .rows 0 e .str (partL (strsL ty x) lo hi))], [i]⟩) else none
            | _, _ => none)
          | some _ => none)
        | _ => none)
      | none => none)
    | none => none)
  | _, _ => none

def opK (P : Program) (E : Env) (o : Oper) (σ : St) (K : Eff → Option R) : Option R :=
  match o.op with
  | .move x => (match ev σ x with
    | some v => K (val1 v)
    | none => none)
  | .assign x => (match ev σ x with
    | some v => K (val1 v)
    | none => none)
  | .pick c a b => (match ev σ c with
    | some (.bool t) => bif t then (match ev σ a with
        | some v => K (val1 v)
        | none => none) else (match ev σ b with
        | some v => K (val1 v)
        | none => none)
    | _ => none)
  | .alloc t => (match o.dst with
    | some d => (match zeroA P t with
      | some z => (match look (1000 + d) σ.heap with
        | none => K ⟨.ptr (some ⟨1000 + d, 0, []⟩), [(1000 + d, .cell z)], []⟩
        | some _ => none)
      | none => none)
    | none => none)
  | .box _ x => (match o.dst with
    | some d => (match ev σ x with
      | some v => (match look (1000 + d) σ.heap with
        | none => bif v.isTup then none else K ⟨.ptr (some ⟨1000 + d, 0, []⟩), [(1000 + d, .cell v)], []⟩
        | some _ => none)
      | none => none)
    | none => none)
  | .build t parts => (match evParts σ parts.toList with
    | some ps => (match buildK P t (frzParts 0 σ.heap ps) with
      | some v => K ⟨v, [], partIds ps⟩
      | none => none)
    | none => none)
  | .buildSlice t n parts => (match o.dst with
    | some d => (match evParts σ parts.toList with
      | some ps => (match P.underlying t with
        | some (.slice e) => (match tyOf P 8 e with
          | some ty => (match P.info? e with
            | some inf => (match inf.zero with
              | some z => bif Nat.beq inf.size ty.size && Nat.beq z.cells.size ty.size && Nat.blt 0 ty.size && Nat.beq ps.length n && Nat.blt n 10000 && Nat.blt ty.size 1000 then
                (match decAll ty 0 (frzParts 1 σ.heap ps) with
                | some xs => (match look (1000 + d) σ.heap with
                  | none => K ⟨.vec (1000 + d), [(1000 + d, .rows 2 e ty xs)], partIds ps⟩
                  | some _ => none)
                | none => none) else none
              | none => none)
            | none => none)
          | none => none)
        | _ => none)
      | none => none)
    | none => none)
  | .load t x => (match ev σ x with
    | some (.ptr (some p)) => (match tyIx P t with
      | some (n, g) => (match look p.id σ.heap with
        | some e => loadE e p.st p.dys n g (fun u => rowK σ.heap o.dst u [p.id] K)
        | none => none)
      | none => none)
    | some (.gptr gg st dys) => (match tyIx P t with
      | some (n, g) => (match E.gid gg with
        | some i => (match look i σ.heap with
          | some (.glob g' ty x) => bif Nat.beq g' gg then globK ty x st dys n g (fun u => rowK σ.heap o.dst u [i] K) else none
          | _ => none)
        | none => none)
      | none => none)
    | _ => none)
  | .store t x y => (match ev σ x with
    | some (.ptr (some p)) => (match ev σ y with
      | some u => (match tyIx P t with
        | some (n, _) => bif Nat.beq u.size n && !u.isTup then (match look p.id σ.heap with
          | some e => storeE e p.st p.dys (frzR 0 σ.heap u) (fun e' => K ⟨.tnil, [(p.id, e')], u.ids⟩)
          | none => none) else none
        | none => none)
      | none => none)
    | _ => none)
  | .nilCheck x => (match ev σ x with
    | some (.ptr (some p)) => K (val1 (.ptr (some p)))
    | some (.gptr g st dys) => K (val1 (.gptr g st dys))
    | _ => none)
  | .binOp op t x y _ => (match ev σ x with
    | some u => (match ev σ y with
      | some v => binK P op t u v (fun z => K (val1 z))
      | none => none)
    | none => none)
  | .unOp op _ x => (match ev σ x with
    | some u => unK op u (fun z => K (val1 z))
    | none => none)
  | .convert s d x => (match ev σ x with
    | some u => convK P σ.heap s d u K
    | none => none)
  | .fieldAddr s x f => (match ev σ x with
    | some u => fieldK P s u f (fun z => K (val1 z))
    | none => none)
  | .indexAddr t x i => (match ev σ x with
    | some u => (match ev σ i with
      | some j => indexK P σ.heap t u j K
      | none => none)
    | none => none)
  | .index t x i => (match ev σ x with
    | some u => (match ev σ i with
      | some j => indexVK P t u j (fun z => K (val1 z))
      | none => none)
    | none => none)
  | .slice t x lo hi mx => (match mx with
    | some _ => none
    | none => (match ev σ x with
      | some u => (match evO σ lo with
        | some l => (match evO σ hi with
          | some h => (match u with
            | .gptr gg 0 [] => sliceG P E σ.heap o.dst t gg l h K
            | u => sliceK P σ.heap o.dst t u l h K)
          | none => none)
        | none => none)
      | none => none))
  | .field t x f => (match ev σ x with
    | some u => fieldVK P t u f (fun z => rowK σ.heap o.dst z [] K)
    | none => none)
  | .makeSlice t l c => (match ev σ l with
    | some u => (match ev σ c with
      | some v => makeSliceK P σ.heap o.dst t u v K
      | none => none)
    | none => none)
  | .range t x => (match ev σ x with
    | some u => rangeK P σ.heap o.dst t u K
    | none => none)
  | .next x s => (match ev σ x with
    | some u => bif s then nextK σ.heap u K else none
    | none => none)
  | .extract x i => (match ev σ x with
    | some u => (match nthT u i with
      | some z => K (val1 z)
      | none => none)
    | none => none)
  | .call c => (match evAll σ c.args.toList with
    | some args => (match c.callee with
      | .builtin b => builtinK P σ.heap o.dst b c.argTypes.toList args K
      | .value x => (match ev σ x with
        | some (.fn f) => callK E σ.heap o.dst f (frzArgs P σ.heap c.argTypes.toList args) (fun ef => K ⟨ef.val, ef.wr, idsAll args ++ ef.rd⟩)
        | _ => none)
      | _ => none)
    | none => none)
  | _ => none

end

end Go.Proofs.YtkgpjplncfginaaGreatDoor.Sy
