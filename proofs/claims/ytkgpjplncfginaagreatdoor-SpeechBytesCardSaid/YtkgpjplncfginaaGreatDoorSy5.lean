/- The operations of the machine Sy do what the model's operations do: values, arithmetic, parts. -/
import Derived.Test.YtkgpjplncfginaaGreatDoorSy4
import Derived.ChangeKeysEq
import Derived.Laws.StructEq
import Derived.Laws.Entries
import Derived.Laws.Strings2
import Derived.Laws.Concat
import Derived.Laws.BytesString
namespace Go.Proofs.YtkgpjplncfginaaGreatDoor.Sy
open Go
set_option linter.unusedVariables false
set_option linter.unusedSimpArgs false

theorem VR_int {B : Bz} {k : IntKind} {n : Int} {x : Value} (h : VR B (.int k n) x) : x = .int k n := (VR_atom rfl rfl).1 h
theorem VR_bool {B : Bz} {b : Bool} {x : Value} (h : VR B (.bool b) x) : x = .bool b := (VR_atom rfl rfl).1 h
theorem VR_str {B : Bz} {b : List Int} {x : Value} (h : VR B (.str b) x) : byteL b ∧ x = .string (bst b) := (VR_atom rfl rfl).1 h
theorem VR_nils {B : Bz} {x : Value} (h : VR B .nils x) : x = .slice none 0 0 := (VR_atom rfl rfl).1 h
theorem VR_mk_int (B : Bz) (k : IntKind) (n : Int) : VR B (.int k n) (.int k n) := (VR_atom rfl rfl).2 rfl
theorem VR_mk_bool (B : Bz) (b : Bool) : VR B (.bool b) (.bool b) := (VR_atom rfl rfl).2 rfl
theorem VR_mk_str (B : Bz) {s : List Int} (h : byteL s) : VR B (.str s) (.string (bst s)) := (VR_atom rfl rfl).2 ⟨h, rfl⟩
theorem VR_ptr {B : Bz} {p : Ptr} {x : Value} (h : VR B (.ptr (some p)) x) : ∃ b o, baseOf (B p.id) = some ⟨b, o, none⟩ ∧ x = .pointer (some ⟨b, o + p.st + dyOff p.dys, none⟩) := (VR_atom rfl rfl).1 h
theorem VR_nilp {B : Bz} {x : Value} (h : VR B (.ptr none) x) : x = .pointer none := (VR_atom rfl rfl).1 h

theorem atomV_ok {B : Bz} {x : Value} {v : AV} (h : atomV x = some v) : v.ids = [] ∧ v.isTup = false ∧ v.isAgg = false ∧ AR B v x := by
  cases x with
  | pointer a => cases a <;> simp [atomV] at h; subst h; exact ⟨rfl, rfl, rfl, rfl⟩
  | slice a l c =>
    cases a with
    | some a => simp [atomV] at h
    | none =>
      simp only [atomV] at h
      replace h := bif_eq_some h
      rcases h with ⟨hc, h⟩ | ⟨_, h⟩
      · simp only [Bool.and_eq_true] at hc
        have h1 := Nat.eq_of_beq_eq_true hc.1; have h2 := Nat.eq_of_beq_eq_true hc.2
        subst h1 h2; cases h
        exact ⟨rfl, rfl, rfl, rfl⟩
      · cases h
  | map r => cases r <;> simp [atomV] at h; subst h; exact ⟨rfl, rfl, rfl, rfl, rfl⟩
  | nilFunc => simp [atomV] at h; subst h; exact ⟨rfl, rfl, rfl, rfl, rfl⟩
  | nilIface => simp [atomV] at h; subst h; exact ⟨rfl, rfl, rfl, rfl, rfl⟩
  | int => simp [atomV] at h; subst h; exact ⟨rfl, rfl, rfl, rfl⟩
  | bool => simp [atomV] at h; subst h; exact ⟨rfl, rfl, rfl, rfl⟩
  | string s => simp [atomV] at h; subst h; exact ⟨rfl, rfl, rfl, byteL_unb s, by rw [bst_unb]⟩
  | _ => simp [atomV] at h

theorem ev_ok {N : Nat} {B : Bz} {σ : St} {a : Act} {w : World} (hr : Rel N B σ a w) {x : Operand} {v : AV} (h : ev σ x = some v) :
    VR B v (a.eval x) ∧ ∀ i ∈ v.ids, (look i σ.heap).isSome = true := by
  cases x with
  | tmp t => exact ⟨(hr.env t v h).2, hr.closed t v h⟩
  | const c =>
    obtain ⟨h1, h2, h3, h4⟩ := atomV_ok (B := B) (show atomV c = some v from h)
    exact ⟨(VR_atom h2 h3).2 h4, fun i hi => by rw [h1] at hi; cases hi⟩
  | func f =>
    simp only [ev, Option.some.injEq] at h
    subst h
    exact ⟨(VR_atom rfl rfl).2 rfl, fun i hi => by simp [AV.ids] at hi⟩
  | global g =>
    simp only [ev, Option.some.injEq] at h
    subst h
    exact ⟨(VR_atom rfl rfl).2 (by simp only [AR, Act.eval, dyOff]), fun i hi => by simp [AV.ids] at hi⟩

/-! ### What is to be shown of an operation -/

def OpOK (P : Program) (N : Nat) (o : Oper) (σ : St) (ef : Eff) : Prop :=
  ∀ (B : Bz) (a : Act) (w : World), Rel N B σ a w → ∀ (K : Act → World → Prop) (Q : Exit → Act → World → Prop),
    (∀ B' u w', Post B σ w ef B' u w' → K (a.put o.dst u) w') → o.wp P a w K Q

theorem OpOK.of_value {P : Program} {N : Nat} {o : Oper} {σ : St} {ef : Eff}
    (h : ∀ B a w, Rel N B σ a w → ∃ B' u w', Post B σ w ef B' u w' ∧ (execOp a.eval o).run P w = .ok (.value u) w') : OpOK P N o σ ef := by
  intro B a w hr K Q hK
  obtain ⟨B', u, w', hp, hrun⟩ := h B a w hr
  unfold Oper.wp
  rw [hrun]
  exact hK B' u w' hp

theorem OpOK.of_skip {P : Program} {N : Nat} {o : Oper} {σ : St} {ef : Eff}
    (h : ∀ B a w, Rel N B σ a w → ∃ B' w', Post B σ w ef B' undef w' ∧ (execOp a.eval o).run P w = .ok .skip w') : OpOK P N o σ ef := by
  intro B a w hr K Q hK
  obtain ⟨B', w', hp, hrun⟩ := h B a w hr
  unfold Oper.wp
  rw [hrun]
  exact hK B' undef w' hp

/-- An operation that only yields a value. -/
theorem OpOK.of_pure {P : Program} {N : Nat} {o : Oper} {σ : St} {v : AV} {rd : List Nat}
    (h : ∀ B a w, Rel N B σ a w → ∃ u, VR B v u ∧ (∀ i ∈ v.ids, (look i σ.heap).isSome = true) ∧ (execOp a.eval o).run P w = .ok (.value u) w) : OpOK P N o σ ⟨v, [], rd⟩ :=
  .of_value fun B a w hr => by
    obtain ⟨u, hv, hi, hrun⟩ := h B a w hr
    exact ⟨B, u, w, Post.pure hr.heap hv hi, hrun⟩

/-- The same out of the value's own run. -/
theorem run_v {P : Program} {s : Sem Value} {u : Value} {w w' : World} (h : s.run P w = .ok u w') : (do pure (Next.value (← s)) : Sem Next).run P w = .ok (.value u) w' := by
  rw [Sem.run_bind, h]; rfl

theorem run_u {P : Program} {s : Sem Unit} {w w' : World} (h : s.run P w = .ok () w') : (do s; pure Next.skip : Sem Next).run P w = .ok .skip w' := by
  rw [Sem.run_bind, h]; rfl

/-! ### Arithmetic -/

section
variable {R : Type}

theorem intBin_ok {P : Program} {B : Bz} {t : TypeId} {op : BinOp} {k : IntKind} {x y : Int} {K : AV → Option R} {r : R} (hns : op ≠ .shl ∧ op ≠ .shr) (h : intBin op k x y K = some r) :
    ∃ v, K v = some r ∧ v.ids = [] ∧ ∃ u, VR B v u ∧ ∀ w, (binOp op t (.int k x) (.int k y)).run P w = .ok u w := by
  have hk : ¬ k ≠ k := fun h => h rfl
  cases op <;> simp only [intBin] at h <;>
    first
      | exact ⟨_, h, rfl, _, VR_mk_int B _ _, fun w => by unfold binOp; simp only [ne_eq, not_true_eq_false, if_false]; rfl⟩
      | exact ⟨_, h, rfl, _, VR_mk_bool B _, fun w => by unfold binOp; simp only [ne_eq, not_true_eq_false, if_false]; rfl⟩
      | (exact absurd rfl hns.1)
      | (exact absurd rfl hns.2)
      | (replace h := bif_eq_some h
         rcases h with ⟨_, h⟩ | ⟨hy, h⟩
         · cases h
         · have hy := of_decide_eq_false hy
           exact ⟨_, h, rfl, _, VR_mk_int B _ _, fun w => by unfold binOp; simp only [ne_eq, not_true_eq_false, if_false, Op.intDiv, if_neg hy]; rfl⟩)
      | cases h

theorem shiftBin_ok {P : Program} {B : Bz} {t : TypeId} {op : BinOp} {k k' : IntKind} {x y : Int} {K : AV → Option R} {r : R} (hop : op = .shl ∨ op = .shr) (h : shiftBin op k x y K = some r) :
    ∃ v, K v = some r ∧ v.ids = [] ∧ ∃ u, VR B v u ∧ ∀ w, (binOp op t (.int k x) (.int k' y)).run P w = .ok u w := by
  rcases hop with rfl | rfl <;> simp only [shiftBin] at h
  all_goals
    replace h := bif_eq_some h
    rcases h with ⟨_, h⟩ | ⟨hy, h⟩
    · cases h
    · have hy := of_decide_eq_false hy
      refine ⟨_, h, rfl, _, VR_mk_int B _ _, fun w => ?_⟩
      unfold binOp Op.shift
      simp only [if_neg hy]
      rfl

theorem run_eqItems_ints {P : Program} {e : TypeId} {k : IntKind} {inf : TypeInfo} (d : Nat) (he : P.underlying e = some (.int k)) (hi : P.info? e = some inf) (hs : inf.size = 1) (xs ys : List Int) (w : World) :
    ∀ (is : List Nat), (∀ i ∈ is, i < xs.length ∧ i < ys.length) →
      (Op.eqItems (d + 1) e (P.cellsOf e) (xs.map (Value.int k)).toArray (ys.map (Value.int k)).toArray is).run P w = .ok (is.all fun i => xs.getD i 0 == ys.getD i 0) w
  | [], _ => rfl
  | i :: is, h => by
    obtain ⟨h1, h2⟩ := h i (by simp)
    have hc : P.cellsOf e = 1 := by simp [Program.cellsOf, hi, hs]
    have hagg : (isAgg e).run P w = .ok false w := by
      unfold isAgg; rw [Sem.run_bind, run_underlying he w]; rfl
    have hp : ∀ (zs : List Int), i < zs.length → (part e (zs.map (Value.int k)).toArray (i * P.cellsOf e)).run P w = .ok (.int k (zs.getD i 0)) w := fun zs hz => by
      unfold part
      rw [Sem.run_bind, hagg]
      simp [hc, hz, List.getD]
    simp only [Op.eqItems, Sem.run_bind, hp xs h1, hp ys h2, Result.andThen_ok, run_equalIn_int w d e k k _ _ he, List.all_cons]
    have ih := run_eqItems_ints d he hi hs xs ys w is (fun i hi => h i (by simp [hi]))
    cases hb : (xs.getD i 0 == ys.getD i 0)
    · simp
    · simp [ih]

theorem all_getD_eq (xs ys : List Int) (h : xs.length = ys.length) : ((List.range xs.length).all fun i => xs.getD i 0 == ys.getD i 0) = decide (xs = ys) := by
  rw [Bool.eq_iff_iff, List.all_eq_true, decide_eq_true_iff]
  constructor
  · intro hh
    apply List.ext_getElem h
    intro i h1 h2
    have := hh i (by simpa using h1)
    simpa [List.getD, h1, h2] using this
  · rintro rfl i _
    simp

theorem VR_arr {B : Bz} {k : IntKind} {n : Nat} {xs : List Int} {x : Value} (h : VR B (.arr k n xs) x) : xs.length = n ∧ x = .agg (xs.map (Value.int k)).toArray := by
  have h := VR0_of_VR h rfl
  simp only [VR0, AV.isAgg, if_true] at h
  obtain ⟨cs, ⟨h1, h2⟩, h3⟩ := h
  subst h2
  exact ⟨h1, h3⟩

theorem VR_mk_arr (B : Bz) (k : IntKind) {n : Nat} {xs : List Int} (h : xs.length = n) : VR B (.arr k n xs) (.agg (xs.map (Value.int k)).toArray) :=
  VR_of_CR_agg ⟨h, rfl⟩ rfl

theorem bst_inj {a b : List Int} (ha : byteL a) (hb : byteL b) : (bst a = bst b) ↔ a = b :=
  ⟨fun h => by rw [← unb_bst ha, ← unb_bst hb, h], fun h => by rw [h]⟩

theorem bst_eq {a b : List Int} (ha : byteL a) (hb : byteL b) : ((bst a).toList == (bst b).toList) = decide (a = b) := by
  rw [Bool.eq_iff_iff, beq_iff_eq, decide_eq_true_iff, ByteArray.toList_eq, ByteArray.toList_eq, ← bst_inj ha hb]
  constructor
  · intro h
    have : (bst a).data = (bst b).data := Array.toList_inj.1 h
    cases hx : bst a; cases hy : bst b
    rw [hx, hy] at this
    simp only at this
    rw [this]
  · intro h; rw [h]

theorem bst_append (a b : List Int) : bst a ++ bst b = bst (a ++ b) := by
  unfold bst
  rw [ByteArray.mk_append_mk, List.map_append]

theorem byteL_append {a b : List Int} (ha : byteL a) (hb : byteL b) : byteL (a ++ b) := fun y hy => (List.mem_append.1 hy).elim (ha y) (hb y)

/-! ### Structs, compared part by part -/

/-- The cells of a datum without rows. -/
def cellsT : (t : Ty) → t.den → List Value
  | .int k, n => [.int k n]
  | .bool, b => [.bool b]
  | .str, s => [.string (bst s)]
  | .arr k _, xs => List.map (Value.int k) xs
  | .opq, v => [v]
  | .one a, x => cellsT a x
  | .pair a b, x => cellsT a x.1 ++ cellsT b x.2
  | .row _ _, _ => []

/-- Its arrays have their lengths. -/
def wfT : (t : Ty) → t.den → Prop
  | .int _, _ => True
  | .bool, _ => True
  | .str, s => byteL s
  | .arr _ n, xs => List.length xs = n
  | .opq, v => Value.oneCell' v = true
  | .one a, x => wfT a x
  | .pair a b, x => wfT a x.1 ∧ wfT b x.2
  | .row _ _, _ => False

def noRow : Ty → Bool
  | .one a => noRow a
  | .pair a b => noRow a && noRow b
  | .row _ _ => false
  | _ => true

theorem length_cellsT : ∀ (t : Ty) (x : t.den), wfT t x → (cellsT t x).length = t.size
  | .int _, _, _ => rfl
  | .bool, _, _ => rfl
  | .str, _, _ => rfl
  | .arr k _, xs, h => (List.length_map (f := Value.int k) (as := xs)).trans h
  | .opq, _, _ => rfl
  | .one a, x, h => length_cellsT a x h
  | .pair a b, x, h => by
    simp only [cellsT, Ty.size, List.length_append, length_cellsT a x.1 h.1, length_cellsT b x.2 h.2]
  | .row _ _, _, h => h.elim

theorem DR_flat {z : Frz} : ∀ (t : Ty) (x : t.den) (cs : List Value), noRow t = true → DR z t x cs → wfT t x ∧ cs = cellsT t x
  | .int _, _, _, _, h => ⟨trivial, h⟩
  | .bool, _, _, _, h => ⟨trivial, h⟩
  | .str, _, _, _, h => h
  | .arr _ _, _, _, _, h => h
  | .opq, _, _, _, h => h
  | .one a, x, cs, hn, h => DR_flat a x cs hn h
  | .pair a b, x, cs, hn, ⟨c1, c2, e, h1, h2⟩ => by
    simp only [noRow, Bool.and_eq_true] at hn
    obtain ⟨p1, p2⟩ := DR_flat a x.1 c1 hn.1 h1
    obtain ⟨q1, q2⟩ := DR_flat b x.2 c2 hn.2 h2
    exact ⟨⟨p1, q1⟩, by rw [e, p2, q2]; rfl⟩

/-- A datum as a value. -/
def valT (t : Ty) (x : t.den) : Value := if (enc t x).isAgg = true then .agg (cellsT t x).toArray else (cellsT t x).headD .nilFunc

theorem VR_valT {B : Bz} {t : Ty} {x : t.den} {v : Value} (hn : noRow t = true) (h : VR B (enc t x) v) : wfT t x ∧ v = valT t x := by
  have h := VR0_of_VR h (by cases t <;> rfl)
  unfold VR0 at h
  unfold valT
  split at h
  · rename_i ha
    obtain ⟨cs, h1, h2⟩ := h
    obtain ⟨h3, rfl⟩ := DR_flat t x cs hn ((CR_enc t x cs).1 h1)
    rw [if_pos ha]
    exact ⟨h3, h2⟩
  · rename_i ha
    have hc := DR_flat t x _ hn ((CR_enc t x _).1 (CR_of_AR h))
    rw [if_neg ha, ← hc.2]
    exact ⟨hc.1, rfl⟩

theorem part_at {P : Program} {t : TypeId} {i : TypeInfo} {d : TypeDesc} {ty : Ty} {x : ty.den} {c1 c3 : List Value} (hi : P.info? t = some i) (hd : P.underlying t = some d) (hg : (enc ty x).isAgg = d.isRow) (hs : i.size = ty.size) (hw : wfT ty x) (w : World) :
    (part t (c1 ++ cellsT ty x ++ c3).toArray c1.length).run P w = .ok (valT ty x) w := by
  have hl := length_cellsT ty x hw
  have hagg : (isAgg t).run P w = .ok d.isRow w := by
    unfold isAgg; rw [Sem.run_bind, run_underlying hd w]; cases d <;> rfl
  have hso : (sizeOf t).run P w = .ok i.size w := by simp [sizeOf, typeInfo, hi]
  unfold part valT
  rw [Sem.run_bind, hagg, hg]
  cases hr : d.isRow with
  | true =>
    simp only [Result.andThen_ok, if_true, Sem.run_bind, hso, Sem.run_pure]
    congr 2
    apply Array.toList_inj.1
    rw [Array.toList_extract, List.extract_eq_take_drop]
    simp [hs, hl, List.take_append]
  | false =>
    rw [hr] at hg
    have h1 : ty.size = 1 := by
      cases ty <;> first | rfl | (simp [enc, AV.isAgg] at hg)
    match hc : cellsT ty x, hl with
    | [v], _ =>
      simp
    | [], hl => simp at hl; omega
    | _ :: _ :: _, hl => simp at hl; omega

theorem run_fieldsT {P : Program} {w : World} {d : Nat} {rec : TypeId → Ty → Bool} (hrec : ∀ t ty, rec t ty = true → (∃ i, P.info? t = some i ∧ i.size = ty.size) ∧ (∃ ds, P.underlying t = some ds ∧ ∀ x, (enc ty x).isAgg = ds.isRow) ∧ ∀ x y, wfT ty x → wfT ty y → (Op.equalIn d t (valT ty x) (valT ty y)).run P w = .ok (eqDen ty x y) w) :
    ∀ (fs : List Field) (off : Nat) (ty : Ty) (x y : ty.den) (p q : List Value), eqFieldsT rec fs off ty = true → p.length = off → q.length = off → wfT ty x → wfT ty y →
      (Op.eqFields d (p ++ cellsT ty x).toArray (q ++ cellsT ty y).toArray fs).run P w = .ok (eqDen ty x y) w
  | [], _, _, _, _, _, _, h, _, _, _, _ => by simp [eqFieldsT] at h
  | [f], off, ty, x, y, p, q, h, hp, hq, hx, hy => by
    simp only [eqFieldsT, Bool.and_eq_true] at h
    obtain ⟨⟨h1, h2⟩, h3⟩ := h
    have h2 := Nat.eq_of_beq_eq_true h2
    have h1 : f.name ≠ "_" := by simpa using h1
    obtain ⟨⟨i, hi, hs⟩, ⟨ds, hds, hag⟩, heq⟩ := hrec _ _ h3
    have e1 := part_at (c1 := p) (c3 := []) hi hds (hag x) hs hx w
    have e2 := part_at (c1 := q) (c3 := []) hi hds (hag y) hs hy w
    rw [List.append_nil, hp, ← h2] at e1
    rw [List.append_nil, hq, ← h2] at e2
    simp only [Op.eqFields, if_pos h1, Sem.run_bind, e1, e2, Result.andThen_ok, heq x y hx hy]
    cases eqDen ty x y <;> simp
  | f :: g :: r, off, ty, x, y, p, q, h, hp, hq, hx, hy => by
    cases ty <;> simp only [eqFieldsT, Bool.false_eq_true] at h
    rename_i a b
    simp only [Bool.and_eq_true] at h
    obtain ⟨⟨⟨h1, h2⟩, h3⟩, h4⟩ := h
    have h2 := Nat.eq_of_beq_eq_true h2
    have h1 : f.name ≠ "_" := by simpa using h1
    obtain ⟨⟨i, hi, hs⟩, ⟨ds, hds, hag⟩, heq⟩ := hrec _ _ h3
    have e1 := part_at (c1 := p) (c3 := cellsT b x.2) hi hds (hag x.1) hs hx.1 w
    have e2 := part_at (c1 := q) (c3 := cellsT b y.2) hi hds (hag y.1) hs hy.1 w
    rw [List.append_assoc, hp, ← h2] at e1
    rw [List.append_assoc, hq, ← h2] at e2
    have ih := run_fieldsT hrec (g :: r) (off + a.size) b x.2 y.2 (p ++ cellsT a x.1) (q ++ cellsT a y.1) h4 (by rw [List.length_append, hp, length_cellsT a _ hx.1]) (by rw [List.length_append, hq, length_cellsT a _ hy.1]) hx.2 hy.2
    rw [List.append_assoc, List.append_assoc] at ih
    rw [Op.eqFields, if_pos h1, Sem.run_bind]
    simp only [cellsT, e1, Result.andThen_ok]
    rw [Sem.run_bind, e2]
    simp only [Result.andThen_ok]
    rw [Sem.run_bind, heq x.1 y.1 hx.1 hy.1]
    simp only [Result.andThen_ok, eqDen]
    cases eqDen a x.1 y.1
    · simp
    · simpa using ih

theorem eqFields_noRow {rec : TypeId → Ty → Bool} (hrec : ∀ t ty, rec t ty = true → noRow ty = true) : ∀ (fs : List Field) (off : Nat) (ty : Ty), eqFieldsT rec fs off ty = true → noRow ty = true
  | [], _, _, h => by simp [eqFieldsT] at h
  | [f], off, ty, h => by
    simp only [eqFieldsT, Bool.and_eq_true] at h
    exact hrec _ _ h.2
  | f :: g :: r, off, ty, h => by
    cases ty <;> simp only [eqFieldsT, Bool.false_eq_true] at h
    rename_i a b
    simp only [Bool.and_eq_true] at h
    simp only [noRow, Bool.and_eq_true]
    exact ⟨hrec _ _ h.1.2, eqFields_noRow hrec (g :: r) _ b h.2⟩

theorem eqTyIs_noRow {P : Program} : ∀ (n : Nat) (t : TypeId) (ty : Ty), eqTyIs P n t ty = true → noRow ty = true
  | 0, _, _, h => by simp [eqTyIs] at h
  | n + 1, t, ty, h => by
    cases ty with
    | one a =>
      unfold eqTyIs at h
      split at h
      · simp only [Bool.and_eq_true] at h
        replace h := h.2
        split at h <;> first | cases h | skip
        simp only [Bool.and_eq_true] at h
        replace h := h.2
        split at h
        · exact eqFields_noRow (eqTyIs_noRow (P := P) n) _ _ a h
        · cases h
      · cases h
    | pair a b =>
      unfold eqTyIs at h
      split at h
      · simp only [Bool.and_eq_true] at h
        replace h := h.2
        split at h <;> first | cases h | skip
        simp only [Bool.and_eq_true] at h
        replace h := h.2
        split at h
        · exact eqFields_noRow (eqTyIs_noRow (P := P) n) _ _ (.pair a b) h
        · cases h
      · cases h
    | row e a =>
      unfold eqTyIs at h
      split at h
      · simp only [Bool.and_eq_true] at h
        replace h := h.2
        split at h <;> simp at h
      · cases h
    | _ => rfl

theorem eqTyIs_ok {P : Program} {w : World} : ∀ (n : Nat) (t : TypeId) (ty : Ty), eqTyIs P n t ty = true → (∃ i, P.info? t = some i ∧ i.size = ty.size) ∧ (∃ ds, P.underlying t = some ds ∧ ∀ x, (enc ty x).isAgg = ds.isRow) ∧
    ∀ D x y, wfT ty x → wfT ty y → (Op.equalIn (D + 2 + n) t (valT ty x) (valT ty y)).run P w = .ok (eqDen ty x y) w
  | 0, _, _, h => by simp [eqTyIs] at h
  | n + 1, t, ty, h => by
    unfold eqTyIs at h
    split at h
    · rename_i inf hi
      simp only [Bool.and_eq_true] at h
      obtain ⟨hs, h⟩ := h
      replace hs := Nat.eq_of_beq_eq_true hs
      refine ⟨⟨inf, hi, hs⟩, ?_⟩
      clear hs
      split at h
      · rename_i k hu
        cases ty <;> simp only [Bool.false_eq_true] at h
        rename_i k'
        have h := of_decide_eq_true h
        subst h
        exact ⟨⟨_, hu, fun _ => rfl⟩, fun D x y hx hy => run_equalIn_int w _ t k' k' x y hu⟩
      · rename_i hu
        cases ty <;> simp only [Bool.false_eq_true] at h
        exact ⟨⟨_, hu, fun _ => rfl⟩, fun D x y hx hy => run_equalIn_bool' w _ t x y hu⟩
      · rename_i hu
        cases ty <;> simp only [Bool.false_eq_true] at h
        refine ⟨⟨_, hu, fun _ => rfl⟩, fun D x y hx hy => ?_⟩
        have e := run_equalIn_string (P := P) w (D + 2 + n) t (bst x) (bst y) hu
        rw [bst_eq hx hy] at e
        exact e
      · rename_i m e hu
        cases ty <;> simp only [Bool.false_eq_true] at h
        · rename_i k n'
          simp only [Bool.and_eq_true] at h
          obtain ⟨h1, h⟩ := h
          have h1 := Nat.eq_of_beq_eq_true h1
          subst h1
          split at h
          · rename_i k' he
            simp only [Bool.and_eq_true] at h
            obtain ⟨h2, h⟩ := h
            have h2 := of_decide_eq_true h2
            subst h2
            split at h
            · rename_i ie hie
              have h3 := Nat.eq_of_beq_eq_true h
              refine ⟨⟨_, hu, fun _ => rfl⟩, fun D xs ys hx hy => ?_⟩
              have hx : List.length xs = n' := hx
              have hy : List.length ys = n' := hy
              show (Op.equalIn (D + 2 + n + 1) t (.agg (List.map (Value.int k') xs).toArray) (.agg (List.map (Value.int k') ys).toArray)).run P w = _
              rw [run_equalIn_array w _ _ _ hu hie, show D + 2 + n = (D + 1 + n) + 1 by omega, run_eqItems_ints (D + 1 + n) he hie h3 xs ys w (List.range n') (fun i hi => by have := List.mem_range.1 hi; omega), ← hx, all_getD_eq xs ys (by omega)]
              rfl
            · cases h
          · cases h
      · rename_i fs hu
        simp only [Bool.and_eq_true, Bool.not_eq_true'] at h
        obtain ⟨hst, h⟩ := h
        have hfs : P.fieldsOf t = fs := by simp [Program.fieldsOf, hu]
        have IH (D : Nat) (t : TypeId) (ty : Ty) (h : eqTyIs P n t ty = true) : (∃ i, P.info? t = some i ∧ i.size = ty.size) ∧ (∃ ds, P.underlying t = some ds ∧ ∀ x, (enc ty x).isAgg = ds.isRow) ∧ ∀ x y, wfT ty x → wfT ty y → (Op.equalIn (D + 2 + n) t (valT ty x) (valT ty y)).run P w = .ok (eqDen ty x y) w := by
          obtain ⟨h1, h2, h3⟩ := eqTyIs_ok (w := w) n t ty h
          exact ⟨h1, h2, h3 D⟩
        cases ty <;> simp only [Bool.false_eq_true] at h
        · rename_i a
          split at h
          · rename_i f hf
            refine ⟨⟨_, hu, fun _ => rfl⟩, fun D x y hx hy => ?_⟩
            have := run_fieldsT (w := w) (d := D + 2 + n) (IH D) [f] 0 a x y [] [] h rfl rfl hx hy
            show (Op.equalIn (D + 2 + n + 1) t (.agg (cellsT a x).toArray) (.agg (cellsT a y).toArray)).run P w = _
            rw [run_equalIn_struct w _ t _ _ (by rw [hfs]; exact hu) hst, hfs, hf]
            exact this
          · cases h
        · rename_i a b
          split at h
          · rename_i f g r hf
            refine ⟨⟨_, hu, fun _ => rfl⟩, fun D x y hx hy => ?_⟩
            have := run_fieldsT (w := w) (d := D + 2 + n) (IH D) (f :: g :: r) 0 (.pair a b) x y [] [] h rfl rfl hx hy
            show (Op.equalIn (D + 2 + n + 1) t (.agg (cellsT (.pair a b) x).toArray) (.agg (cellsT (.pair a b) y).toArray)).run P w = _
            rw [run_equalIn_struct w _ t _ _ (by rw [hfs]; exact hu) hst, hfs, hf]
            exact this
          · cases h
      · cases h
    · cases h

theorem eqA_ok {P : Program} {B : Bz} {t : TypeId} {x y : AV} {c : Bool} {u v : Value} (h : eqA P t x y = some c) (hx : VR B x u) (hy : VR B y v) (w : World) :
    (∀ op a b, (eqGuard op t a b u v).run P w = .ok () w) ∧ (binOp .eql t u v).run P w = .ok (.bool c) w ∧ (binOp .neq t u v).run P w = .ok (.bool (!c)) w := by
  unfold eqA at h
  split at h
  · rename_i hu
    split at h
    · cases h
      rw [VR_bool hx, VR_bool hy]
      have e := run_equalIn_bool' (P := P) w 9999 t
      refine ⟨fun op a b => by cases op <;> rfl, ?_, ?_⟩
      · show (do pure (.bool (← Op.equal t _ _)) : Sem Value).run P w = _
        rw [Sem.run_bind, show Op.equal = Op.equalIn (9999 + 1) from rfl, e _ _ hu]; rfl
      · show (do pure (.bool (!(← Op.equal t _ _))) : Sem Value).run P w = _
        rw [Sem.run_bind, show Op.equal = Op.equalIn (9999 + 1) from rfl, e _ _ hu]; rfl
    · cases h
  · rename_i n e hu
    split at h
    · rename_i k he
      split at h
      · rename_i inf hi
        split at h
        · rename_i k1 n1 xs k2 n2 ys
          replace h := bif_eq_some h
          rcases h with ⟨hc, h⟩ | ⟨_, h⟩
          · simp only [Bool.and_eq_true, Bool.not_eq_true'] at hc
            obtain ⟨⟨⟨⟨⟨h1, h2⟩, h3⟩, h4⟩, h5⟩, h6⟩ := hc
            have h1 := Nat.eq_of_beq_eq_true h1; have h2 := of_decide_eq_true h2; have h3 := of_decide_eq_true h3
            have h4 := Nat.eq_of_beq_eq_true h4; have h5 := Nat.eq_of_beq_eq_true h5
            subst h2 h3 h4 h5
            cases h
            obtain ⟨lx, rfl⟩ := VR_arr hx
            obtain ⟨ly, rfl⟩ := VR_arr hy
            have key : (Op.equalIn (9999 + 1) t (.agg (xs.map (Value.int k2)).toArray) (.agg (ys.map (Value.int k2)).toArray)).run P w = .ok (decide (xs = ys)) w := by
              rw [run_equalIn_array w 9999 _ _ hu hi, run_eqItems_ints 9998 he hi h1 xs ys w (List.range n2) (fun i hi => by have := List.mem_range.1 hi; omega), ← lx, all_getD_eq xs ys (by omega)]
            refine ⟨fun op a b => run_eqGuard_agg w op t a b _ _ h6, ?_, ?_⟩
            · show (do pure (.bool (← Op.equal t _ _)) : Sem Value).run P w = _
              rw [Sem.run_bind, show Op.equal = Op.equalIn (9999 + 1) from rfl, key]; rfl
            · show (do pure (.bool (!(← Op.equal t _ _))) : Sem Value).run P w = _
              rw [Sem.run_bind, show Op.equal = Op.equalIn (9999 + 1) from rfl, key]; rfl
          · cases h
        · cases h
      · cases h
    · cases h
  · rename_i e hu
    split at h
    · rename_i p
      cases h
      rw [VR_nilp hy]
      have key0 : ∀ (d : Nat) (q : Option Addr), (Op.equalIn (d + 1) t (.pointer q) (.pointer none)).run P w = .ok q.isNone w := fun d q => by
        cases q <;> simp [Op.equalIn, run_underlying hu]
      have key := key0 9999
      have hq : ∃ q, u = .pointer q ∧ q.isNone = p.isNone := by
        cases p with
        | none => exact ⟨none, VR_nilp hx, rfl⟩
        | some p => obtain ⟨b, o, _, e⟩ := VR_ptr hx; exact ⟨_, e, rfl⟩
      obtain ⟨q, rfl, hq⟩ := hq
      refine ⟨fun op a b => by cases op <;> rfl, ?_, ?_⟩
      · show (do pure (.bool (← Op.equal t _ _)) : Sem Value).run P w = _
        rw [Sem.run_bind, show Op.equal = Op.equalIn (9999 + 1) from rfl, key, hq]; rfl
      · show (do pure (.bool (!(← Op.equal t _ _))) : Sem Value).run P w = _
        rw [Sem.run_bind, show Op.equal = Op.equalIn (9999 + 1) from rfl, key, hq]; rfl
    · cases h
  · split at h
    · cases h
      obtain ⟨ba, rfl⟩ := VR_str hx
      obtain ⟨bb, rfl⟩ := VR_str hy
      refine ⟨fun op a b => by cases op <;> rfl, ?_, ?_⟩
      · rw [binOp_string_eql, bst_eq ba bb]; rfl
      · rw [binOp_string_neq, bst_eq ba bb]; rfl
    · cases h
  · rename_i fs hu
    split at h
    · rename_i ty hty
      replace h := bif_eq_some h
      rcases h with ⟨hc, h⟩ | ⟨_, h⟩
      · simp only [Bool.and_eq_true, Bool.not_eq_true'] at hc
        split at h
        · rename_i a ha
          split at h
          · rename_i b hb
            cases h
            have ha := dec_enc ty x a ha
            have hb := dec_enc ty y b hb
            subst ha hb
            have hno := eqTyIs_noRow 8 t ty hc.1.2
            obtain ⟨wa, rfl⟩ := VR_valT hno hx
            obtain ⟨wb, rfl⟩ := VR_valT hno hy
            obtain ⟨_, ⟨ds, hds, hrow⟩, heq⟩ := eqTyIs_ok (w := w) 8 t ty hc.1.2
            have key : (Op.equalIn (9999 + 1) t (valT ty a) (valT ty b)).run P w = .ok (eqDen ty a b) w := heq 9990 a b wa wb
            have hagg : ∀ z, valT ty z = .agg (cellsT ty z).toArray := fun z => by
              unfold valT
              rw [if_pos (by rw [hrow z]; rw [hu] at hds; cases hds; rfl)]
            rw [hagg a, hagg b] at key ⊢
            refine ⟨fun op u v => run_eqGuard_agg w op t u v _ _ hc.2, ?_, ?_⟩
            · show (do pure (.bool (← Op.equal t _ _)) : Sem Value).run P w = _
              rw [Sem.run_bind, show Op.equal = Op.equalIn (9999 + 1) from rfl, key]; rfl
            · show (do pure (.bool (!(← Op.equal t _ _))) : Sem Value).run P w = _
              rw [Sem.run_bind, show Op.equal = Op.equalIn (9999 + 1) from rfl, key]; rfl
          · cases h
        · cases h
      · cases h
    · cases h
  · cases h

theorem eqA_ids {P : Program} {t : TypeId} {x y : AV} {c : Bool} (h : eqA P t x y = some c) : ∀ k n, x ≠ .int k n := by
  intro k n e
  subst e
  unfold eqA at h
  split at h
  case h_5 =>
    split at h
    · simp [AV.isAgg] at h
    · cases h
  all_goals (try cases h) <;> (split at h <;> (try cases h)) <;> (split at h <;> (try cases h)) <;> (split at h <;> cases h)

theorem binK_ok {P : Program} {B : Bz} {op : BinOp} {t : TypeId} {x y : AV} {a b : Operand} {u v : Value} {K : AV → Option R} {r : R} (hx : VR B x u) (hy : VR B y v) (h : binK P op t x y K = some r) (w : World) :
    ∃ z, K z = some r ∧ z.ids = [] ∧ ∃ q, VR B z q ∧ (do eqGuard op t a b u v; binOp op t u v : Sem Value).run P w = .ok q w := by
  unfold binK at h
  split at h
  · rename_i k m
    split at h
    · rename_i k' n
      rw [VR_int hx, VR_int hy]
      have hg : (eqGuard op t a b (.int k m) (.int k' n)).run P w = .ok () w := by cases op <;> rfl
      split at h
      · obtain ⟨z, h1, h2, q, h3, h4⟩ := shiftBin_ok (P := P) (B := B) (t := t) (k' := k') (.inl rfl) h
        exact ⟨z, h1, h2, q, h3, by rw [Sem.run_bind, hg]; exact h4 w⟩
      · obtain ⟨z, h1, h2, q, h3, h4⟩ := shiftBin_ok (P := P) (B := B) (t := t) (k' := k') (.inr rfl) h
        exact ⟨z, h1, h2, q, h3, by rw [Sem.run_bind, hg]; exact h4 w⟩
      · rename_i hn1 hn2
        replace h := bif_eq_some h
        rcases h with ⟨hk, h⟩ | ⟨_, h⟩
        · have hk := of_decide_eq_true hk
          subst hk
          obtain ⟨z, h1, h2, q, h3, h4⟩ := intBin_ok (P := P) (B := B) (t := t) ⟨fun e => hn1 e, fun e => hn2 e⟩ h
          exact ⟨z, h1, h2, q, h3, by rw [Sem.run_bind, hg]; exact h4 w⟩
        · cases h
    · cases h
  · split at h
    · split at h
      · replace h := bif_eq_some h
        rcases h with ⟨hf, h⟩ | ⟨_, h⟩
        · have hf := of_decide_eq_true hf
          obtain ⟨ba, rfl⟩ := VR_str hx
          obtain ⟨bb, rfl⟩ := VR_str hy
          refine ⟨_, h, rfl, _, VR_mk_str B (byteL_append ba bb), ?_⟩
          rw [Sem.run_bind, show (eqGuard .add t a b _ _).run P w = .ok () w from rfl]
          simp only [Result.andThen_ok]
          rw [binOp_string_add, run_string_add_sum w _ _ (by rw [size_bst, size_bst]; omega), bst_append]
        · cases h
      · split at h
        · rename_i c hc
          obtain ⟨h1, h2, _⟩ := eqA_ok hc hx hy w
          exact ⟨_, h, rfl, _, VR_mk_bool B c, by rw [Sem.run_bind, h1]; exact h2⟩
        · cases h
      · split at h
        · rename_i c hc
          obtain ⟨h1, _, h2⟩ := eqA_ok hc hx hy w
          exact ⟨_, h, rfl, _, VR_mk_bool B _, by rw [Sem.run_bind, h1]; exact h2⟩
        · cases h
      · cases h
    · cases h
  · split at h
    · split at h
      · rename_i c hc
        obtain ⟨h1, h2, _⟩ := eqA_ok hc hx hy w
        exact ⟨_, h, rfl, _, VR_mk_bool B c, by rw [Sem.run_bind, h1]; exact h2⟩
      · cases h
    · split at h
      · rename_i c hc
        obtain ⟨h1, _, h2⟩ := eqA_ok hc hx hy w
        exact ⟨_, h, rfl, _, VR_mk_bool B _, by rw [Sem.run_bind, h1]; exact h2⟩
      · cases h
    · cases h

theorem unK_ok {P : Program} {B : Bz} {op : UnOp} {x : AV} {u : Value} {K : AV → Option R} {r : R} (hx : VR B x u) (h : unK op x K = some r) (w : World) :
    ∃ z, K z = some r ∧ z.ids = [] ∧ ∃ q, VR B z q ∧ (Op.unary op u).run P w = .ok q w := by
  unfold unK at h
  split at h
  · split at h
    · rw [VR_int hx]; exact ⟨_, h, rfl, _, VR_mk_int B _ _, rfl⟩
    · cases h
  · split at h
    · rw [VR_int hx]; exact ⟨_, h, rfl, _, VR_mk_int B _ _, rfl⟩
    · cases h
  · split at h
    · rw [VR_bool hx]; exact ⟨_, h, rfl, _, VR_mk_bool B _, rfl⟩
    · cases h
  · cases h

/-! ### The cells of rows -/

/-- What rows are in the world, whoever owns them. -/
theorem rows_cells {B : Bz} {i : Nat} {w : World} {m : Nat} {e : TypeId} {t : Ty} {xs : List t.den} (fz : ∀ b o u, B.z b o = some u → w.cell? ⟨b, o, none⟩ = some u) (h : EntR B i w (.rows m e t xs)) :
    ∃ a cap cs, B i = .slice a xs.length cap ∧ DRs B.z t xs cs ∧ (a = none → cs = []) ∧ ∀ ad, a = some ad → ∀ j u, cs[j]? = some u → w.cell? (ad.add j) = some u := by
  have fro : ∀ {v : Value}, FzR B.z (DR B.z t) xs v → ∃ a cap cs, v = .slice a xs.length cap ∧ DRs B.z t xs cs ∧ (a = none → cs = []) ∧ ∀ ad, a = some ad → ∀ j u, cs[j]? = some u → w.cell? (ad.add j) = some u := fun {v} ⟨a, k, cs, h1, _, h2, h3⟩ => by
    refine ⟨a, _, cs, h1, h2, fun ha => ?_, fun ad ha j u hj => ?_⟩
    · cases cs with
      | nil => rfl
      | cons c cs =>
        obtain ⟨bl, o, h4, _⟩ := h3 0 c rfl
        rw [ha] at h4; cases h4
    · obtain ⟨bl, o, h4, h5⟩ := h3 j u hj
      rw [ha] at h4; cases h4
      rw [Addr.add_mid]
      exact fz _ _ _ h5
  match m, h with
  | 0, h => exact fro h
  | 1, h => exact fro h.1
  | m + 2, ⟨cs, h1, hl, h2⟩ =>
    rcases h2 with h2 | ⟨g, o, cap, cur, e1, r⟩
    · refine ⟨none, 0, cs, by rw [h2.1, h2.2], h1, fun _ => List.eq_nil_of_length_eq_zero (by rw [hl, h2.2, Nat.zero_mul]), fun ad ha => by cases ha⟩
    · refine ⟨_, cap, cs, e1, h1, fun ha => (by cases ha), fun ad ha j u hj => ?_⟩
      cases ha
      rw [Addr.add_mid]
      exact OwnRow.cell (w := w) (e := e) (size := t.size) (n := xs.length) ⟨hl, .inr ⟨g, o, cap, cur, e1, r⟩⟩ (by rw [e1]; rfl) j u hj

theorem VR_vec' {B : Bz} {v : Nat} {x : Value} (h : VR B (.vec v) x) : x = B v := ((VR_atom rfl rfl).1 h).1

theorem DRs_ints {z : Frz} {k : IntKind} : ∀ {xs : List Int} {cs : List Value}, @RsR Int (DR z (.int k)) xs cs ↔ cs = xs.map (Value.int k)
  | [], cs => Iff.rfl
  | x :: xs, cs => by
    constructor
    · rintro ⟨c1, c2, rfl, h1, h2⟩
      rw [show c1 = [Value.int k x] from h1, DRs_ints.1 h2]; rfl
    · intro h
      exact ⟨[.int k x], xs.map (Value.int k), h, rfl, DRs_ints.2 rfl⟩

theorem ints_at {k : IntKind} (l : List Int) {j : Nat} {y : Int} (h : l[j]? = some y) : (l.map (Value.int k))[j]? = some (.int k y) := by
  rw [List.getElem?_map, h]; rfl

theorem ints_nil {k : IntKind} {l : List Int} (h : l.map (Value.int k) = []) : l = [] := by simpa using h

/-- A part of an array as a slice. -/
theorem asl_cells {B : Bz} {H : Heap} {w : World} (hh : HeapR B H w) {p : Ptr} {n len : Nat} {u : Value} {v : AV} {k : IntKind} {m : Nat} {xs : List Int} (hx : VR B (.asl p n len) u) (hp : p.dys = []) (hl : look p.id H = some (.cell v))
    (hn : navA v p.st = some (k, m, xs)) (hle : n ≤ m) :
    ∃ b cs ty, u = .slice (some ⟨b, p.st, none⟩) n len ∧ B p.id = .pointer (some ⟨b, 0, none⟩) ∧ w.heap[b]? = some (.cells cs ty (0, 0)) ∧ CR B v cs.toList ∧ (List.take n xs).length = n ∧
      ∀ j y, (List.take n xs)[j]? = some y → w.cell? ((⟨b, p.st, none⟩ : Addr).add j) = some (.int k y) := by
  obtain ⟨b, o, h1, h2⟩ := (VR_atom rfl rfl).1 hx
  obtain ⟨b', cs, ty, h3, h4, h5⟩ := hh.ent _ _ hl
  rw [h3] at h1
  simp only [baseOf, Option.some.injEq, Addr.mk.injEq] at h1
  obtain ⟨rfl, rfl, _⟩ := h1
  obtain ⟨h6, h7, h8⟩ := navA_ok h5 hn
  refine ⟨b', cs, ty, by rw [h2, hp]; simp [dyOff], h3, h4, h5, by simp; omega, fun j y hj => ?_⟩
  rw [List.getElem?_take] at hj
  split at hj
  · rename_i hjn
    have := h8 j (by omega)
    rw [Addr.add_mid]
    simp only [World.cell?, h4, Nat.zero_add, Option.isSome_none, Bool.false_eq_true, if_false]
    have hy : xs.getD j 0 = y := by simp [List.getD, hj]
    rw [hy] at this
    rw [← this]; simp
  · cases hj

theorem bytesK_ok {P : Program} {B : Bz} {H : Heap} {w : World} (hh : HeapR B H w) {e : TypeId} {x : AV} {u : Value} {K : List Int → Option R} {r : R} (hx : VR B x u) (h : bytesK P H e x K = some r) :
    ∃ xs, K xs = some r ∧ P.underlying e = some (.int .u8) ∧ ∃ a c, u = .slice a xs.length c ∧ (a = none → xs = []) ∧ ∀ ad, a = some ad → ∀ j y, xs[j]? = some y → w.cell? (ad.add j) = some (.int .u8 y) := by
  unfold bytesK at h
  split at h
  · rename_i he
    split at h
    · exact ⟨[], h, he, none, 0, VR_nils hx, fun _ => rfl, fun ad ha => by cases ha⟩
    · rename_i v
      split at h
      · rename_i m e' xs hl
        replace h := bif_eq_some h
        rcases h with ⟨_, h⟩ | ⟨_, h⟩
        · obtain ⟨a, cap, cs, h1, h2, h3, h4⟩ := rows_cells hh.fz (hh.ent _ _ hl)
          have hcs := (DRs_ints (k := .u8)).1 h2
          subst hcs
          refine ⟨xs, h, he, a, cap, by rw [VR_vec' hx, h1]; rfl, fun ha => ints_nil (h3 ha), fun ad ha j y hj => h4 ad ha j _ (ints_at (k := .u8) xs hj)⟩
        · cases h
      · cases h
    · rename_i p n len
      split at h
      · rename_i hp
        split at h
        · rename_i v hl
          split at h
          · rename_i m xs hn
            replace h := bif_eq_some h
            rcases h with ⟨hle, h⟩ | ⟨_, h⟩
            · obtain ⟨b, cs, ty, h1, _, _, _, h2, h3⟩ := asl_cells hh hx hp hl hn (Nat.le_of_ble_eq_true hle)
              refine ⟨_, h, he, _, len, by rw [h2]; exact h1, fun ha => (by cases ha), fun ad ha j y hj => ?_⟩
              cases ha
              exact h3 j y hj
            · cases h
          · cases h
        · cases h
      · cases h
    · cases h
  · cases h

theorem byteL_toStr (xs : List Int) : byteL (toStr xs) := by
  intro y hy
  obtain ⟨x, _, rfl⟩ := List.mem_map.1 hy
  unfold byteI
  exact ⟨by omega, by omega⟩

theorem foldl_push (ns : List Int) : ∀ s : ByteArray, ns.foldl (fun r n => r.push (UInt8.ofNat n.toNat)) s = s ++ bst (toStr ns) := by
  induction ns with
  | nil =>
    intro s
    cases s with
    | mk d => apply ByteArray.ext; simp [toStr, bst]
  | cons n ns ih =>
    intro s
    rw [List.foldl_cons, ih]
    have e1 : s.push (UInt8.ofNat n.toNat) = s ++ bst (toStr [n]) := by
      have : UInt8.ofNat (byteI n).toNat = UInt8.ofNat n.toNat := by
        unfold byteI
        rw [Int.toNat_natCast]
        apply UInt8.toNat_inj.1
        simp
      cases s with
      | mk d =>
        simp only [toStr, List.map_cons, List.map_nil, bst, this]
        simp only [ByteArray.push]
        apply ByteArray.ext
        simp
    rw [e1, ByteArray.append_assoc, bst_append]
    rfl

theorem convK_ok {P : Program} {B : Bz} {H : Heap} {w : World} (hh : HeapR B H w) {s d : TypeId} {x : AV} {u : Value} {K : Eff → Option R} {r : R} (hx : VR B x u) (h : convK P H s d x K = some r) :
    ∃ z rd, K ⟨z, [], rd⟩ = some r ∧ z.ids = [] ∧ ∃ q, VR B z q ∧ (convert s d u).run P w = .ok q w := by
  unfold convK at h
  split at h
  · split at h
    · rename_i hs
      split at h
      · rename_i hd
        rw [VR_int hx]
        refine ⟨_, _, h, rfl, _, VR_mk_int B _ _, ?_⟩
        unfold convert
        rw [Sem.run_bind, run_underlying hs w]
        simp only [Result.andThen_ok]
        rw [Sem.run_bind, run_underlying hd w]
        rfl
      · cases h
    · cases h
  · split at h
    · rename_i e hs
      split at h
      · rename_i hd
        split at h
        · rename_i inf hi
          replace h := bif_eq_some h
          rcases h with ⟨hz, h⟩ | ⟨_, h⟩
          · have hz := Nat.eq_of_beq_eq_true hz
            obtain ⟨xs, hk, he, a, c, rfl, h1, h2⟩ := bytesK_ok hh hx h
            refine ⟨_, _, hk, rfl, _, VR_mk_str B (byteL_toStr xs), ?_⟩
            rw [run_convert_bytes_string w s d e a _ _ hs he hd]
            cases a with
            | none =>
              rw [h1 rfl]
              rfl
            | some ad =>
              have hcs := run_loadCells_list (P := P) w ad (xs.map (Value.int .u8)) (fun j v hj => by
                rw [List.getElem?_map] at hj
                cases hq : xs[j]? with
                | none => rw [hq] at hj; cases hj
                | some y => rw [hq] at hj; cases hj; exact h2 ad rfl j y hq)
              rw [List.length_map] at hcs
              rw [run_bytesToString w ad _ _ xs hcs, foldl_push]
              have e0 : ByteArray.empty ++ bst (toStr xs) = bst (toStr xs) := by apply ByteArray.ext; simp
              rw [e0]
          · cases h
        · cases h
      · cases h
    · cases h

end

end Go.Proofs.YtkgpjplncfginaaGreatDoor.Sy
