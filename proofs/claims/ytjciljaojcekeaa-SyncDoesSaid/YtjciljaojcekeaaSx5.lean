/- The operations of the machine Sx do what the model's operations do: values, arithmetic, parts. -/
import Derived.Test.YtjciljaojcekeaaSx4
import Derived.ChangeKeysEq
import Derived.Laws.StructEq
import Derived.Laws.Entries
namespace Go.Proofs.Ytjciljaojcekeaa.Sx
open Go
set_option linter.unusedVariables false
set_option linter.unusedSimpArgs false

theorem VR_int {B : Nat → Value} {k : IntKind} {n : Int} {x : Value} (h : VR B (.int k n) x) : x = .int k n := (VR_atom rfl rfl).1 h
theorem VR_bool {B : Nat → Value} {b : Bool} {x : Value} (h : VR B (.bool b) x) : x = .bool b := (VR_atom rfl rfl).1 h
theorem VR_str {B : Nat → Value} {b : ByteArray} {x : Value} (h : VR B (.str b) x) : x = .string b := (VR_atom rfl rfl).1 h
theorem VR_nils {B : Nat → Value} {x : Value} (h : VR B .nils x) : x = .slice none 0 0 := (VR_atom rfl rfl).1 h
theorem VR_mk_int (B : Nat → Value) (k : IntKind) (n : Int) : VR B (.int k n) (.int k n) := (VR_atom rfl rfl).2 rfl
theorem VR_mk_bool (B : Nat → Value) (b : Bool) : VR B (.bool b) (.bool b) := (VR_atom rfl rfl).2 rfl
theorem VR_mk_str (B : Nat → Value) (s : ByteArray) : VR B (.str s) (.string s) := (VR_atom rfl rfl).2 rfl
theorem VR_ptr {B : Nat → Value} {p : Ptr} {x : Value} (h : VR B (.ptr (some p)) x) : ∃ b o, baseOf (B p.id) = some ⟨b, o, none⟩ ∧ x = .pointer (some ⟨b, o + p.st + dyOff p.dys, none⟩) := (VR_atom rfl rfl).1 h
theorem VR_nilp {B : Nat → Value} {x : Value} (h : VR B (.ptr none) x) : x = .pointer none := (VR_atom rfl rfl).1 h

theorem atomV_ok {B : Nat → Value} {x : Value} {v : AV} (h : atomV x = some v) : v.ids = [] ∧ v.isTup = false ∧ v.isAgg = false ∧ AR B v x := by
  cases x with
  | pointer a => cases a <;> simp [atomV] at h; subst h; exact ⟨rfl, rfl, rfl, rfl⟩
  | slice a l c =>
    cases a with
    | some a => simp [atomV] at h
    | none =>
      simp only [atomV] at h
      replace h := bif_eq_some h
      rcases h with ⟨hc, h⟩ | ⟨_, h⟩
      · simp only [Bool.and_eq_true] at hc
        have h1 := Nat.eq_of_beq_eq_true hc.1; have h2 := Nat.eq_of_beq_eq_true hc.2
        subst h1 h2; cases h
        exact ⟨rfl, rfl, rfl, rfl⟩
      · cases h
  | map r => cases r <;> simp [atomV] at h; subst h; exact ⟨rfl, rfl, rfl, rfl, rfl⟩
  | nilFunc => simp [atomV] at h; subst h; exact ⟨rfl, rfl, rfl, rfl, rfl⟩
  | nilIface => simp [atomV] at h; subst h; exact ⟨rfl, rfl, rfl, rfl, rfl⟩
  | int => simp [atomV] at h; subst h; exact ⟨rfl, rfl, rfl, rfl⟩
  | bool => simp [atomV] at h; subst h; exact ⟨rfl, rfl, rfl, rfl⟩
  | string => simp [atomV] at h; subst h; exact ⟨rfl, rfl, rfl, rfl⟩
  | _ => simp [atomV] at h

theorem ev_ok {N : Nat} {B : Nat → Value} {σ : St} {a : Act} {w : World} (hr : Rel N B σ a w) {x : Operand} {v : AV} (h : ev σ x = some v) :
    VR B v (a.eval x) ∧ ∀ i ∈ v.ids, (look i σ.heap).isSome = true := by
  cases x with
  | tmp t => exact ⟨(hr.env t v h).2, hr.closed t v h⟩
  | const c =>
    obtain ⟨h1, h2, h3, h4⟩ := atomV_ok (B := B) (show atomV c = some v from h)
    exact ⟨(VR_atom h2 h3).2 h4, fun i hi => by rw [h1] at hi; cases hi⟩
  | func f =>
    simp only [ev, Option.some.injEq] at h
    subst h
    exact ⟨(VR_atom rfl rfl).2 rfl, fun i hi => by simp [AV.ids] at hi⟩
  | global g => cases h

/-! ### What is to be shown of an operation -/

def OpOK (P : Program) (N : Nat) (o : Oper) (σ : St) (ef : Eff) : Prop :=
  ∀ (B : Nat → Value) (a : Act) (w : World), Rel N B σ a w → ∀ (K : Act → World → Prop) (Q : Exit → Act → World → Prop),
    (∀ B' u w', Post B σ w ef B' u w' → K (a.put o.dst u) w') → o.wp P a w K Q

theorem OpOK.of_value {P : Program} {N : Nat} {o : Oper} {σ : St} {ef : Eff}
    (h : ∀ B a w, Rel N B σ a w → ∃ B' u w', Post B σ w ef B' u w' ∧ (execOp a.eval o).run P w = .ok (.value u) w') : OpOK P N o σ ef := by
  intro B a w hr K Q hK
  obtain ⟨B', u, w', hp, hrun⟩ := h B a w hr
  unfold Oper.wp
  rw [hrun]
  exact hK B' u w' hp

theorem OpOK.of_skip {P : Program} {N : Nat} {o : Oper} {σ : St} {ef : Eff}
    (h : ∀ B a w, Rel N B σ a w → ∃ B' w', Post B σ w ef B' undef w' ∧ (execOp a.eval o).run P w = .ok .skip w') : OpOK P N o σ ef := by
  intro B a w hr K Q hK
  obtain ⟨B', w', hp, hrun⟩ := h B a w hr
  unfold Oper.wp
  rw [hrun]
  exact hK B' undef w' hp

/-- An operation that only yields a value. -/
theorem OpOK.of_pure {P : Program} {N : Nat} {o : Oper} {σ : St} {v : AV} {rd : List Nat}
    (h : ∀ B a w, Rel N B σ a w → ∃ u, VR B v u ∧ (∀ i ∈ v.ids, (look i σ.heap).isSome = true) ∧ (execOp a.eval o).run P w = .ok (.value u) w) : OpOK P N o σ ⟨v, [], rd⟩ :=
  .of_value fun B a w hr => by
    obtain ⟨u, hv, hi, hrun⟩ := h B a w hr
    exact ⟨B, u, w, Post.pure hr.heap hv hi, hrun⟩

/-- The same out of the value's own run. -/
theorem run_v {P : Program} {s : Sem Value} {u : Value} {w w' : World} (h : s.run P w = .ok u w') : (do pure (Next.value (← s)) : Sem Next).run P w = .ok (.value u) w' := by
  rw [Sem.run_bind, h]; rfl

theorem run_u {P : Program} {s : Sem Unit} {w w' : World} (h : s.run P w = .ok () w') : (do s; pure Next.skip : Sem Next).run P w = .ok .skip w' := by
  rw [Sem.run_bind, h]; rfl

/-! ### Arithmetic -/

section
variable {R : Type}

theorem intBin_ok {P : Program} {B : Nat → Value} {t : TypeId} {op : BinOp} {k : IntKind} {x y : Int} {K : AV → Option R} {r : R} (hns : op ≠ .shl ∧ op ≠ .shr) (h : intBin op k x y K = some r) :
    ∃ v, K v = some r ∧ v.ids = [] ∧ ∃ u, VR B v u ∧ ∀ w, (binOp op t (.int k x) (.int k y)).run P w = .ok u w := by
  have hk : ¬ k ≠ k := fun h => h rfl
  cases op <;> simp only [intBin] at h <;>
    first
      | exact ⟨_, h, rfl, _, VR_mk_int B _ _, fun w => by unfold binOp; simp only [ne_eq, not_true_eq_false, if_false]; rfl⟩
      | exact ⟨_, h, rfl, _, VR_mk_bool B _, fun w => by unfold binOp; simp only [ne_eq, not_true_eq_false, if_false]; rfl⟩
      | (exact absurd rfl hns.1)
      | (exact absurd rfl hns.2)
      | (replace h := bif_eq_some h
         rcases h with ⟨_, h⟩ | ⟨hy, h⟩
         · cases h
         · have hy := of_decide_eq_false hy
           exact ⟨_, h, rfl, _, VR_mk_int B _ _, fun w => by unfold binOp; simp only [ne_eq, not_true_eq_false, if_false, Op.intDiv, if_neg hy]; rfl⟩)
      | cases h

theorem shiftBin_ok {P : Program} {B : Nat → Value} {t : TypeId} {op : BinOp} {k k' : IntKind} {x y : Int} {K : AV → Option R} {r : R} (hop : op = .shl ∨ op = .shr) (h : shiftBin op k x y K = some r) :
    ∃ v, K v = some r ∧ v.ids = [] ∧ ∃ u, VR B v u ∧ ∀ w, (binOp op t (.int k x) (.int k' y)).run P w = .ok u w := by
  rcases hop with rfl | rfl <;> simp only [shiftBin] at h
  all_goals
    replace h := bif_eq_some h
    rcases h with ⟨_, h⟩ | ⟨hy, h⟩
    · cases h
    · have hy := of_decide_eq_false hy
      refine ⟨_, h, rfl, _, VR_mk_int B _ _, fun w => ?_⟩
      unfold binOp Op.shift
      simp only [if_neg hy]
      rfl

theorem run_eqItems_ints {P : Program} {e : TypeId} {k : IntKind} {inf : TypeInfo} (d : Nat) (he : P.underlying e = some (.int k)) (hi : P.info? e = some inf) (hs : inf.size = 1) (xs ys : List Int) (w : World) :
    ∀ (is : List Nat), (∀ i ∈ is, i < xs.length ∧ i < ys.length) →
      (Op.eqItems (d + 1) e (P.cellsOf e) (xs.map (Value.int k)).toArray (ys.map (Value.int k)).toArray is).run P w = .ok (is.all fun i => xs.getD i 0 == ys.getD i 0) w
  | [], _ => rfl
  | i :: is, h => by
    obtain ⟨h1, h2⟩ := h i (by simp)
    have hc : P.cellsOf e = 1 := by simp [Program.cellsOf, hi, hs]
    have hagg : (isAgg e).run P w = .ok false w := by
      unfold isAgg; rw [Sem.run_bind, run_underlying he w]; rfl
    have hp : ∀ (zs : List Int), i < zs.length → (part e (zs.map (Value.int k)).toArray (i * P.cellsOf e)).run P w = .ok (.int k (zs.getD i 0)) w := fun zs hz => by
      unfold part
      rw [Sem.run_bind, hagg]
      simp [hc, hz, List.getD]
    simp only [Op.eqItems, Sem.run_bind, hp xs h1, hp ys h2, Result.andThen_ok, run_equalIn_int w d e k k _ _ he, List.all_cons]
    have ih := run_eqItems_ints d he hi hs xs ys w is (fun i hi => h i (by simp [hi]))
    cases hb : (xs.getD i 0 == ys.getD i 0)
    · simp
    · simp [ih]

theorem all_getD_eq (xs ys : List Int) (h : xs.length = ys.length) : ((List.range xs.length).all fun i => xs.getD i 0 == ys.getD i 0) = decide (xs = ys) := by
  rw [Bool.eq_iff_iff, List.all_eq_true, decide_eq_true_iff]
  constructor
  · intro hh
    apply List.ext_getElem h
    intro i h1 h2
    have := hh i (by simpa using h1)
    simpa [List.getD, h1, h2] using this
  · rintro rfl i _
    simp

theorem VR_arr {B : Nat → Value} {k : IntKind} {n : Nat} {xs : List Int} {x : Value} (h : VR B (.arr k n xs) x) : xs.length = n ∧ x = .agg (xs.map (Value.int k)).toArray := by
  have h := VR0_of_VR h rfl
  simp only [VR0, AV.isAgg, if_true] at h
  obtain ⟨cs, ⟨h1, h2⟩, h3⟩ := h
  subst h2
  exact ⟨h1, h3⟩

theorem VR_mk_arr (B : Nat → Value) (k : IntKind) {n : Nat} {xs : List Int} (h : xs.length = n) : VR B (.arr k n xs) (.agg (xs.map (Value.int k)).toArray) :=
  VR_of_CR_agg ⟨h, rfl⟩ rfl

theorem eqA_ok {P : Program} {B : Nat → Value} {t : TypeId} {x y : AV} {c : Bool} {u v : Value} (h : eqA P t x y = some c) (hx : VR B x u) (hy : VR B y v) (w : World) :
    (∀ op a b, (eqGuard op t a b u v).run P w = .ok () w) ∧ (binOp .eql t u v).run P w = .ok (.bool c) w ∧ (binOp .neq t u v).run P w = .ok (.bool (!c)) w := by
  unfold eqA at h
  split at h
  · rename_i hu
    split at h
    · cases h
      rw [VR_bool hx, VR_bool hy]
      have e := run_equalIn_bool' (P := P) w 9999 t
      refine ⟨fun op a b => by cases op <;> rfl, ?_, ?_⟩
      · show (do pure (.bool (← Op.equal t _ _)) : Sem Value).run P w = _
        rw [Sem.run_bind, show Op.equal = Op.equalIn (9999 + 1) from rfl, e _ _ hu]; rfl
      · show (do pure (.bool (!(← Op.equal t _ _))) : Sem Value).run P w = _
        rw [Sem.run_bind, show Op.equal = Op.equalIn (9999 + 1) from rfl, e _ _ hu]; rfl
    · cases h
  · rename_i n e hu
    split at h
    · rename_i k he
      split at h
      · rename_i inf hi
        split at h
        · rename_i k1 n1 xs k2 n2 ys
          replace h := bif_eq_some h
          rcases h with ⟨hc, h⟩ | ⟨_, h⟩
          · simp only [Bool.and_eq_true, Bool.not_eq_true'] at hc
            obtain ⟨⟨⟨⟨⟨h1, h2⟩, h3⟩, h4⟩, h5⟩, h6⟩ := hc
            have h1 := Nat.eq_of_beq_eq_true h1; have h2 := of_decide_eq_true h2; have h3 := of_decide_eq_true h3
            have h4 := Nat.eq_of_beq_eq_true h4; have h5 := Nat.eq_of_beq_eq_true h5
            subst h2 h3 h4 h5
            cases h
            obtain ⟨lx, rfl⟩ := VR_arr hx
            obtain ⟨ly, rfl⟩ := VR_arr hy
            have key : (Op.equalIn (9999 + 1) t (.agg (xs.map (Value.int k2)).toArray) (.agg (ys.map (Value.int k2)).toArray)).run P w = .ok (decide (xs = ys)) w := by
              rw [run_equalIn_array w 9999 _ _ hu hi, run_eqItems_ints 9998 he hi h1 xs ys w (List.range n2) (fun i hi => by have := List.mem_range.1 hi; omega), ← lx, all_getD_eq xs ys (by omega)]
            refine ⟨fun op a b => run_eqGuard_agg w op t a b _ _ h6, ?_, ?_⟩
            · show (do pure (.bool (← Op.equal t _ _)) : Sem Value).run P w = _
              rw [Sem.run_bind, show Op.equal = Op.equalIn (9999 + 1) from rfl, key]; rfl
            · show (do pure (.bool (!(← Op.equal t _ _))) : Sem Value).run P w = _
              rw [Sem.run_bind, show Op.equal = Op.equalIn (9999 + 1) from rfl, key]; rfl
          · cases h
        · cases h
      · cases h
    · cases h
  · rename_i e hu
    split at h
    · rename_i p
      cases h
      rw [VR_nilp hy]
      have key0 : ∀ (d : Nat) (q : Option Addr), (Op.equalIn (d + 1) t (.pointer q) (.pointer none)).run P w = .ok q.isNone w := fun d q => by
        cases q <;> simp [Op.equalIn, run_underlying hu]
      have key := key0 9999
      have hq : ∃ q, u = .pointer q ∧ q.isNone = p.isNone := by
        cases p with
        | none => exact ⟨none, VR_nilp hx, rfl⟩
        | some p => obtain ⟨b, o, _, e⟩ := VR_ptr hx; exact ⟨_, e, rfl⟩
      obtain ⟨q, rfl, hq⟩ := hq
      refine ⟨fun op a b => by cases op <;> rfl, ?_, ?_⟩
      · show (do pure (.bool (← Op.equal t _ _)) : Sem Value).run P w = _
        rw [Sem.run_bind, show Op.equal = Op.equalIn (9999 + 1) from rfl, key, hq]; rfl
      · show (do pure (.bool (!(← Op.equal t _ _))) : Sem Value).run P w = _
        rw [Sem.run_bind, show Op.equal = Op.equalIn (9999 + 1) from rfl, key, hq]; rfl
    · cases h
  · cases h

theorem eqA_ids {P : Program} {t : TypeId} {x y : AV} {c : Bool} (h : eqA P t x y = some c) : ∀ k n, x ≠ .int k n := by
  intro k n e
  subst e
  unfold eqA at h
  split at h <;> (try cases h) <;> (split at h <;> (try cases h)) <;> (split at h <;> (try cases h)) <;> (split at h <;> cases h)

theorem binK_ok {P : Program} {B : Nat → Value} {op : BinOp} {t : TypeId} {x y : AV} {a b : Operand} {u v : Value} {K : AV → Option R} {r : R} (hx : VR B x u) (hy : VR B y v) (h : binK P op t x y K = some r) (w : World) :
    ∃ z, K z = some r ∧ z.ids = [] ∧ ∃ q, VR B z q ∧ (do eqGuard op t a b u v; binOp op t u v : Sem Value).run P w = .ok q w := by
  unfold binK at h
  split at h
  · rename_i k m
    split at h
    · rename_i k' n
      rw [VR_int hx, VR_int hy]
      have hg : (eqGuard op t a b (.int k m) (.int k' n)).run P w = .ok () w := by cases op <;> rfl
      split at h
      · obtain ⟨z, h1, h2, q, h3, h4⟩ := shiftBin_ok (P := P) (B := B) (t := t) (k' := k') (.inl rfl) h
        exact ⟨z, h1, h2, q, h3, by rw [Sem.run_bind, hg]; exact h4 w⟩
      · obtain ⟨z, h1, h2, q, h3, h4⟩ := shiftBin_ok (P := P) (B := B) (t := t) (k' := k') (.inr rfl) h
        exact ⟨z, h1, h2, q, h3, by rw [Sem.run_bind, hg]; exact h4 w⟩
      · rename_i hn1 hn2
        replace h := bif_eq_some h
        rcases h with ⟨hk, h⟩ | ⟨_, h⟩
        · have hk := of_decide_eq_true hk
          subst hk
          obtain ⟨z, h1, h2, q, h3, h4⟩ := intBin_ok (P := P) (B := B) (t := t) ⟨fun e => hn1 e, fun e => hn2 e⟩ h
          exact ⟨z, h1, h2, q, h3, by rw [Sem.run_bind, hg]; exact h4 w⟩
        · cases h
    · cases h
  · split at h
    · split at h
      · rename_i c hc
        obtain ⟨h1, h2, _⟩ := eqA_ok hc hx hy w
        exact ⟨_, h, rfl, _, VR_mk_bool B c, by rw [Sem.run_bind, h1]; exact h2⟩
      · cases h
    · split at h
      · rename_i c hc
        obtain ⟨h1, _, h2⟩ := eqA_ok hc hx hy w
        exact ⟨_, h, rfl, _, VR_mk_bool B _, by rw [Sem.run_bind, h1]; exact h2⟩
      · cases h
    · cases h

theorem unK_ok {P : Program} {B : Nat → Value} {op : UnOp} {x : AV} {u : Value} {K : AV → Option R} {r : R} (hx : VR B x u) (h : unK op x K = some r) (w : World) :
    ∃ z, K z = some r ∧ z.ids = [] ∧ ∃ q, VR B z q ∧ (Op.unary op u).run P w = .ok q w := by
  unfold unK at h
  split at h
  · split at h
    · rw [VR_int hx]; exact ⟨_, h, rfl, _, VR_mk_int B _ _, rfl⟩
    · cases h
  · split at h
    · rw [VR_int hx]; exact ⟨_, h, rfl, _, VR_mk_int B _ _, rfl⟩
    · cases h
  · split at h
    · rw [VR_bool hx]; exact ⟨_, h, rfl, _, VR_mk_bool B _, rfl⟩
    · cases h
  · cases h

theorem convK_ok {P : Program} {B : Nat → Value} {s d : TypeId} {x : AV} {u : Value} {K : AV → Option R} {r : R} (hx : VR B x u) (h : convK P s d x K = some r) (w : World) :
    ∃ z, K z = some r ∧ z.ids = [] ∧ ∃ q, VR B z q ∧ (convert s d u).run P w = .ok q w := by
  unfold convK at h
  split at h
  · split at h
    · rename_i hs
      split at h
      · rename_i hd
        rw [VR_int hx]
        refine ⟨_, h, rfl, _, VR_mk_int B _ _, ?_⟩
        unfold convert
        rw [Sem.run_bind, run_underlying hs w]
        simp only [Result.andThen_ok]
        rw [Sem.run_bind, run_underlying hd w]
        rfl
      · cases h
    · cases h
  · cases h

end

end Go.Proofs.Ytjciljaojcekeaa.Sx
