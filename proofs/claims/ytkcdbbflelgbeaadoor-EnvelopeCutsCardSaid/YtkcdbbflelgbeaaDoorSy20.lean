/- Slices as arguments; what a law's row asks behind the call. -/
import Derived.Test.YtkcdbbflelgbeaaDoorSy19
import Derived.Carry
namespace Go.Proofs.YtkcdbbflelgbeaaDoor.Sy
open Go Go.ChangeShapes Go.WideShapes Go.ChangeAt Go.RowKit
set_option linter.unusedVariables false
set_option linter.unusedSimpArgs false

theorem list_choice {α : Type} {Q : Nat → α → Prop} : ∀ n : Nat, (∀ i, i < n → ∃ x, Q i x) → ∃ xs : List α, xs.length = n ∧ ∀ i x, xs[i]? = some x → Q i x
  | 0, _ => ⟨[], rfl, fun i x h => by simp at h⟩
  | n + 1, h => by
    obtain ⟨xs, h1, h2⟩ := list_choice n (fun i hi => h i (by omega))
    obtain ⟨y, hy⟩ := h n (by omega)
    refine ⟨xs ++ [y], by simp [h1], fun i x hx => ?_⟩
    rw [List.getElem?_append] at hx
    split at hx
    · exact h2 i x hx
    · rename_i hlt
      have hi : i - xs.length = 0 := by
        rcases Nat.eq_zero_or_pos (i - xs.length) with h0 | h0
        · exact h0
        · rw [List.getElem?_eq_none (by simp; omega)] at hx; cases hx
      rw [hi] at hx
      simp at hx
      subst hx
      have : i = n := by omega
      rw [this]; exact hy

section
variable {H : Type} {en : TypeId × Value → H} {P : Program} {w : World} {base : Nat} {spare : Nat → Bool} {held : Bool}

theorem cell_spot {w : World} {a : Addr} {v : Value} (h : w.cell? a = some v) : a = ⟨a.block, a.off, none⟩ ∧ a.block < w.heap.size := by
  unfold World.cell? at h
  split at h
  · rename_i c e f hb
    split at h
    · cases h
    · rename_i hs
      obtain ⟨b, o, s⟩ := a
      cases s with
      | none => exact ⟨rfl, (Array.getElem?_eq_some_iff.1 hb).1⟩
      | some _ => simp at hs
  · cases h

theorem add_eq (b o n : Nat) : (Addr.add ⟨b, o, none⟩ n) = ⟨b, o + n, none⟩ := by
  unfold Addr.add
  split
  · rename_i h; subst h; rfl
  · rfl

theorem weights_mem_all {P : Program} {e : TypeId} : ∀ {l : List (DataW H)} {d : DataW H}, d ∈ l → ∀ {n : Nat}, n ∈ d.weights P e → n ∈ DataW.weightsAll P e l
  | x :: r, d, h, n, hn => by
    simp only [DataW.weightsAll, List.mem_append]
    rcases List.mem_cons.1 h with rfl | h
    · exact .inl hn
    · exact .inr (weights_mem_all h hn)

/-- An argument that is a slice of data. -/
theorem open_rows {n : Nat} {t e : TypeId} {ty : Ty} {v : Value} {d : DataW H} {p : List MemPlace} (ht : P.underlying t = some (.slice e)) (hs : shIs P n e (.data ty) = true) (hsz : P.cellsOf e = ty.size) (hpos : 0 < ty.size)
    (hval : Value.okWide P w .any base t v) {b' : Nat} (h : DataW.Trod en P w b' spare held t v d p) (hwt : ∀ m ∈ d.weights P t, m ≤ reachBytes) :
    ∃ xs : List ty.den, (∀ x ∈ xs, goodT ty x) ∧ xs.length ≤ maxLen ∧ RoRows v ty xs w ∧ ∀ (B : Nat → Value) (i : Nat), B i = v → VR B (.vec i) v := by
  obtain ⟨fuel, h⟩ := h
  obtain ⟨a0, len0, cap0, rfl⟩ := okWide_slice ht hval
  rcases DataW.trod_slice ht h with ⟨hcs, _⟩ | ⟨a, len, cap, elems, rest, m, _, hcs, hxe, hb, hlc, hcap, hel, hall, _⟩
  · simp [Value.cells] at hcs
    obtain ⟨rfl, rfl, rfl⟩ := hcs
    exact ⟨[], fun x hx => (by cases hx), Nat.zero_le _, ⟨none, 0, rfl, fun j x hx => by simp at hx⟩, fun B i hi => by
      unfold VR; rw [if_neg (by simp [AV.isTup])]; unfold VR0; rw [if_neg (by simp [AV.isAgg])]
      exact ⟨hi.symm, _, _, _, rfl⟩⟩
  · simp [Value.cells] at hcs
    obtain ⟨rfl, rfl, rfl⟩ := hcs
    have hspot : a.spot = none := by
      simp only [Value.okWide, ht, Cell.okWide, Cell.ok, World.has] at hval
      exact hval.2.2.2.1
    obtain ⟨xs, hxl, hx⟩ := list_choice (α := ty.den) (Q := fun i x => goodT ty x ∧ w.cells? b' (a.add (i * P.cellsOf e)) (P.cellsOf e) = some (cellsT ty x)) len0 (fun i hi => by
      have := hall i hi
      rw [List.getElem?_eq_getElem (by omega)] at this
      obtain ⟨cs, h1, h2⟩ := Option.bind_eq_some_iff.1 this
      obtain ⟨x, gx, hxx⟩ := trod_sh hs h2 (fun m hm => hwt m (by
        have e : d = .slice (elems.map (·.1)) (rest.map (·.1)) := congrArg Prod.fst hxe
        rw [e]
        simp only [DataW.weights, ht, List.mem_cons, List.mem_append]
        exact .inr (.inl (weights_mem_all (List.mem_map.2 ⟨_, List.getElem_mem (by omega), rfl⟩) hm))))
      have hc := (CR_enc (B := fun _ => .nilFunc) ty x cs).1 (hxx _)
      exact ⟨x, gx, by rw [h1, hc.2]⟩)
    refine ⟨xs, fun x hm => ?_, by omega, ⟨some a, cap0 - xs.length, by rw [hxl]; congr 1; omega, fun j x hj => ?_⟩, fun B i hi => by
      unfold VR; rw [if_neg (by simp [AV.isTup])]; unfold VR0; rw [if_neg (by simp [AV.isAgg])]
      exact ⟨hi.symm, _, _, _, rfl⟩⟩
    · obtain ⟨i, hi, rfl⟩ := List.mem_iff_getElem.1 hm
      exact (hx i _ (List.getElem?_eq_getElem hi)).1
    · obtain ⟨gx, hc⟩ := hx j x hj
      have hwf := wf_of_good ty x gx
      have hlen := length_cellsT ty x hwf
      have hcell : ∀ q, q < P.cellsOf e → w.cell? ((a.add (j * P.cellsOf e)).add q) = (cellsT ty x)[q]? := fun q hq => (World.cells?_some hc).2.2 q hq
      obtain ⟨bl, o, s⟩ := a
      simp only at hspot
      subst hspot
      have h0 := hcell 0 (by omega)
      rw [List.getElem?_eq_getElem (by omega)] at h0
      rw [add_eq, add_eq] at h0
      refine ⟨wf_of_good ty x gx, bl, o, rfl, (cell_spot h0).2, fun q u hu => ?_⟩
      have hq : q < P.cellsOf e := by
        have := (List.getElem?_eq_some_iff.1 hu).1
        omega
      have := hcell q hq
      rw [add_eq, add_eq, hu] at this
      rw [← hsz]; exact this


theorem trodAll_stays (hl : laidOutB P = true) : ∀ {ts : List TypeId} {vs : List Value} {ds : List (DataW H)} {ps : List MemPlace} {W W' : World} {sp : Nat → Bool},
    (ts.all fun t => P.readableRec t && Nat.blt t P.types.size) = true → DataW.TrodAll en P W 0 (fun _ => true) true ts vs ds ps → (∀ p ∈ ps, W.sameAt W' p) → (∀ p ∈ ps, sp p.block = true) →
    DataW.TrodAll en P W' 0 sp true ts vs ds ps
  | [], [], [], _, _, _, _, _, h, _, _ => h
  | [], [], _ :: _, _, _, _, _, _, h, _, _ => h.elim
  | [], _ :: _, _, _, _, _, _, _, h, _, _ => h.elim
  | _ :: _, [], _, _, _, _, _, _, h, _, _ => h.elim
  | _ :: _, _ :: _, [], _, _, _, _, _, h, _, _ => h.elim
  | t :: ts, v :: vs, d :: ds, ps, W, W', sp, ha, ⟨p, q, h1, h2, h3⟩, h4, h5 => by
    subst h3
    simp only [List.all_cons, Bool.and_eq_true] at ha
    refine ⟨p, q, WideElems.Trod_stays hl ha.1.1 (Nat.le_of_ble_eq_true ha.1.2) h1 (fun x hx => h4 x (by simp [hx])) (fun x hx => h5 x (by simp [hx])), ?_, rfl⟩
    exact trodAll_stays hl ha.2 h2 (fun x hx => h4 x (by simp [hx])) (fun x hx => h5 x (by simp [hx]))

end

/-- Behind a call that turns nothing of what was there and answers true. -/
theorem law_post {H : Type} {en : TypeId × Value → H} {P : Program} {fn : Func} {s : ChangeSpec} {apart fresh handsOn again : Bool} {W W' : World} {args : Array Value} {ds gs : List (DataW H)} {before : List MemPlace} {rt : TypeId}
    (hl : laidOutB P = true) (hp : (fn.params.toList.all fun t => P.readableRec t && Nat.blt t P.types.size) = true) (hres : fn.resultTypes = #[rt]) (hrt : P.underlying rt = some .bool) (hv : s.vars = [])
    (hW : DataW.Whole en P fn.params.toList s.vars apart W args.toList ds gs before)
    (h1 : (s.fn H (ds ++ gs)).results = [.lit (.bool true)]) (h2 : (s.fn H (ds ++ gs)).args = ds) (h3 : (s.fn H (ds ++ gs)).vars = []) (hb : Below W.heap.size W W') :
    s.post en P fn apart fresh handsOn again W args (.bool true) W' := by
  have hlt := hW.lt
  have hW0 := hW
  obtain ⟨p, q, hA, hV, rfl, hz, hn⟩ := hW
  rw [hv] at hV
  obtain ⟨rfl, rfl⟩ := trodVars_none hV
  rw [List.append_nil] at hlt hz hn hW0
  have hargs : ∀ sp : Nat → Bool, (∀ x ∈ p, sp x.block = true) → DataW.TrodAll en P W' 0 sp true fn.params.toList args.toList (s.fn H (ds ++ [])).args p := fun sp hsp => by
    rw [h2]
    exact trodAll_stays hl hp hA (fun x hx => hb.same (hlt x hx)) hsp
  have hr : ∀ (b : Nat) (sp : Nat → Bool) (hd : Bool), DataW.TrodAll en P W' b sp hd fn.resultTypes.toList ((Value.bool true).resultList fn.resultTypes.size) (s.fn H (ds ++ [])).results [] := fun b sp hd => by
    rw [h1, hres]
    exact trodAll_mk1 (shut_bool hrt true)
  have hvars : ∀ sp : Nat → Bool, DataW.TrodVars en P W' sp s.vars (s.fn H (ds ++ [])).vars [] := fun sp => by
    rw [h3, hv]; rfl
  have hold : ∀ x ∈ p, (fun b => decide (b < W.heap.size)) x.block = true := fun x hx => by simpa using hlt x hx
  refine ⟨ds, [], p, [], p, [], hW0, hr _ _ _, hargs _ hold, hvars _, hb.frame _, fun _ => ?_⟩
  refine ⟨ok_one hres rfl ?_, _, _, ([] ++ p) ++ [], ⟨[] ++ p, [], trodAll_append (hargs _ (fun _ _ => rfl)) (hr _ _ _), hvars _, rfl, ?_, ?_⟩, ?_⟩
  · simp [Value.okWide, hrt, Cell.okWide, Cell.ok]
  · intro b off hx
    simp only [List.nil_append, List.append_nil] at hx
    rw [hb.frozen (hlt _ hx)]
    exact hz b off hx
  · simpa using hn
  · simp only [List.nil_append, List.append_nil]; intro x hx; first | exact .inl hx | exact fun _ => hx | simp_all


theorem trodAll_cons2 {H : Type} {en : TypeId × Value → H} {P : Program} {w : World} {base : Nat} {spare : Nat → Bool} {held : Bool} {t : TypeId} {ts : List TypeId} {vs : List Value} {ds : List (DataW H)} {ps : List MemPlace}
    (h : DataW.TrodAll en P w base spare held (t :: ts) vs ds ps) : ∃ v vs1 d ds1 p q, vs = v :: vs1 ∧ ds = d :: ds1 ∧ ps = p ++ q ∧ DataW.Trod en P w base spare held t v d p ∧ DataW.TrodAll en P w base spare held ts vs1 ds1 q := by
  match vs, ds, h with
  | [], [], h => exact h.elim
  | [], _ :: _, h => exact h.elim
  | _ :: _, [], h => exact h.elim
  | v :: vs1, d :: ds1, ⟨p, q, h1, h2, h3⟩ => exact ⟨v, vs1, d, ds1, p, q, rfl, rfl, h3, h1, h2⟩

theorem trodAll_nil2 {H : Type} {en : TypeId × Value → H} {P : Program} {w : World} {base : Nat} {spare : Nat → Bool} {held : Bool} {vs : List Value} {ds : List (DataW H)} {ps : List MemPlace}
    (h : DataW.TrodAll en P w base spare held [] vs ds ps) : vs = [] ∧ ds = [] := by
  match vs, ds, h with
  | [], [], _ => exact ⟨rfl, rfl⟩
  | [], _ :: _, h => exact h.elim
  | _ :: _, [], h => exact h.elim
  | _ :: _, _ :: _, h => exact h.elim

/-! ### From a callee to a call -/

theorem dec_of_enc : ∀ (t : Ty) (x : t.den), dec t (enc t x) = some x
  | .int k, x => by simp [dec, enc, AV.asInt]; rfl
  | .bool, x => rfl
  | .str, x => rfl
  | .arr k n, x => by simp [dec, enc, AV.asArr]; rfl
  | .opq, x => rfl
  | .one a, x => by simp only [dec, enc, AV.asOne]; exact dec_of_enc a x
  | .pair a b, x => by simp only [dec, enc, AV.asPair]; rw [dec_of_enc a x.1, dec_of_enc b x.2]; rfl

theorem de_mk : ∀ (s : Sh) (x : s.den), s.de (s.mk x) = some x
  | .data t, x => dec_of_enc t x
  | .ptr i, _ => by simp [Sh.de, Sh.mk, AV.isPtr]; rfl
  | .pat i st, _ => by simp [Sh.de, Sh.mk, AV.isPat]; rfl
  | .pdy i st s, k => by simp [Sh.de, Sh.mk, AV.isPdy]; rfl
  | .nilp, _ => rfl
  | .vec i, _ => by simp [Sh.de, Sh.mk, AV.isVec]; rfl
  | .nils, _ => rfl
  | .opq, _ => rfl
  | .one a, x => by simp only [Sh.de, Sh.mk, AV.asOne]; exact de_mk a x
  | .pair a b, x => by simp only [Sh.de, Sh.mk, AV.asPair]; rw [de_mk a x.1, de_mk b x.2]; rfl

theorem deE_mk : ∀ (s : ESh) (x : s.den), s.de (s.mk x) = some x
  | .cell s, x => by simp only [ESh.de, ESh.mk, Ent.asCell]; exact de_mk s x
  | .rows o e t, x => by simp [ESh.de, ESh.mk, Ent.asRows, castRows]; rfl
  | .iter, x => rfl
  | .dead, _ => rfl
  | .glob g t, x => by simp [ESh.de, ESh.mk, Ent.asGlob, castDen]; rfl

theorem deL_mk : ∀ (l : List Sh) (x : denL l), deL l (mkL l x) = some x
  | [], _ => rfl
  | s :: r, x => by simp only [deL, mkL]; rw [de_mk s x.1, deL_mk r x.2]; rfl

theorem deH_mk : ∀ (l : List (Nat × ESh)) (x : denH l), deH l (mkH l x) = some x
  | [], _ => rfl
  | (i, s) :: r, x => by simp only [deH, mkH, Nat.beq_refl, cond_true]; rw [deE_mk s x.1, deH_mk r x.2]; rfl

theorem call_of {P : Program} {f : FuncId} {T : Type} {ps : List Sh} {hs : List (Nat × ESh)} {F : denL ps → denH hs → Option T} {val : T → AV} {wr : T → Heap} (hok : CalleeOK P f (sigCallee ps hs F val wr)) {d : denL ps} {e : denH hs} {t : T}
    (hF : F d e = some t) : CallSem P f (mkL ps d) (mkH hs e) (val t) (wr t) :=
  hok.2 (mkL ps d) (mkH hs e) t (by unfold sigRun; rw [deL_mk, deH_mk]; exact hF)

def Sh.ids : Sh → List Nat
  | .ptr i => [i]
  | .pat i _ => [i]
  | .pdy i _ _ => [i]
  | .vec i => [i]
  | .one a => a.ids
  | .pair a b => a.ids ++ b.ids
  | _ => []

theorem ids_mk : ∀ (s : Sh) (x : s.den), (s.mk x).ids = s.ids
  | .data t, x => ids_enc t x
  | .ptr i, _ => rfl
  | .pat i _, _ => rfl
  | .pdy i _ _, _ => rfl
  | .nilp, _ => rfl
  | .vec i, _ => rfl
  | .nils, _ => rfl
  | .opq, _ => rfl
  | .one a, x => ids_mk a x
  | .pair a b, x => by simp only [Sh.mk, AV.ids, Sh.ids]; rw [ids_mk a x.1, ids_mk b x.2]

theorem idsAll_mkL : ∀ (l : List Sh) (x : denL l), idsAll (mkL l x) = l.flatMap Sh.ids
  | [], _ => rfl
  | s :: r, x => by simp only [mkL, idsAll, List.flatMap_cons]; rw [ids_mk s x.1, idsAll_mkL r x.2]

/-- Entries that are only read: slices that came in. -/
def RO (B : Nat → Value) (L : Heap) (w : World) : Prop := ∀ i e, look i L = some e → (∀ v, blkO e v = none) ∧ e.ids = [] ∧ EntR B i w e

theorem RO_nil (B : Nat → Value) (w : World) : RO B [] w := fun i e h => by cases h

theorem RO_cons {B : Nat → Value} {L : Heap} {w : World} {i : Nat} {e : TypeId} {t : Ty} {xs : List t.den} (h : RoRows (B i) t xs w) (hr : RO B L w) : RO B ((i, .rows 0 e t xs) :: L) w := by
  intro j e' hj
  rw [look_cons] at hj
  by_cases hij : j = i
  · rw [if_pos hij] at hj; cases hj; subst hij; exact ⟨fun v => ro_noO rfl, rfl, h⟩
  · rw [if_neg hij] at hj; exact hr j e' hj

theorem RO_glob {B : Nat → Value} {L : Heap} {w : World} {i g : Nat} {t : Ty} {x : t.den} (h : EntR B i w (.glob g t x)) (hr : RO B L w) : RO B ((i, .glob g t x) :: L) w := by
  intro j e' hj
  rw [look_cons] at hj
  by_cases hij : j = i
  · rw [if_pos hij] at hj; cases hj; subst hij; exact ⟨fun v => by simp [blkO], rfl, h⟩
  · rw [if_neg hij] at hj; exact hr j e' hj

theorem RO.heap {B : Nat → Value} {L : Heap} {w : World} (h : RO B L w) : HeapR B L w :=
  ⟨fun i e he => (h i e he).2.2, fun i j e e' b hi _ _ ho _ => (by rw [(h i e hi).1 _] at ho; cases ho), fun i e he j hj => (by rw [(h i e he).2.1] at hj; cases hj)⟩

theorem law_call {P : Program} {f : FuncId} {ps : List Sh} {hs : List (Nat × ESh)} {F : denL ps → denH hs → Option Bool} {val : Bool → AV} {wr : Bool → Heap} (hok : CalleeOK P f (sigCallee ps hs F val wr)) {d : denL ps} {e : denH hs}
    (hF : F d e = some true) (hv : val true = .bool true) (hi : allIn (hs.map (·.1)) (ps.flatMap Sh.ids) = true) {W : World} (B : Nat → Value) (vs : List Value) (hR : RO B (mkH hs e) W) (ha : All2 (VR B) (mkL ps d) vs) :
    Calls P f vs.toArray W (fun ev W' => ev = .returned (.bool true) ∧ Below W.heap.size W W') := by
  refine (call_of hok hF B W vs hR.heap ha (fun i h => mkH_look (by rw [idsAll_mkL] at h; exact allIn_ok hi i h))).mono fun ev W' h => ?_
  obtain ⟨u, B', rfl, hu, _, _, hf⟩ := h
  rw [hv] at hu
  rw [VR_bool hu]
  refine ⟨rfl, hf.os, hf.tape, hf.output, hf.size, fun k hk => hf.keep k hk ?_⟩
  rintro ⟨i, e', h1, h2⟩
  rw [(hR i e' h1).1 _] at h2; cases h2

end Go.Proofs.YtkcdbbflelgbeaaDoor.Sy
