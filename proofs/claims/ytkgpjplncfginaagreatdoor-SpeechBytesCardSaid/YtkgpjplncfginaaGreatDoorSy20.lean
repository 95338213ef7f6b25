/- Slices as arguments; what a law's row asks behind the call. -/
import Derived.Test.YtkgpjplncfginaaGreatDoorSy19
import Derived.Carry
namespace Go.Proofs.YtkgpjplncfginaaGreatDoor.Sy
open Go Go.ChangeShapes Go.WideShapes Go.ChangeAt Go.RowKit
set_option linter.unusedVariables false
set_option linter.unusedSimpArgs false

section
variable {H : Type} {en : TypeId × Value → H} {P : Program} {w : World} {base : Nat} {spare : Nat → Bool} {held : Bool}

/-- An argument that is a slice of data. -/
theorem open_rows {n : Nat} {t e : TypeId} {ty : Ty} {v : Value} {d : DataW H} {p : List MemPlace} (ht : P.underlying t = some (.slice e)) (hs : shIs P n e (.data ty) = true) (hsz : P.cellsOf e = ty.size) (hpos : 0 < ty.size)
    (hval : Value.okWide P w .any base t v) {b' : Nat} (h : DataW.Trod en P w b' spare held t v d p) (hwt : ∀ m ∈ d.weights P t, m ≤ reachBytes) :
    ∃ xs : List ty.den, (∀ x ∈ xs, goodT ty x) ∧ xs.length ≤ maxLen ∧ FzAt w ty xs v ∧ ∀ (B : Bz) (i : Nat), B i = v → VR B (.vec i) v := by
  obtain ⟨a0, len0, cap0, rfl⟩ := okWide_slice ht hval
  have hsh : shIs P (n + 1) t (.data (.row e ty)) = true := by
    simp only [shIs, ht, Nat.beq_refl, Bool.true_and, hsz, hs, Bool.and_true]
    exact Nat.ble_eq_true_of_le hpos
  obtain ⟨xs, ⟨g1, g2⟩, hx⟩ := open_arg (n := n + 1) (s := .data (.row e ty)) hsh hval h hwt
  refine ⟨xs, g1, g2, fun z hz => ?_, fun B i hi => ?_⟩
  · have := hx ⟨fun _ => .nilFunc, z⟩ hz
    exact (VR_atom rfl rfl).1 this
  · unfold VR; rw [if_neg (by simp [AV.isTup])]; unfold VR0; rw [if_neg (by simp [AV.isAgg])]
    exact ⟨hi.symm, _, _, _, rfl⟩

theorem trodAll_stays (hl : laidOutB P = true) : ∀ {ts : List TypeId} {vs : List Value} {ds : List (DataW H)} {ps : List MemPlace} {W W' : World} {sp : Nat → Bool},
    (ts.all fun t => P.readableRec t && Nat.blt t P.types.size) = true → DataW.TrodAll en P W 0 (fun _ => true) true ts vs ds ps → (∀ p ∈ ps, W.sameAt W' p) → (∀ p ∈ ps, sp p.block = true) →
    DataW.TrodAll en P W' 0 sp true ts vs ds ps
  | [], [], [], _, _, _, _, _, h, _, _ => h
  | [], [], _ :: _, _, _, _, _, _, h, _, _ => h.elim
  | [], _ :: _, _, _, _, _, _, _, h, _, _ => h.elim
  | _ :: _, [], _, _, _, _, _, _, h, _, _ => h.elim
  | _ :: _, _ :: _, [], _, _, _, _, _, h, _, _ => h.elim
  | t :: ts, v :: vs, d :: ds, ps, W, W', sp, ha, ⟨p, q, h1, h2, h3⟩, h4, h5 => by
    subst h3
    simp only [List.all_cons, Bool.and_eq_true] at ha
    refine ⟨p, q, WideElems.Trod_stays hl ha.1.1 (Nat.le_of_ble_eq_true ha.1.2) h1 (fun x hx => h4 x (by simp [hx])) (fun x hx => h5 x (by simp [hx])), ?_, rfl⟩
    exact trodAll_stays hl ha.2 h2 (fun x hx => h4 x (by simp [hx])) (fun x hx => h5 x (by simp [hx]))

end

/-- Behind a call that turns nothing of what was there and answers true. -/
theorem law_post {H : Type} {en : TypeId × Value → H} {P : Program} {fn : Func} {s : ChangeSpec} {apart fresh handsOn again : Bool} {W W' : World} {args : Array Value} {ds gs : List (DataW H)} {before : List MemPlace} {rt : TypeId}
    (hl : laidOutB P = true) (hp : (fn.params.toList.all fun t => P.readableRec t && Nat.blt t P.types.size) = true) (hres : fn.resultTypes = #[rt]) (hrt : P.underlying rt = some .bool) (hv : s.vars = [])
    (hW : DataW.Whole en P fn.params.toList s.vars apart W args.toList ds gs before)
    (h1 : (s.fn H (ds ++ gs)).results = [.lit (.bool true)]) (h2 : (s.fn H (ds ++ gs)).args = ds) (h3 : (s.fn H (ds ++ gs)).vars = []) (hb : Below W.heap.size W W') :
    s.post en P fn apart fresh handsOn again W args (.bool true) W' := by
  have hlt := hW.lt
  have hW0 := hW
  obtain ⟨p, q, hA, hV, rfl, hz, hn⟩ := hW
  rw [hv] at hV
  obtain ⟨rfl, rfl⟩ := trodVars_none hV
  rw [List.append_nil] at hlt hz hn hW0
  have hargs : ∀ sp : Nat → Bool, (∀ x ∈ p, sp x.block = true) → DataW.TrodAll en P W' 0 sp true fn.params.toList args.toList (s.fn H (ds ++ [])).args p := fun sp hsp => by
    rw [h2]
    exact trodAll_stays hl hp hA (fun x hx => hb.same (hlt x hx)) hsp
  have hr : ∀ (b : Nat) (sp : Nat → Bool) (hd : Bool), DataW.TrodAll en P W' b sp hd fn.resultTypes.toList ((Value.bool true).resultList fn.resultTypes.size) (s.fn H (ds ++ [])).results [] := fun b sp hd => by
    rw [h1, hres]
    exact trodAll_mk1 (shut_bool hrt true)
  have hvars : ∀ sp : Nat → Bool, DataW.TrodVars en P W' sp s.vars (s.fn H (ds ++ [])).vars [] := fun sp => by
    rw [h3, hv]; rfl
  have hold : ∀ x ∈ p, (fun b => decide (b < W.heap.size)) x.block = true := fun x hx => by simpa using hlt x hx
  refine ⟨ds, [], p, [], p, [], hW0, hr _ _ _, hargs _ hold, hvars _, hb.frame _, fun _ => ?_⟩
  refine ⟨ok_one hres rfl ?_, _, _, ([] ++ p) ++ [], ⟨[] ++ p, [], trodAll_append (hargs _ (fun _ _ => rfl)) (hr _ _ _), hvars _, rfl, ?_, ?_⟩, ?_⟩
  · simp [Value.okWide, hrt, Cell.okWide, Cell.ok]
  · intro b off hx
    simp only [List.nil_append, List.append_nil] at hx
    rw [hb.frozen (hlt _ hx)]
    exact hz b off hx
  · simpa using hn
  · simp only [List.nil_append, List.append_nil]; intro x hx; first | exact .inl hx | exact fun _ => hx | simp_all


theorem trodAll_cons2 {H : Type} {en : TypeId × Value → H} {P : Program} {w : World} {base : Nat} {spare : Nat → Bool} {held : Bool} {t : TypeId} {ts : List TypeId} {vs : List Value} {ds : List (DataW H)} {ps : List MemPlace}
    (h : DataW.TrodAll en P w base spare held (t :: ts) vs ds ps) : ∃ v vs1 d ds1 p q, vs = v :: vs1 ∧ ds = d :: ds1 ∧ ps = p ++ q ∧ DataW.Trod en P w base spare held t v d p ∧ DataW.TrodAll en P w base spare held ts vs1 ds1 q := by
  match vs, ds, h with
  | [], [], h => exact h.elim
  | [], _ :: _, h => exact h.elim
  | _ :: _, [], h => exact h.elim
  | v :: vs1, d :: ds1, ⟨p, q, h1, h2, h3⟩ => exact ⟨v, vs1, d, ds1, p, q, rfl, rfl, h3, h1, h2⟩

theorem trodAll_nil2 {H : Type} {en : TypeId × Value → H} {P : Program} {w : World} {base : Nat} {spare : Nat → Bool} {held : Bool} {vs : List Value} {ds : List (DataW H)} {ps : List MemPlace}
    (h : DataW.TrodAll en P w base spare held [] vs ds ps) : vs = [] ∧ ds = [] := by
  match vs, ds, h with
  | [], [], _ => exact ⟨rfl, rfl⟩
  | [], _ :: _, h => exact h.elim
  | _ :: _, [], h => exact h.elim
  | _ :: _, _ :: _, h => exact h.elim

/-! ### From a callee to a call -/

theorem dec_of_enc : ∀ (t : Ty) (x : t.den), dec t (enc t x) = some x
  | .int k, x => by simp [dec, enc, AV.asInt]; rfl
  | .bool, x => rfl
  | .str, x => rfl
  | .arr k n, x => by simp [dec, enc, AV.asArr]; rfl
  | .opq, x => rfl
  | .one a, x => by simp only [dec, enc, AV.asOne]; exact dec_of_enc a x
  | .pair a b, x => by simp only [dec, enc, AV.asPair]; rw [dec_of_enc a x.1, dec_of_enc b x.2]; rfl
  | .row e a, xs => by simp [dec, enc, AV.asRow]; rfl

theorem de_mk : ∀ (s : Sh) (x : s.den), s.de (s.mk x) = some x
  | .data t, x => dec_of_enc t x
  | .ptr i, _ => by simp [Sh.de, Sh.mk, AV.isPtr]; rfl
  | .pat i st, _ => by simp [Sh.de, Sh.mk, AV.isPat]; rfl
  | .pdy i st s, k => by simp [Sh.de, Sh.mk, AV.isPdy]; rfl
  | .nilp, _ => rfl
  | .vec i, _ => by simp [Sh.de, Sh.mk, AV.isVec]; rfl
  | .nils, _ => rfl
  | .opq, _ => rfl
  | .fn f, _ => by simp [Sh.de, Sh.mk, AV.isFn]; rfl
  | .one a, x => by simp only [Sh.de, Sh.mk, AV.asOne]; exact de_mk a x
  | .pair a b, x => by simp only [Sh.de, Sh.mk, AV.asPair]; rw [de_mk a x.1, de_mk b x.2]; rfl

theorem deE_mk : ∀ (s : ESh) (x : s.den), s.de (s.mk x) = some x
  | .cell s, x => by simp only [ESh.de, ESh.mk, Ent.asCell]; exact de_mk s x
  | .rows o e t, x => by simp [ESh.de, ESh.mk, Ent.asRows, castRows]; rfl
  | .iter, x => rfl
  | .dead, _ => rfl
  | .glob g t, x => by simp [ESh.de, ESh.mk, Ent.asGlob, castDen]; rfl

theorem deL_mk : ∀ (l : List Sh) (x : denL l), deL l (mkL l x) = some x
  | [], _ => rfl
  | s :: r, x => by simp only [deL, mkL]; rw [de_mk s x.1, deL_mk r x.2]; rfl

theorem deH_mk : ∀ (l : List (Nat × ESh)) (x : denH l), deH l (mkH l x) = some x
  | [], _ => rfl
  | (i, s) :: r, x => by simp only [deH, mkH, Nat.beq_refl, cond_true]; rw [deE_mk s x.1, deH_mk r x.2]; rfl

theorem call_of {P : Program} {f : FuncId} {T : Type} {ps : List Sh} {hs : List (Nat × ESh)} {F : denL ps → denH hs → Option T} {val : T → AV} {wr : T → Heap} (hok : CalleeOK P f (sigCallee ps hs F val wr)) {d : denL ps} {e : denH hs} {t : T}
    (hF : F d e = some t) : CallSem P f (mkL ps d) (mkH hs e) (val t) (wr t) :=
  hok.2 (mkL ps d) (mkH hs e) t (by unfold sigRun; rw [deL_mk, deH_mk]; exact hF)

def Sh.ids : Sh → List Nat
  | .ptr i => [i]
  | .pat i _ => [i]
  | .pdy i _ _ => [i]
  | .vec i => [i]
  | .one a => a.ids
  | .pair a b => a.ids ++ b.ids
  | _ => []

theorem ids_mk : ∀ (s : Sh) (x : s.den), (s.mk x).ids = s.ids
  | .data t, x => ids_enc t x
  | .ptr i, _ => rfl
  | .pat i _, _ => rfl
  | .pdy i _ _, _ => rfl
  | .nilp, _ => rfl
  | .vec i, _ => rfl
  | .nils, _ => rfl
  | .opq, _ => rfl
  | .fn _, _ => rfl
  | .one a, x => ids_mk a x
  | .pair a b, x => by simp only [Sh.mk, AV.ids, Sh.ids]; rw [ids_mk a x.1, ids_mk b x.2]

theorem idsAll_mkL : ∀ (l : List Sh) (x : denL l), idsAll (mkL l x) = l.flatMap Sh.ids
  | [], _ => rfl
  | s :: r, x => by simp only [mkL, idsAll, List.flatMap_cons]; rw [ids_mk s x.1, idsAll_mkL r x.2]

/-- Entries that are only read: slices that came in. -/
def RO (B : Bz) (L : Heap) (w : World) : Prop := B.z = zOf w ∧ ∀ i e, look i L = some e → (∀ v b, ¬ blkO e v b) ∧ e.ids = [] ∧ EntR B i w e

theorem RO_nil {B : Bz} {w : World} (h : B.z = zOf w) : RO B [] w := ⟨h, fun i e h => by cases h⟩

theorem RO_cons {B : Bz} {L : Heap} {w : World} {i : Nat} {e : TypeId} {t : Ty} {xs : List t.den} (h : FzAt w t xs (B i)) (hr : RO B L w) : RO B ((i, .rows 0 e t xs) :: L) w := by
  refine ⟨hr.1, fun j e' hj => ?_⟩
  rw [look_cons] at hj
  by_cases hij : j = i
  · rw [if_pos hij] at hj; cases hj; subst hij; exact ⟨fun v b => ro_noO rfl, rfl, h B.z (by rw [hr.1]; exact Zle.refl _)⟩
  · rw [if_neg hij] at hj; exact hr.2 j e' hj

theorem RO_glob {B : Bz} {L : Heap} {w : World} {i g : Nat} {t : Ty} {x : t.den} (h : EntR B i w (.glob g t x)) (hr : RO B L w) : RO B ((i, .glob g t x) :: L) w := by
  refine ⟨hr.1, fun j e' hj => ?_⟩
  rw [look_cons] at hj
  by_cases hij : j = i
  · rw [if_pos hij] at hj; cases hj; subst hij; exact ⟨fun v b h => by simp [blkO] at h, rfl, h⟩
  · rw [if_neg hij] at hj; exact hr.2 j e' hj

theorem RO.heap {B : Bz} {L : Heap} {w : World} (h : RO B L w) : HeapR B L w :=
  ⟨fun i e he => (h.2 i e he).2.2, fun b o u hz => by rw [h.1] at hz; exact hz, fun i j e e' b hi _ _ ho _ => (h.2 i e hi).1 _ _ ho, fun i e b o u hi ho _ => absurd ho ((h.2 i e hi).1 _ _), fun i e he j hj => (by rw [(h.2 i e he).2.1] at hj; cases hj)⟩

theorem law_call {P : Program} {f : FuncId} {ps : List Sh} {hs : List (Nat × ESh)} {F : denL ps → denH hs → Option Bool} {val : Bool → AV} {wr : Bool → Heap} (hok : CalleeOK P f (sigCallee ps hs F val wr)) {d : denL ps} {e : denH hs}
    (hF : F d e = some true) (hv : val true = .bool true) (hi : allIn (hs.map (·.1)) (ps.flatMap Sh.ids) = true) {W : World} (B : Bz) (vs : List Value) (hR : RO B (mkH hs e) W) (ha : All2 (VR B) (mkL ps d) vs) :
    Calls P f vs.toArray W (fun ev W' => ev = .returned (.bool true) ∧ Below W.heap.size W W') := by
  refine (call_of hok hF B W vs hR.heap ha (fun i h => mkH_look (by rw [idsAll_mkL] at h; exact allIn_ok hi i h))).mono fun ev W' h => ?_
  obtain ⟨u, B', rfl, hu, _, _, hf⟩ := h
  rw [hv] at hu
  rw [VR_bool hu]
  refine ⟨rfl, hf.os, hf.tape, hf.output, hf.size, fun k hk => hf.keep k hk ?_⟩
  rintro ⟨i, e', h1, h2⟩
  exact (hR.2 i e' h1).1 _ _ h2

end Go.Proofs.YtkgpjplncfginaaGreatDoor.Sy
