/- The machine Sy on functions, and the shapes of what they take. -/
import Derived.Test.YtkgpjplncfginaaGreatDoorSy15
namespace Go.Proofs.YtkgpjplncfginaaGreatDoor.Sy
open Go
set_option linter.unusedVariables false
set_option linter.unusedSimpArgs false

/-! ### Functions -/

section
variable {R : Type}

def resK (P : Program) (σ : St) : List ResultVar → (List AV → Option R) → Option R
  | [], K => K []
  | .tmp t :: r, K => (match look t σ.env with
    | some v => bif v.isTup then none else resK P σ r (fun vs => K (v :: vs))
    | none => none)
  | .cell c t :: r, K => (match look c σ.env with
    | some (.ptr (some p)) => (match tyIx P t with
      | some (n, g) => (match look p.id σ.heap with
        | some e => loadE e p.st p.dys n g (fun v => resK P σ r (fun vs => K (v :: vs)))
        | none => none)
      | none => none)
    | _ => none)

end

def tupOf : List AV → AV
  | [] => .tnil
  | v :: r => .tcons v (tupOf r)

def mkRes : List AV → AV
  | [v] => v
  | l => tupOf l

def params : Nat → List AV → List (Nat × AV)
  | _, [] => []
  | i, v :: r => (i, v) :: params (i + 1) r

/-- The results, each as it is wanted. -/
def castL : Nat → List Hint → List AV → Heap → Option (List AV × Heap)
  | _, [], [], H => some ([], H)
  | k, h :: hs, v :: vs, H => (match castV k h v H with
    | some (v', wr) => (match castL (k + 1) hs vs (wr ++ H) with
      | some (l, H') => some (v' :: l, H')
      | none => none)
    | none => none)
  | _, _, _, _ => none

def finK (P : Program) (res : List ResultVar) (cells : List (Place × Nat × Hint)) (hints : List Hint) (keep : List Nat) (σ0 : St) : Option (AV × Heap) :=
  match castCells cells 720000 σ0 with
  | none => none
  | some σ => resK P σ res (fun vs => match castL 750000 hints vs σ.heap with
    | some (vs', H) => (match gather 900000 keep H vs' with
      | some H' => some (mkRes (renAll (newName 900000 (keepIds keep H vs')) vs'), H')
      | none => none)
    | none => none)

def runFn (P : Program) (E : Env) (N : Nat) (c : Code) (res : List ResultVar) (cells : List (Place × Nat × Hint)) (hints : List Hint) (keep : List Nat) (args : List AV) (L : Heap) : Option (AV × Heap) :=
  exec P E N 0 c ⟨params 0 args, L⟩ (fun e σ => match e with
    | .normal => finK P res cells hints keep σ
    | .ret => finK P res cells hints keep σ
    | .exit _ => none)

def readRes (tmps : Array Value) : ResultVar → Sem Value
  | .tmp t => pure (tmps.getD t undef)
  | .cell a t => do loadVar t (← asAddr (tmps.getD a undef))

theorem results_eq (fn : Func) (tmps : Array Value) : results fn tmps = (do
    let vs ← fn.results.mapM (readRes tmps)
    pure (if h : vs.size = 1 then vs[0] else .tuple vs)) := by
  unfold results
  congr 1

theorem resK_ok {P : Program} {N : Nat} {B : Bz} {σ : St} {a : Act} {w : World} (hr : Rel N B σ a w) {R : Type} : ∀ {res : List ResultVar} {K : List AV → Option R} {r : R}, resK P σ res K = some r →
    ∃ vs, K vs = some r ∧ (∀ v ∈ vs, v.isTup = false ∧ ∀ i ∈ v.ids, (look i σ.heap).isSome = true) ∧ ∃ us, All2 (VR0 B) vs us ∧
      (res.mapM (readRes a.tmps) : Sem (List Value)).run P w = .ok us w
  | [], K, r, h => ⟨[], h, fun v hv => (by cases hv), [], trivial, rfl⟩
  | .tmp t :: res, K, r, h => by
    simp only [resK] at h
    split at h
    · rename_i v hv
      replace h := bif_eq_some h
      rcases h with ⟨_, h⟩ | ⟨ht, h⟩
      · cases h
      · obtain ⟨vs, h1, h2, us, h3, h4⟩ := resK_ok hr h
        refine ⟨v :: vs, h1, fun x hx => ?_, a.tmps.getD t undef :: us, ⟨VR0_of_VR (hr.env t v hv).2 ht, h3⟩, ?_⟩
        · rcases List.mem_cons.1 hx with rfl | hx
          · exact ⟨ht, fun i hi => hr.closed t _ hv i hi⟩
          · exact h2 x hx
        · rw [List.mapM_cons, Sem.run_bind]
          simp only [readRes, Sem.run_pure, Result.andThen_ok]
          rw [Sem.run_bind, h4]; rfl
    · cases h
  | .cell c t :: res, K, r, h => by
    simp only [resK] at h
    split at h
    · rename_i p hp
      split at h
      · rename_i n g ht
        split at h
        · rename_i e he
          obtain ⟨u, hk, hut, hi, q, hq, hrun⟩ := load_op (P := P) hr.heap (hr.env c _ hp).2 ht he h
          obtain ⟨vs, h1, h2, us, h3, h4⟩ := resK_ok hr hk
          refine ⟨u :: vs, h1, fun x hx => ?_, q :: us, ⟨VR0_of_VR hq hut, h3⟩, ?_⟩
          · rcases List.mem_cons.1 hx with rfl | hx
            · exact ⟨hut, hi⟩
            · exact h2 x hx
          · obtain ⟨b, o, _, e⟩ := VR_ptr (hr.env c _ hp).2
            rw [e] at hrun
            simp only [Instr.loadAt, Instr.sureAddr, pure_bind] at hrun
            have e2 : (readRes a.tmps (.cell c t)).run P w = .ok q w := by
              simp only [readRes]
              rw [e]
              exact hrun
            rw [List.mapM_cons, Sem.run_bind]
            simp only [e2, Result.andThen_ok]
            rw [Sem.run_bind, h4]; rfl
        · cases h
      · cases h
    · cases h

theorem TR_tupOf {B : Bz} : ∀ {vs : List AV} {us : List Value}, All2 (VR0 B) vs us → TR B (tupOf vs) us
  | [], [], _ => rfl
  | [], _ :: _, h => h.elim
  | _ :: _, [], h => h.elim
  | v :: vs, u :: us, ⟨h1, h2⟩ => ⟨u, us, rfl, h1, TR_tupOf h2⟩

theorem All2_length {α β : Type} {R : α → β → Prop} : ∀ {as : List α} {bs : List β}, All2 R as bs → as.length = bs.length
  | [], [], _ => rfl
  | [], _ :: _, h => h.elim
  | _ :: _, [], h => h.elim
  | _ :: as, _ :: bs, ⟨_, h⟩ => by simp [All2_length h]

theorem results_ok {P : Program} {B : Bz} {a : Act} {w : World} {fn : Func} {vs : List AV} {us : List Value} (h2 : ∀ v ∈ vs, v.isTup = false) (h3 : All2 (VR0 B) vs us)
    (h4 : (fn.results.toList.mapM (readRes a.tmps) : Sem (List Value)).run P w = .ok us w) :
    ∃ u, (results fn a.tmps).run P w = .ok u w ∧ VR B (mkRes vs) u := by
  have hrun : (fn.results.mapM (readRes a.tmps) : Sem (Array Value)).run P w = .ok us.toArray w := by
    rw [Array.mapM_eq_mapM_toList, Sem.run_map, h4]; rfl
  have hres : (results fn a.tmps).run P w = .ok (if h : us.toArray.size = 1 then us.toArray[0] else .tuple us.toArray) w := by
    rw [results_eq, Sem.run_bind, hrun]
    rfl
  refine ⟨_, hres, ?_⟩
  have hl := All2_length h3
  match vs, us, h3, hl, h2 with
  | [v], [u], h3, _, h2 =>
    simp only [mkRes]
    exact VR_of_VR0 h3.1 (h2 v (by simp))
  | [], [], _, _, _ =>
    simp only [mkRes, tupOf, VR, AV.isTup, if_true]
    exact ⟨[], rfl, rfl⟩
  | v1 :: v2 :: vs, u1 :: u2 :: us, h3, _, _ =>
    simp only [mkRes, tupOf, VR, AV.isTup, if_true]
    exact ⟨u1 :: u2 :: us, TR_tupOf h3, by simp⟩

theorem look_params : ∀ (args : List AV) (i t : Nat) (v : AV), look t (params i args) = some v → i ≤ t ∧ args[t - i]? = some v
  | [], i, t, v, h => by cases h
  | a :: as, i, t, v, h => by
    simp only [params] at h
    rw [look_cons] at h
    by_cases e : t = i
    · rw [if_pos e] at h; cases h; subst e; exact ⟨Nat.le_refl _, by simp⟩
    · rw [if_neg e] at h
      obtain ⟨h1, h2⟩ := look_params as (i + 1) t v h
      exact ⟨by omega, by rw [show t - i = (t - (i + 1)) + 1 by omega]; simpa using h2⟩

theorem All2_get {α β : Type} {R : α → β → Prop} : ∀ {as : List α} {bs : List β} {j : Nat} {a : α}, All2 R as bs → as[j]? = some a → ∃ b, bs[j]? = some b ∧ R a b
  | [], [], j, a, _, h => by simp at h
  | [], _ :: _, _, _, h, _ => h.elim
  | _ :: _, [], _, _, h, _ => h.elim
  | x :: as, y :: bs, 0, a, ⟨h1, h2⟩, h => by simp at h; subst h; exact ⟨y, rfl, h1⟩
  | x :: as, y :: bs, j + 1, a, ⟨h1, h2⟩, h => by
    obtain ⟨b, p, q⟩ := All2_get h2 (by simpa using h)
    exact ⟨b, by simpa using p, q⟩

theorem isTup_frzN {t : Ty} {v v' : AV} {H wr : Heap} (h : frzN t v H = some (v', wr)) (ht : v.isTup = false) : v'.isTup = false := by
  unfold frzN at h
  split at h
  · split at h
    · cases h; rfl
    · cases h
  · rcases bif_eq_some h with ⟨_, h⟩ | ⟨_, h⟩
    · cases h
    · split at h
      · cases h; rfl
      · cases h
  · rcases bif_eq_some h with ⟨_, h⟩ | ⟨_, h⟩
    · cases h
    · split at h
      · split at h
        · cases h; rfl
        · cases h
      · cases h
  · cases h; rw [isTup_norm]; exact ht

theorem isTup_castV {k : Nat} {h : Hint} {v v' : AV} {H wr : Heap} (hc : castV k h v H = some (v', wr)) (ht : v.isTup = false) : v'.isTup = false := by
  unfold castV at hc
  split at hc
  · cases hc; exact ht
  · rcases bif_eq_some hc with ⟨_, hc⟩ | ⟨_, hc⟩
    · cases hc
    · exact isTup_frzN hc ht
  · split at hc
    · split at hc
      · split at hc
        · cases hc; rfl
        · cases hc
      · cases hc
    · cases hc
  · split at hc
    · split at hc
      · cases hc; rfl
      · cases hc
    · split at hc
      · replace hc := bif_eq_some hc
        rcases hc with ⟨_, hc⟩ | ⟨_, hc⟩
        · cases hc; rfl
        · replace hc := bif_eq_some hc
          rcases hc with ⟨_, hc⟩ | ⟨_, hc⟩
          · split at hc
            · cases hc; rfl
            · cases hc
          · cases hc
      · cases hc
    · rcases bif_eq_some hc with ⟨_, hc⟩ | ⟨_, hc⟩
      · split at hc
        · cases hc; rfl
        · cases hc
      · cases hc
    · cases hc

theorem castL_ok {w : World} : ∀ {hs : List Hint} {vs vs' : List AV} {H H' : Heap} {us : List Value} {k : Nat} {B : Bz}, 1000 ≤ k → castL k hs vs H = some (vs', H') → HeapR B H w → All2 (VR0 B) vs us → (∀ v ∈ vs, v.isTup = false ∧ ∀ i ∈ v.ids, (look i H).isSome = true) →
    ∃ B', (∀ i, i < 1000 → B' i = B i) ∧ (∀ i, (look i H).isSome = true → B' i = B i ∧ (look i H').isSome = true) ∧ HeapR B' H' w ∧ Fr B H w B' H' w ∧ All2 (VR0 B') vs' us ∧ ∀ v ∈ vs', v.isTup = false ∧ ∀ i ∈ v.ids, (look i H').isSome = true
  | [], [], vs', H, H', us, k, B, _, h, hh, ha, hv => by
    simp only [castL, Option.some.injEq, Prod.mk.injEq] at h
    obtain ⟨rfl, rfl⟩ := h
    exact ⟨B, fun _ _ => rfl, fun i hi => ⟨rfl, hi⟩, hh, Fr.refl _ _ _, ha, hv⟩
  | [], _ :: _, _, _, _, _, _, _, _, h, _, _, _ => by cases h
  | _ :: _, [], _, _, _, _, _, _, _, h, _, _, _ => by cases h
  | hint :: hs, v :: vs, vs', H, H', us, k, B, hk, h, hh, ha, hv => by
    match us, ha with
    | u :: us, ⟨ha1, ha2⟩ =>
      simp only [castL] at h
      split at h
      · rename_i v1 wr hc
        split at h
        · rename_i l H2 hl
          cases h
          obtain ⟨ht, hvi⟩ := hv v (by simp)
          obtain ⟨B1, hp⟩ := castV_ok (σ := ⟨[], H⟩) hk hh (VR_of_VR0 ha1 ht) hvi hc
          have ht1 := isTup_castV hc ht
          have step : ∀ {as : List AV} {bs : List Value}, All2 (VR0 B) as bs → (∀ x ∈ as, ∀ i ∈ x.ids, (look i H).isSome = true) → All2 (VR0 B1) as bs := by
            intro as
            induction as with
            | nil => intro bs h _; cases bs <;> first | trivial | exact h.elim
            | cons x as ih =>
              intro bs h hi
              cases bs with
              | nil => exact h.elim
              | cons y bs => exact ⟨VR0_congr hp.fr.zle (fun i hm => (hp.same i (hi x (by simp) i hm)).symm) h.1, ih h.2 (fun z hz => hi z (by simp [hz]))⟩
          obtain ⟨B2, q1, q2, q3, q4, q5, q6⟩ := castL_ok (by omega) hl hp.heap (step ha2 (fun x hx => (hv x (by simp [hx])).2)) (fun x hx => ⟨(hv x (by simp [hx])).1, fun i hi => isSome_append ((hv x (by simp [hx])).2 i hi)⟩)
          refine ⟨B2, fun i hi => (q1 i hi).trans (hp.low i hi), fun i hi => ?_, q3, hp.fr.trans q4, ⟨VR0_congr q4.zle (fun i hi => ((q2 i (hp.ids i hi)).1).symm) (VR0_of_VR hp.vr ht1), q5⟩, fun x hx => ?_⟩
          · obtain ⟨p1, p2⟩ := q2 i (isSome_append hi)
            exact ⟨p1.trans (hp.same i hi), p2⟩
          · rcases List.mem_cons.1 hx with rfl | hx
            · exact ⟨ht1, fun i hi => (q2 i (hp.ids i hi)).2⟩
            · exact q6 x hx
        · cases h
      · cases h

theorem All2_ren0 {B B' : Bz} {ρ : Nat → Nat} (hz : Zle B.z B'.z) : ∀ {vs : List AV} {us : List Value}, (∀ i ∈ idsAll vs, B' (ρ i) = B i) → All2 (VR0 B) vs us → All2 (VR0 B') (renAll ρ vs) us
  | [], [], _, _ => trivial
  | [], _ :: _, _, h => h.elim
  | _ :: _, [], _, h => h.elim
  | a :: as, v :: vs, hi, ⟨h1, h2⟩ =>
    ⟨VR0_ren.2 (VR0_congr (B := B) (B' := B'.ren ρ) hz (fun i hm => (hi i (by simp [idsAll, hm])).symm) h1), All2_ren0 hz (fun i hm => hi i (by simp [idsAll, hm])) h2⟩

theorem isTup_renAll {ρ : Nat → Nat} : ∀ {vs : List AV}, (∀ v ∈ vs, v.isTup = false) → ∀ v ∈ renAll ρ vs, v.isTup = false
  | [], _, v, h => by cases h
  | x :: vs, hx, v, h => by
    rcases List.mem_cons.1 h with rfl | h
    · rw [isTup_ren]; exact hx x (by simp)
    · exact isTup_renAll (fun y hy => hx y (by simp [hy])) v h

/-- What is to be shown of a function with a body. -/
structure FnIs (P : Program) (f : FuncId) (fn : Func) (c : Code) (N : Nat) : Prop where
  func : P.funcs[f]? = some fn
  body : fn.body = some c
  ntmps : fn.ntmps = N
  name : (fn.name == "runtime.NumGoroutine") = false

theorem FnIs.callable {P : Program} {f : FuncId} {fn : Func} {c : Code} {N : Nat} (h : FnIs P f fn c N) : Callable P f := fun args w => by
  unfold callFunc
  rw [Sem.run_bind]
  simp only [run_program, Result.andThen_ok, h.func, h.name, h.body]
  rfl

/-- What a function's body comes to, its results taken. -/
theorem fn_ok {P : Program} {E : Env} {f : FuncId} {fn : Func} {c : Code} {N : Nat} (hf : FnIs P f fn c N) (hm : P.follows .mixedOrders = true) (hE : ∀ f, ∀ c ∈ E.fn f, CalleeOK P f c) (hl : LoopsOK P E N 0 c)
    {cells : List (Place × Nat × Hint)} {hints : List Hint} {keep : List Nat} {args : List AV} {L : Heap} {val : AV} {wr H : Heap} (h : runFn P E N c fn.results.toList cells hints keep args L = some (val, H)) (hN : args.length ≤ N) (hH : ∀ i, look i (wr ++ L) = look i H) :
    CallSem P f args L val wr := by
  intro B w vs hL ha hai
  refine calls_of_wp hf.func hf.body ?_
  obtain ⟨e, σ', h5, h6⟩ := exec_ok hm hE hl h
  have hvl := All2_length ha
  have hrel : Rel N B ⟨params 0 args, L⟩ { tmps := vs.toArray ++ Array.replicate (fn.ntmps - vs.toArray.size) undef, defers := [] } w := by
    refine ⟨by simp [hf.ntmps]; omega, rfl, fun t v hv => ?_, fun t v hv i hi => ?_, hL⟩
    · obtain ⟨_, p2⟩ := look_params args 0 t v hv
      rw [Nat.sub_zero] at p2
      obtain ⟨b, q1, q2⟩ := All2_get ha p2
      have hlt := (List.getElem?_eq_some_iff.1 p2).1
      refine ⟨by omega, ?_⟩
      have hlt' : t < vs.length := by omega
      have : (vs.toArray ++ Array.replicate (fn.ntmps - vs.toArray.size) undef).getD t undef = b := by
        rw [Array.getD_eq_getD_getElem?, Array.getElem?_append_left (by simpa using hlt')]
        simp [q1]
      rw [this]; exact q2
    · obtain ⟨_, p2⟩ := look_params args 0 t v hv
      rw [Nat.sub_zero] at p2
      exact hai i (mem_idsAll (List.mem_of_getElem? p2) hi)
  have fin : ∀ {B' : Bz} {a' : Act} {w' : World}, finK P fn.results.toList cells hints keep σ' = some (val, H) → Rn N B ⟨params 0 args, L⟩ w B' σ' a' w' →
      a'.defers = [] ∧ ∃ v, (results fn a'.tmps).run P w' = .ok v w' ∧
        ((.returned v : Ending) = .returned v ∧ ∃ u B'', (.returned v : Ending) = .returned u ∧ VR B'' val u ∧ (∀ i, i < 1000 → B'' i = B i) ∧ HeapR B'' (wr ++ L) w' ∧ Fr B L w B'' (wr ++ L) w') := by
    intro B0 a' w' hfin hn0
    unfold finK at hfin
    split at hfin
    · cases hfin
    rename_i σc hcc
    obtain ⟨B', hn1⟩ := castCells_ok (by omega) hcc hn0.rel
    have hn := hn0.trans hn1
    obtain ⟨us', hk', hut, us, hus, hrun⟩ := resK_ok hn.rel hfin
    split at hk'
    · rename_i vs' H1 hc
      split at hk'
      · rename_i H' hg
        simp only [Option.some.injEq, Prod.mk.injEq] at hk'
        obtain ⟨e1, e2⟩ := hk'
        subst e2
        obtain ⟨B1, p1, p2, p3, p4, p5, p6⟩ := castL_ok (by omega) hc hn.rel.heap hus hut
        obtain ⟨B2, q1, q2, q3, q4⟩ := gather_ok (by omega) p3 hg
        have hus2 := All2_ren0 (ρ := newName 900000 (keepIds keep H1 vs')) q2.zle (fun i hi => (q4 i hi).1) p5
        obtain ⟨u, hu1, hu2⟩ := results_ok (fn := fn) (isTup_renAll (fun v hv => (p6 v hv).1)) hus2 hrun
        refine ⟨hn.rel.defers, u, hu1, rfl, u, B2, rfl, by rw [← e1]; exact hu2, fun i hi => (q3 i hi).trans ((p1 i hi).trans (hn.low i hi)), HeapR_alike (fun i => (hH i).symm) q1, ?_⟩
        exact Fr_alike (fun _ => rfl) (fun i => (hH i).symm) ((hn.fr.trans p4).trans q2)
      · cases hk'
    · cases hk'
  cases e with
  | normal =>
    exact h6 B _ w hrel _ fun B' a' w' hn => by
      obtain ⟨p1, v, p2, _, p3⟩ := fin h5 hn
      exact ⟨p1, v, p2, p3⟩
  | ret =>
    exact h6 B _ w hrel _ fun B' a' w' hn => by
      obtain ⟨p1, v, p2, _, p3⟩ := fin h5 hn
      exact ⟨p1, v, p2, p3⟩
  | exit i => cases h5

theorem look_pick {H1 H : Heap} {ids : List Nat} (hp : pickH H1 ids = some H) (h : ∀ i, (look i H1).isSome = true → i ∈ ids) : ∀ i, look i H1 = look i H := by
  obtain ⟨g1, g2, g3⟩ := pickH_ok hp
  intro i
  by_cases him : i ∈ ids
  · obtain ⟨e, q1, q2⟩ := g2 i him
    rw [q1, q2]
  · rw [g3 i him]
    cases hl : look i H1 with
    | none => rfl
    | some e => exact absurd (h i (by rw [hl]; rfl)) him

theorem callee_ok {P : Program} {E : Env} {f : FuncId} {fn : Func} {c : Code} {N : Nat} (hf : FnIs P f fn c N) (hm : P.follows .mixedOrders = true) (hE : ∀ f, ∀ c ∈ E.fn f, CalleeOK P f c) (hl : LoopsOK P E N 0 c)
    {T : Type} {run : List AV → Heap → Option T} {val : List AV → Heap → T → AV} {wr : List AV → Heap → T → Heap} (cells : List (Place × Nat × Hint)) (hints : List Hint) (keep ids : List Nat) (k : Nat) (hk : k ≤ N)
    (h : ∀ args L t, run args L = some t → ∃ H, runFn P E N c fn.results.toList cells hints keep args L = some (val args L t, H) ∧ pickH (wr args L t ++ L) ids = some H ∧ args.length = k ∧
      ∀ i, (look i (wr args L t ++ L)).isSome = true → i ∈ ids) : ∀ okf, CalleeOK P f (.go T okf run val wr) := by
  refine fun okf => ⟨hf.callable, fun args L t ht => ?_⟩
  obtain ⟨H, h1, h2, hlen, h3⟩ := h args L t ht
  exact fn_ok hf hm hE hl h1 (by omega) (look_pick h2 h3)

theorem callee_ok2 {P : Program} {E : Env} {f : FuncId} {fn : Func} {c : Code} {N : Nat} (hf : FnIs P f fn c N) (hm : P.follows .mixedOrders = true) (hE : ∀ f, ∀ c ∈ E.fn f, CalleeOK P f c) (hl : LoopsOK P E N 0 c)
    {T U : Type} {run : List AV → Heap → Option (T ⊕ U)} {val1 : T → AV} {wr1 : T → Heap} {val2 : U → AV} {wr2 : U → Heap} (cells : List (Place × Nat × Hint)) (hints : List Hint) (keep ids1 ids2 : List Nat) (k : Nat) (hk : k ≤ N)
    (h : ∀ args L s, run args L = some s → args.length = k ∧
      (∀ t, s = .inl t → ∃ H, runFn P E N c fn.results.toList cells hints keep args L = some (val1 t, H) ∧ pickH (wr1 t ++ L) ids1 = some H ∧ ∀ i, (look i (wr1 t ++ L)).isSome = true → i ∈ ids1) ∧
      (∀ t, s = .inr t → ∃ H, runFn P E N c fn.results.toList cells hints keep args L = some (val2 t, H) ∧ pickH (wr2 t ++ L) ids2 = some H ∧ ∀ i, (look i (wr2 t ++ L)).isSome = true → i ∈ ids2)) :
    ∀ okf, CalleeOK P f (.alt T U okf run val1 wr1 val2 wr2) := by
  refine fun okf => ⟨hf.callable, fun args L s hs => ?_⟩
  obtain ⟨hlen, hl', hr'⟩ := h args L s hs
  refine ⟨fun t ht => ?_, fun t ht => ?_⟩
  · obtain ⟨H, h1, h2, h3⟩ := hl' t ht
    exact fn_ok hf hm hE hl h1 (by omega) (look_pick h2 h3)
  · obtain ⟨H, h1, h2, h3⟩ := hr' t ht
    exact fn_ok hf hm hE hl h1 (by omega) (look_pick h2 h3)

end Go.Proofs.YtkgpjplncfginaaGreatDoor.Sy
