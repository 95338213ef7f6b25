/- The machine Sx on functions, and the shapes of what they take. -/
import Derived.Test.YtjciljaojcekeaaSx15
namespace Go.Proofs.Ytjciljaojcekeaa.Sx
open Go
set_option linter.unusedVariables false
set_option linter.unusedSimpArgs false

/-! ### Functions -/

section
variable {R : Type}

def resK (P : Program) (σ : St) : List ResultVar → (List AV → Option R) → Option R
  | [], K => K []
  | .tmp t :: r, K => (match look t σ.env with
    | some v => bif v.isTup then none else resK P σ r (fun vs => K (v :: vs))
    | none => none)
  | .cell c t :: r, K => (match look c σ.env with
    | some (.ptr (some p)) => (match tyIx P t with
      | some (n, g) => (match look p.id σ.heap with
        | some e => loadE e p.st p.dys n g (fun v => resK P σ r (fun vs => K (v :: vs)))
        | none => none)
      | none => none)
    | _ => none)

end

def tupOf : List AV → AV
  | [] => .tnil
  | v :: r => .tcons v (tupOf r)

def mkRes : List AV → AV
  | [v] => v
  | l => tupOf l

def params : Nat → List AV → List (Nat × AV)
  | _, [] => []
  | i, v :: r => (i, v) :: params (i + 1) r

def finK (P : Program) (res : List ResultVar) (ids : List Nat) (σ : St) : Option (AV × Heap) :=
  resK P σ res (fun vs => match pickH σ.heap ids with
    | some H => bif heapIn ids H then some (mkRes vs, H) else none
    | none => none)

def runFn (P : Program) (E : Env) (N : Nat) (c : Code) (res : List ResultVar) (ids : List Nat) (args : List AV) (L : Heap) : Option (AV × Heap) :=
  exec P E N 0 c ⟨params 0 args, L⟩ (fun e σ => match e with
    | .normal => finK P res ids σ
    | .ret => finK P res ids σ
    | .exit _ => none)

def readRes (tmps : Array Value) : ResultVar → Sem Value
  | .tmp t => pure (tmps.getD t undef)
  | .cell a t => do loadVar t (← asAddr (tmps.getD a undef))

theorem results_eq (fn : Func) (tmps : Array Value) : results fn tmps = (do
    let vs ← fn.results.mapM (readRes tmps)
    pure (if h : vs.size = 1 then vs[0] else .tuple vs)) := by
  unfold results
  congr 1

theorem resK_ok {P : Program} {N : Nat} {B : Nat → Value} {σ : St} {a : Act} {w : World} (hr : Rel N B σ a w) {R : Type} : ∀ {res : List ResultVar} {K : List AV → Option R} {r : R}, resK P σ res K = some r →
    ∃ vs, K vs = some r ∧ (∀ v ∈ vs, v.isTup = false) ∧ ∃ us, All2 (VR0 B) vs us ∧
      (res.mapM (readRes a.tmps) : Sem (List Value)).run P w = .ok us w
  | [], K, r, h => ⟨[], h, fun v hv => (by cases hv), [], trivial, rfl⟩
  | .tmp t :: res, K, r, h => by
    simp only [resK] at h
    split at h
    · rename_i v hv
      replace h := bif_eq_some h
      rcases h with ⟨_, h⟩ | ⟨ht, h⟩
      · cases h
      · obtain ⟨vs, h1, h2, us, h3, h4⟩ := resK_ok hr h
        refine ⟨v :: vs, h1, fun x hx => ?_, a.tmps.getD t undef :: us, ⟨VR0_of_VR (hr.env t v hv).2 ht, h3⟩, ?_⟩
        · rcases List.mem_cons.1 hx with rfl | hx
          · exact ht
          · exact h2 x hx
        · rw [List.mapM_cons, Sem.run_bind]
          simp only [readRes, Sem.run_pure, Result.andThen_ok]
          rw [Sem.run_bind, h4]; rfl
    · cases h
  | .cell c t :: res, K, r, h => by
    simp only [resK] at h
    split at h
    · rename_i p hp
      split at h
      · rename_i n g ht
        split at h
        · rename_i e he
          obtain ⟨u, hk, hut, hi, q, hq, hrun⟩ := load_op (P := P) hr.heap (hr.env c _ hp).2 ht he h
          obtain ⟨vs, h1, h2, us, h3, h4⟩ := resK_ok hr hk
          refine ⟨u :: vs, h1, fun x hx => ?_, q :: us, ⟨VR0_of_VR hq hut, h3⟩, ?_⟩
          · rcases List.mem_cons.1 hx with rfl | hx
            · exact hut
            · exact h2 x hx
          · obtain ⟨b, o, _, e⟩ := VR_ptr (hr.env c _ hp).2
            rw [e] at hrun
            simp only [Instr.loadAt, Instr.sureAddr, pure_bind] at hrun
            have e2 : (readRes a.tmps (.cell c t)).run P w = .ok q w := by
              simp only [readRes]
              rw [e]
              exact hrun
            rw [List.mapM_cons, Sem.run_bind]
            simp only [e2, Result.andThen_ok]
            rw [Sem.run_bind, h4]; rfl
        · cases h
      · cases h
    · cases h

theorem TR_tupOf {B : Nat → Value} : ∀ {vs : List AV} {us : List Value}, All2 (VR0 B) vs us → TR B (tupOf vs) us
  | [], [], _ => rfl
  | [], _ :: _, h => h.elim
  | _ :: _, [], h => h.elim
  | v :: vs, u :: us, ⟨h1, h2⟩ => ⟨u, us, rfl, h1, TR_tupOf h2⟩

theorem All2_length {α β : Type} {R : α → β → Prop} : ∀ {as : List α} {bs : List β}, All2 R as bs → as.length = bs.length
  | [], [], _ => rfl
  | [], _ :: _, h => h.elim
  | _ :: _, [], h => h.elim
  | _ :: as, _ :: bs, ⟨_, h⟩ => by simp [All2_length h]

theorem results_ok {P : Program} {N : Nat} {B : Nat → Value} {σ : St} {a : Act} {w : World} {fn : Func} (hr : Rel N B σ a w) {vs : List AV} {us : List Value} (h2 : ∀ v ∈ vs, v.isTup = false) (h3 : All2 (VR0 B) vs us)
    (h4 : (fn.results.toList.mapM (readRes a.tmps) : Sem (List Value)).run P w = .ok us w) :
    ∃ u, (results fn a.tmps).run P w = .ok u w ∧ VR B (mkRes vs) u := by
  have hrun : (fn.results.mapM (readRes a.tmps) : Sem (Array Value)).run P w = .ok us.toArray w := by
    rw [Array.mapM_eq_mapM_toList, Sem.run_map, h4]; rfl
  have hres : (results fn a.tmps).run P w = .ok (if h : us.toArray.size = 1 then us.toArray[0] else .tuple us.toArray) w := by
    rw [results_eq, Sem.run_bind, hrun]
    rfl
  refine ⟨_, hres, ?_⟩
  have hl := All2_length h3
  match vs, us, h3, hl, h2 with
  | [v], [u], h3, _, h2 =>
    simp only [mkRes]
    exact VR_of_VR0 h3.1 (h2 v (by simp))
  | [], [], _, _, _ =>
    simp only [mkRes, tupOf, VR, AV.isTup, if_true]
    exact ⟨[], rfl, rfl⟩
  | v1 :: v2 :: vs, u1 :: u2 :: us, h3, _, _ =>
    simp only [mkRes, tupOf, VR, AV.isTup, if_true]
    exact ⟨u1 :: u2 :: us, TR_tupOf h3, by simp⟩

theorem look_params : ∀ (args : List AV) (i t : Nat) (v : AV), look t (params i args) = some v → i ≤ t ∧ args[t - i]? = some v
  | [], i, t, v, h => by cases h
  | a :: as, i, t, v, h => by
    simp only [params] at h
    rw [look_cons] at h
    by_cases e : t = i
    · rw [if_pos e] at h; cases h; subst e; exact ⟨Nat.le_refl _, by simp⟩
    · rw [if_neg e] at h
      obtain ⟨h1, h2⟩ := look_params as (i + 1) t v h
      exact ⟨by omega, by rw [show t - i = (t - (i + 1)) + 1 by omega]; simpa using h2⟩

theorem All2_get {α β : Type} {R : α → β → Prop} : ∀ {as : List α} {bs : List β} {j : Nat} {a : α}, All2 R as bs → as[j]? = some a → ∃ b, bs[j]? = some b ∧ R a b
  | [], [], j, a, _, h => by simp at h
  | [], _ :: _, _, _, h, _ => h.elim
  | _ :: _, [], _, _, h, _ => h.elim
  | x :: as, y :: bs, 0, a, ⟨h1, h2⟩, h => by simp at h; subst h; exact ⟨y, rfl, h1⟩
  | x :: as, y :: bs, j + 1, a, ⟨h1, h2⟩, h => by
    obtain ⟨b, p, q⟩ := All2_get h2 (by simpa using h)
    exact ⟨b, by simpa using p, q⟩

theorem mem_idsAll {i : Nat} : ∀ {args : List AV} {a : AV}, a ∈ args → i ∈ a.ids → i ∈ idsAll args
  | b :: as, a, h, hi => by
    simp only [idsAll, List.mem_append]
    rcases List.mem_cons.1 h with rfl | h
    · exact .inl hi
    · exact .inr (mem_idsAll h hi)

/-- What is to be shown of a function with a body. -/
structure FnIs (P : Program) (f : FuncId) (fn : Func) (c : Code) (N : Nat) : Prop where
  func : P.funcs[f]? = some fn
  body : fn.body = some c
  ntmps : fn.ntmps = N
  name : (fn.name == "runtime.NumGoroutine") = false

theorem FnIs.callable {P : Program} {f : FuncId} {fn : Func} {c : Code} {N : Nat} (h : FnIs P f fn c N) : Callable P f := fun args w => by
  unfold callFunc
  rw [Sem.run_bind]
  simp only [run_program, Result.andThen_ok, h.func, h.name, h.body]
  rfl

theorem callee_ok {P : Program} {E : Env} {f : FuncId} {fn : Func} {c : Code} {N : Nat} (hf : FnIs P f fn c N) (hm : P.follows .mixedOrders = true) (hE : ∀ f, ∀ c ∈ E.fn f, CalleeOK P f c) (hl : LoopsOK P E N 0 c)
    {T : Type} {run : List AV → Heap → Option T} {val : List AV → Heap → T → AV} {wr : List AV → Heap → T → Heap} (ids : List Nat) (k : Nat) (hk : k ≤ N)
    (h : ∀ args L t, run args L = some t → ∃ H, runFn P E N c fn.results.toList ids args L = some (val args L t, H) ∧ pickH (wr args L t ++ L) ids = some H ∧ args.length = k ∧
      (∀ i, (look i L).isSome = true → i ∈ ids) ∧ ∀ i ∈ keys (wr args L t), i ∈ ids) : ∀ okf, CalleeOK P f (.go T okf run val wr) := by
  refine fun okf => ⟨hf.callable, fun args L t ht B w vs hL ha hai => ?_⟩
  obtain ⟨H, h1, h2, hlen, h3, h4⟩ := h args L t ht
  refine calls_of_wp hf.func hf.body ?_
  obtain ⟨e, σ', h5, h6⟩ := exec_ok hm hE hl h1
  have hvl := All2_length ha
  have hrel : Rel N B ⟨params 0 args, L⟩ { tmps := vs.toArray ++ Array.replicate (fn.ntmps - vs.toArray.size) undef, defers := [] } w := by
    refine ⟨by simp [hf.ntmps]; omega, rfl, fun t v hv => ?_, fun t v hv i hi => ?_, hL⟩
    · obtain ⟨_, p2⟩ := look_params args 0 t v hv
      rw [Nat.sub_zero] at p2
      obtain ⟨b, q1, q2⟩ := All2_get ha p2
      have hlt := (List.getElem?_eq_some_iff.1 p2).1
      refine ⟨by omega, ?_⟩
      have hlt' : t < vs.length := by omega
      have : (vs.toArray ++ Array.replicate (fn.ntmps - vs.toArray.size) undef).getD t undef = b := by
        rw [Array.getD_eq_getD_getElem?, Array.getElem?_append_left (by simpa using hlt')]
        simp [q1]
      rw [this]; exact q2
    · obtain ⟨_, p2⟩ := look_params args 0 t v hv
      rw [Nat.sub_zero] at p2
      exact hai i (mem_idsAll (List.mem_of_getElem? p2) hi)
  have fin : ∀ {B' : Nat → Value} {a' : Act} {w' : World}, finK P fn.results.toList ids σ' = some (val args L t, H) → Rn N B ⟨params 0 args, L⟩ w B' σ' a' w' →
      a'.defers = [] ∧ ∃ v, (results fn a'.tmps).run P w' = .ok v w' ∧
        ((.returned v : Ending) = .returned v ∧ ∃ u B'', (.returned v : Ending) = .returned u ∧ VR B'' (val args L t) u ∧ (∀ i, i < 1000 → B'' i = B i) ∧ HeapR B'' (wr args L t ++ L) w' ∧ Fr B L w B'' (wr args L t ++ L) w') := by
    intro B' a' w' hfin hn
    obtain ⟨us', hk', hut, us, hus, hrun⟩ := resK_ok hn.rel hfin
    split at hk'
    · rename_i H' hH'
      replace hk' := bif_eq_some hk'
      rcases hk' with ⟨hcl, hk'⟩ | ⟨_, hk'⟩
      · simp only [Option.some.injEq, Prod.mk.injEq] at hk'
        obtain ⟨e1, e2⟩ := hk'
        subst e2
        obtain ⟨u, hu1, hu2⟩ := results_ok (fn := fn) hn.rel hut hus hrun
        refine ⟨hn.rel.defers, u, hu1, rfl, u, B', rfl, by rw [← e1]; exact hu2, hn.low, ?_, ?_⟩
        · have hHR := HeapR_pick hH' hcl hn.rel.heap
          obtain ⟨g1, g2, g3⟩ := pickH_ok h2
          refine HeapR_alike (fun i => ?_) hHR
          by_cases him : i ∈ ids
          · obtain ⟨e, q1, q2⟩ := g2 i him
            rw [q1, q2]
          · rw [g3 i him, look_append, look_none_of (fun hk => him (h4 i hk))]
            cases hli : look i L with
            | none => rfl
            | some e => exact absurd (h3 i (by rw [hli]; rfl)) him
        · obtain ⟨g1, g2, g3⟩ := pickH_ok hH'
          obtain ⟨k1, k2, k3⟩ := pickH_ok h2
          refine ⟨hn.fr.os, hn.fr.tape, hn.fr.output, hn.fr.size, hn.fr.keep, fun b ho => hn.fr.owns b ?_⟩
          obtain ⟨i, e, q1, q2⟩ := ho
          have him : i ∈ ids := by
            by_cases him : i ∈ ids
            · exact him
            · exfalso
              rw [look_append, look_none_of (fun hk => him (h4 i hk))] at q1
              exact him (h3 i (by simp only [Option.none_or] at q1; rw [q1]; rfl))
          obtain ⟨e', r1, r2⟩ := k2 i him
          rw [r2] at q1; cases q1
          exact ⟨i, e, g1 i e r1, q2⟩
      · cases hk'
    · cases hk'
  cases e with
  | normal =>
    exact h6 B _ w hrel _ fun B' a' w' hn => by
      obtain ⟨p1, v, p2, _, p3⟩ := fin h5 hn
      exact ⟨p1, v, p2, p3⟩
  | ret =>
    exact h6 B _ w hrel _ fun B' a' w' hn => by
      obtain ⟨p1, v, p2, _, p3⟩ := fin h5 hn
      exact ⟨p1, v, p2, p3⟩
  | exit i => cases h5

end Go.Proofs.Ytjciljaojcekeaa.Sx
