/- The machine Sy on code: regions, branches, blocks, loops, functions. -/
import Derived.Test.YtkgpjplncfginaaGreatDoorSyJ
import Derived.LoopN
namespace Go.Proofs.YtkgpjplncfginaaGreatDoor.Sy
open Go
set_option linter.unusedVariables false
set_option linter.unusedSimpArgs false

section
variable {R : Type}

def regionK (P : Program) (E : Env) (N : Nat) (ops : List Oper) (draw : Bool) (σ : St) (K : St → Option R) : Option R :=
  opsK P E N ops ops σ [] (fun σ' tr => bif draw then (bif chk ops ops tr.reverse [] [] then K σ' else none) else K σ')

def exec (P : Program) (E : Env) (N : Nat) : Nat → Code → St → (Ex → St → Option R) → Option R
  | _, .skip, σ, K => K .normal σ
  | _, .label _, σ, K => K .normal σ
  | _, .region _ ops draw, σ, K => regionK P E N ops.toList draw σ (fun σ' => K .normal σ')
  | cur, .seq a b, σ, K => exec P E N cur a σ (fun e σ' => match e with
    | .normal => exec P E N cur b σ' K
    | .exit i => K (.exit i) σ'
    | .ret => K .ret σ')
  | cur, .cond c t e, σ, K => (match ev σ c with
    | some (.bool b) => bif b then exec P E N cur t σ K else exec P E N cur e σ K
    | _ => none)
  | _, .block id c, σ, K => exec P E N id c σ (fun e σ' => match e with
    | .normal => K .normal σ'
    | .exit i => bif Nat.beq i id then K .normal σ' else K (.exit i) σ'
    | .ret => K .ret σ')
  | cur, .loop _, σ, K => (match E.loop cur with
    | some (.mk _ _ id run out ret) => (run σ).bind (fun t => sel t (fun v => K (.exit id) (out σ v)) (fun q => K .ret (ret σ q)))
    | some (.ex _ id run out) => (run σ).bind (fun v => K (.exit id) (out σ v))
    | some (.rt _ run ret) => (run σ).bind (fun q => K .ret (ret σ q))
    | none => none)
  | _, .exit id, σ, K => K (.exit id) σ
  | _, .ret, σ, K => K .ret σ
  | _, _, _, _ => none

end

def Ex.to : Ex → Exit
  | .normal => .normal
  | .exit id => .exit id
  | .ret => .ret

def Runs (P : Program) (N : Nat) (c : Code) (σ : St) (e : Ex) (σ' : St) : Prop :=
  ∀ (B : Bz) (a : Act) (w : World), Rel N B σ a w → ∀ (Q : Exit → Act → World → Prop), (∀ B' a' w', Rn N B σ w B' σ' a' w' → Q e.to a' w') → c.wp P Q a w

def LoopOK (P : Program) (N : Nat) (body : Code) : LoopSum → Prop
  | .mk _ _ id run out ret => ∀ σ t, run σ = some t → match t with
    | .inl v => Runs P N (.loop body) σ (.exit id) (out σ v)
    | .inr q => Runs P N (.loop body) σ .ret (ret σ q)
  | .ex _ id run out => ∀ σ t, run σ = some t → Runs P N (.loop body) σ (.exit id) (out σ t)
  | .rt _ run ret => ∀ σ t, run σ = some t → Runs P N (.loop body) σ .ret (ret σ t)

/-- Each loop that stands in the code, but for loops in loops, does what its summary says. -/
def LoopsOK (P : Program) (E : Env) (N : Nat) : Nat → Code → Prop
  | cur, .seq a b => LoopsOK P E N cur a ∧ LoopsOK P E N cur b
  | cur, .cond _ a b => LoopsOK P E N cur a ∧ LoopsOK P E N cur b
  | _, .block id c => LoopsOK P E N id c
  | cur, .loop body => ∀ ls, E.loop cur = some ls → LoopOK P N body ls
  | _, _ => True

theorem exec_ok {R : Type} {P : Program} {E : Env} {N : Nat} (hm : P.follows .mixedOrders = true) (hE : ∀ f, ∀ c ∈ E.fn f, CalleeOK P f c) : ∀ {c : Code} {cur : Nat} {σ : St} {K : Ex → St → Option R} {r : R}, LoopsOK P E N cur c →
    exec P E N cur c σ K = some r → ∃ e σ', K e σ' = some r ∧ Runs P N c σ e σ' := by
  intro c
  induction c with
  | skip => intro cur σ K r _ h; exact ⟨.normal, σ, h, fun B a w hr Q hQ => wp_skip (hQ B a w (Rn.refl hr))⟩
  | label l => intro cur σ K r _ h; exact ⟨.normal, σ, h, fun B a w hr Q hQ => wp_label (hQ B a w (Rn.refl hr))⟩
  | region id ops draw =>
    intro cur σ K r _ h
    obtain ⟨σ', efs, h1, h2⟩ := opsK_ok h
    cases draw with
    | false => exact ⟨.normal, σ', h1, fun B a w hr Q hQ => region_seq hE h2 hr hQ⟩
    | true =>
      simp only [cond_true] at h1
      replace h1 := bif_eq_some h1
      rcases h1 with ⟨hc, h1⟩ | ⟨_, h1⟩
      · refine ⟨.normal, σ', h1, fun B a w hr Q hQ => region_any hE hm h2 ?_ hr hQ⟩
        simpa using hc
      · cases h1
  | seq x y ihx ihy =>
    intro cur σ K r hl h
    obtain ⟨e, σ1, h1, h2⟩ := ihx hl.1 h
    cases e with
    | normal =>
      obtain ⟨e2, σ2, h3, h4⟩ := ihy hl.2 h1
      exact ⟨e2, σ2, h3, fun B a w hr Q hQ => wp_seq (h2 B a w hr _ fun B1 a1 w1 hn1 => h4 B1 a1 w1 hn1.rel Q fun B2 a2 w2 hn2 => hQ B2 a2 w2 (hn1.trans hn2))⟩
    | exit i => exact ⟨.exit i, σ1, h1, fun B a w hr Q hQ => wp_seq (h2 B a w hr _ fun B1 a1 w1 hn1 => hQ B1 a1 w1 hn1)⟩
    | ret => exact ⟨.ret, σ1, h1, fun B a w hr Q hQ => wp_seq (h2 B a w hr _ fun B1 a1 w1 hn1 => hQ B1 a1 w1 hn1)⟩
  | cond c x y ihx ihy =>
    intro cur σ K r hl h
    simp only [exec] at h
    split at h
    · rename_i b hb
      replace h := bif_eq_some h
      rcases h with ⟨rfl, h⟩ | ⟨rfl, h⟩
      · obtain ⟨e, σ1, h1, h2⟩ := ihx hl.1 h
        exact ⟨e, σ1, h1, fun B a w hr Q hQ => wp_cond_true (VR_bool (ev_ok hr hb).1) (h2 B a w hr Q hQ)⟩
      · obtain ⟨e, σ1, h1, h2⟩ := ihy hl.2 h
        exact ⟨e, σ1, h1, fun B a w hr Q hQ => wp_cond_false (VR_bool (ev_ok hr hb).1) (h2 B a w hr Q hQ)⟩
    · cases h
  | block id x ih =>
    intro cur σ K r hl h
    obtain ⟨e, σ1, h1, h2⟩ := ih (cur := id) hl h
    cases e with
    | normal => exact ⟨.normal, σ1, h1, fun B a w hr Q hQ => wp_block (h2 B a w hr _ fun B1 a1 w1 hn1 => hQ B1 a1 w1 hn1)⟩
    | ret => exact ⟨.ret, σ1, h1, fun B a w hr Q hQ => wp_block (h2 B a w hr _ fun B1 a1 w1 hn1 => hQ B1 a1 w1 hn1)⟩
    | exit i =>
      simp only at h1
      replace h1 := bif_eq_some h1
      rcases h1 with ⟨hi, h1⟩ | ⟨hi, h1⟩
      · have hi := Nat.eq_of_beq_eq_true hi
        subst hi
        refine ⟨.normal, σ1, h1, fun B a w hr Q hQ => wp_block (h2 B a w hr _ fun B1 a1 w1 hn1 => ?_)⟩
        show (if i = i then Q .normal a1 w1 else Q (.exit i) a1 w1)
        rw [if_pos rfl]
        exact hQ B1 a1 w1 hn1
      · have hi : i ≠ id := fun e => by rw [e, Nat.beq_refl] at hi; cases hi
        refine ⟨.exit i, σ1, h1, fun B a w hr Q hQ => wp_block (h2 B a w hr _ fun B1 a1 w1 hn1 => ?_)⟩
        show (if i = id then Q .normal a1 w1 else Q (.exit i) a1 w1)
        rw [if_neg hi]
        exact hQ B1 a1 w1 hn1
  | loop body ih =>
    intro cur σ K r hl h
    simp only [exec] at h
    split at h
    · rename_i V W id run out ret hls
      obtain ⟨t, ht, h1⟩ := Option.bind_eq_some_iff.1 h
      have hok := hl _ hls σ t ht
      cases t with
      | inl v => exact ⟨_, _, h1, hok⟩
      | inr q => exact ⟨_, _, h1, hok⟩
    · rename_i V id run out hls
      obtain ⟨t, ht, h1⟩ := Option.bind_eq_some_iff.1 h
      exact ⟨_, _, h1, hl _ hls σ t ht⟩
    · rename_i W run ret hls
      obtain ⟨t, ht, h1⟩ := Option.bind_eq_some_iff.1 h
      exact ⟨_, _, h1, hl _ hls σ t ht⟩
    · cases h
  | exit id => intro cur σ K r _ h; exact ⟨.exit id, σ, h, fun B a w hr Q hQ => wp_exit (hQ B a w (Rn.refl hr))⟩
  | ret => intro cur σ K r _ h; exact ⟨.ret, σ, h, fun B a w hr Q hQ => wp_ret (hQ B a w (Rn.refl hr))⟩
  | _ => intro cur σ K r _ h; cases h

/-! ### Loops -/

/-- The rounds of a loop: 'nm' is what is kept between rounds, 'fin' what is kept behind it. -/
def loopIt (P : Program) (E : Env) (N cur : Nat) (body : Code) (nm : St → Option St) (fin : Ex → St → Option St) : Nat → St → Option (Ex × St)
  | 0, _ => none
  | n + 1, σ => exec P E N cur body σ (fun e σ' => match e with
    | .normal => (nm σ').bind (loopIt P E N cur body nm fin n)
    | .exit i => (fin (.exit i) σ').bind (fun s => some (.exit i, s))
    | .ret => (fin .ret σ').bind (fun s => some (.ret, s)))

def Keeps (N : Nat) (f : St → Option St) : Prop := ∀ σ σ', f σ = some σ' → ∀ (B : Bz) (a : Act) (w : World), Rel N B σ a w → ∃ B', Rn N B σ w B' σ' a w

theorem loopIt_ok {P : Program} {E : Env} {N : Nat} (hm : P.follows .mixedOrders = true) (hE : ∀ f, ∀ c ∈ E.fn f, CalleeOK P f c) {cur : Nat} {body : Code} (hl : LoopsOK P E N cur body) {nm : St → Option St} {fin : Ex → St → Option St}
    (hnm : Keeps N nm) (hfin : ∀ e, Keeps N (fin e)) : ∀ {n : Nat} {σ : St} {e : Ex} {σ' : St}, loopIt P E N cur body nm fin n σ = some (e, σ') →
    (match e with | .normal => False | _ => True) ∧ ∀ (B : Bz) (a : Act) (w : World), Rel N B σ a w → ∀ (Q : Exit → Act → World → Prop), (∀ B' a' w', Rn N B σ w B' σ' a' w' → Q e.to a' w') → Code.rounds P body Q n a w
  | 0, σ, e, σ', h => by cases h
  | n + 1, σ, e, σ', h => by
    simp only [loopIt] at h
    obtain ⟨e1, σ1, h1, h2⟩ := exec_ok hm hE hl h
    cases e1 with
    | normal =>
      obtain ⟨σ2, h3, h4⟩ := Option.bind_eq_some_iff.1 h1
      obtain ⟨h5, h6⟩ := loopIt_ok hm hE hl hnm hfin h4
      refine ⟨h5, fun B a w hr Q hQ => ?_⟩
      rw [rounds_succ]
      refine h2 B a w hr _ fun B1 a1 w1 hn1 => ?_
      obtain ⟨B1', hk⟩ := hnm σ1 σ2 h3 B1 a1 w1 hn1.rel
      exact h6 B1' a1 w1 hk.rel Q fun B2 a2 w2 hn2 => hQ B2 a2 w2 ((hn1.trans hk).trans hn2)
    | exit i =>
      obtain ⟨s, h3, h4⟩ := Option.bind_eq_some_iff.1 h1
      cases h4
      refine ⟨trivial, fun B a w hr Q hQ => ?_⟩
      rw [rounds_succ]
      refine h2 B a w hr _ fun B1 a1 w1 hn1 => ?_
      obtain ⟨B1', hk⟩ := hfin _ σ1 σ' h3 B1 a1 w1 hn1.rel
      exact hQ B1' a1 w1 (hn1.trans hk)
    | ret =>
      obtain ⟨s, h3, h4⟩ := Option.bind_eq_some_iff.1 h1
      cases h4
      refine ⟨trivial, fun B a w hr Q hQ => ?_⟩
      rw [rounds_succ]
      refine h2 B a w hr _ fun B1 a1 w1 hn1 => ?_
      obtain ⟨B1', hk⟩ := hfin _ σ1 σ' h3 B1 a1 w1 hn1.rel
      exact hQ B1' a1 w1 (hn1.trans hk)

theorem runs_loop {P : Program} {E : Env} {N : Nat} (hm : P.follows .mixedOrders = true) (hE : ∀ f, ∀ c ∈ E.fn f, CalleeOK P f c) {cur : Nat} {body : Code} (hl : LoopsOK P E N cur body) {nm : St → Option St} {fin : Ex → St → Option St}
    (hnm : Keeps N nm) (hfin : ∀ e, Keeps N (fin e)) {n : Nat} {σ σ0 : St} {e : Ex} {σ' : St} (h0 : nm σ0 = some σ) (h : loopIt P E N cur body nm fin n σ = some (e, σ')) : Runs P N (.loop body) σ0 e σ' := by
  obtain ⟨_, h2⟩ := loopIt_ok hm hE hl hnm hfin h
  intro B a w hr Q hQ
  obtain ⟨B1, hk⟩ := hnm σ0 σ h0 B a w hr
  exact wp_loop_rounds n (h2 B1 a w hk.rel Q fun B' a' w' hn => hQ B' a' w' (hk.trans hn))

theorem keeps_recast (N : Nat) (cells : List (Place × Nat × Hint)) (slots : List (Nat × Hint)) (keep : List Nat) : Keeps N (recast cells slots keep) := fun _ _ h _ _ _ hr => recast_ok h hr

end Go.Proofs.YtkgpjplncfginaaGreatDoor.Sy
