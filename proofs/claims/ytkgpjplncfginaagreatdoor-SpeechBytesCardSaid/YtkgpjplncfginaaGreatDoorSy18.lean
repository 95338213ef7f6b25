/- Helpers for what the printer prints: tables of callees and loops, parts of a code, binds through choices. -/
import Derived.Test.YtkgpjplncfginaaGreatDoorSy17
namespace Go.Proofs.YtkgpjplncfginaaGreatDoor.Sy
open Go
set_option linter.unusedVariables false
set_option linter.unusedSimpArgs false

def bodyOf (fn : Func) : Code := match fn.body with
  | some c => c
  | none => .skip

def subC : Code → List Nat → Code
  | c, [] => c
  | .seq a _, 0 :: r => subC a r
  | .seq _ b, _ :: r => subC b r
  | .cond _ a _, 0 :: r => subC a r
  | .cond _ _ b, _ :: r => subC b r
  | .block _ c, _ :: r => subC c r
  | .loop c, _ :: r => subC c r
  | c, _ => c

def loopsIn : Nat → Code → List (Nat × Code)
  | cur, .seq a b => loopsIn cur a ++ loopsIn cur b
  | cur, .cond _ a b => loopsIn cur a ++ loopsIn cur b
  | _, .block id c => loopsIn id c
  | cur, .loop body => [(cur, body)]
  | _, _ => []

def LoopList (P : Program) (E : Env) (N : Nat) : List (Nat × Code) → Prop
  | [] => True
  | p :: r => (∀ ls, E.loop p.1 = some ls → LoopOK P N p.2 ls) ∧ LoopList P E N r

theorem LoopList.left {P : Program} {E : Env} {N : Nat} : ∀ {a b : List (Nat × Code)}, LoopList P E N (a ++ b) → LoopList P E N a
  | [], _, _ => trivial
  | _ :: _, _, h => ⟨h.1, LoopList.left h.2⟩

theorem LoopList.right {P : Program} {E : Env} {N : Nat} : ∀ {a b : List (Nat × Code)}, LoopList P E N (a ++ b) → LoopList P E N b
  | [], _, h => h
  | _ :: r, _, h => LoopList.right (a := r) h.2

theorem loopsOK_in {P : Program} {E : Env} {N : Nat} : ∀ {c : Code} {cur : Nat}, LoopList P E N (loopsIn cur c) → LoopsOK P E N cur c := by
  intro c
  induction c with
  | seq a b iha ihb => intro cur h; exact ⟨iha h.left, ihb h.right⟩
  | cond x a b iha ihb => intro cur h; exact ⟨iha h.left, ihb h.right⟩
  | block id c ih => intro cur h; exact ih (cur := id) h
  | loop b ih => intro cur h; exact h.1
  | _ => intro cur _; trivial

theorem loopsOK_of {P : Program} {E : Env} {N : Nat} {c : Code} {cur : Nat} (l : List (Nat × Code)) (h : loopsIn cur c = l) (hl : LoopList P E N l) : LoopsOK P E N cur c := by
  subst h; exact loopsOK_in hl

theorem of_loop {P : Program} {E : Env} {N i : Nat} {b : Code} (s : LoopSum) (h : E.loop i = some s) (ho : LoopOK P N b s) : ∀ ls, E.loop i = some ls → LoopOK P N b ls := by
  intro ls hl; rw [h] at hl; cases hl; exact ho

theorem no_loop {P : Program} {E : Env} {N i : Nat} {b : Code} (h : E.loop i = none) : ∀ ls, E.loop i = some ls → LoopOK P N b ls := by
  intro ls hl; rw [h] at hl; cases hl

def loopTab : List (Nat × LoopSum) → Nat → Option LoopSum
  | [], _ => none
  | (i, s) :: r, j => bif Nat.beq i j then some s else loopTab r j

def fnTab : List (FuncId × List Callee) → FuncId → List Callee
  | [], _ => []
  | (i, s) :: r, j => bif Nat.beq i j then s else fnTab r j

def natsTab : List (FuncId × List Nat) → FuncId → List Nat
  | [], _ => []
  | (i, s) :: r, j => bif Nat.beq i j then s else natsTab r j

def natTab : List (Nat × Nat) → Nat → Option Nat
  | [], _ => none
  | (i, s) :: r, j => bif Nat.beq i j then some s else natTab r j

def CallList (P : Program) (f : FuncId) : List Callee → Prop
  | [] => True
  | c :: r => CalleeOK P f c ∧ CallList P f r

def FnList (P : Program) : List (FuncId × List Callee) → Prop
  | [] => True
  | p :: r => CallList P p.1 p.2 ∧ FnList P r

theorem CallList.ok {P : Program} {f : FuncId} : ∀ {l : List Callee}, CallList P f l → ∀ c ∈ l, CalleeOK P f c
  | [], _, c, h => by cases h
  | a :: r, h, c, hc => by
    rcases List.mem_cons.1 hc with rfl | hc
    · exact h.1
    · exact CallList.ok h.2 c hc

theorem fnTab_ok {P : Program} : ∀ {l : List (FuncId × List Callee)}, FnList P l → ∀ f, ∀ c ∈ fnTab l f, CalleeOK P f c
  | [], _, f, c, h => by cases h
  | (i, s) :: r, h, f, c, hc => by
    simp only [fnTab] at hc
    cases e : Nat.beq i f with
    | true =>
      rw [e] at hc
      have e := Nat.eq_of_beq_eq_true e
      subst e
      exact CallList.ok h.1 c hc
    | false => rw [e] at hc; exact fnTab_ok h.2 f c hc

theorem bif_bind {α β : Type} (c : Bool) (a b : Option α) (h : α → Option β) : Option.bind (bif c then a else b) h = bif c then Option.bind a h else Option.bind b h := by cases c <;> rfl

theorem sel_bind' {α β γ δ : Type} (t : α ⊕ β) (f : α → Option γ) (g : β → Option γ) (h : γ → Option δ) : Option.bind (sel t f g) h = sel t (fun x => Option.bind (f x) h) (fun x => Option.bind (g x) h) := by cases t <;> rfl

end Go.Proofs.YtkgpjplncfginaaGreatDoor.Sy
