/- Plain facts: what holds for all great enough bounds on the rounds; numbers of four words. -/
import Derived.Test.YtjciljaojcekeaaSx20
namespace Go.Proofs.Ytjciljaojcekeaa.Sx
open Go
set_option linter.unusedVariables false
set_option linter.unusedSimpArgs false

def Ev {α : Type} (F : Nat → Option α) (v : α) : Prop := ∃ k0, ∀ k, k0 ≤ k → F k = some v
def Ev2 {α : Type} (F : Nat → Nat → Option α) (v : α) : Prop := ∃ k0, ∀ k n, k0 ≤ k → k0 ≤ n → F k n = some v

theorem Ev.of {α : Type} {F : Nat → Option α} {v : α} (k0 : Nat) (h : ∀ m, F (m + k0) = some v) : Ev F v := ⟨k0, fun k hk => by
  obtain ⟨m, rfl⟩ : ∃ m, k = m + k0 := ⟨k - k0, by omega⟩
  exact h m⟩

theorem Ev.const {α : Type} {F : Nat → Option α} {v : α} (h : ∀ k, F k = some v) : Ev F v := ⟨0, fun k _ => h k⟩

theorem Ev.get {α : Type} {F : Nat → Option α} {v : α} (h : Ev F v) : ∃ k, F k = some v := by
  obtain ⟨k0, h⟩ := h; exact ⟨k0, h _ (Nat.le_refl _)⟩

theorem Ev.congr {α : Type} {F G : Nat → Option α} {v : α} (h : Ev G v) (e : ∀ k, F k = G k) : Ev F v := by
  obtain ⟨k0, h⟩ := h; exact ⟨k0, fun k hk => by rw [e, h k hk]⟩

theorem Ev.bind {α β : Type} {F : Nat → Option α} {v : α} {G : Nat → α → Option β} {w : β} (h : Ev F v) (g : Ev (fun k => G k v) w) : Ev (fun k => Option.bind (F k) (G k)) w := by
  obtain ⟨k0, h⟩ := h; obtain ⟨k1, g⟩ := g
  exact ⟨max k0 k1, fun k hk => by
    show Option.bind (F k) (G k) = some w
    rw [h k (by omega)]; exact g k (by omega)⟩

theorem Ev2.ev {α : Type} {F : Nat → Nat → Option α} {v : α} (h : Ev2 F v) : Ev (fun k => F k k) v := by
  obtain ⟨k0, h⟩ := h; exact ⟨k0, fun k hk => h k k hk hk⟩

/-- One round more: what a round comes to, if what follows comes to 'w'. -/
theorem Ev2.succ {α : Type} {F : Nat → Nat → Option α} {G : Nat → Nat → Option α} {v : α} (e : ∀ k n, F k (n + 1) = G k n) (h : Ev2 G v) : Ev2 F v := by
  obtain ⟨k0, h⟩ := h
  exact ⟨k0 + 1, fun k n hk hn => by
    obtain ⟨m, rfl⟩ : ∃ m, n = m + 1 := ⟨n - 1, by omega⟩
    rw [e]; exact h k m (by omega) (by omega)⟩

theorem Ev2.const {α : Type} {F : Nat → Nat → Option α} {v : α} (h : ∀ k n, F k n = some v) : Ev2 F v := ⟨0, fun k n _ _ => h k n⟩

theorem Ev2.bind {α β : Type} {F : Nat → Option α} {v : α} {G : Nat → Nat → α → Option β} {w : β} (h : Ev F v) (g : Ev2 (fun k n => G k n v) w) : Ev2 (fun k n => Option.bind (F k) (G k n)) w := by
  obtain ⟨k0, h⟩ := h; obtain ⟨k1, g⟩ := g
  exact ⟨max k0 k1, fun k n hk hn => by
    show Option.bind (F k) (G k n) = some w
    rw [h k (by omega)]; exact g k n (by omega) (by omega)⟩

theorem Ev2.of {α : Type} {F : Nat → Option α} {v : α} (h : Ev F v) : Ev2 (fun k _ => F k) v := by
  obtain ⟨k0, h⟩ := h; exact ⟨k0, fun k n hk _ => h k hk⟩

/-! ### Numbers of four words -/

def vN : List Int → Nat
  | [] => 0
  | x :: r => x.toNat + 2 ^ 64 * vN r

abbrev numT : Ty := .arr .u64 4

theorem wf_u64 {y : Int} : (Lit.int .u64 y).wf = true ↔ 0 ≤ y ∧ y < 2 ^ 64 := by
  simp only [Lit.wf, Bool.and_eq_true, decide_eq_true_eq]
  show (0 : Int) ≤ y ∧ y ≤ 18446744073709551615 ↔ _
  omega

theorem wf_i64 {y : Int} : (Lit.int .i64 y).wf = true ↔ -2 ^ 63 ≤ y ∧ y < 2 ^ 63 := by
  simp only [Lit.wf, Bool.and_eq_true, decide_eq_true_eq]
  show (-9223372036854775808 : Int) ≤ y ∧ y ≤ 9223372036854775807 ↔ _
  omega

/-- A good number is four words. -/
theorem num4 {a : List Int} (h : goodT numT a) : ∃ n0 n1 n2 n3 : Nat, a = [(n0 : Int), (n1 : Int), (n2 : Int), (n3 : Int)] ∧ n0 < 2 ^ 64 ∧ n1 < 2 ^ 64 ∧ n2 < 2 ^ 64 ∧ n3 < 2 ^ 64 := by
  obtain ⟨hl, hg⟩ := h
  match a, hl with
  | [a0, a1, a2, a3], _ =>
    have g0 := wf_u64.1 (hg a0 (by simp))
    have g1 := wf_u64.1 (hg a1 (by simp))
    have g2 := wf_u64.1 (hg a2 (by simp))
    have g3 := wf_u64.1 (hg a3 (by simp))
    exact ⟨a0.toNat, a1.toNat, a2.toNat, a3.toNat, by simp [Int.toNat_of_nonneg g0.1, Int.toNat_of_nonneg g1.1, Int.toNat_of_nonneg g2.1, Int.toNat_of_nonneg g3.1], by omega, by omega, by omega, by omega⟩

theorem good4 {n0 n1 n2 n3 : Nat} (h0 : n0 < 2 ^ 64) (h1 : n1 < 2 ^ 64) (h2 : n2 < 2 ^ 64) (h3 : n3 < 2 ^ 64) : goodT numT [(n0 : Int), (n1 : Int), (n2 : Int), (n3 : Int)] := by
  refine ⟨rfl, fun y hy => ?_⟩
  simp only [List.mem_cons, List.not_mem_nil, or_false] at hy
  rcases hy with rfl | rfl | rfl | rfl <;> exact wf_u64.2 (by omega)

theorem vN4 (n0 n1 n2 n3 : Nat) : vN [(n0 : Int), (n1 : Int), (n2 : Int), (n3 : Int)] = n0 + 2 ^ 64 * (n1 + 2 ^ 64 * (n2 + 2 ^ 64 * n3)) := by
  simp [vN]

theorem vN_lt {a : List Int} (h : goodT numT a) : vN a < 2 ^ 256 := by
  obtain ⟨n0, n1, n2, n3, rfl, h0, h1, h2, h3⟩ := num4 h
  rw [vN4]; omega

theorem vN_inj {a b : List Int} (ha : goodT numT a) (hb : goodT numT b) (h : vN a = vN b) : a = b := by
  obtain ⟨n0, n1, n2, n3, rfl, h0, h1, h2, h3⟩ := num4 ha
  obtain ⟨m0, m1, m2, m3, rfl, g0, g1, g2, g3⟩ := num4 hb
  rw [vN4, vN4] at h
  have e0 : n0 = m0 := by omega
  have e1 : n1 = m1 := by omega
  have e2 : n2 = m2 := by omega
  have e3 : n3 = m3 := by omega
  rw [e0, e1, e2, e3]

end Go.Proofs.Ytjciljaojcekeaa.Sx
