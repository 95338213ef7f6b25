/- Many names; items of the laws on the scroll. -/
import Derived.Test.YtodjcmbkbijliaaQ42
namespace Go.Proofs.Ytodjcmbkbijliaa.Sy
open Go
set_option linter.unusedVariables false
set_option linter.unusedSimpArgs false

theorem wf_u8 {y : Int} : (Lit.int .u8 y).wf = true ↔ 0 ≤ y ∧ y < 256 := by
  simp only [Lit.wf, Bool.and_eq_true, decide_eq_true_eq]
  show (0 : Int) ≤ y ∧ y ≤ 255 ↔ _
  omega

theorem name_of {h : List Int} (hg : goodT (.arr .u8 32) h) : name h := ⟨hg.1, fun y hy => wf_u8.1 (hg.2 y hy)⟩

theorem names0_eq (k : Nat) (l : List (List Int)) (hn : ∀ h ∈ l, List.length h = 32) (hk : l.length < k) (hl : l.length ≤ 1000000) : scroll_Pen_Names_v1.f k l = some l.flatten := by
  have := names_eq k l [] hn hk hl (by simp)
  have e : scroll_Pen_Names.f k l [] = scroll_Pen_Names_v1.f k l := by kernel_rfl
  rw [e] at this
  simpa using this

/-- Pieces of 32 bytes. -/
def chunks : Nat → List Int → List (List Int)
  | 0, _ => []
  | n + 1, t => t.take 32 :: chunks n (t.drop 32)

theorem chunks_length : ∀ n t, (chunks n t).length = n
  | 0, _ => rfl
  | n + 1, t => by simp [chunks, chunks_length n]

theorem flatten_length (l : List (List Int)) (h : ∀ x ∈ l, List.length x = 32) : l.flatten.length = 32 * l.length := by
  induction l with
  | nil => rfl
  | cons x r ih =>
    rw [List.flatten_cons, List.length_append, ih (fun y hy => h y (by simp [hy])), h x (by simp), List.length_cons]
    omega

theorem chunks_flatten : ∀ (l : List (List Int)), (∀ x ∈ l, List.length x = 32) → chunks l.length l.flatten = l
  | [], _ => rfl
  | x :: r, h => by
    have h32 := h x (by simp)
    simp only [List.length_cons, chunks, List.flatten_cons]
    rw [List.take_append_of_le_length (by omega), List.take_of_length_le (by omega), List.drop_append_of_le_length (by omega), List.drop_of_length_le (by omega)]
    simp only [List.nil_append]
    rw [chunks_flatten r (fun y hy => h y (by simp [hy]))]

theorem chunks_flatten' (l : List (List Int)) (t : List Int) (h : ∀ x ∈ l, List.length x = 32) : chunks l.length (l.flatten ++ t) = l := by
  induction l with
  | nil => rfl
  | cons x r ih =>
    have h32 := h x (by simp)
    simp only [List.length_cons, chunks, List.flatten_cons, List.append_assoc]
    rw [List.take_append_of_le_length (by omega), List.take_of_length_le (by omega), List.drop_append_of_le_length (by omega), List.drop_of_length_le (by omega)]
    simp only [List.nil_append]
    rw [ih (fun y hy => h y (by simp [hy]))]

theorem enames_l0_take (k N : Nat) (hN : N ≤ 1000000) : ∀ (d n i : Nat) (t : List Int) (out : List (List Int)), i + d = N → d < n → 32 * d ≤ t.length → out.length = i →
    scroll_Eye_Names.l0.f k (N : Int) n (i : Int) (t, false) out = some (.inl ((N : Int), ((t.drop (32 * d), false), out ++ chunks d t))) := by
  intro d
  induction d with
  | zero =>
    intro n i t out hi hn ht ho
    obtain ⟨n, rfl⟩ : ∃ q, n = q + 1 := ⟨n - 1, by omega⟩
    unfold scroll_Eye_Names.l0.f scroll_Eye_Names.l0.go scroll_Eye_Names.l0.step
    have : i = N := by omega
    subst this
    rw [df (Int.lt_irrefl _)]
    simp [chunks]
  | succ d ih =>
    intro n i t out hi hn ht ho
    obtain ⟨n, rfl⟩ : ∃ q, n = q + 1 := ⟨n - 1, by omega⟩
    have := ih n (i + 1) (t.drop 32) (out ++ [t.take 32]) (by omega) (by omega) (by rw [List.length_drop]; omega) (by simp; omega)
    unfold scroll_Eye_Names.l0.f at this ⊢
    unfold scroll_Eye_Names.l0.go scroll_Eye_Names.l0.step
    rw [dt (by omega), ename_take k t (by omega)]
    simp only [cond_true, Option.bind_some]
    have e1 : scroll_Eye_Bad.f k (t.drop 32, false) = some false := rfl
    rw [e1]
    simp only [Option.bind_some, cond_false]
    rw [fits_ok (by omega), add_id (by omega) (by omega), cond_true]
    have e : (i : Int) + 1 = ((i + 1 : Nat) : Int) := by omega
    rw [e, this]
    simp [chunks, List.drop_drop, Nat.mul_succ, Nat.add_comm]

theorem enames_l0_bad (k N : Nat) (hN : N ≤ 1000000) : ∀ (d n i : Nat) (t : List Int) (out : List (List Int)), i + d = N → d < n → t.length < 32 * d → out.length = i →
    scroll_Eye_Names.l0.f k (N : Int) n (i : Int) (t, false) out = some (.inr ([], true)) := by
  intro d
  induction d with
  | zero => intro n i t out hi hn ht ho; omega
  | succ d ih =>
    intro n i t out hi hn ht ho
    obtain ⟨n, rfl⟩ : ∃ q, n = q + 1 := ⟨n - 1, by omega⟩
    by_cases h32 : t.length < 32
    · unfold scroll_Eye_Names.l0.f scroll_Eye_Names.l0.go scroll_Eye_Names.l0.step
      rw [dt (by omega), ename_bad k _ (.inr h32)]
      rfl
    · have := ih n (i + 1) (t.drop 32) (out ++ [t.take 32]) (by omega) (by omega) (by rw [List.length_drop]; omega) (by simp; omega)
      unfold scroll_Eye_Names.l0.f at this ⊢
      unfold scroll_Eye_Names.l0.go scroll_Eye_Names.l0.step
      rw [dt (by omega), ename_take k t (by omega)]
      simp only [cond_true, Option.bind_some]
      have e1 : scroll_Eye_Bad.f k (t.drop 32, false) = some false := rfl
      rw [e1]
      simp only [Option.bind_some, cond_false]
      rw [fits_ok (by omega), add_id (by omega) (by omega), cond_true]
      have e : (i : Int) + 1 = ((i + 1 : Nat) : Int) := by omega
      rw [e, this]

theorem enames_take (k N : Nat) (t : List Int) (hN : N ≤ 1000000) (hk : N < k) (h : 32 * N ≤ t.length) : scroll_Eye_Names.f k (N : Int) (t, false) = some ((t.drop (32 * N), false), chunks N t) := by
  unfold scroll_Eye_Names.f scroll_Eye_Names.tree
  have := enames_l0_take k N hN N k 0 t [] (by omega) hk h rfl
  rw [show ((0 : Nat) : Int) = 0 from rfl] at this
  rw [this]
  rfl

theorem enames_bad (k N : Nat) (t : List Int) (hN : N ≤ 1000000) (hk : N < k) (h : t.length < 32 * N) : scroll_Eye_Names.f k (N : Int) (t, false) = some (([], true), []) := by
  unfold scroll_Eye_Names.f scroll_Eye_Names.tree
  have := enames_l0_bad k N hN N k 0 t [] (by omega) hk h rfl
  rw [show ((0 : Nat) : Int) = 0 from rfl] at this
  rw [this]
  rfl

theorem enames_none (k : Nat) (n : Int) (m : List Int × Bool) (hk : 0 < k) (h : n ≤ 0) : scroll_Eye_Names.f k n m = some (m, []) := by
  obtain ⟨k, rfl⟩ : ∃ q, k = q + 1 := ⟨k - 1, by omega⟩
  unfold scroll_Eye_Names.f scroll_Eye_Names.tree scroll_Eye_Names.l0.f scroll_Eye_Names.l0.go scroll_Eye_Names.l0.step
  rw [df (by omega)]
  rfl

end Go.Proofs.Ytodjcmbkbijliaa.Sy
