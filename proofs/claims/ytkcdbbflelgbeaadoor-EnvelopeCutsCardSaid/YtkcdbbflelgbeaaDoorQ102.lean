/- Envelopes: what has bytes is taken from them. -/
import Derived.Test.YtkcdbbflelgbeaaDoorQ101
namespace Go.Proofs.YtkcdbbflelgbeaaDoor.Sy
open Go
set_option linter.unusedVariables false
set_option linter.unusedSimpArgs false

theorem take7 {a b : List Int} {n : Nat} (h : a.length = n) : (a ++ b).take n = a := by
  rw [List.take_append_of_le_length (by omega), List.take_of_length_le (by omega)]
theorem drop7 {a b : List Int} {n : Nat} (h : a.length = n) : (a ++ b).drop n = b := by
  rw [List.drop_append_of_le_length (by omega), List.drop_of_length_le (by omega), List.nil_append]

theorem trimRL_zeros (w : List Int) : ∀ n, trimRL (w ++ List.replicate n 0) [0] = trimRL w [0]
  | 0 => by simp
  | n + 1 => by
    rw [List.replicate_succ', ← List.append_assoc, trimRL_snoc, if_pos (show inSet [0] 0 = true from rfl), trimRL_zeros w n]

theorem trimRL_w12 {w : List Int} (h : wB w = true) : trimRL (w12 w) [0] = w := by
  unfold w12
  rw [trimRL_zeros]
  obtain ⟨h1, _, hc⟩ := wB_of h
  have hne : w ≠ [] := fun e => by rw [e] at h1; simp at h1
  rw [← List.dropLast_concat_getLast hne, trimRL_snoc, if_neg]
  have := wc_of (hc _ (List.getLast_mem hne))
  unfold inSet
  simp only [List.any_cons, List.any_nil, Bool.or_false, decide_eq_true_eq]
  omega

/-- The parts of an envelope's bytes. -/
theorem parts7 (v : Env7) (hw : wB v.1 = true) (hp : v.2.length ≤ 16384) (q : List Int) :
    (envB v ++ q).take 4 = tail4 ∧ ((envB v ++ q).drop 4).take 12 = w12 v.1 ∧ ((envB v ++ q).drop 16).take 4 = num 4 (v.2.length : Int) ∧ ((envB v ++ q).drop 20).take 4 = sum4 v.2 ∧ (envB v ++ q).drop 24 = v.2 ++ q := by
  have l1 := w12_length (wB_of hw).2.1
  have l2 := sum4_length v.2
  have l3 : (num 4 (v.2.length : Int)).length = 4 := num_length _ _
  have e : envB v ++ q = tail4 ++ (w12 v.1 ++ (num 4 (v.2.length : Int) ++ (sum4 v.2 ++ (v.2 ++ q)))) := by unfold envB; simp only [List.append_assoc]
  have d4 : (envB v ++ q).drop 4 = w12 v.1 ++ (num 4 (v.2.length : Int) ++ (sum4 v.2 ++ (v.2 ++ q))) := by rw [e]; exact drop7 rfl
  have d16 : (envB v ++ q).drop 16 = num 4 (v.2.length : Int) ++ (sum4 v.2 ++ (v.2 ++ q)) := by
    rw [show 16 = 4 + 12 from rfl, ← List.drop_drop, d4]; exact drop7 l1
  have d20 : (envB v ++ q).drop 20 = sum4 v.2 ++ (v.2 ++ q) := by
    rw [show 20 = 16 + 4 from rfl, ← List.drop_drop, d16]; exact drop7 l3
  have d24 : (envB v ++ q).drop 24 = v.2 ++ q := by
    rw [show 24 = 20 + 4 from rfl, ← List.drop_drop, d20]; exact drop7 l2
  refine ⟨by rw [e]; exact take7 rfl, by rw [d4]; exact take7 l1, by rw [d16]; exact take7 l3, by rw [d20]; exact take7 l2, d24⟩

theorem gB_of {v : Env7} (h : gB v = true) : wB v.1 = true ∧ v.2.length ≤ 16384 := by
  unfold gB at h
  rw [Bool.and_eq_true] at h
  exact ⟨h.1, of_decide_eq_true h.2⟩

theorem val_num4 (x : Int) (h0 : 0 ≤ x) (h : x < 4294967296) : val (num 4 x) = x := by
  rw [val_num]; exact Int.emod_eq_of_lt h0 h

theorem tk_env (v : Env7) (hg : gB v = true) (q : List Int) : tk (envB v ++ q) = (v, ((envB v).length : Int), 0) := by
  obtain ⟨hw, hp⟩ := gB_of hg
  obtain ⟨p1, p2, p3, p4, p5⟩ := parts7 v hw hp q
  have hlen := envB_length (wB_of hw).2.1
  have hl : (envB v ++ q).length = 24 + v.2.length + q.length := by rw [List.length_append, hlen]
  have eW : tkW (envB v ++ q) = v.1 := by unfold tkW; rw [p2, trimRL_w12 hw]
  have eN : tkN (envB v ++ q) = (v.2.length : Int) := by unfold tkN; rw [p3, val_num4 _ (by omega) (by omega)]
  have eP : tkP (envB v ++ q) = v.2 := by unfold tkP; rw [eN, p5, Int.toNat_natCast]; exact take7 rfl
  have eS : tkS (envB v ++ q) = sum4 v.2 := p4
  unfold tk
  rw [if_neg (fun h => h.2 p1), if_neg (by omega), eW, eN, eP, eS, if_neg (fun h => by
    rcases h with h | h
    · rw [hw] at h; cases h
    · omega), if_neg (by omega), if_neg (fun h => h rfl), hlen]
  refine Prod.ext rfl (Prod.ext ?_ rfl)
  show 24 + (v.2.length : Int) = ((24 + v.2.length : Nat) : Int)
  omega

theorem tk_cut (v : Env7) (hg : gB v = true) (c : Nat) (hc : c < (envB v).length) : tk ((envB v).take c) = (none7, 0, 7) := by
  obtain ⟨hw, hp⟩ := gB_of hg
  obtain ⟨p1, p2, p3, p4, p5⟩ := parts7 v hw hp []
  rw [List.append_nil] at p1 p2 p3 p4 p5
  have hlen := envB_length (wB_of hw).2.1
  have hl : ((envB v).take c).length = c := List.length_take_of_le (by omega)
  unfold tk
  rw [if_neg (fun h : 4 ≤ ((envB v).take c).length ∧ ((envB v).take c).take 4 ≠ tail4 => h.2 (by
    rw [List.take_take, show min 4 c = 4 by rw [hl] at h; omega, p1]))]
  by_cases h24 : c < 24
  · rw [if_pos (by omega)]
  · rw [if_neg (by omega)]
    have eW : tkW ((envB v).take c) = v.1 := by
      unfold tkW
      rw [List.drop_take, List.take_take, show min 12 (c - 4) = 12 by omega, p2, trimRL_w12 hw]
    have eN : tkN ((envB v).take c) = (v.2.length : Int) := by
      unfold tkN
      rw [List.drop_take, List.take_take, show min 4 (c - 16) = 4 by omega, p3, val_num4 _ (by omega) (by omega)]
    rw [eW, eN, if_neg (fun h => by
      rcases h with h | h
      · rw [hw] at h; cases h
      · omega), if_pos (by omega)]

theorem env_inj {a b : Env7} (ha : gB a = true) (hb : gB b = true) (q : List Int) (h : envB a = envB b ++ q) : a = b := by
  have h1 := tk_env a ha []
  have h2 := tk_env b hb q
  rw [List.append_nil, h, h2] at h1
  exact (congrArg Prod.fst h1).symm

end Go.Proofs.YtkcdbbflelgbeaaDoor.Sy
