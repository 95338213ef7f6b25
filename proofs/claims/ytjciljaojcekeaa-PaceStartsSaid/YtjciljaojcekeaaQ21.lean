/- Targets in short: Encode. -/
import Derived.Test.YtjciljaojcekeaaQ20
namespace Go.Proofs.Ytjciljaojcekeaa.Sx
open Go
set_option linter.unusedVariables false
set_option linter.unusedSimpArgs false
set_option maxRecDepth 100000

/-! ### The length in bits -/

def bl (x : Nat) : Nat := if x = 0 then 0 else Nat.log2 x + 1

theorem bl_isLen (x : Nat) : IsLen x (bl x) := by
  unfold bl
  by_cases h : x = 0
  · rw [if_pos h, h]; exact IsLen.zero
  · rw [if_neg h]
    exact ⟨Nat.lt_log2_self, fun _ => by rw [Nat.add_sub_cancel]; exact Nat.log2_self_le h⟩

theorem bl_of {x m : Nat} (h : IsLen x m) : bl x = m := (bl_isLen x).unique h
theorem lt_bl (x : Nat) : x < 2 ^ bl x := (bl_isLen x).1
theorem bl_le (x : Nat) (h : 0 < x) : 2 ^ (bl x - 1) ≤ x := (bl_isLen x).2 (by unfold bl; rw [if_neg (by omega)]; omega)
theorem bl_pos (x : Nat) (h : 0 < x) : 0 < bl x := by unfold bl; rw [if_neg (by omega)]; omega
theorem bl_zero : bl 0 = 0 := rfl
theorem bl_le_of {x j : Nat} (h : x < 2 ^ j) : bl x ≤ j := (bl_isLen x).le h
theorem bl_mono {x y : Nat} (h : x ≤ y) : bl x ≤ bl y := bl_le_of (Nat.lt_of_le_of_lt h (lt_bl y))
theorem lt_bl_of {x j : Nat} (h : 2 ^ j ≤ x) : j < bl x := by
  rcases Nat.lt_or_ge j (bl x) with g | g
  · exact g
  · have := Nat.pow_le_pow_right (show 0 < 2 by omega) g
    have := lt_bl x
    omega
theorem pos_of_bl {x : Nat} (h : 0 < bl x) : 0 < x := by
  rcases Nat.eq_zero_or_pos x with e | e
  · rw [e] at h; simp [bl] at h
  · exact e

/-- The number's top three bytes, if it has s bytes. -/
def topW (s x : Nat) : Nat := if s ≤ 3 then x * 2 ^ (8 * (3 - s)) else x / 2 ^ (8 * (s - 3))

theorem topW_lt {s x j : Nat} (hx : x < 2 ^ j) (h : j ≤ 8 * s) : topW s x < 2 ^ (24 - (8 * s - j)) ∨ 24 < 8 * s - j := by
  rcases Nat.lt_or_ge 24 (8 * s - j) with g | g
  · exact .inr g
  left
  unfold topW
  split
  · rename_i hs
    have := Nat.mul_lt_mul_of_pos_right hx (Nat.two_pow_pos (8 * (3 - s)))
    rwa [← Nat.pow_add, show j + 8 * (3 - s) = 24 - (8 * s - j) by omega] at this
  · rename_i hs
    rw [Nat.div_lt_iff_lt_mul (Nat.two_pow_pos _), ← Nat.pow_add, show 24 - (8 * s - j) + 8 * (s - 3) = j by omega]
    exact hx

theorem topW_24 {s x : Nat} (hx : x < 2 ^ (8 * s)) : topW s x < 2 ^ 24 := by
  rcases topW_lt hx (Nat.le_refl _) with h | h
  · rwa [Nat.sub_self] at h
  · omega

theorem topW_23 {s x : Nat} (hs : 0 < s) (hx : x < 2 ^ (8 * s - 1)) : topW s x < 2 ^ 23 := by
  rcases topW_lt hx (show 8 * s - 1 ≤ 8 * s by omega) with h | h
  · rwa [show 24 - (8 * s - (8 * s - 1)) = 23 by omega] at h
  · omega

theorem topW_ge {s x : Nat} (hs : 0 < s) (hx : 2 ^ (8 * s - 1) ≤ x) : 2 ^ 23 ≤ topW s x := by
  unfold topW
  split
  · have := Nat.mul_le_mul_right (2 ^ (8 * (3 - s))) hx
    rwa [← Nat.pow_add, show 8 * s - 1 + 8 * (3 - s) = 23 by omega] at this
  · rw [Nat.le_div_iff_mul_le (Nat.two_pow_pos _), ← Nat.pow_add, show 23 + 8 * (s - 3) = 8 * s - 1 by omega]
    exact hx

theorem topW_succ (s x : Nat) : topW (s + 1) x = topW s x / 256 := by
  unfold topW
  by_cases h : s + 1 ≤ 3
  · rw [if_pos h, if_pos (by omega), show 8 * (3 - s) = 8 * (3 - (s + 1)) + 8 by omega, Nat.pow_add, ← Nat.mul_assoc, show (2 : Nat) ^ 8 = 256 from rfl, Nat.mul_div_cancel _ (by omega)]
  · rw [if_neg h]
    by_cases h3 : s ≤ 3
    · have : s = 3 := by omega
      subst this
      rw [if_pos (by omega)]
      simp
    · rw [if_neg h3, Nat.div_div_eq_div_mul, show (256 : Nat) = 2 ^ 8 from rfl, ← Nat.pow_add]
      congr 2; omega

/-- How many bytes are told. -/
def sz (x : Nat) : Nat := if x = 0 then 0 else bl x / 8 + 1
def enc' (x : Nat) : Nat := sz x * 2 ^ 24 + topW (sz x) x

theorem sz_le {x : Nat} (hx : x < 2 ^ 256) : sz x ≤ 33 := by
  have := bl_le_of hx
  unfold sz; split <;> omega

theorem lt_sz (x : Nat) : x < 2 ^ (8 * sz x - 1) ∨ x = 0 := by
  unfold sz
  by_cases h : x = 0
  · exact .inr h
  · left
    rw [if_neg h]
    refine Nat.lt_of_lt_of_le (lt_bl x) (Nat.pow_le_pow_right (by omega) (by omega))

theorem topW_sz (x : Nat) : topW (sz x) x < 2 ^ 23 := by
  rcases lt_sz x with h | h
  · by_cases h0 : x = 0
    · rw [h0]; decide
    · exact topW_23 (by unfold sz; rw [if_neg h0]; omega) h
  · rw [h]; decide

theorem enc_lt {x : Nat} (hx : x < 2 ^ 256) : enc' x < 2 ^ 32 := by
  have h1 := sz_le hx
  have h2 := topW_sz x
  unfold enc'; omega

/-- What is told of x out of its bytes. -/
theorem enc_by {x l s : Nat} (hl : l = bl x) (hs : s = (l + 7) / 8) : (if 2 ^ 23 ≤ topW s x then (s + 1) * 2 ^ 24 + topW s x / 256 else s * 2 ^ 24 + topW s x) = enc' x := by
  subst hl hs
  by_cases h0 : x = 0
  · subst h0; decide
  have hp := bl_pos x (by omega)
  have hsz : sz x = bl x / 8 + 1 := by unfold sz; rw [if_neg h0]
  by_cases hm : bl x % 8 = 0
  · have e : sz x = (bl x + 7) / 8 + 1 := by rw [hsz]; omega
    have := topW_ge (s := (bl x + 7) / 8) (x := x) (by omega) (by rw [show 8 * ((bl x + 7) / 8) - 1 = bl x - 1 by omega]; exact bl_le x (by omega))
    rw [if_pos this]
    unfold enc'
    rw [e, topW_succ]
  · have e : sz x = (bl x + 7) / 8 := by rw [hsz]; omega
    have := topW_23 (s := (bl x + 7) / 8) (x := x) (by omega) (Nat.lt_of_lt_of_le (lt_bl x) (Nat.pow_le_pow_right (by omega) (by omega)))
    rw [if_neg (by omega)]
    unfold enc'
    rw [e]

theorem enc_tail (S w : Nat) (hS : S ≤ 33) (hw : w < 2 ^ 24) :
    (bif (andI .i64 (IntKind.wrap .i64 (w : Int)) 8388608 != (0 : Int)) then some (orI .i64 (shlI .i64 (addI .i64 (S : Int) 1) 24) (shrI .i64 (IntKind.wrap .i64 (w : Int)) 8)) else some (orI .i64 (shlI .i64 (S : Int) 24) (IntKind.wrap .i64 (w : Int)))) =
      some (((if 2 ^ 23 ≤ w then (S + 1) * 2 ^ 24 + w / 256 else S * 2 ^ 24 + w : Nat)) : Int) := by
  have orr : ∀ a y : Nat, a ≤ 34 → y < 2 ^ 24 → orI .i64 ((a * 2 ^ 24 : Nat) : Int) (y : Int) = ((a * 2 ^ 24 + y : Nat) : Int) := fun a y ha hy => by
    rw [orII _ _ (by omega) (by omega)]
    congr 1
    rw [Nat.mul_comm a, Nat.two_pow_add_eq_or_of_lt hy a]
  have sh : ∀ a : Nat, a ≤ 34 → shlI .i64 (a : Int) 24 = ((a * 2 ^ 24 : Nat) : Int) := fun a ha => by
    have := shlII a 24 (by omega) (by omega)
    rwa [show ((24 : Nat) : Int) = 24 from rfl] at this
  have a1 := addII S 1 (by omega)
  rw [show ((1 : Nat) : Int) = 1 from rfl] at a1
  have s8 := shrII w 8 (by omega)
  rw [show ((8 : Nat) : Int) = 8 from rfl] at s8
  rw [wrapI w (by omega), bit23 w (by omega), a1, s8, sh _ (by omega), sh _ (by omega), orr _ _ (by omega) (by omega), orr _ _ (by omega) hw]
  by_cases h : 2 ^ 23 ≤ w
  · rw [decide_eq_true (show w / 2 ^ 23 % 2 = 1 by omega), if_pos h]; rfl
  · rw [decide_eq_false (show ¬ w / 2 ^ 23 % 2 = 1 by omega), if_neg h]; rfl

theorem enc_ev {x : Nat} (hx : x < 2 ^ 256) : Ev (fun k => compact_Encode.f k (toNum x)) (enc' x : Int) := by
  unfold compact_Encode.f compact_Encode.tree
  obtain ⟨l, hl, el, kl⟩ := len_num hx
  have hbl := bl_of kl
  refine Ev.bind el ?_
  have a7 := addII l 7 (by omega)
  have q8 := quoII (l + 7) 8 (by omega)
  rw [show ((7 : Nat) : Int) = 7 from rfl] at a7
  rw [show ((8 : Nat) : Int) = 8 from rfl] at q8
  rw [a7, q8]
  have hs : (l + 7) / 8 ≤ 32 := by omega
  have hx8 : x < 2 ^ (8 * ((l + 7) / 8)) := Nat.lt_of_lt_of_le kl.1 (Nat.pow_le_pow_right (by omega) (by omega))
  have hw := topW_24 hx8
  have he := enc_by hbl.symm rfl
  rw [← he]
  generalize (l + 7) / 8 = s at *
  unfold topW at hw ⊢
  by_cases h3 : s ≤ 3
  · rw [if_pos h3] at hw
    rw [decide_eq_true (show (s : Int) ≤ 3 by omega), if_pos h3]
    simp only [cond_true]
    have e2 : mulI .i64 8 (subI .i64 3 (s : Int)) = ((8 * (3 - s) : Nat) : Int) := by
      have h1 := subII 3 s h3 (by omega)
      rw [show ((3 : Nat) : Int) = 3 from rfl] at h1
      rw [h1]
      exact mulII 8 _ (by omega)
    rw [e2]
    refine Ev.bind (up_num x _) (Ev.const fun k => ?_)
    rw [getN0, Nat.mod_eq_of_lt (show x * 2 ^ (8 * (3 - s)) < 2 ^ 64 by omega)]
    exact enc_tail s _ (by omega) hw
  · rw [if_neg h3] at hw
    rw [decide_eq_false (show ¬ (s : Int) ≤ 3 by omega), if_neg h3]
    simp only [cond_false]
    have e2 : mulI .i64 8 (subI .i64 (s : Int) 3) = ((8 * (s - 3) : Nat) : Int) := by
      have h1 := subII s 3 (by omega) (by omega)
      rw [show ((3 : Nat) : Int) = 3 from rfl] at h1
      rw [h1]
      exact mulII 8 _ (by omega)
    rw [e2]
    refine Ev.bind (down_num hx _) (Ev.const fun k => ?_)
    rw [getN0, Nat.mod_eq_of_lt (show x / 2 ^ (8 * (s - 3)) < 2 ^ 64 by omega)]
    exact enc_tail s _ (by omega) hw

/-! ### The reference's -/

def IsSz (x s : Nat) : Prop := x < 256 ^ s ∧ (0 < s → 256 ^ (s - 1) ≤ x)

theorem IsSz.unique {x s t : Nat} (h : IsSz x s) (k : IsSz x t) : s = t := by
  rcases Nat.lt_trichotomy s t with g | g | g
  · have := k.2 (by omega)
    have := Nat.pow_le_pow_right (show 0 < 256 by omega) (show s ≤ t - 1 by omega)
    have := h.1
    omega
  · exact g
  · have := h.2 (by omega)
    have := Nat.pow_le_pow_right (show 0 < 256 by omega) (show t ≤ s - 1 by omega)
    have := k.1
    omega

theorem isSz_bl (x : Nat) : IsSz x ((bl x + 7) / 8) := by
  refine ⟨?_, fun h => ?_⟩
  · rw [pow256]; exact Nat.lt_of_lt_of_le (lt_bl x) (Nat.pow_le_pow_right (by omega) (by omega))
  · rw [pow256]
    have hp : 0 < bl x := by omega
    exact Nat.le_trans (Nat.pow_le_pow_right (by omega) (by omega)) (bl_le x (pos_of_bl hp))

theorem refenc_loop {x : Nat} (hx : x < 2 ^ 256) (x2 : Int) : ∀ j i s : Nat, j + i = 32 → IsSz (x % 256 ^ i) s → s ≤ i →
    Ev2 (fun k n => trailheadref03_Encode.l0.f k x2 (toNum x) n (s : Int) (i : Int)) ((((bl x + 7) / 8 : Nat) : Int), 32)
  | 0, i, s, h, hs, _ => by
    have : i = 32 := by omega
    subst this
    rw [Nat.mod_eq_of_lt (by omega)] at hs
    have e := hs.unique (isSz_bl x)
    refine Ev2.succ (G := fun k n => some ((((bl x + 7) / 8 : Nat) : Int), 32)) (fun k n => ?_) (Ev2.const fun _ _ => rfl)
    simp only [trailheadref03_Encode.l0.f, trailheadref03_Encode.l0.go, trailheadref03_Encode.l0.step]
    rw [decide_eq_false (by omega), e]; rfl
  | j + 1, i, s, h, hs, hsi => by
    have hi : i < 32 := by omega
    have e8 : mulI .i64 (-8) (i : Int) = -((8 * i : Nat) : Int) := by
      unfold mulI; rw [wrap_i64 (by omega) (by omega)]; omega
    have hb : remI (((x / 2 ^ (8 * i) % 2 ^ 64 : Nat)) : Int) 256 = ((x / 256 ^ i % 256 : Nat) : Int) := by
      have := remII (x / 2 ^ (8 * i) % 2 ^ 64) 256
      rw [show ((256 : Nat) : Int) = 256 from rfl] at this
      rw [this, pow256]; congr 1; omega
    have hmod : x % 256 ^ (i + 1) = x % 256 ^ i + 256 ^ i * (x / 256 ^ i % 256) := Nat.mod_pow_succ
    have hp : 0 < 256 ^ i := by rw [pow256]; exact Nat.two_pow_pos _
    have hl := Nat.mod_lt x hp
    have hn : addI .i64 (i : Int) 1 = ((i + 1 : Nat) : Int) := by rw [addI_one (i := (i : Int)) (by omega) (by omega)]; omega
    refine Ev2.succ (G := fun k n => Option.bind (trailheadref02_Move.f k (toNum x) (-((8 * i : Nat) : Int))) (fun r1 => bif decide (remI (List.getD r1 0 0) 256 > (0 : Int)) then
        trailheadref03_Encode.l0.f k x2 (toNum x) n ((i + 1 : Nat) : Int) ((i + 1 : Nat) : Int) else trailheadref03_Encode.l0.f k x2 (toNum x) n (s : Int) ((i + 1 : Nat) : Int))) (fun k n => ?_) ?_
    · simp only [trailheadref03_Encode.l0.f, trailheadref03_Encode.l0.go, trailheadref03_Encode.l0.step]
      rw [decide_eq_true (show (i : Int) < 32 by omega), e8, hn]; rfl
    refine Ev2.bind (movedown_num hx (8 * i)) ?_
    rw [getN0, hb]
    by_cases hz : x / 256 ^ i % 256 = 0
    · rw [decide_eq_false (by omega)]
      rw [hz, Nat.mul_zero, Nat.add_zero] at hmod
      exact refenc_loop hx x2 j (i + 1) s (by omega) (by rw [hmod]; exact hs) (by omega)
    · rw [decide_eq_true (by omega)]
      refine refenc_loop hx x2 j (i + 1) (i + 1) (by omega) ⟨Nat.mod_lt _ (by rw [pow256]; exact Nat.two_pow_pos _), fun _ => ?_⟩ (Nat.le_refl _)
      rw [hmod, Nat.add_sub_cancel]
      have := Nat.mul_le_mul_left (256 ^ i) (show 1 ≤ x / 256 ^ i % 256 by omega)
      omega

theorem refenc_tail (S w : Nat) (hS : S ≤ 33) (hw : w < 2 ^ 24) :
    (bif decide (IntKind.wrap .i64 (remI (w : Int) 16777216) ≥ (8388608 : Int)) then some (addI .i64 (mulI .i64 (addI .i64 (S : Int) 1) 16777216) (quoI .i64 (IntKind.wrap .i64 (remI (w : Int) 16777216)) 256))
      else some (addI .i64 (mulI .i64 (S : Int) 16777216) (IntKind.wrap .i64 (remI (w : Int) 16777216)))) = some (((if 2 ^ 23 ≤ w then (S + 1) * 2 ^ 24 + w / 256 else S * 2 ^ 24 + w : Nat)) : Int) := by
  have r := remII w 16777216
  rw [show ((16777216 : Nat) : Int) = 16777216 from rfl, Nat.mod_eq_of_lt (by omega)] at r
  have a1 := addII S 1 (by omega)
  rw [show ((1 : Nat) : Int) = 1 from rfl] at a1
  have m : ∀ a : Nat, a ≤ 34 → mulI .i64 (a : Int) 16777216 = ((a * 2 ^ 24 : Nat) : Int) := fun a ha => mulII a 16777216 (by omega)
  have q := quoII w 256 (by omega)
  rw [show ((256 : Nat) : Int) = 256 from rfl] at q
  rw [r, wrapI w (by omega), a1, m _ (by omega), m _ (by omega), q, addII _ _ (by omega), addII _ _ (by omega)]
  by_cases h : 2 ^ 23 ≤ w
  · rw [decide_eq_true (show (w : Int) ≥ 8388608 by omega), if_pos h]; rfl
  · rw [decide_eq_false (show ¬ (w : Int) ≥ 8388608 by omega), if_neg h]; rfl

theorem refenc_ev {x : Nat} (hx : x < 2 ^ 256) : Ev (fun k => trailheadref03_Encode.f k (toNum x)) (enc' x : Int) := by
  unfold trailheadref03_Encode.f trailheadref03_Encode.tree
  have h := (refenc_loop hx 0 32 0 0 rfl ⟨by rw [Nat.pow_zero, Nat.mod_one]; omega, fun h => by omega⟩ (Nat.le_refl _)).ev
  refine Ev.bind h ?_
  have hbl := bl_le_of hx
  have he := enc_by (x := x) rfl rfl
  rw [← he]
  have hx8 : x < 2 ^ (8 * ((bl x + 7) / 8)) := Nat.lt_of_lt_of_le (lt_bl x) (Nat.pow_le_pow_right (by omega) (by omega))
  have hw := topW_24 hx8
  have hs : (bl x + 7) / 8 ≤ 32 := by omega
  generalize (bl x + 7) / 8 = s at *
  unfold topW at hw ⊢
  simp only
  by_cases h3 : s ≤ 3
  · rw [if_pos h3] at hw
    rw [if_pos h3]
    have e2 : mulI .i64 8 (subI .i64 3 (s : Int)) = ((8 * (3 - s) : Nat) : Int) := by
      have h1 := subII 3 s h3 (by omega)
      rw [show ((3 : Nat) : Int) = 3 from rfl] at h1
      rw [h1]
      exact mulII 8 _ (by omega)
    rw [e2]
    refine Ev.bind (moveup_num x _) (Ev.const fun k => ?_)
    rw [decide_eq_false (show ¬ (s : Int) > 3 by omega), getN0, Nat.mod_eq_of_lt (show x * 2 ^ (8 * (3 - s)) < 2 ^ 64 by omega)]
    exact refenc_tail s _ (by omega) hw
  · rw [if_neg h3] at hw
    rw [if_neg h3]
    have e2 : mulI .i64 8 (subI .i64 3 (s : Int)) = -((8 * (s - 3) : Nat) : Int) := by
      unfold mulI subI
      rw [wrap_i64 (n := 3 - (s : Int)) (by omega) (by omega), wrap_i64 (by omega) (by omega)]; omega
    have e3 : mulI .i64 (-8) (subI .i64 (s : Int) 3) = -((8 * (s - 3) : Nat) : Int) := by
      unfold mulI subI
      rw [wrap_i64 (n := (s : Int) - 3) (by omega) (by omega), wrap_i64 (by omega) (by omega)]; omega
    rw [e2]
    refine Ev.bind (movedown_num hx _) ?_
    rw [decide_eq_true (show (s : Int) > 3 by omega), e3]
    simp only [cond_true]
    refine Ev.bind (movedown_num hx _) (Ev.const fun k => ?_)
    rw [getN0, Nat.mod_eq_of_lt (show x / 2 ^ (8 * (s - 3)) < 2 ^ 64 by omega)]
    exact refenc_tail s _ (by omega) hw

/-! ### There and back -/

def ex (x : Nat) : Nat := 8 * (bl x / 8 - 2)
/-- What is left of a target that was told in short. -/
def cut (x : Nat) : Nat := x / 2 ^ ex x * 2 ^ ex x

theorem cut_le (x : Nat) : cut x ≤ x := Nat.div_mul_le_self _ _
theorem cut_add (x : Nat) : cut x + x % 2 ^ ex x = x := by
  unfold cut; have := Nat.div_add_mod x (2 ^ ex x); rw [Nat.mul_comm] at this; exact this

theorem ex_sz {x : Nat} (h : x ≠ 0) : ex x = 8 * (sz x - 3) := by unfold ex sz; rw [if_neg h]; omega

theorem cut_ge {x : Nat} (h : 0 < x) : 2 ^ (bl x - 1) ≤ cut x := by
  have h1 := bl_le x h
  have hp := bl_pos x h
  unfold cut
  have e : 2 ^ (bl x - 1) = 2 ^ (bl x - 1 - ex x) * 2 ^ ex x := by rw [← Nat.pow_add]; congr 1; unfold ex; omega
  rw [e]
  refine Nat.mul_le_mul_right _ ?_
  rw [Nat.le_div_iff_mul_le (Nat.two_pow_pos _), ← e]; exact h1

theorem bl_cut (x : Nat) : bl (cut x) = bl x := by
  rcases Nat.eq_zero_or_pos x with h | h
  · rw [h]; rfl
  · exact bl_of ⟨Nat.lt_of_le_of_lt (cut_le x) (lt_bl x), fun _ => cut_ge h⟩

theorem cut_pos {x : Nat} (h : 0 < x) : 0 < cut x := Nat.lt_of_lt_of_le (Nat.two_pow_pos _) (cut_ge h)

theorem cut_cut (x : Nat) : cut (cut x) = cut x := by
  unfold cut
  have : ex (x / 2 ^ ex x * 2 ^ ex x) = ex x := by unfold ex; rw [show bl (x / 2 ^ (8 * (bl x / 8 - 2)) * 2 ^ (8 * (bl x / 8 - 2))) = bl x from bl_cut x]
  rw [this, Nat.mul_div_cancel _ (Nat.two_pow_pos _)]

theorem enc_cut (x : Nat) : enc' (cut x) = enc' x := by
  rcases Nat.eq_zero_or_pos x with h | h
  · rw [h]; rfl
  · have hc := cut_pos h
    have e1 : sz (cut x) = sz x := by unfold sz; rw [if_neg (by omega), if_neg (by omega), bl_cut]
    unfold enc'
    rw [e1]
    congr 1
    unfold topW
    by_cases h3 : sz x ≤ 3
    · rw [if_pos h3, if_pos h3]
      have : ex x = 0 := by rw [ex_sz (by omega)]; omega
      unfold cut; rw [this, Nat.pow_zero, Nat.div_one, Nat.mul_one]
    · rw [if_neg h3, if_neg h3, ← ex_sz (by omega)]
      unfold cut
      rw [Nat.mul_div_cancel _ (Nat.two_pow_pos _)]

theorem cut_mono {x y : Nat} (h : x ≤ y) : cut x ≤ cut y := by
  have hb := bl_mono h
  rcases Nat.lt_or_ge (bl x) (bl y) with g | g
  · have hy : 0 < y := pos_of_bl (by omega)
    have h1 := cut_ge hy
    have h2 := Nat.lt_of_le_of_lt (cut_le x) (lt_bl x)
    have := Nat.pow_le_pow_right (show 0 < 2 by omega) (show bl x ≤ bl y - 1 by omega)
    omega
  · have e : bl x = bl y := by omega
    unfold cut ex
    rw [e]
    exact Nat.mul_le_mul_right _ (Nat.div_le_div_right h)

theorem dec_enc' {x : Nat} (hx : x < 2 ^ 256) : dN (enc' x) = cut x ∧ dLow (enc' x) = false ∧ dHigh (enc' x) = false := by
  have h1 := sz_le hx
  have h2 := topW_sz x
  have e1 : enc' x / 2 ^ 24 = sz x := by unfold enc'; omega
  have e2 : enc' x % 2 ^ 23 = topW (sz x) x := by unfold enc'; omega
  have e3 : enc' x / 2 ^ 23 % 2 = 0 := by unfold enc'; omega
  refine ⟨?_, ?_, ?_⟩
  · unfold dN
    rw [e1, e2]
    rcases Nat.eq_zero_or_pos x with h | h
    · rw [h]; decide
    unfold cut topW
    by_cases h3 : sz x ≤ 3
    · rw [if_pos h3, if_pos h3, Nat.mul_div_cancel _ (Nat.two_pow_pos _)]
      have : ex x = 0 := by rw [ex_sz (by omega)]; omega
      rw [this, Nat.pow_zero, Nat.div_one, Nat.mul_one]
    · rw [if_neg h3, if_neg h3, ← ex_sz (by omega)]
      exact Nat.mod_eq_of_lt (Nat.lt_of_le_of_lt (cut_le x) hx)
  · unfold dLow; rw [e3]; simp
  · unfold dHigh
    rw [e1, e2]
    rw [decide_eq_false (show ¬ 34 < sz x by omega), decide_eq_false (show ¬ 33 < sz x by omega), Bool.and_false, Bool.false_or, Bool.false_or]
    by_cases h32 : 32 < sz x
    · have : topW (sz x) x < 2 ^ 16 := by
        rw [show sz x = 32 + 1 by omega, topW_succ]
        have := topW_24 (s := 32) (x := x) (by simpa using hx)
        omega
      rw [decide_eq_false (show ¬ 65535 < topW (sz x) x by omega)]; simp
    · rw [decide_eq_false h32]; simp

theorem dAll_enc {x : Nat} (hx : x < 2 ^ 256) : dAll (enc' x : Int) = (cut x, false, false) := by
  obtain ⟨h1, h2, h3⟩ := dec_enc' hx
  rw [dAll_nat _ (enc_lt hx), h1, h2, h3]

/-- What was lost is less than a part in 2^15. -/
theorem lost_lt {x : Nat} (h : cut x ≠ x) : x % 2 ^ ex x * 2 ^ 15 < x := by
  rcases Nat.eq_zero_or_pos x with h0 | h0
  · rw [h0] at h; exact absurd rfl h
  have he : 0 < ex x := by
    rcases Nat.eq_zero_or_pos (ex x) with e | e
    · unfold cut at h; rw [e, Nat.pow_zero, Nat.div_one, Nat.mul_one] at h; exact absurd rfl h
    · exact e
  have h1 := Nat.mod_lt x (Nat.two_pow_pos (ex x))
  have h2 := bl_le x h0
  have h3 := Nat.mul_lt_mul_of_pos_right h1 (show 0 < 2 ^ 15 by omega)
  rw [← Nat.pow_add] at h3
  have h4 : 2 ^ (ex x + 15) ≤ 2 ^ (bl x - 1) := Nat.pow_le_pow_right (by omega) (by unfold ex at *; omega)
  omega

theorem cut_small {w s : Nat} (hw : w < 2 ^ 23) : cut (w * 2 ^ (8 * s)) = w * 2 ^ (8 * s) := by
  rcases Nat.eq_zero_or_pos w with h | h
  · rw [h, Nat.zero_mul]; rfl
  have hb : bl (w * 2 ^ (8 * s)) = bl w + 8 * s := by
    refine bl_of ⟨?_, fun _ => ?_⟩
    · rw [Nat.pow_add]; exact Nat.mul_lt_mul_of_pos_right (lt_bl w) (Nat.two_pow_pos _)
    · have := bl_pos w h
      rw [show bl w + 8 * s - 1 = bl w - 1 + 8 * s by omega, Nat.pow_add]
      exact Nat.mul_le_mul_right _ (bl_le w h)
  have hw23 := bl_le_of hw
  have e : ex (w * 2 ^ (8 * s)) ≤ 8 * s := by unfold ex; rw [hb]; omega
  have key : ∀ d : Nat, d ≤ 8 * s → w * 2 ^ (8 * s) / 2 ^ d * 2 ^ d = w * 2 ^ (8 * s) := fun d hd => by
    have h2 : 2 ^ (8 * s) = 2 ^ (8 * s - d) * 2 ^ d := by rw [← Nat.pow_add]; congr 1; omega
    rw [h2, ← Nat.mul_assoc, Nat.mul_div_cancel _ (Nat.two_pow_pos _)]
  exact key _ e

end Go.Proofs.Ytjciljaojcekeaa.Sx
