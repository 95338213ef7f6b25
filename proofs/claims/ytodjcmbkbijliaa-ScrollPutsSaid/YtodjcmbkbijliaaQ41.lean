/- What the eye reads. -/
import Derived.Test.YtodjcmbkbijliaaQ40
namespace Go.Proofs.Ytodjcmbkbijliaa.Sy
open Go
set_option linter.unusedVariables false
set_option linter.unusedSimpArgs false

theorem eraw_take (k : Nat) (n : Nat) (t : List Int) (h : n ≤ t.length) : scroll_Eye_Raw.f k (n : Int) (t, false) = some (t.take n, (t.drop n, false)) := by
  unfold scroll_Eye_Raw.f scroll_Eye_Raw.tree
  simp only [cond_false, Int.toNat_natCast]
  rw [df (by omega), df (by omega), dt (by omega), dt (by omega)]
  rfl

theorem eraw_bad (k : Nat) (n : Int) (m : List Int × Bool) (h : m.2 = true ∨ n < 0 ∨ (m.1.length : Int) < n) : scroll_Eye_Raw.f k n m = some ([], ([], true)) := by
  unfold scroll_Eye_Raw.f scroll_Eye_Raw.tree
  cases h2 : m.2
  · rw [h2] at h
    rw [cond_false]
    by_cases h3 : n < 0
    · rw [dt h3]; rfl
    · have h4 : n > (m.1.length : Int) := by
        rcases h with h | h | h
        · cases h
        · omega
        · omega
      rw [df h3, dt h4]; rfl
  · rfl

/-- The size that is read. -/
def cl7 (s : Int) : Nat := (mnI (mxI s 1) 7).toNat

theorem cl7_eq (s : Int) : mnI (mxI s 1) 7 = (cl7 s : Int) ∧ 1 ≤ cl7 s ∧ cl7 s ≤ 7 := by
  unfold cl7 mnI mxI
  split <;> split <;> omega
theorem cl7_of {s : Int} (h : 1 ≤ s) (h' : s ≤ 7) : cl7 s = s.toNat := by
  unfold cl7 mnI mxI
  split <;> split <;> omega

theorem val_take_succ (s : List Int) (i : Nat) (h : i < s.length) : val (s.take (i + 1)) = val (s.take i) + 256 ^ i * s[i] := by
  rw [List.take_succ_eq_append_getElem h, val_append, List.length_take_of_le (by omega)]
  simp [val]

theorem eget_l0 (k : Nat) (x4 : Int) (s : List Int) (y0 : List Int × Bool) (hs : s.length ≤ 7) (hb : byteL s) : ∀ (d n i : Nat), i + d = s.length → d < n →
    scroll_Eye_Get.l0.f k x4 s (s.length : Int) y0 n (val (s.take i)) (i : Int) = some (val s, (s.length : Int)) := by
  intro d
  induction d with
  | zero =>
    intro n i hi hd
    obtain ⟨n, rfl⟩ : ∃ q, n = q + 1 := ⟨n - 1, by omega⟩
    unfold scroll_Eye_Get.l0.f scroll_Eye_Get.l0.go scroll_Eye_Get.l0.step
    have : i = s.length := by omega
    subst this
    rw [df (Int.lt_irrefl _), List.take_length]
    rfl
  | succ d ih =>
    intro n i hi hd
    obtain ⟨n, rfl⟩ : ∃ q, n = q + 1 := ⟨n - 1, by omega⟩
    have hlt : i < s.length := by omega
    have := ih n (i + 1) (by omega) (by omega)
    unfold scroll_Eye_Get.l0.f at this ⊢
    unfold scroll_Eye_Get.l0.go scroll_Eye_Get.l0.step
    have e : (i : Int) + 1 = ((i + 1 : Nat) : Int) := by omega
    have e2 : s.getD i 0 = s[i] := by rw [List.getD_eq_getElem?_getD, List.getElem?_eq_getElem hlt]; rfl
    have hx := hb _ (List.getElem_mem hlt)
    have hv := val_lt (s.take i) (byteL_take i hb)
    rw [List.length_take_of_le (by omega)] at hv
    rw [dt (by omega), dt (by omega), mul_id (by omega) (by omega), df (by omega), add_id (by omega) (by omega)]
    simp only [cond_true, cond_false, Int.toNat_natCast]
    rw [e2, or_top _ _ i (by omega) (val_nonneg _ (byteL_take i hb)) hv hx.1 hx.2, ← val_take_succ s i hlt, e, this]

theorem eget_take (k : Nat) (s : Int) (t : List Int) (hk : 7 < k) (hb : byteL t) (h : cl7 s ≤ t.length) : scroll_Eye_Get.f k s (t, false) = some (val (t.take (cl7 s)), (t.drop (cl7 s), false)) := by
  obtain ⟨ec, c1, c7⟩ := cl7_eq s
  unfold scroll_Eye_Get.f scroll_Eye_Get.tree
  rw [ec, eraw_take k _ t h]
  simp only [Option.bind_some]
  have hl : (t.take (cl7 s)).length = cl7 s := List.length_take_of_le h
  have := eget_l0 k 0 (t.take (cl7 s)) (t.drop (cl7 s), false) (by omega) (byteL_take _ hb) (cl7 s) k 0 (by omega) (by omega)
  rw [show ((0 : Nat) : Int) = 0 from rfl, List.take_zero, show val [] = 0 from rfl] at this
  rw [this]
  rfl

theorem eget_bad (k : Nat) (s : Int) (m : List Int × Bool) (hk : 0 < k) (h : m.2 = true ∨ m.1.length < cl7 s) : scroll_Eye_Get.f k s m = some (0, ([], true)) := by
  obtain ⟨ec, c1, c7⟩ := cl7_eq s
  obtain ⟨q, rfl⟩ : ∃ q, k = q + 1 := ⟨k - 1, by omega⟩
  unfold scroll_Eye_Get.f scroll_Eye_Get.tree
  rw [ec, eraw_bad _ _ m (h.imp id (fun h => .inr (by omega)))]
  rfl

theorem or_wide (a b : Int) (ha : 0 ≤ a) (ha' : a < 2147483648) (hb : 0 ≤ b) (hb' : b < 4294967296) : orI .i64 (shlI .i64 a 32) b = b + 4294967296 * a := by
  obtain ⟨n, rfl⟩ : ∃ n : Nat, a = n := ⟨a.toNat, by omega⟩
  obtain ⟨m, rfl⟩ : ∃ m : Nat, b = m := ⟨b.toNat, by omega⟩
  have e1 : shlI .i64 (n : Int) 32 = ((2 ^ 32 * n : Nat) : Int) := by
    unfold shlI
    have e : min (32 : Int).toNat (IntKind.bits .i64) = 32 := rfl
    rw [e]
    have e2 : (n : Int) * 2 ^ 32 = ((2 ^ 32 * n : Nat) : Int) := by rw [Int.natCast_mul, Int.mul_comm]; rfl
    rw [e2]; exact i64_id (by omega) (by omega)
  rw [e1]
  unfold orI
  have hb : IntKind.bits .i64 = 64 := rfl
  rw [hb, BitVec.toNat_or]
  have t (z : Nat) (hz : z < 2 ^ 63) : (BitVec.ofInt 64 (z : Int)).toNat = z := by
    rw [BitVec.toNat_ofInt]; omega
  rw [t _ (by omega), t _ (by omega), ← Nat.two_pow_add_eq_or_of_lt (by omega)]
  rw [i64_id (by omega) (by omega)]
  omega

theorem cl7_4 : cl7 4 = 4 := rfl
theorem cl7_1 : cl7 1 = 1 := rfl
theorem cl7_2 : cl7 2 = 2 := rfl

theorem val_4 (t : List Int) (h : 8 ≤ t.length) : val (t.take 8) = val (t.take 4) + 4294967296 * val ((t.drop 4).take 4) := by
  have : t.take 8 = t.take 4 ++ (t.drop 4).take 4 := by rw [← List.take_add]
  rw [this, val_append, List.length_take_of_le (by omega)]
  rfl

theorem ewide_take (k : Nat) (t : List Int) (hk : 7 < k) (hb : byteL t) (h : 8 ≤ t.length) :
    scroll_Eye_Wide.f k (t, false) = if val (t.take 8) < 9223372036854775808 then some (val (t.take 8), (t.drop 8, false)) else some (0, ([], true)) := by
  unfold scroll_Eye_Wide.f scroll_Eye_Wide.tree
  rw [eget_take k 4 t hk hb (by rw [cl7_4]; omega), cl7_4]
  simp only [Option.bind_some]
  rw [eget_take k 4 _ hk (byteL_drop 4 hb) (by rw [cl7_4, List.length_drop]; omega), cl7_4]
  simp only [Option.bind_some, List.drop_drop]
  have b1 := val_lt _ (byteL_take 4 hb)
  have b2 := val_lt _ (byteL_take 4 (byteL_drop 4 hb))
  rw [List.length_take_of_le (by omega)] at b1
  rw [List.length_take_of_le (by rw [List.length_drop]; omega)] at b2
  have n1 := val_nonneg _ (byteL_take 4 hb)
  have n2 := val_nonneg _ (byteL_take 4 (byteL_drop 4 hb))
  have e := val_4 t h
  by_cases hv : val ((t.drop 4).take 4) ≥ 2147483648
  · rw [dt hv, if_neg (by omega)]; rfl
  · rw [df hv, if_pos (by omega), cond_false, or_wide _ _ n2 (by omega) n1 (by omega), ← e]

theorem ewide_bad (k : Nat) (m : List Int × Bool) (hk : 0 < k) (h : m.2 = true) : scroll_Eye_Wide.f k m = some (0, ([], true)) := by
  unfold scroll_Eye_Wide.f scroll_Eye_Wide.tree
  rw [eget_bad k 4 m hk (.inl h)]
  simp only [Option.bind_some]
  rw [eget_bad k 4 _ hk (.inl rfl)]
  simp only [Option.bind_some]
  rfl

theorem ewide_short (k : Nat) (t : List Int) (hk : 7 < k) (hb : byteL t) (h : t.length < 8) : ∃ v, scroll_Eye_Wide.f k (t, false) = some (v, ([], true)) ∧ 0 ≤ v ∧ v < 4294967296 := by
  by_cases h4 : t.length < 4
  · unfold scroll_Eye_Wide.f scroll_Eye_Wide.tree
    rw [eget_bad k 4 _ (by omega) (.inr (by rw [cl7_4]; exact h4))]
    simp only [Option.bind_some]
    rw [eget_bad k 4 _ (by omega) (.inl rfl)]
    exact ⟨0, rfl, by omega, by omega⟩
  · unfold scroll_Eye_Wide.f scroll_Eye_Wide.tree
    rw [eget_take k 4 t hk hb (by rw [cl7_4]; omega), cl7_4]
    simp only [Option.bind_some]
    rw [eget_bad k 4 _ (by omega) (.inr (by rw [cl7_4, List.length_drop]; omega))]
    have b1 := val_lt _ (byteL_take 4 hb)
    rw [List.length_take_of_le (by omega)] at b1
    have n1 := val_nonneg _ (byteL_take 4 hb)
    refine ⟨val (t.take 4), ?_, n1, by omega⟩
    simp only [Option.bind_some]
    rw [df (by omega), cond_false, or_wide 0 _ (by omega) (by omega) n1 (by omega)]
    simp

/-! ### Counts -/

/-- A count of so many bytes behind its first one. -/
def cw (r : List Int) (w : Nat) (least most : Int) : Option (Int × Nat) :=
  if r.length < w then none else if val (r.take w) < least ∨ most < val (r.take w) ∨ 9223372036854775808 ≤ val (r.take w) then none else some (val (r.take w), w + 1)

/-- The count with which bytes begin, and how many bytes it has. -/
def counted : List Int → Int → Option (Int × Nat)
  | [], _ => none
  | b :: r, most => if b = 253 then cw r 2 253 most else if b = 254 then cw r 4 65536 most else if b = 255 then cw r 8 4294967296 most else if most < b then none else some (b, 1)

def eyeOf (t : List Int) : Option (Int × Nat) → Int × (List Int × Bool)
  | some (v, u) => (v, (t.drop u, false))
  | none => (0, ([], true))

theorem take_drop_cons (b : Int) (r : List Int) : (b :: r).take 1 = [b] ∧ (b :: r).drop 1 = r := ⟨rfl, rfl⟩

theorem ecount_bad (k : Nat) (most : Int) (m : List Int × Bool) (hk : 0 < k) (h : m.2 = true ∨ m.1 = []) (hm : most < 0 ∨ True) : scroll_Eye_Count.f k most m = some (0, ([], true)) := by
  unfold scroll_Eye_Count.f scroll_Eye_Count.tree
  rw [eget_bad k 1 m hk (h.imp id (fun h => by rw [h]; decide))]
  simp only [Option.bind_some]
  rw [beqf (by omega), beqf (by omega), beqf (by omega), df (by omega)]
  simp only [cond_false]
  by_cases h : (0 : Int) > most
  · rw [dt h]; rfl
  · rw [df h]; rfl

theorem ecount_eq (k : Nat) (most : Int) (t : List Int) (hk : 7 < k) (hb : byteL t) : scroll_Eye_Count.f k most (t, false) = some (eyeOf t (counted t most)) := by
  cases t with
  | nil => exact ecount_bad k most _ (by omega) (.inr rfl) (.inr trivial)
  | cons b r =>
    have hb' := byteL_cons.1 hb
    unfold scroll_Eye_Count.f scroll_Eye_Count.tree
    rw [eget_take k 1 _ hk hb (by rw [cl7_1]; simp), cl7_1]
    simp only [Option.bind_some, (take_drop_cons b r).1, (take_drop_cons b r).2]
    have ev : val [b] = b := by simp [val]
    rw [ev]
    by_cases h1 : b = 253
    · subst h1
      rw [beqt rfl, cond_true]
      simp only [counted, if_true, cw]
      by_cases hl : r.length < 2
      · rw [if_pos hl, eget_bad k 2 _ (by omega) (.inr (by rw [cl7_2]; exact hl))]
        rfl
      · rw [if_neg hl, eget_take k 2 r hk hb'.2 (by rw [cl7_2]; omega), cl7_2]
        simp only [Option.bind_some]
        have b1 := val_lt _ (byteL_take 2 hb'.2)
        rw [List.length_take_of_le (by omega)] at b1
        by_cases h2 : val (r.take 2) < 253
        · rw [dt h2, if_pos (.inl h2)]; rfl
        · rw [df h2, cond_false]
          by_cases h3 : val (r.take 2) > most
          · rw [dt h3, if_pos (.inr (.inl h3))]; rfl
          · rw [df h3, if_neg (by omega)]; rfl
    rw [beqf h1, cond_false]
    by_cases h2 : b = 254
    · subst h2
      rw [beqt rfl, cond_true]
      simp only [counted, if_neg h1, if_true, cw]
      by_cases hl : r.length < 4
      · rw [if_pos hl, eget_bad k 4 _ (by omega) (.inr (by rw [cl7_4]; exact hl))]
        rfl
      · rw [if_neg hl, eget_take k 4 r hk hb'.2 (by rw [cl7_4]; omega), cl7_4]
        simp only [Option.bind_some]
        have b1 := val_lt _ (byteL_take 4 hb'.2)
        rw [List.length_take_of_le (by omega)] at b1
        by_cases h2 : val (r.take 4) < 65536
        · rw [dt h2, if_pos (.inl h2)]; rfl
        · rw [df h2, cond_false]
          by_cases h3 : val (r.take 4) > most
          · rw [dt h3, if_pos (.inr (.inl h3))]; rfl
          · rw [df h3, if_neg (by omega)]; rfl
    rw [beqf h2, cond_false]
    by_cases h3 : b = 255
    · subst h3
      rw [beqt rfl, cond_true]
      simp only [counted, if_neg h1, if_neg h2, if_true, cw]
      by_cases hl : r.length < 8
      · obtain ⟨v, hv, v0, v1⟩ := ewide_short k r hk hb'.2 hl
        rw [if_pos hl, hv]
        simp only [Option.bind_some]
        rw [dt v1]
        rfl
      · rw [if_neg hl, ewide_take k r hk hb'.2 (by omega)]
        by_cases hv : val (r.take 8) < 9223372036854775808
        · rw [if_pos hv]
          simp only [Option.bind_some]
          by_cases h2 : val (r.take 8) < 4294967296
          · rw [dt h2, if_pos (.inl h2)]; rfl
          · rw [df h2, cond_false]
            by_cases h3 : val (r.take 8) > most
            · rw [dt h3, if_pos (.inr (.inl h3))]; rfl
            · rw [df h3, if_neg (by omega)]; rfl
        · rw [if_neg hv, if_pos (by omega)]
          rfl
    rw [beqf h3, cond_false, df (by omega), cond_false]
    simp only [counted, if_neg h1, if_neg h2, if_neg h3]
    by_cases h4 : b > most
    · rw [dt h4, if_pos h4]; rfl
    · rw [df h4, if_neg (by omega)]; rfl

theorem counted_cnt (n most : Int) (rest : List Int) (hn : n < 9223372036854775808) : counted (cntB n ++ rest) most = if most < max n 0 then none else some (max n 0, (cntB n).length) := by
  unfold cntB
  split
  · have : max n 0 = 0 := by omega
    simp [counted, this]
  split
  · have : max n 0 = n := by omega
    rw [num1_lit n (by omega) (by omega), this]
    simp only [List.singleton_append, counted]
    rw [if_neg (by omega), if_neg (by omega), if_neg (by omega)]
    rfl
  have : max n 0 = n := by omega
  rw [this]
  have T (w : Nat) (h : n < 256 ^ w) (h0 : 0 ≤ n) : val ((num w n ++ rest).take w) = n := by
    have e : (num w n ++ rest).take w = num w n := by rw [List.take_append_of_le_length (by simp), List.take_of_length_le (by simp)]
    rw [e, val_num, Int.emod_eq_of_lt h0 h]
  split
  · simp only [List.cons_append, counted, if_true, cw]
    rw [T 2 (by omega) (by omega), if_neg (by simp)]
    simp only [List.length_cons, num_length]
    split <;> split <;> first | rfl | omega
  split
  · simp only [List.cons_append, counted, cw]
    rw [if_neg (by omega)]
    simp only [if_true]
    rw [T 4 (by omega) (by omega), if_neg (by simp)]
    simp only [List.length_cons, num_length]
    split <;> split <;> first | rfl | omega
  · simp only [List.cons_append, counted, cw]
    rw [if_neg (by omega), if_neg (by omega)]
    simp only [if_true]
    rw [T 8 (by omega) (by omega), if_neg (by simp)]
    simp only [List.length_cons, num_length]
    split <;> split <;> first | rfl | omega

/-! ### Names -/

theorem ename_take (k : Nat) (t : List Int) (h : 32 ≤ t.length) : scroll_Eye_Name.f k (t, false) = some (t.take 32, (t.drop 32, false)) := by
  unfold scroll_Eye_Name.f scroll_Eye_Name.tree
  rw [show (32 : Int) = ((32 : Nat) : Int) from rfl, eraw_take k 32 t h]
  simp only [Option.bind_some]
  have hl : (t.take 32).length = 32 := List.length_take_of_le h
  rw [hl, List.take_of_length_le (by omega)]
  simp

theorem ename_bad (k : Nat) (m : List Int × Bool) (h : m.2 = true ∨ m.1.length < 32) : scroll_Eye_Name.f k m = some (List.replicate 32 0, ([], true)) := by
  unfold scroll_Eye_Name.f scroll_Eye_Name.tree
  rw [eraw_bad k 32 m (h.imp id (fun h => .inr (by omega)))]
  rfl

/-! ### The document's way back -/

theorem rback_l0 (k : Nat) (s : List Int) (x2 : Int) (x3 : Bool) (hs : s.length ≤ 8) (hb : byteL s) : ∀ (i n : Nat), i ≤ s.length → i < n →
    ∃ y, trailheadref05_Back.l0.f k s x2 x3 n (val (s.drop i)) ((i : Int) - 1) = some (val s, y) := by
  intro i
  induction i with
  | zero =>
    intro n hi hd
    obtain ⟨n, rfl⟩ : ∃ q, n = q + 1 := ⟨n - 1, by omega⟩
    unfold trailheadref05_Back.l0.f trailheadref05_Back.l0.go trailheadref05_Back.l0.step
    rw [df (by omega)]
    exact ⟨_, rfl⟩
  | succ i ih =>
    intro n hi hd
    obtain ⟨n, rfl⟩ : ∃ q, n = q + 1 := ⟨n - 1, by omega⟩
    have hlt : i < s.length := by omega
    obtain ⟨y, this⟩ := ih n (by omega) (by omega)
    unfold trailheadref05_Back.l0.f at this ⊢
    unfold trailheadref05_Back.l0.go trailheadref05_Back.l0.step
    have e : (((i + 1 : Nat) : Int) - 1) = (i : Int) := by omega
    have e2 : s.getD i 0 = s[i] := by rw [List.getD_eq_getElem?_getD, List.getElem?_eq_getElem hlt]; rfl
    have hx := hb _ (List.getElem_mem hlt)
    have hv := val_lt _ (byteL_drop (i + 1) hb)
    have hv0 := val_nonneg _ (byteL_drop (i + 1) hb)
    rw [List.length_drop] at hv
    have hv2 : val (s.drop (i + 1)) < 256 ^ 7 := by
      have : (256 : Int) ^ (s.length - (i + 1)) ≤ 256 ^ 7 := pow256_le (by omega)
      omega
    rw [e, dt (by omega), dt (by omega), sub_id (by omega) (by omega)]
    simp only [cond_true, Int.toNat_natCast]
    have e3 : addI .u64 (mulI .u64 (val (s.drop (i + 1))) 256) (IntKind.wrap .u64 (s.getD i 0)) = val (s.drop i) := by
      rw [e2, List.drop_eq_getElem_cons hlt]
      unfold addI mulI
      rw [w_u64, w_u64, w_u64]
      simp only [val]
      omega
    rw [e3]
    exact ⟨y, this⟩

theorem rback_eq (k : Nat) (s : List Int) (hs : s.length ≤ 8) (hb : byteL s) (hk : 8 < k) : trailheadref05_Back.f k s = some (IntKind.wrap .i64 (val s), decide (val s < 9223372036854775808)) := by
  unfold trailheadref05_Back.f trailheadref05_Back.tree
  obtain ⟨y, this⟩ := rback_l0 k s 0 false hs hb s.length k (Nat.le_refl _) (by omega)
  rw [List.drop_length, show val [] = 0 from rfl] at this
  rw [sub_id (by omega) (by omega), this]
  rfl

end Go.Proofs.Ytodjcmbkbijliaa.Sy
