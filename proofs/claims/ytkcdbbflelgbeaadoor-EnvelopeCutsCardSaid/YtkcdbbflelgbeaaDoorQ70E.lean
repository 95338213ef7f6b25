/- Own lemmas of other seats, turned to this one (pruneq.py). -/
import Derived.Test.YtkcdbbflelgbeaaDoorP1
import Derived.Test.YtkcdbbflelgbeaaDoorWA
namespace Go.Proofs.YtkcdbbflelgbeaaDoor.Sy
open Go
set_option linter.unusedVariables false
set_option linter.unusedSimpArgs false

/-- How many bytes are put. -/
def cl (s : Int) : Nat := (mnI (mxI s 1) 8).toNat

theorem cl_eq (s : Int) : mnI (mxI s 1) 8 = (cl s : Int) ∧ 1 ≤ cl s ∧ cl s ≤ 8 := by
  unfold cl mnI mxI
  split <;> split <;> omega
theorem put_l2 (k : Nat) (x1 x x10 x11 : Int) (y1 : List Int) (sz : Nat) (h8 : sz ≤ 8) : ∀ (d n : Nat) (i : Nat) (m : List Int), i + d = sz → d < n → m.length + d ≤ 140737488355328 →
    scroll_Pen_Put_v1.l2.f k x1 x x10 x11 (sz : Int) y1 n (i : Int) m = some ((sz : Int), m ++ num d (x / 256 ^ i)) := by
  intro d
  induction d with
  | zero =>
    intro n i m hi hn hf
    obtain ⟨n, rfl⟩ : ∃ q, n = q + 1 := ⟨n - 1, by omega⟩
    unfold scroll_Pen_Put_v1.l2.f scroll_Pen_Put_v1.l2.go scroll_Pen_Put_v1.l2.step
    have : i = sz := by omega
    subst this
    rw [df (Int.lt_irrefl _)]
    simp [num]
  | succ d ih =>
    intro n i m hi hn hf
    obtain ⟨n, rfl⟩ : ∃ q, n = q + 1 := ⟨n - 1, by omega⟩
    have := ih n (i + 1) (m ++ [x / 256 ^ i % 256]) (by omega) (by omega) (by simp; omega)
    unfold scroll_Pen_Put_v1.l2.f at this ⊢
    unfold scroll_Pen_Put_v1.l2.go scroll_Pen_Put_v1.l2.step
    rw [dt (by omega), mul_id (by omega) (by omega), df (by omega), fits_ok (by omega), shr_byte x i (by omega), add_id (by omega) (by omega)]
    simp only [cond_true, cond_false]
    have e : (i : Int) + 1 = ((i + 1 : Nat) : Int) := by omega
    rw [e, this, num, Int.pow_succ, Int.ediv_ediv_of_nonneg (Int.le_of_lt (Int.pow_pos (by omega)))]
    simp

theorem put_l2_0 (k : Nat) (x1 x x10 x11 : Int) (y1 : List Int) (sz : Nat) (h8 : sz ≤ 8) (n : Nat) (m : List Int) (hn : sz < n) (hf : m.length + sz ≤ 140737488355328) :
    scroll_Pen_Put_v1.l2.f k x1 x x10 x11 (sz : Int) y1 n 0 m = some ((sz : Int), m ++ num sz x) := by
  have := put_l2 k x1 x x10 x11 y1 sz h8 sz n 0 m (by omega) hn hf
  rw [Int.pow_zero, Int.ediv_one] at this
  exact this

/-- The bytes of numbers. -/
def nums (s : Nat) (l : List Int) : List Int := (l.map (num s)).flatten

theorem put_l0 (k : Nat) (s : Int) (l : List Int) (hk : 8 < k) : ∀ (d n : Nat) (i : Nat) (m : List Int), i + d = l.length → d < n → l.length ≤ 1000000 → m.length + 8 * d ≤ 140737488355328 →
    scroll_Pen_Put_v1.l0.f k s (l.length : Int) l n (i : Int) m = some ((l.length : Int), m ++ nums (cl s) (l.drop i)) := by
  obtain ⟨ec, c1, c8⟩ := cl_eq s
  intro d
  induction d with
  | zero =>
    intro n i m hi hn hl hf
    obtain ⟨n, rfl⟩ : ∃ q, n = q + 1 := ⟨n - 1, by omega⟩
    unfold scroll_Pen_Put_v1.l0.f scroll_Pen_Put_v1.l0.go scroll_Pen_Put_v1.l0.step
    have : i = l.length := by omega
    subst this
    rw [df (Int.lt_irrefl _)]
    simp [nums]
  | succ d ih =>
    intro n i m hi hn hl hf
    obtain ⟨n, rfl⟩ : ∃ q, n = q + 1 := ⟨n - 1, by omega⟩
    have hlt : i < l.length := by omega
    have := ih n (i + 1) (m ++ num (cl s) (l[i])) (by omega) (by omega) hl (by simp; omega)
    unfold scroll_Pen_Put_v1.l0.f at this ⊢
    unfold scroll_Pen_Put_v1.l0.go scroll_Pen_Put_v1.l0.step
    rw [dt (by omega), dt (by omega), dt (by omega), add_id (by omega) (by omega), ec]
    simp only [cond_true, Int.toNat_natCast]
    rw [put_l2_0 k _ _ _ _ _ (cl s) c8 k m (by omega) (by omega)]
    have e : (i : Int) + 1 = ((i + 1 : Nat) : Int) := by omega
    have e2 : l.getD i (0 : Int) = l[i] := by rw [List.getD_eq_getElem?_getD, List.getElem?_eq_getElem hlt]; rfl
    have e3 : nums (cl s) (l.drop i) = num (cl s) l[i] ++ nums (cl s) (l.drop (i + 1)) := by rw [List.drop_eq_getElem_cons hlt]; rfl
    rw [e2]
    simp only [Option.bind_some]
    rw [e, this, e3, List.append_assoc]

theorem put_eq (k : Nat) (s : Int) (l m : List Int) (hk : 8 < k) (hl : l.length < k) (hl' : l.length ≤ 1000000) (hf : m.length ≤ 100000000000000) : scroll_Pen_Put_v1.f k s l m = some (m ++ nums (cl s) l) := by
  unfold scroll_Pen_Put_v1.f scroll_Pen_Put_v1.tree
  have := put_l0 k s l hk l.length k 0 m (by omega) hl hl' (by omega)
  rw [show ((0 : Nat) : Int) = 0 from rfl] at this
  rw [this]
  simp

theorem put0_go (k : Nat) (s x10 : Int) (y1 : List Int) : ∀ (n : Nat) (i : Int) (m : List Int), scroll_Pen_Put.l0.f k s x10 y1 n i m = scroll_Pen_Put_v1.l0.f k s x10 y1 n i m := by intro n i m; kernel_rfl
theorem put0_eq (k : Nat) (s : Int) (l : List Int) (hk : 8 < k) (hl : l.length < k) (hl' : l.length ≤ 1000000) : scroll_Pen_Put.f k s l = some (nums (cl s) l) := by
  have := put_eq k s l [] hk hl hl' (by simp)
  unfold scroll_Pen_Put_v1.f scroll_Pen_Put_v1.tree at this
  unfold scroll_Pen_Put.f scroll_Pen_Put.tree
  rw [put0_go]
  simpa using this

theorem nums1 (s : Nat) (v : Int) : nums s [v] = num s v := by simp [nums]
theorem cl_4 : cl 4 = 4 := rfl
theorem rem_byte (x : Int) (h : 0 ≤ x) : IntKind.wrap .u8 (remI x 256) = x % 256 := by
  rw [IntKind.wrap_u8]; unfold remI; rw [Int.tmod_eq_emod_of_nonneg h]; omega
theorem quo_byte (x : Int) (h : 0 ≤ x) (h' : x < 18446744073709551616) : quoI .u64 x 256 = x / 256 := by
  unfold quoI; rw [Int.tdiv_eq_ediv_of_nonneg h, w_u64]; omega
theorem toStr1 (x : Int) : toStr [x % 256] = [x % 256] := toStr_id _ (by intro y hy; simp at hy; omega)

theorem number_l0 (k : Nat) (s : Int) : ∀ (d n i : Nat) (x : Int) (m : List Int), i + d = cl s → d < n → 0 ≤ x → x < 18446744073709551616 → m.length + d ≤ 140737488355328 →
    ∃ y, trailheadref05_Number.l0.f k s n x m (i : Int) = some (y, m ++ num d x, (cl s : Int)) := by
  obtain ⟨ec, c1, c8⟩ := cl_eq s
  intro d
  induction d with
  | zero =>
    intro n i x m hi hn h0 h1 hf
    obtain ⟨n, rfl⟩ : ∃ q, n = q + 1 := ⟨n - 1, by omega⟩
    unfold trailheadref05_Number.l0.f trailheadref05_Number.l0.go trailheadref05_Number.l0.step
    have : i = cl s := by omega
    subst this
    rw [ec, df (Int.lt_irrefl _)]
    exact ⟨x, by simp [num]⟩
  | succ d ih =>
    intro n i x m hi hn h0 h1 hf
    obtain ⟨n, rfl⟩ : ∃ q, n = q + 1 := ⟨n - 1, by omega⟩
    obtain ⟨y, this⟩ := ih n (i + 1) (x / 256) (m ++ [x % 256]) (by omega) (by omega) (by omega) (by omega) (by simp; omega)
    unfold trailheadref05_Number.l0.f at this ⊢
    unfold trailheadref05_Number.l0.go trailheadref05_Number.l0.step
    rw [ec, dt (by omega), rem_byte x h0, toStr1, quo_byte x h0 h1, fits_ok (by simp; omega), add_id (by omega) (by omega)]
    simp only [cond_true]
    have e : (i : Int) + 1 = ((i + 1 : Nat) : Int) := by omega
    refine ⟨y, ?_⟩
    rw [e, this, num]
    simp

theorem number_eq (k : Nat) (s v : Int) (hk : 8 < k) : trailheadref05_Number.f k s v = some (num (cl s) v) := by
  obtain ⟨ec, c1, c8⟩ := cl_eq s
  unfold trailheadref05_Number.f trailheadref05_Number.tree
  have hw : IntKind.wrap .u64 v = v % 256 ^ 8 := by rw [w_u64]; rfl
  obtain ⟨y, this⟩ := number_l0 k s (cl s) k 0 (v % 256 ^ 8) [] (by omega) (by omega) (by omega) (by omega) (by simp; omega)
  rw [show ((0 : Nat) : Int) = 0 from rfl] at this
  rw [hw, this]
  simp only [Option.bind_some, List.nil_append]
  rw [num_mod _ _ _ c8]

/-- A name: 32 bytes. -/
def name (h : List Int) : Prop := h.length = 32 ∧ byteL h

theorem rname_l0 (k : Nat) (h : List Int) (hl : h.length = 32) (hb : byteL h) : ∀ (d n i : Nat) (m : List Int), i + d = 32 → d < n → m.length = i →
    trailheadref05_Name.l0.f k h n m (i : Int) = some (m ++ h.drop i, 32) := by
  intro d
  induction d with
  | zero =>
    intro n i m hi hd hm
    obtain ⟨n, rfl⟩ : ∃ q, n = q + 1 := ⟨n - 1, by omega⟩
    unfold trailheadref05_Name.l0.f trailheadref05_Name.l0.go trailheadref05_Name.l0.step
    have : i = 32 := by omega
    subst this
    rw [df (by omega), List.drop_eq_nil_of_le (by omega)]
    simp
  | succ d ih =>
    intro n i m hi hd hm
    obtain ⟨n, rfl⟩ : ∃ q, n = q + 1 := ⟨n - 1, by omega⟩
    have hlt : i < h.length := by omega
    have := ih n (i + 1) (m ++ [h[i]]) (by omega) (by omega) (by simp; omega)
    unfold trailheadref05_Name.l0.f at this ⊢
    unfold trailheadref05_Name.l0.go trailheadref05_Name.l0.step
    have e : (i : Int) + 1 = ((i + 1 : Nat) : Int) := by omega
    have e2 : h.getD i 0 = h[i] := by rw [List.getD_eq_getElem?_getD, List.getElem?_eq_getElem hlt]; rfl
    have e3 : toStr [h[i]] = [h[i]] := toStr_id _ (by intro y hy; simp at hy; subst hy; exact hb _ (List.getElem_mem hlt))
    rw [dt (by omega), dt (by omega), dt (by omega), add_id (by omega) (by omega)]
    simp only [cond_true, Int.toNat_natCast]
    rw [e2, e3, fits_ok (by simp; omega), cond_true, e, this, List.drop_eq_getElem_cons hlt, List.append_assoc]
    rfl

theorem rname_eq (k : Nat) (h : List Int) (hn : name h) (hk : 32 < k) : trailheadref05_Name.f k h = some h := by
  unfold trailheadref05_Name.f trailheadref05_Name.tree
  have := rname_l0 k h hn.1 hn.2 32 k 0 [] (by omega) hk rfl
  rw [show ((0 : Nat) : Int) = 0 from rfl] at this
  rw [this]
  simp

theorem text_eq (k : Nat) (m : List Int) (h : byteL m) : scroll_Pen_Text.f k m = some m := by
  unfold scroll_Pen_Text.f scroll_Pen_Text.tree
  rw [toStr_id m h]

theorem eraw_take (k : Nat) (n : Nat) (t : List Int) (h : n ≤ t.length) : scroll_Eye_Raw.f k (n : Int) (t, false) = some (t.take n, (t.drop n, false)) := by
  unfold scroll_Eye_Raw.f scroll_Eye_Raw.tree
  simp only [cond_false, Int.toNat_natCast]
  rw [df (by omega), df (by omega), dt (by omega), dt (by omega)]
  rfl

theorem eraw_bad (k : Nat) (n : Int) (m : List Int × Bool) (h : m.2 = true ∨ n < 0 ∨ (m.1.length : Int) < n) : scroll_Eye_Raw.f k n m = some ([], ([], true)) := by
  unfold scroll_Eye_Raw.f scroll_Eye_Raw.tree
  cases h2 : m.2
  · rw [h2] at h
    rw [cond_false]
    by_cases h3 : n < 0
    · rw [dt h3]; rfl
    · have h4 : n > (m.1.length : Int) := by
        rcases h with h | h | h
        · cases h
        · omega
        · omega
      rw [df h3, dt h4]; rfl
  · rfl

/-- The size that is read. -/
def cl7 (s : Int) : Nat := (mnI (mxI s 1) 7).toNat

theorem cl7_eq (s : Int) : mnI (mxI s 1) 7 = (cl7 s : Int) ∧ 1 ≤ cl7 s ∧ cl7 s ≤ 7 := by
  unfold cl7 mnI mxI
  split <;> split <;> omega
theorem val_take_succ (s : List Int) (i : Nat) (h : i < s.length) : val (s.take (i + 1)) = val (s.take i) + 256 ^ i * s[i] := by
  rw [List.take_succ_eq_append_getElem h, val_append, List.length_take_of_le (by omega)]
  simp [val]

theorem eget_l0 (k : Nat) (s : List Int) (y0 : List Int × Bool) (hs : s.length ≤ 7) (hb : byteL s) : ∀ (d n i : Nat), i + d = s.length → d < n →
    scroll_Eye_Get.l0.f k s (s.length : Int) y0 n (val (s.take i)) (i : Int) = some (val s, (s.length : Int)) := by
  intro d
  induction d with
  | zero =>
    intro n i hi hd
    obtain ⟨n, rfl⟩ : ∃ q, n = q + 1 := ⟨n - 1, by omega⟩
    unfold scroll_Eye_Get.l0.f scroll_Eye_Get.l0.go scroll_Eye_Get.l0.step
    have : i = s.length := by omega
    subst this
    rw [df (Int.lt_irrefl _), List.take_length]
    rfl
  | succ d ih =>
    intro n i hi hd
    obtain ⟨n, rfl⟩ : ∃ q, n = q + 1 := ⟨n - 1, by omega⟩
    have hlt : i < s.length := by omega
    have := ih n (i + 1) (by omega) (by omega)
    unfold scroll_Eye_Get.l0.f at this ⊢
    unfold scroll_Eye_Get.l0.go scroll_Eye_Get.l0.step
    have e : (i : Int) + 1 = ((i + 1 : Nat) : Int) := by omega
    have e2 : s.getD i 0 = s[i] := by rw [List.getD_eq_getElem?_getD, List.getElem?_eq_getElem hlt]; rfl
    have hx := hb _ (List.getElem_mem hlt)
    have hv := val_lt (s.take i) (byteL_take i hb)
    rw [List.length_take_of_le (by omega)] at hv
    rw [dt (by omega), dt (by omega), mul_id (by omega) (by omega), df (by omega), add_id (by omega) (by omega)]
    simp only [cond_true, cond_false, Int.toNat_natCast]
    rw [e2, or_top _ _ i (by omega) (val_nonneg _ (byteL_take i hb)) hv hx.1 hx.2, ← val_take_succ s i hlt, e, this]

theorem eget_take (k : Nat) (s : Int) (t : List Int) (hk : 7 < k) (hb : byteL t) (h : cl7 s ≤ t.length) : scroll_Eye_Get.f k s (t, false) = some (val (t.take (cl7 s)), (t.drop (cl7 s), false)) := by
  obtain ⟨ec, c1, c7⟩ := cl7_eq s
  unfold scroll_Eye_Get.f scroll_Eye_Get.tree
  rw [ec, eraw_take k _ t h]
  simp only [Option.bind_some]
  have hl : (t.take (cl7 s)).length = cl7 s := List.length_take_of_le h
  have := eget_l0 k (t.take (cl7 s)) (t.drop (cl7 s), false) (by omega) (byteL_take _ hb) (cl7 s) k 0 (by omega) (by omega)
  rw [show ((0 : Nat) : Int) = 0 from rfl, List.take_zero, show val [] = 0 from rfl] at this
  rw [this]
  rfl

theorem eget_bad (k : Nat) (s : Int) (m : List Int × Bool) (hk : 0 < k) (h : m.2 = true ∨ m.1.length < cl7 s) : scroll_Eye_Get.f k s m = some (0, ([], true)) := by
  obtain ⟨ec, c1, c7⟩ := cl7_eq s
  obtain ⟨q, rfl⟩ : ∃ q, k = q + 1 := ⟨k - 1, by omega⟩
  unfold scroll_Eye_Get.f scroll_Eye_Get.tree
  rw [ec, eraw_bad _ _ m (h.imp id (fun h => .inr (by omega)))]
  rfl

theorem cl7_4 : cl7 4 = 4 := rfl
theorem wf_u8 {y : Int} : (Lit.int .u8 y).wf = true ↔ 0 ≤ y ∧ y < 256 := by
  simp only [Lit.wf, Bool.and_eq_true, decide_eq_true_eq]
  show (0 : Int) ≤ y ∧ y ≤ 255 ↔ _
  omega

theorem name_of {h : List Int} (hg : goodT (.arr .u8 32) h) : name h := ⟨hg.1, fun y hy => wf_u8.1 (hg.2 y hy)⟩

end Go.Proofs.YtkcdbbflelgbeaaDoor.Sy
