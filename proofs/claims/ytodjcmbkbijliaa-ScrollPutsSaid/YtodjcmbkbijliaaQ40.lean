/- What the pen writes. -/
import Derived.Test.YtodjcmbkbijliaaP1
import Derived.Test.YtodjcmbkbijliaaWA
namespace Go.Proofs.Ytodjcmbkbijliaa.Sy
open Go
set_option linter.unusedVariables false
set_option linter.unusedSimpArgs false

/-- How many bytes are put. -/
def cl (s : Int) : Nat := (mnI (mxI s 1) 8).toNat

theorem cl_eq (s : Int) : mnI (mxI s 1) 8 = (cl s : Int) ∧ 1 ≤ cl s ∧ cl s ≤ 8 := by
  unfold cl mnI mxI
  split <;> split <;> omega
theorem cl_of {s : Int} (h : 1 ≤ s) (h' : s ≤ 8) : cl s = s.toNat := by
  unfold cl mnI mxI
  split <;> split <;> omega

theorem put_l2 (k : Nat) (x1 x x10 x11 : Int) (x12 : Bool) (x13 : Nat) (x14 x15 x16 : Int) (y1 : List Int) (sz : Nat) (h8 : sz ≤ 8) : ∀ (d n : Nat) (i : Nat) (m : List Int), i + d = sz → d < n → m.length + d ≤ 140737488355328 →
    scroll_Pen_Put_v1.l2.f k x1 x x10 x11 x12 x13 x14 x15 x16 (sz : Int) y1 n (i : Int) m = some ((sz : Int), m ++ num d (x / 256 ^ i)) := by
  intro d
  induction d with
  | zero =>
    intro n i m hi hn hf
    obtain ⟨n, rfl⟩ : ∃ q, n = q + 1 := ⟨n - 1, by omega⟩
    unfold scroll_Pen_Put_v1.l2.f scroll_Pen_Put_v1.l2.go scroll_Pen_Put_v1.l2.step
    have : i = sz := by omega
    subst this
    rw [df (Int.lt_irrefl _)]
    simp [num]
  | succ d ih =>
    intro n i m hi hn hf
    obtain ⟨n, rfl⟩ : ∃ q, n = q + 1 := ⟨n - 1, by omega⟩
    have := ih n (i + 1) (m ++ [x / 256 ^ i % 256]) (by omega) (by omega) (by simp; omega)
    unfold scroll_Pen_Put_v1.l2.f at this ⊢
    unfold scroll_Pen_Put_v1.l2.go scroll_Pen_Put_v1.l2.step
    rw [dt (by omega), mul_id (by omega) (by omega), df (by omega), fits_ok (by omega), shr_byte x i (by omega), add_id (by omega) (by omega)]
    simp only [cond_true, cond_false]
    have e : (i : Int) + 1 = ((i + 1 : Nat) : Int) := by omega
    rw [e, this, num, Int.pow_succ, Int.ediv_ediv_of_nonneg (Int.le_of_lt (Int.pow_pos (by omega)))]
    simp

theorem put_l2_0 (k : Nat) (x1 x x10 x11 : Int) (x12 : Bool) (x13 : Nat) (x14 x15 x16 : Int) (y1 : List Int) (sz : Nat) (h8 : sz ≤ 8) (n : Nat) (m : List Int) (hn : sz < n) (hf : m.length + sz ≤ 140737488355328) :
    scroll_Pen_Put_v1.l2.f k x1 x x10 x11 x12 x13 x14 x15 x16 (sz : Int) y1 n 0 m = some ((sz : Int), m ++ num sz x) := by
  have := put_l2 k x1 x x10 x11 x12 x13 x14 x15 x16 y1 sz h8 sz n 0 m (by omega) hn hf
  rw [Int.pow_zero, Int.ediv_one] at this
  exact this

/-- The bytes of numbers. -/
def nums (s : Nat) (l : List Int) : List Int := (l.map (num s)).flatten

@[simp] theorem nums_length (s : Nat) (l : List Int) : (nums s l).length = s * l.length := by
  induction l with
  | nil => rfl
  | cons x r ih =>
    have : nums s (x :: r) = num s x ++ nums s r := rfl
    rw [this, List.length_append, ih, num_length, List.length_cons, Nat.mul_succ]; omega

theorem put_l0 (k : Nat) (s : Int) (l : List Int) (hk : 8 < k) : ∀ (d n : Nat) (i : Nat) (m : List Int), i + d = l.length → d < n → l.length ≤ 1000000 → m.length + 8 * d ≤ 140737488355328 →
    scroll_Pen_Put_v1.l0.f k s (l.length : Int) l n (i : Int) m = some ((l.length : Int), m ++ nums (cl s) (l.drop i)) := by
  obtain ⟨ec, c1, c8⟩ := cl_eq s
  intro d
  induction d with
  | zero =>
    intro n i m hi hn hl hf
    obtain ⟨n, rfl⟩ : ∃ q, n = q + 1 := ⟨n - 1, by omega⟩
    unfold scroll_Pen_Put_v1.l0.f scroll_Pen_Put_v1.l0.go scroll_Pen_Put_v1.l0.step
    have : i = l.length := by omega
    subst this
    rw [df (Int.lt_irrefl _)]
    simp [nums]
  | succ d ih =>
    intro n i m hi hn hl hf
    obtain ⟨n, rfl⟩ : ∃ q, n = q + 1 := ⟨n - 1, by omega⟩
    have hlt : i < l.length := by omega
    have := ih n (i + 1) (m ++ num (cl s) (l[i])) (by omega) (by omega) hl (by simp; omega)
    unfold scroll_Pen_Put_v1.l0.f at this ⊢
    unfold scroll_Pen_Put_v1.l0.go scroll_Pen_Put_v1.l0.step
    rw [dt (by omega), dt (by omega), dt (by omega), add_id (by omega) (by omega), ec]
    simp only [cond_true, Int.toNat_natCast]
    rw [put_l2_0 k _ _ _ _ _ _ _ _ _ _ (cl s) c8 k m (by omega) (by omega)]
    have e : (i : Int) + 1 = ((i + 1 : Nat) : Int) := by omega
    have e2 : l.getD i (0 : Int) = l[i] := by rw [List.getD_eq_getElem?_getD, List.getElem?_eq_getElem hlt]; rfl
    have e3 : nums (cl s) (l.drop i) = num (cl s) l[i] ++ nums (cl s) (l.drop (i + 1)) := by rw [List.drop_eq_getElem_cons hlt]; rfl
    rw [e2]
    simp only [Option.bind_some]
    rw [e, this, e3, List.append_assoc]

theorem put_eq (k : Nat) (s : Int) (l m : List Int) (hk : 8 < k) (hl : l.length < k) (hl' : l.length ≤ 1000000) (hf : m.length ≤ 100000000000000) : scroll_Pen_Put_v1.f k s l m = some (m ++ nums (cl s) l) := by
  unfold scroll_Pen_Put_v1.f scroll_Pen_Put_v1.tree
  have := put_l0 k s l hk l.length k 0 m (by omega) hl hl' (by omega)
  rw [show ((0 : Nat) : Int) = 0 from rfl] at this
  rw [this]
  simp

theorem put0_l2 (k : Nat) (x1 x x10 x11 : Int) (x12 : Bool) (x13 : Nat) (x14 x15 x16 x17 : Int) (y1 : List Int) (n : Nat) (i : Int) (m : List Int) :
    scroll_Pen_Put.l2.f k x1 x x10 x11 x12 x13 x14 x15 x16 x17 y1 n i m = scroll_Pen_Put_v1.l2.f k x1 x x10 x11 x12 x13 x14 x15 x16 x17 y1 n i m := by kernel_rfl
theorem put0_go (k : Nat) (s x10 : Int) (y1 : List Int) : ∀ (n : Nat) (i : Int) (m : List Int), scroll_Pen_Put.l0.f k s x10 y1 n i m = scroll_Pen_Put_v1.l0.f k s x10 y1 n i m := by intro n i m; kernel_rfl
theorem put0_eq (k : Nat) (s : Int) (l : List Int) (hk : 8 < k) (hl : l.length < k) (hl' : l.length ≤ 1000000) : scroll_Pen_Put.f k s l = some (nums (cl s) l) := by
  have := put_eq k s l [] hk hl hl' (by simp)
  unfold scroll_Pen_Put_v1.f scroll_Pen_Put_v1.tree at this
  unfold scroll_Pen_Put.f scroll_Pen_Put.tree
  rw [put0_go]
  simpa using this

/-! ### Counts -/

def cntB (n : Int) : List Int :=
  if n < 0 then [0] else if n < 253 then num 1 n else if n < 65536 then 253 :: num 2 n else if n < 4294967296 then 254 :: num 4 n else 255 :: num 8 n

theorem cnt_length (n : Int) : 1 ≤ (cntB n).length ∧ (cntB n).length ≤ 9 := by
  unfold cntB
  split; · simp
  split; · simp
  split; · simp
  split <;> simp

theorem nums1 (s : Nat) (v : Int) : nums s [v] = num s v := by simp [nums]
theorem cl_1 : cl 1 = 1 := rfl
theorem cl_2 : cl 2 = 2 := rfl
theorem cl_4 : cl 4 = 4 := rfl
theorem cl_7 : cl 7 = 7 := rfl
theorem cl_8 : cl 8 = 8 := rfl
theorem num1_lit (v : Int) (h : 0 ≤ v) (h' : v < 256) : num 1 v = [v] := by
  simp only [num]; rw [Int.emod_eq_of_lt h h']

theorem count_eq (k : Nat) (n : Int) (m : List Int) (hk : 8 < k) (hf : m.length ≤ 10000000000000) : scroll_Pen_Count_v1.f k n m = some (m ++ cntB n) := by
  unfold scroll_Pen_Count_v1.f scroll_Pen_Count_v1.tree
  have P := fun s v m h => put_eq k s [v] m hk (by simp; omega) (by simp) h
  by_cases h0 : n ≤ 252
  · rw [dt h0, cond_true, P _ _ _ (by omega), nums1, cl_1]
    simp only [Option.bind_some]
    by_cases h : n < 0
    · have : mxI n 0 = 0 := by unfold mxI; rw [if_pos (by omega)]
      rw [this, cntB, if_pos h]; rfl
    · have : mxI n 0 = n := by unfold mxI; rw [if_neg (by omega)]
      rw [this, cntB, if_neg h, if_pos (by omega)]
  rw [df h0, cond_false]
  by_cases h1 : n ≤ 65535
  · rw [dt h1, cond_true, P _ _ _ (by omega)]
    simp only [Option.bind_some]
    rw [P _ _ _ (by simp [nums1, cl_1]; omega)]
    simp only [Option.bind_some, nums1, cl_1, cl_2]
    rw [cntB, if_neg (by omega), if_neg (by omega), if_pos (by omega), num1_lit 253 (by omega) (by omega)]
    simp
  rw [df h1, cond_false]
  by_cases h2 : n ≤ 4294967295
  · rw [dt h2, cond_true, P _ _ _ (by omega)]
    simp only [Option.bind_some]
    rw [P _ _ _ (by simp [nums1, cl_1]; omega)]
    simp only [Option.bind_some, nums1, cl_1, cl_4]
    rw [cntB, if_neg (by omega), if_neg (by omega), if_neg (by omega), if_pos (by omega), num1_lit 254 (by omega) (by omega)]
    simp
  rw [df h2, cond_false, P _ _ _ (by omega)]
  simp only [Option.bind_some]
  rw [P _ _ _ (by simp [nums1, cl_1]; omega)]
  simp only [Option.bind_some, nums1, cl_1, cl_8]
  rw [cntB, if_neg (by omega), if_neg (by omega), if_neg (by omega), if_neg (by omega), num1_lit 255 (by omega) (by omega)]
  simp

theorem count0_eq (k : Nat) (n : Int) (hk : 8 < k) : scroll_Pen_Count.f k n = some (cntB n) := by
  have := count_eq k n [] hk (by simp)
  unfold scroll_Pen_Count_v1.f scroll_Pen_Count_v1.tree at this
  unfold scroll_Pen_Count.f scroll_Pen_Count.tree
  have e (s : Int) (l : List Int) : scroll_Pen_Put_v1.f k s l [] = scroll_Pen_Put.f k s l := by kernel_rfl
  simp only [e] at this
  simpa using this

/-! ### The document's numbers -/

theorem rem_byte (x : Int) (h : 0 ≤ x) : IntKind.wrap .u8 (remI x 256) = x % 256 := by
  rw [IntKind.wrap_u8]; unfold remI; rw [Int.tmod_eq_emod_of_nonneg h]; omega
theorem quo_byte (x : Int) (h : 0 ≤ x) (h' : x < 18446744073709551616) : quoI .u64 x 256 = x / 256 := by
  unfold quoI; rw [Int.tdiv_eq_ediv_of_nonneg h, w_u64]; omega
theorem toStr1 (x : Int) : toStr [x % 256] = [x % 256] := toStr_id _ (by intro y hy; simp at hy; omega)

theorem number_l0 (k : Nat) (s : Int) (x4 : List Int) : ∀ (d n i : Nat) (x : Int) (m : List Int), i + d = cl s → d < n → 0 ≤ x → x < 18446744073709551616 → m.length + d ≤ 140737488355328 →
    ∃ y, trailheadref05_Number.l0.f k s x4 n x m (i : Int) = some (y, m ++ num d x, (cl s : Int)) := by
  obtain ⟨ec, c1, c8⟩ := cl_eq s
  intro d
  induction d with
  | zero =>
    intro n i x m hi hn h0 h1 hf
    obtain ⟨n, rfl⟩ : ∃ q, n = q + 1 := ⟨n - 1, by omega⟩
    unfold trailheadref05_Number.l0.f trailheadref05_Number.l0.go trailheadref05_Number.l0.step
    have : i = cl s := by omega
    subst this
    rw [ec, df (Int.lt_irrefl _)]
    exact ⟨x, by simp [num]⟩
  | succ d ih =>
    intro n i x m hi hn h0 h1 hf
    obtain ⟨n, rfl⟩ : ∃ q, n = q + 1 := ⟨n - 1, by omega⟩
    obtain ⟨y, this⟩ := ih n (i + 1) (x / 256) (m ++ [x % 256]) (by omega) (by omega) (by omega) (by omega) (by simp; omega)
    unfold trailheadref05_Number.l0.f at this ⊢
    unfold trailheadref05_Number.l0.go trailheadref05_Number.l0.step
    rw [ec, dt (by omega), rem_byte x h0, toStr1, quo_byte x h0 h1, fits_ok (by simp; omega), add_id (by omega) (by omega)]
    simp only [cond_true]
    have e : (i : Int) + 1 = ((i + 1 : Nat) : Int) := by omega
    refine ⟨y, ?_⟩
    rw [e, this, num]
    simp

theorem number_eq (k : Nat) (s v : Int) (hk : 8 < k) : trailheadref05_Number.f k s v = some (num (cl s) v) := by
  obtain ⟨ec, c1, c8⟩ := cl_eq s
  unfold trailheadref05_Number.f trailheadref05_Number.tree
  have hw : IntKind.wrap .u64 v = v % 256 ^ 8 := by rw [w_u64]; rfl
  obtain ⟨y, this⟩ := number_l0 k s [] (cl s) k 0 (v % 256 ^ 8) [] (by omega) (by omega) (by omega) (by omega) (by simp; omega)
  rw [show ((0 : Nat) : Int) = 0 from rfl] at this
  rw [hw, this]
  simp only [Option.bind_some, List.nil_append]
  rw [num_mod _ _ _ c8]

theorem rcount_eq (k : Nat) (n : Int) (hk : 8 < k) : trailheadref05_Count.f k n = some (cntB n) := by
  unfold trailheadref05_Count.f trailheadref05_Count.tree
  have P := fun s v => number_eq k s v hk
  by_cases h0 : n < 0
  · rw [dt h0, cond_true, cntB, if_pos h0]
  rw [df h0, cond_false]
  by_cases h1 : n < 253
  · rw [dt h1, cond_true, P, cl_1, cntB, if_neg h0, if_pos h1]; rfl
  rw [df h1, cond_false]
  by_cases h2 : n < 65536
  · rw [dt h2, cond_true, P, cl_2, cntB, if_neg h0, if_neg h1, if_pos h2]
    simp only [Option.bind_some]
    rw [fits_ok (by simp)]; rfl
  rw [df h2, cond_false]
  by_cases h3 : n < 4294967296
  · rw [dt h3, cond_true, P, cl_4, cntB, if_neg h0, if_neg h1, if_neg h2, if_pos h3]
    simp only [Option.bind_some]
    rw [fits_ok (by simp)]; rfl
  rw [df h3, cond_false, P, cl_8, cntB, if_neg h0, if_neg h1, if_neg h2, if_neg h3]
  simp only [Option.bind_some]
  rw [fits_ok (by simp)]; rfl

/-! ### Names -/

/-- A name: 32 bytes. -/
def name (h : List Int) : Prop := h.length = 32 ∧ byteL h

theorem names_l0 (k : Nat) (l : List (List Int)) (hn : ∀ h ∈ l, List.length h = 32) : ∀ (d n i : Nat) (m : List Int), i + d = l.length → d < n → l.length ≤ 1000000 → m.length + 32 * d ≤ 140737488355328 →
    scroll_Pen_Names.l0.f k (l.length : Int) l n (i : Int) m = some ((l.length : Int), m ++ (l.drop i).flatten) := by
  intro d
  induction d with
  | zero =>
    intro n i m hi hd hl hf
    obtain ⟨n, rfl⟩ : ∃ q, n = q + 1 := ⟨n - 1, by omega⟩
    unfold scroll_Pen_Names.l0.f scroll_Pen_Names.l0.go scroll_Pen_Names.l0.step
    have : i = l.length := by omega
    subst this
    rw [df (Int.lt_irrefl _)]
    simp
  | succ d ih =>
    intro n i m hi hd hl hf
    obtain ⟨n, rfl⟩ : ∃ q, n = q + 1 := ⟨n - 1, by omega⟩
    have hlt : i < l.length := by omega
    have h32 := hn l[i] (List.getElem_mem hlt)
    have := ih n (i + 1) (m ++ l[i]) (by omega) (by omega) hl (by simp; omega)
    unfold scroll_Pen_Names.l0.f at this ⊢
    unfold scroll_Pen_Names.l0.go scroll_Pen_Names.l0.step
    have e : (i : Int) + 1 = ((i + 1 : Nat) : Int) := by omega
    have e2 : l.getD i (List.replicate 32 0 : List Int) = l[i] := by rw [List.getD_eq_getElem?_getD, List.getElem?_eq_getElem hlt]; rfl
    rw [dt (by omega), dt (by omega), dt (by omega), add_id (by omega) (by omega)]
    simp only [cond_true, Int.toNat_natCast]
    rw [e2, List.take_of_length_le (by omega), fits_ok (by omega), cond_true, e, this, List.drop_eq_getElem_cons hlt, List.flatten_cons, List.append_assoc]

theorem names_eq (k : Nat) (l : List (List Int)) (m : List Int) (hn : ∀ h ∈ l, List.length h = 32) (hk : l.length < k) (hl : l.length ≤ 1000000) (hf : m.length ≤ 100000000000000) : scroll_Pen_Names.f k l m = some (m ++ l.flatten) := by
  unfold scroll_Pen_Names.f scroll_Pen_Names.tree
  have := names_l0 k l hn l.length k 0 m (by omega) hk hl (by omega)
  rw [show ((0 : Nat) : Int) = 0 from rfl] at this
  rw [this]
  simp

theorem rname_l0 (k : Nat) (x2 h : List Int) (hl : h.length = 32) (hb : byteL h) : ∀ (d n i : Nat) (m : List Int), i + d = 32 → d < n → m.length = i →
    trailheadref05_Name.l0.f k x2 h n m (i : Int) = some (m ++ h.drop i, 32) := by
  intro d
  induction d with
  | zero =>
    intro n i m hi hd hm
    obtain ⟨n, rfl⟩ : ∃ q, n = q + 1 := ⟨n - 1, by omega⟩
    unfold trailheadref05_Name.l0.f trailheadref05_Name.l0.go trailheadref05_Name.l0.step
    have : i = 32 := by omega
    subst this
    rw [df (by omega), List.drop_eq_nil_of_le (by omega)]
    simp
  | succ d ih =>
    intro n i m hi hd hm
    obtain ⟨n, rfl⟩ : ∃ q, n = q + 1 := ⟨n - 1, by omega⟩
    have hlt : i < h.length := by omega
    have := ih n (i + 1) (m ++ [h[i]]) (by omega) (by omega) (by simp; omega)
    unfold trailheadref05_Name.l0.f at this ⊢
    unfold trailheadref05_Name.l0.go trailheadref05_Name.l0.step
    have e : (i : Int) + 1 = ((i + 1 : Nat) : Int) := by omega
    have e2 : h.getD i 0 = h[i] := by rw [List.getD_eq_getElem?_getD, List.getElem?_eq_getElem hlt]; rfl
    have e3 : toStr [h[i]] = [h[i]] := toStr_id _ (by intro y hy; simp at hy; subst hy; exact hb _ (List.getElem_mem hlt))
    rw [dt (by omega), dt (by omega), dt (by omega), add_id (by omega) (by omega)]
    simp only [cond_true, Int.toNat_natCast]
    rw [e2, e3, fits_ok (by simp; omega), cond_true, e, this, List.drop_eq_getElem_cons hlt, List.append_assoc]
    rfl

theorem rname_eq (k : Nat) (h : List Int) (hn : name h) (hk : 32 < k) : trailheadref05_Name.f k h = some h := by
  unfold trailheadref05_Name.f trailheadref05_Name.tree
  have := rname_l0 k [] h hn.1 hn.2 32 k 0 [] (by omega) hk rfl
  rw [show ((0 : Nat) : Int) = 0 from rfl] at this
  rw [this]
  simp

theorem raw_eq (k : Nat) (s m : List Int) (h : m.length + s.length ≤ 140737488355328) : scroll_Pen_Raw.f k s m = some (m ++ s) := by
  unfold scroll_Pen_Raw.f scroll_Pen_Raw.tree
  rw [fits_ok (by omega), cond_true]

theorem text_eq (k : Nat) (m : List Int) (h : byteL m) : scroll_Pen_Text.f k m = some m := by
  unfold scroll_Pen_Text.f scroll_Pen_Text.tree
  rw [toStr_id m h]

end Go.Proofs.Ytodjcmbkbijliaa.Sy
