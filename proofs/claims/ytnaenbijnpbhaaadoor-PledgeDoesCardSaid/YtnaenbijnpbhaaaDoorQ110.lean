/- Own lemmas of other seats, turned to this one (pruneq.py). -/
import Derived.Test.YtnaenbijnpbhaaaDoorQ63
namespace Go.Proofs.YtnaenbijnpbhaaaDoor.Sy
open Go
set_option linter.unusedVariables false
set_option linter.unusedSimpArgs false

theorem write0_l2 (k : Nat) (x9 x10 : Int) (y1 : List (List Int)) (z : Int) (hk : 100 < k) : ∀ (d n : Nat) (h p : List Int), 64 * d ≤ p.length → p.length < 64 * (d + 1) → d < n → okW h → byteL p →
    digest_Hasher_Write.l2.f k x9 x10 y1 K64 n h z p = some (proc d h p, z, p.drop (64 * d)) := by
  intro d
  induction d with
  | zero =>
    intro n h p h0 h1 hn hh hb
    obtain ⟨n, rfl⟩ : ∃ q, n = q + 1 := ⟨n - 1, by omega⟩
    unfold digest_Hasher_Write.l2.f digest_Hasher_Write.l2.go digest_Hasher_Write.l2.step
    rw [df (by omega)]
    rfl
  | succ d ih =>
    intro n h p h0 h1 hn hh hb
    obtain ⟨n, rfl⟩ : ∃ q, n = q + 1 := ⟨n - 1, by omega⟩
    have ih' := ih n (comp h (p.take 64)) (p.drop 64) (by rw [List.length_drop]; omega) (by rw [List.length_drop]; omega) (by omega) (okW_comp hh) (byteL_drop _ hb)
    unfold digest_Hasher_Write.l2.f at ih' ⊢
    unfold digest_Hasher_Write.l2.go digest_Hasher_Write.l2.step
    rw [dt (by omega), cond_true, cond_true, take0_eq k h z (p.take 64) p hk hh (byteL_take _ hb) (by rw [List.length_take]; omega), Option.bind_some, cond_true, ih']
    rw [proc, List.drop_drop, Nat.mul_succ, Nat.add_comm]

theorem write0_l0 (k : Nat) (parts : List (List Int)) (hp : ∀ q ∈ parts, byteL q) (hk : 20000 < k) (hpl : parts.length ≤ 1000000) : ∀ (d n i : Nat) (T : List Int), i + d = parts.length → d < n → byteL T → T.length + (parts.drop i).flatten.length ≤ 1000000 →
    digest_Hasher_Write.l0.f k (parts.length : Int) parts K64 n (i : Int) (took T).st (took T).size (took T).rest = some ((parts.length : Int), (took (T ++ (parts.drop i).flatten)).st, (took (T ++ (parts.drop i).flatten)).size, (took (T ++ (parts.drop i).flatten)).rest) := by
  intro d
  induction d with
  | zero =>
    intro n i T hi hn hT hl
    obtain ⟨n, rfl⟩ : ∃ q, n = q + 1 := ⟨n - 1, by omega⟩
    unfold digest_Hasher_Write.l0.f digest_Hasher_Write.l0.go digest_Hasher_Write.l0.step
    have : i = parts.length := by omega
    subst this
    rw [df (Int.lt_irrefl _), List.drop_length, List.flatten_nil, List.append_nil]
    rfl
  | succ d ih =>
    intro n i T hi hn hT hl
    obtain ⟨n, rfl⟩ : ∃ q, n = q + 1 := ⟨n - 1, by omega⟩
    have hlt : i < parts.length := by omega
    have hq := hp _ (List.getElem_mem hlt)
    have ed : (parts.drop i).flatten = parts[i] ++ (parts.drop (i + 1)).flatten := by rw [List.drop_eq_getElem_cons hlt]; rfl
    rw [ed, List.length_append] at hl
    have ih' := ih n (i + 1) (T ++ parts[i]) (by omega) (by omega) (byteL_append hT hq) (by rw [List.length_append]; omega)
    unfold digest_Hasher_Write.l0.f at ih' ⊢
    unfold digest_Hasher_Write.l0.go digest_Hasher_Write.l0.step
    have c1 : decide ((i : Int) < (parts.length : Int)) = true := dt (by omega)
    have c2 : decide ((0 : Int) ≤ (i : Int)) = true := dt (by omega)
    have c3 : decide (i < parts.length) = true := dt hlt
    have e1 : addI .i64 (i : Int) 1 = ((i + 1 : Nat) : Int) := add_id (by omega) (by omega)
    have e2 : parts.getD i ([] : List Int) = parts[i] := by rw [List.getD_eq_getElem?_getD, List.getElem?_eq_getElem hlt]; rfl
    have hr := took_rest_len T
    simp only [c1, c2, c3, cond_true, Int.toNat_natCast, e1, e2]
    rw [fits_ok (by omega), cond_true]
    have hz : addI .u64 (took T).size (IntKind.wrap .u64 (parts[i].length : Int)) = (took T).size + (parts[i].length : Int) := by
      have : (took T).size = (T.length : Int) := rfl
      rw [this]; unfold addI; rw [w_u64, w_u64]; omega
    rw [hz, write0_l2 k _ _ _ _ (by omega) (((took T).rest ++ parts[i]).length / 64) k (took T).st ((took T).rest ++ parts[i]) (by omega) (by omega) (by rw [List.length_append]; omega) (took_okW T) (byteL_append (took_rest_byteL hT) hq), Option.bind_some]
    have ha := took_add T parts[i]
    rw [ha] at ih'
    rw [ih', ed, List.append_assoc]

theorem write0_eq (k : Nat) (T : List Int) (parts : List (List Int)) (hT : byteL T) (hp : ∀ q ∈ parts, byteL q) (hk : 20000 < k) (hpk : parts.length < k) (hpl : parts.length ≤ 1000000) (hl : T.length + parts.flatten.length ≤ 1000000) (hr : (took T).rest = []) :
    digest_Hasher_Write.f k (took T).st (took T).size parts K64 = some ((took (T ++ parts.flatten)).st, (took (T ++ parts.flatten)).size, (took (T ++ parts.flatten)).rest) := by
  unfold digest_Hasher_Write.f digest_Hasher_Write.tree
  have := write0_l0 k parts hp hk hpl parts.length k 0 T (by omega) hpk hT (by simpa using hl)
  rw [show ((0 : Nat) : Int) = 0 from rfl, List.drop_zero] at this
  rw [hr] at this
  rw [this]
  rfl

theorem shr64 (x : Int) (i : Nat) (hi : i < 8) : IntKind.wrap .u8 (shrI .u64 x ((8 * i : Nat) : Int)) = x / 256 ^ i % 256 := by
  rw [IntKind.wrap_u8]
  congr 1
  unfold shrI
  have e : min ((8 * i : Nat) : Int).toNat (IntKind.bits .u64) = 8 * i := by
    have : IntKind.bits .u64 = 64 := rfl
    rw [this]; omega
  rw [e, Int.fdiv_eq_ediv_of_nonneg _ (Int.le_of_lt (Int.pow_pos (by omega))), Int.pow_mul]
  rfl

theorem sum_l0 (k : Nat) (y00 : List Int) (y01 : Int) (y1 y2 y3 y40 : List Int) (y41 : Int) : ∀ (d n : Nat) (l : List Int), zc l.length = d → d < n → l.length + d ≤ 100000000 →
    digest_Hasher_Sum.l0.f k y00 y01 y1 y2 y3 y40 y41 n l = some (l ++ List.replicate d 0) := by
  intro d
  induction d with
  | zero =>
    intro n l hz hn hl
    obtain ⟨n, rfl⟩ : ∃ q, n = q + 1 := ⟨n - 1, by omega⟩
    unfold digest_Hasher_Sum.l0.f digest_Hasher_Sum.l0.go digest_Hasher_Sum.l0.step
    rw [rem64, bne_f (by unfold zc at hz; omega)]
    simp
  | succ d ih =>
    intro n l hz hn hl
    obtain ⟨n, rfl⟩ : ∃ q, n = q + 1 := ⟨n - 1, by omega⟩
    have ih' := ih n (l ++ [0]) (by rw [List.length_append]; unfold zc at hz ⊢; simp; omega) (by omega) (by simp; omega)
    unfold digest_Hasher_Sum.l0.f at ih' ⊢
    unfold digest_Hasher_Sum.l0.go digest_Hasher_Sum.l0.step
    rw [rem64, bne_t (by unfold zc at hz; omega), cond_true, fits_ok (by omega), cond_true, ih', List.append_assoc]
    rfl

theorem sum_l2 (k : Nat) (y00 : List Int) (y01 v : Int) (hv : mulI .u64 y01 8 = v) (y1 y2 y3 y40 : List Int) (y41 : Int) : ∀ (i n : Nat) (l : List Int), i ≤ 8 → i < n → l.length + i ≤ 100000000 →
    ∃ x, digest_Hasher_Sum.l2.f k y00 y01 y1 y2 y3 y40 y41 n ((i : Int) - 1) l = some (x, l ++ bd i v) := by
  intro i
  induction i with
  | zero =>
    intro n l hi hn hl
    obtain ⟨n, rfl⟩ : ∃ q, n = q + 1 := ⟨n - 1, by omega⟩
    unfold digest_Hasher_Sum.l2.f digest_Hasher_Sum.l2.go digest_Hasher_Sum.l2.step
    rw [df (by omega)]
    exact ⟨_, by simp [bd]; rfl⟩
  | succ i ih =>
    intro n l hi hn hl
    obtain ⟨n, rfl⟩ : ∃ q, n = q + 1 := ⟨n - 1, by omega⟩
    obtain ⟨x, ih'⟩ := ih n (l ++ [v / 256 ^ i % 256]) (by omega) (by omega) (by simp; omega)
    unfold digest_Hasher_Sum.l2.f at ih' ⊢
    unfold digest_Hasher_Sum.l2.go digest_Hasher_Sum.l2.step
    have e0 : ((i + 1 : Nat) : Int) - 1 = (i : Int) := by omega
    have m8 : mulI .i64 8 (i : Int) = ((8 * i : Nat) : Int) := by rw [mul_id (by omega) (by omega)]; omega
    have s1 : subI .i64 (i : Int) 1 = (i : Int) - 1 := sub_id (by omega) (by omega)
    rw [e0, dt (by omega), cond_true, m8, df (by omega), cond_false, fits_ok (by omega), cond_true, hv, shr64 v i (by omega), s1, ih']
    exact ⟨x, by rw [bd, List.append_assoc]; rfl⟩

theorem sum_l4 (k : Nat) (y00 : List Int) (y01 : Int) (y2 y3 : List Int) (z : Int) (hk : 100 < k) : ∀ (d n : Nat) (h p : List Int), p.length = 64 * d → d < n → okW h → byteL p →
    digest_Hasher_Sum.l4.f k y00 y01 K64 y2 y3 n h z p = some (proc d h p, z, []) := by
  intro d
  induction d with
  | zero =>
    intro n h p h0 hn hh hb
    obtain ⟨n, rfl⟩ : ∃ q, n = q + 1 := ⟨n - 1, by omega⟩
    unfold digest_Hasher_Sum.l4.f digest_Hasher_Sum.l4.go digest_Hasher_Sum.l4.step
    have : p = [] := List.eq_nil_of_length_eq_zero (by omega)
    subst this
    rfl
  | succ d ih =>
    intro n h p h0 hn hh hb
    obtain ⟨n, rfl⟩ : ∃ q, n = q + 1 := ⟨n - 1, by omega⟩
    have ih' := ih n (comp h (p.take 64)) (p.drop 64) (by rw [List.length_drop]; omega) (by omega) (okW_comp hh) (byteL_drop _ hb)
    unfold digest_Hasher_Sum.l4.f at ih' ⊢
    unfold digest_Hasher_Sum.l4.go digest_Hasher_Sum.l4.step
    rw [dt (by omega), cond_true, dt (by omega), cond_true, take1_eq k h z (p.take 64) hk hh (byteL_take _ hb) (by rw [List.length_take]; omega), Option.bind_some, cond_true, ih']
    rfl

theorem shr_lit {x : Int} (e : Nat) (he : e ≤ 3) (c : Int) (hc : c = ((8 * e : Nat) : Int)) : IntKind.wrap .u8 (shrI .u32 x c) = x / 256 ^ e % 256 := by
  rw [hc, shr_u32 x e he, IntKind.wrap_u8]

theorem sum_l6 (k : Nat) (h y00 : List Int) (y01 : Int) (y1 y2 y3 : List Int) : ∀ (d n i : Nat) (o : List Int), i + d = 8 → d < n →
    digest_Hasher_Sum.l6.f k h y00 y01 y1 y2 y3 n (i : Int) o = some (8, outB h (4 * d) (4 * i) o) := by
  intro d
  induction d with
  | zero =>
    intro n i o hi hn
    obtain ⟨n, rfl⟩ : ∃ q, n = q + 1 := ⟨n - 1, by omega⟩
    unfold digest_Hasher_Sum.l6.f digest_Hasher_Sum.l6.go digest_Hasher_Sum.l6.step
    have : i = 8 := by omega
    subst this
    rw [df (by omega)]
    rfl
  | succ d ih =>
    intro n i o hi hn
    obtain ⟨n, rfl⟩ : ∃ q, n = q + 1 := ⟨n - 1, by omega⟩
    have ih' := ih n (i + 1) ((((o.set (4 * i) (byteAt h (4 * i))).set (4 * i + 1) (byteAt h (4 * i + 1))).set (4 * i + 2) (byteAt h (4 * i + 2))).set (4 * i + 3) (byteAt h (4 * i + 3))) (by omega) (by omega)
    have eo : outB h (4 * (d + 1)) (4 * i) o = outB h (4 * d) (4 * (i + 1)) ((((o.set (4 * i) (byteAt h (4 * i))).set (4 * i + 1) (byteAt h (4 * i + 1))).set (4 * i + 2) (byteAt h (4 * i + 2))).set (4 * i + 3) (byteAt h (4 * i + 3))) := by
      have e1 : 4 * (d + 1) = 4 * d + 1 + 1 + 1 + 1 := by omega
      have e2 : 4 * (i + 1) = 4 * i + 1 + 1 + 1 + 1 := by omega
      rw [e1, e2]; rfl
    unfold digest_Hasher_Sum.l6.f at ih' ⊢
    unfold digest_Hasher_Sum.l6.go digest_Hasher_Sum.l6.step
    have m4 : mulI .i64 4 (i : Int) = ((4 * i : Nat) : Int) := by rw [mul_id (by omega) (by omega)]; omega
    have a1 : addI .i64 ((4 * i : Nat) : Int) 1 = ((4 * i + 1 : Nat) : Int) := add_id (by omega) (by omega)
    have a2 : addI .i64 ((4 * i : Nat) : Int) 2 = ((4 * i + 2 : Nat) : Int) := add_id (by omega) (by omega)
    have a3 : addI .i64 ((4 * i : Nat) : Int) 3 = ((4 * i + 3 : Nat) : Int) := add_id (by omega) (by omega)
    have e1 : addI .i64 (i : Int) 1 = ((i + 1 : Nat) : Int) := add_id (by omega) (by omega)
    have b0 : byteAt h (4 * i) = h.getD i 0 / 256 ^ 3 % 256 := by unfold byteAt; rw [show 4 * i / 4 = i by omega, show 4 * i % 4 = 0 by omega]
    have b1 : byteAt h (4 * i + 1) = h.getD i 0 / 256 ^ 2 % 256 := by unfold byteAt; rw [show (4 * i + 1) / 4 = i by omega, show (4 * i + 1) % 4 = 1 by omega]
    have b2 : byteAt h (4 * i + 2) = h.getD i 0 / 256 ^ 1 % 256 := by unfold byteAt; rw [show (4 * i + 2) / 4 = i by omega, show (4 * i + 2) % 4 = 2 by omega]
    have b3 : byteAt h (4 * i + 3) = h.getD i 0 % 256 := by unfold byteAt; rw [show (4 * i + 3) / 4 = i by omega, show (4 * i + 3) % 4 = 3 by omega]; simp
    rw [eo, ← ih', b0, b1, b2, b3]
    simp only [m4, a1, a2, a3, e1, Int.toNat_natCast]
    rw [shr_lit 3 (by omega) 24 rfl, shr_lit 2 (by omega) 16 rfl, shr_lit 1 (by omega) 8 rfl, IntKind.wrap_u8 (h.getD i 0)]
    repeat rw [dt (by omega), cond_true]
    rfl

theorem hsum_eq (k : Nat) (T : List Int) (hT : byteL T) (hl : T.length ≤ 1000000) (hk : 20000 < k) : digest_Hasher_Sum.f k (took T).st (took T).size K64 (took T).rest = some (sha T) := by
  unfold digest_Hasher_Sum.f digest_Hasher_Sum.tree
  have hr := took_rest_len T
  have hrb := took_rest_byteL hT
  have hz : zc (T.length + 1) < 64 := by unfold zc; omega
  have el : ((took T).rest ++ [(128 : Int)]).length = (took T).rest.length + 1 := by simp
  have ez : zc ((took T).rest ++ [(128 : Int)]).length = zc (T.length + 1) := by rw [el, hr]; unfold zc; omega
  have hm : mulI .u64 (took T).size 8 = 8 * (T.length : Int) := by
    have : (took T).size = (T.length : Int) := rfl
    rw [this]; unfold mulI; rw [w_u64]; omega
  rw [fits_ok (by omega), cond_true, fits_ok (by omega), cond_true]
  rw [sum_l0 k _ _ _ _ _ _ _ (zc (T.length + 1)) k _ ez (by omega) (by omega), Option.bind_some]
  obtain ⟨x, h2⟩ := sum_l2 k (took T).st (took T).size _ hm K64 (took T).rest z32 (took T).st 0 8 k ((took T).rest ++ [128] ++ List.replicate (zc (T.length + 1)) 0) (by omega) (by omega) (by simp; omega)
  rw [show ((8 : Nat) : Int) - 1 = 7 from rfl] at h2
  rw [h2, Option.bind_some]
  have ep : (took T).rest ++ [128] ++ List.replicate (zc (T.length + 1)) 0 ++ bd 8 (8 * (T.length : Int)) = (took T).rest ++ padOf T.length := by unfold padOf; simp
  simp only
  rw [ep]
  have hpl := padOf_length T.length
  have hpm := pad_len T.length
  have h4 := sum_l4 k (took T).st (took T).size (took T).rest z32 0 (by omega) (((took T).rest ++ padOf T.length).length / 64) k (took T).st ((took T).rest ++ padOf T.length) (by rw [List.length_append]; omega) (by rw [List.length_append]; omega) (took_okW T) (byteL_append hrb (padOf_byteL _))
  rw [h4, Option.bind_some, sum_pad]
  have h6 := sum_l6 k (proc ((pad T).length / 64) H8 (pad T)) (took T).st (took T).size K64 (took T).rest z32 8 k 0 z32 (by omega) (by omega)
  rw [show ((0 : Nat) : Int) = 0 from rfl] at h6
  simp only
  rw [h6]
  unfold sha outS
  generalize proc ((pad T).length / 64) H8 (pad T) = S
  generalize outB S 32 0 z32 = o
  rfl

theorem of_eq (k : Nat) (parts : List (List Int)) (hp : ∀ q ∈ parts, byteL q) (hk : 20000 < k) (hpk : parts.length < k) (hpl : parts.length ≤ 1000000) (hl : parts.flatten.length ≤ 1000000) : digest_Of.f k parts H8 K64 = some (sha parts.flatten) := by
  unfold digest_Of.f digest_Of.tree
  have e : digest_New.f k H8 = some ((took []).st, (took []).size) := rfl
  have hfb : byteL parts.flatten := by
    intro y hy
    obtain ⟨q, hq, hy⟩ := List.mem_flatten.1 hy
    exact hp q hq y hy
  rw [e, Option.bind_some]
  simp only
  rw [write0_eq k [] parts byteL_nil hp hk hpk hpl (by simpa using hl) rfl, Option.bind_some, List.nil_append]
  simp only
  rw [hsum_eq k _ hfb hl hk]
  rfl

theorem of1_eq (k : Nat) (s : List Int) (hb : byteL s) (hk : 20000 < k) (hl : s.length ≤ 1000000) : digest_Of.f k [s] H8 K64 = some (sha s) := by
  have := of_eq k [s] (by intro q hq; rw [List.mem_singleton.1 hq]; exact hb) hk (by simp; omega) (by simp) (by simpa using hl)
  rw [this]
  simp

theorem double_eq (k : Nat) (parts : List (List Int)) (hp : ∀ q ∈ parts, byteL q) (hk : 20000 < k) (hpk : parts.length < k) (hpl : parts.length ≤ 1000000) (hl : parts.flatten.length ≤ 1000000) : digest_Double.f k parts H8 K64 = some (sha (sha parts.flatten)) := by
  unfold digest_Double.f digest_Double.tree
  rw [of_eq k parts hp hk hpk hpl hl, Option.bind_some, List.take_of_length_le (by rw [sha_length]; omega), toStr_id _ (sha_byteL _), of1_eq k _ (sha_byteL _) hk (by rw [sha_length]; omega)]
  rfl

theorem double1_eq (k : Nat) (s : List Int) (hb : byteL s) (hk : 20000 < k) (hl : s.length ≤ 1000000) : digest_Double.f k [s] H8 K64 = some (sha (sha s)) := by
  have := double_eq k [s] (by intro q hq; rw [List.mem_singleton.1 hq]; exact hb) hk (by simp; omega) (by simp) (by simpa using hl)
  rw [this]
  simp

/-- How many bytes are put. -/
def cl (s : Int) : Nat := (mnI (mxI s 1) 8).toNat

theorem cl_eq (s : Int) : mnI (mxI s 1) 8 = (cl s : Int) ∧ 1 ≤ cl s ∧ cl s ≤ 8 := by
  unfold cl mnI mxI
  split <;> split <;> omega
theorem put_l2 (k : Nat) (x1 x x10 x11 : Int) (y1 : List Int) (sz : Nat) (h8 : sz ≤ 8) : ∀ (d n : Nat) (i : Nat) (m : List Int), i + d = sz → d < n → m.length + d ≤ 140737488355328 →
    scroll_Pen_Put.l2.f k x1 x x10 x11 (sz : Int) y1 n (i : Int) m = some ((sz : Int), m ++ num d (x / 256 ^ i)) := by
  intro d
  induction d with
  | zero =>
    intro n i m hi hn hf
    obtain ⟨n, rfl⟩ : ∃ q, n = q + 1 := ⟨n - 1, by omega⟩
    unfold scroll_Pen_Put.l2.f scroll_Pen_Put.l2.go scroll_Pen_Put.l2.step
    have : i = sz := by omega
    subst this
    rw [df (Int.lt_irrefl _)]
    simp [num]
  | succ d ih =>
    intro n i m hi hn hf
    obtain ⟨n, rfl⟩ : ∃ q, n = q + 1 := ⟨n - 1, by omega⟩
    have := ih n (i + 1) (m ++ [x / 256 ^ i % 256]) (by omega) (by omega) (by simp; omega)
    unfold scroll_Pen_Put.l2.f at this ⊢
    unfold scroll_Pen_Put.l2.go scroll_Pen_Put.l2.step
    rw [dt (by omega), mul_id (by omega) (by omega), df (by omega), fits_ok (by omega), shr_byte x i (by omega), add_id (by omega) (by omega)]
    simp only [cond_true, cond_false]
    have e : (i : Int) + 1 = ((i + 1 : Nat) : Int) := by omega
    rw [e, this, num, Int.pow_succ, Int.ediv_ediv_of_nonneg (Int.le_of_lt (Int.pow_pos (by omega)))]
    simp

theorem put_l2_0 (k : Nat) (x1 x x10 x11 : Int) (y1 : List Int) (sz : Nat) (h8 : sz ≤ 8) (n : Nat) (m : List Int) (hn : sz < n) (hf : m.length + sz ≤ 140737488355328) :
    scroll_Pen_Put.l2.f k x1 x x10 x11 (sz : Int) y1 n 0 m = some ((sz : Int), m ++ num sz x) := by
  have := put_l2 k x1 x x10 x11 y1 sz h8 sz n 0 m (by omega) hn hf
  rw [Int.pow_zero, Int.ediv_one] at this
  exact this

/-- The bytes of numbers. -/
def nums (s : Nat) (l : List Int) : List Int := (l.map (num s)).flatten

theorem put_l0 (k : Nat) (s : Int) (l : List Int) (hk : 8 < k) : ∀ (d n : Nat) (i : Nat) (m : List Int), i + d = l.length → d < n → l.length ≤ 1000000 → m.length + 8 * d ≤ 140737488355328 →
    scroll_Pen_Put.l0.f k s (l.length : Int) l n (i : Int) m = some ((l.length : Int), m ++ nums (cl s) (l.drop i)) := by
  obtain ⟨ec, c1, c8⟩ := cl_eq s
  intro d
  induction d with
  | zero =>
    intro n i m hi hn hl hf
    obtain ⟨n, rfl⟩ : ∃ q, n = q + 1 := ⟨n - 1, by omega⟩
    unfold scroll_Pen_Put.l0.f scroll_Pen_Put.l0.go scroll_Pen_Put.l0.step
    have : i = l.length := by omega
    subst this
    rw [df (Int.lt_irrefl _)]
    simp [nums]
  | succ d ih =>
    intro n i m hi hn hl hf
    obtain ⟨n, rfl⟩ : ∃ q, n = q + 1 := ⟨n - 1, by omega⟩
    have hlt : i < l.length := by omega
    have := ih n (i + 1) (m ++ num (cl s) (l[i])) (by omega) (by omega) hl (by simp; omega)
    unfold scroll_Pen_Put.l0.f at this ⊢
    unfold scroll_Pen_Put.l0.go scroll_Pen_Put.l0.step
    rw [dt (by omega), dt (by omega), dt (by omega), add_id (by omega) (by omega), ec]
    simp only [cond_true, Int.toNat_natCast]
    rw [put_l2_0 k _ _ _ _ _ (cl s) c8 k m (by omega) (by omega)]
    have e : (i : Int) + 1 = ((i + 1 : Nat) : Int) := by omega
    have e2 : l.getD i (0 : Int) = l[i] := by rw [List.getD_eq_getElem?_getD, List.getElem?_eq_getElem hlt]; rfl
    have e3 : nums (cl s) (l.drop i) = num (cl s) l[i] ++ nums (cl s) (l.drop (i + 1)) := by rw [List.drop_eq_getElem_cons hlt]; rfl
    rw [e2]
    simp only [Option.bind_some]
    rw [e, this, e3, List.append_assoc]

theorem put0_eq (k : Nat) (s : Int) (l : List Int) (hk : 8 < k) (hl : l.length < k) (hl' : l.length ≤ 1000000) : scroll_Pen_Put.f k s l = some (nums (cl s) l) := by
  unfold scroll_Pen_Put.f scroll_Pen_Put.tree
  have := put_l0 k s l hk l.length k 0 [] (by omega) hl hl' (by simp; omega)
  rw [show ((0 : Nat) : Int) = 0 from rfl] at this
  rw [this]
  simp

theorem nums1 (s : Nat) (v : Int) : nums s [v] = num s v := by simp [nums]
theorem cl_8 : cl 8 = 8 := rfl
theorem rem_byte (x : Int) (h : 0 ≤ x) : IntKind.wrap .u8 (remI x 256) = x % 256 := by
  rw [IntKind.wrap_u8]; unfold remI; rw [Int.tmod_eq_emod_of_nonneg h]; omega
theorem quo_byte (x : Int) (h : 0 ≤ x) (h' : x < 18446744073709551616) : quoI .u64 x 256 = x / 256 := by
  unfold quoI; rw [Int.tdiv_eq_ediv_of_nonneg h, w_u64]; omega
theorem toStr1 (x : Int) : toStr [x % 256] = [x % 256] := toStr_id _ (by intro y hy; simp at hy; omega)

theorem number_l0 (k : Nat) (s : Int) : ∀ (d n i : Nat) (x : Int) (m : List Int), i + d = cl s → d < n → 0 ≤ x → x < 18446744073709551616 → m.length + d ≤ 140737488355328 →
    ∃ y, trailheadref05_Number.l0.f k s n x m (i : Int) = some (y, m ++ num d x, (cl s : Int)) := by
  obtain ⟨ec, c1, c8⟩ := cl_eq s
  intro d
  induction d with
  | zero =>
    intro n i x m hi hn h0 h1 hf
    obtain ⟨n, rfl⟩ : ∃ q, n = q + 1 := ⟨n - 1, by omega⟩
    unfold trailheadref05_Number.l0.f trailheadref05_Number.l0.go trailheadref05_Number.l0.step
    have : i = cl s := by omega
    subst this
    rw [ec, df (Int.lt_irrefl _)]
    exact ⟨x, by simp [num]⟩
  | succ d ih =>
    intro n i x m hi hn h0 h1 hf
    obtain ⟨n, rfl⟩ : ∃ q, n = q + 1 := ⟨n - 1, by omega⟩
    obtain ⟨y, this⟩ := ih n (i + 1) (x / 256) (m ++ [x % 256]) (by omega) (by omega) (by omega) (by omega) (by simp; omega)
    unfold trailheadref05_Number.l0.f at this ⊢
    unfold trailheadref05_Number.l0.go trailheadref05_Number.l0.step
    rw [ec, dt (by omega), rem_byte x h0, toStr1, quo_byte x h0 h1, fits_ok (by simp; omega), add_id (by omega) (by omega)]
    simp only [cond_true]
    have e : (i : Int) + 1 = ((i + 1 : Nat) : Int) := by omega
    refine ⟨y, ?_⟩
    rw [e, this, num]
    simp

theorem number_eq (k : Nat) (s v : Int) (hk : 8 < k) : trailheadref05_Number.f k s v = some (num (cl s) v) := by
  obtain ⟨ec, c1, c8⟩ := cl_eq s
  unfold trailheadref05_Number.f trailheadref05_Number.tree
  have hw : IntKind.wrap .u64 v = v % 256 ^ 8 := by rw [w_u64]; rfl
  obtain ⟨y, this⟩ := number_l0 k s (cl s) k 0 (v % 256 ^ 8) [] (by omega) (by omega) (by omega) (by omega) (by simp; omega)
  rw [show ((0 : Nat) : Int) = 0 from rfl] at this
  rw [hw, this]
  simp only [Option.bind_some, List.nil_append]
  rw [num_mod _ _ _ c8]

/-- A name: 32 bytes. -/
def name (h : List Int) : Prop := h.length = 32 ∧ byteL h

theorem names_l0 (k : Nat) (l : List (List Int)) (hn : ∀ h ∈ l, List.length h = 32) : ∀ (d n i : Nat) (m : List Int), i + d = l.length → d < n → l.length ≤ 1000000 → m.length + 32 * d ≤ 140737488355328 →
    scroll_Pen_Names.l0.f k (l.length : Int) l n (i : Int) m = some ((l.length : Int), m ++ (l.drop i).flatten) := by
  intro d
  induction d with
  | zero =>
    intro n i m hi hd hl hf
    obtain ⟨n, rfl⟩ : ∃ q, n = q + 1 := ⟨n - 1, by omega⟩
    unfold scroll_Pen_Names.l0.f scroll_Pen_Names.l0.go scroll_Pen_Names.l0.step
    have : i = l.length := by omega
    subst this
    rw [df (Int.lt_irrefl _)]
    simp
  | succ d ih =>
    intro n i m hi hd hl hf
    obtain ⟨n, rfl⟩ : ∃ q, n = q + 1 := ⟨n - 1, by omega⟩
    have hlt : i < l.length := by omega
    have h32 := hn l[i] (List.getElem_mem hlt)
    have := ih n (i + 1) (m ++ l[i]) (by omega) (by omega) hl (by simp; omega)
    unfold scroll_Pen_Names.l0.f at this ⊢
    unfold scroll_Pen_Names.l0.go scroll_Pen_Names.l0.step
    have e : (i : Int) + 1 = ((i + 1 : Nat) : Int) := by omega
    have e2 : l.getD i (List.replicate 32 0 : List Int) = l[i] := by rw [List.getD_eq_getElem?_getD, List.getElem?_eq_getElem hlt]; rfl
    rw [dt (by omega), dt (by omega), dt (by omega), add_id (by omega) (by omega)]
    simp only [cond_true, Int.toNat_natCast]
    rw [e2, List.take_of_length_le (by omega), fits_ok (by omega), cond_true, e, this, List.drop_eq_getElem_cons hlt, List.flatten_cons, List.append_assoc]

theorem names_eq (k : Nat) (l : List (List Int)) (m : List Int) (hn : ∀ h ∈ l, List.length h = 32) (hk : l.length < k) (hl : l.length ≤ 1000000) (hf : m.length ≤ 100000000000000) : scroll_Pen_Names.f k l m = some (m ++ l.flatten) := by
  unfold scroll_Pen_Names.f scroll_Pen_Names.tree
  have := names_l0 k l hn l.length k 0 m (by omega) hk hl (by omega)
  rw [show ((0 : Nat) : Int) = 0 from rfl] at this
  rw [this]
  simp

theorem rname_l0 (k : Nat) (h : List Int) (hl : h.length = 32) (hb : byteL h) : ∀ (d n i : Nat) (m : List Int), i + d = 32 → d < n → m.length = i →
    trailheadref05_Name.l0.f k h n m (i : Int) = some (m ++ h.drop i, 32) := by
  intro d
  induction d with
  | zero =>
    intro n i m hi hd hm
    obtain ⟨n, rfl⟩ : ∃ q, n = q + 1 := ⟨n - 1, by omega⟩
    unfold trailheadref05_Name.l0.f trailheadref05_Name.l0.go trailheadref05_Name.l0.step
    have : i = 32 := by omega
    subst this
    rw [df (by omega), List.drop_eq_nil_of_le (by omega)]
    simp
  | succ d ih =>
    intro n i m hi hd hm
    obtain ⟨n, rfl⟩ : ∃ q, n = q + 1 := ⟨n - 1, by omega⟩
    have hlt : i < h.length := by omega
    have := ih n (i + 1) (m ++ [h[i]]) (by omega) (by omega) (by simp; omega)
    unfold trailheadref05_Name.l0.f at this ⊢
    unfold trailheadref05_Name.l0.go trailheadref05_Name.l0.step
    have e : (i : Int) + 1 = ((i + 1 : Nat) : Int) := by omega
    have e2 : h.getD i 0 = h[i] := by rw [List.getD_eq_getElem?_getD, List.getElem?_eq_getElem hlt]; rfl
    have e3 : toStr [h[i]] = [h[i]] := toStr_id _ (by intro y hy; simp at hy; subst hy; exact hb _ (List.getElem_mem hlt))
    rw [dt (by omega), dt (by omega), dt (by omega), add_id (by omega) (by omega)]
    simp only [cond_true, Int.toNat_natCast]
    rw [e2, e3, fits_ok (by simp; omega), cond_true, e, this, List.drop_eq_getElem_cons hlt, List.append_assoc]
    rfl

theorem rname_eq (k : Nat) (h : List Int) (hn : name h) (hk : 32 < k) : trailheadref05_Name.f k h = some h := by
  unfold trailheadref05_Name.f trailheadref05_Name.tree
  have := rname_l0 k h hn.1 hn.2 32 k 0 [] (by omega) hk rfl
  rw [show ((0 : Nat) : Int) = 0 from rfl] at this
  rw [this]
  simp

theorem text_eq (k : Nat) (m : List Int) (h : byteL m) : scroll_Pen_Text.f k m = some m := by
  unfold scroll_Pen_Text.f scroll_Pen_Text.tree
  rw [toStr_id m h]

theorem wf_u8 {y : Int} : (Lit.int .u8 y).wf = true ↔ 0 ≤ y ∧ y < 256 := by
  simp only [Lit.wf, Bool.and_eq_true, decide_eq_true_eq]
  show (0 : Int) ≤ y ∧ y ≤ 255 ↔ _
  omega

theorem name_of {h : List Int} (hg : goodT (.arr .u8 32) h) : name h := ⟨hg.1, fun y hy => wf_u8.1 (hg.2 y hy)⟩

abbrev Plan := Int × (Int × Int)

def pP (p : Plan) : Prop := 1 ≤ p.2.1 ∧ p.2.1 ≤ 64 ∧ 0 ≤ p.2.2 ∧ p.2.2 < p.2.1
instance (p : Plan) : Decidable (pP p) := by unfold pP; infer_instance
def due (p : Plan) (h : Int) : Bool := decide (pP p ∧ 0 ≤ h ∧ h % p.2.1 = p.2.2)

theorem bandD' {p q : Prop} [Decidable p] [Decidable q] : (bif decide p then some (decide q) else some false) = some (decide (p ∧ q)) := by
  by_cases hp : p <;> by_cases hq : q <;> simp [hp, hq]

theorem pgood_eq (k : Nat) (p : Plan) : pledge_Good.f k p = some (decide (pP p)) := by
  unfold pledge_Good.f pledge_Good.tree
  simp only [bandD']
  exact congrArg some (decide_eq_decide.2 (by unfold pP; omega))

theorem pnew_eq (k : Nat) (p : Plan) : pledge_New.f k p = some (if pP p then .inr (p, (0, 0)) else .inl ()) := by
  unfold pledge_New.f pledge_New.tree
  rw [pgood_eq, Option.bind_some]
  by_cases h : pP p
  · rw [dt h, if_pos h]; rfl
  · rw [df h, if_neg h]; rfl

theorem rem_pos (h P : Int) (h0 : 0 ≤ h) : remI h P = h % P := by unfold remI; rw [Int.tmod_eq_emod_of_nonneg h0]

theorem due_eq (k : Nat) (p : Plan) (h : Int) : pledge_Plan_Due.f k p h = some (due p h) := by
  unfold pledge_Plan_Due.f pledge_Plan_Due.tree
  rw [pgood_eq, Option.bind_some]
  unfold due
  by_cases hp : pP p
  · rw [dt hp, cond_true]
    by_cases h0 : h ≥ 0
    · have hp1 := hp.1
      rw [dt h0, cond_true, df (by omega), cond_false, rem_pos h _ h0]
      by_cases e : h % p.2.1 = p.2.2
      · rw [dt ⟨hp, h0, e⟩, beqt e]
      · rw [df (fun x : pP p ∧ 0 ≤ h ∧ h % p.2.1 = p.2.2 => e x.2.2), beqf e]
    · rw [df h0, df (fun x : pP p ∧ 0 ≤ h ∧ h % p.2.1 = p.2.2 => h0 x.2.1)]; rfl
  · rw [df hp, df (fun x : pP p ∧ 0 ≤ h ∧ h % p.2.1 = p.2.2 => hp x.1)]; rfl

theorem rdue_eq (k : Nat) (p : Plan) (h : Int) : trailheadref18_Due.f k p.2.1 p.2.2 h = some (due p h) := by
  unfold trailheadref18_Due.f trailheadref18_Due.tree due
  by_cases h1 : p.2.1 ≥ 1
  · rw [dt h1, cond_true]
    by_cases h2 : p.2.1 ≤ 64
    · rw [dt h2, cond_true]
      by_cases h3 : p.2.2 ≥ 0
      · rw [dt h3, cond_true]
        by_cases h4 : p.2.2 < p.2.1
        · rw [dt h4, cond_true]
          by_cases h0 : h ≥ 0
          · rw [dt h0, cond_true, df (by omega), cond_false, rem_pos h _ h0]
            by_cases e : h % p.2.1 = p.2.2
            · rw [dt ⟨⟨h1, h2, h3, h4⟩, h0, e⟩, beqt e]
            · rw [df (fun x : pP p ∧ 0 ≤ h ∧ h % p.2.1 = p.2.2 => e x.2.2), beqf e]
          · rw [df h0, df (fun x : pP p ∧ 0 ≤ h ∧ h % p.2.1 = p.2.2 => h0 x.2.1)]; rfl
        · rw [df h4, df (fun x : pP p ∧ 0 ≤ h ∧ h % p.2.1 = p.2.2 => h4 x.1.2.2.2)]; rfl
      · rw [df h3, df (fun x : pP p ∧ 0 ≤ h ∧ h % p.2.1 = p.2.2 => h3 x.1.2.2.1)]; rfl
    · rw [df h2, df (fun x : pP p ∧ 0 ≤ h ∧ h % p.2.1 = p.2.2 => h2 x.1.2.1)]; rfl
  · rw [df h1, df (fun x : pP p ∧ 0 ≤ h ∧ h % p.2.1 = p.2.2 => h1 x.1.1)]; rfl

def bitB (s : Int) (id : List Int) : Bool := (sha (sha (num 8 s ++ id))).getD 0 0 % 2 == 1

theorem byteL_getD {l : List Int} (h : byteL l) (i : Nat) : 0 ≤ l.getD i 0 ∧ l.getD i 0 < 256 := by
  rw [List.getD_eq_getElem?_getD]
  by_cases hi : i < l.length
  · rw [List.getElem?_eq_getElem hi]; exact h _ (List.getElem_mem hi)
  · rw [List.getElem?_eq_none (by omega)]; exact ⟨by decide, by decide⟩

theorem and1_u8 (x : Int) (h : 0 ≤ x) (h' : x < 256) : andI .u8 x 1 = x % 2 := by
  obtain ⟨n, rfl⟩ : ∃ n : Nat, x = n := ⟨x.toNat, by omega⟩
  unfold andI
  have hb : IntKind.bits .u8 = 8 := rfl
  rw [hb, BitVec.toNat_and, BitVec.toNat_ofInt]
  have e2 : (BitVec.ofInt 8 (1 : Int)).toNat = 2 ^ 1 - 1 := by decide
  have e1 : (((n : Int) % ((2 ^ 8 : Nat) : Int)).toNat) = n := by omega
  rw [e2, e1, Nat.and_two_pow_sub_one_eq_mod, IntKind.wrap_u8]
  omega

theorem bit_len (s : Int) {id : List Int} (hn : name id) : (num 8 s ++ id).length = 40 := by simp [hn.1]
theorem bit_byteL (s : Int) {id : List Int} (hn : name id) : byteL (num 8 s ++ id) := by
  intro y hy
  rcases List.mem_append.1 hy with h | h
  · exact num_byteL _ _ y h
  · exact hn.2 y h

theorem bit_eq (k : Nat) (p : Plan) (id : List Int) (hn : name id) (hk : 20000 < k) : pledge_Plan_Bit.f k p id H8 K64 = some (bitB p.1 id) := by
  unfold pledge_Plan_Bit.f pledge_Plan_Bit.tree
  rw [put0_eq k 8 [p.1] (by omega) (by simp; omega) (by simp), Option.bind_some, nums1, cl_8]
  rw [names_eq k [id] _ (by intro h hh; simp at hh; rw [hh]; exact hn.1) (by simp; omega) (by simp) (by simp), Option.bind_some]
  have e : num 8 p.1 ++ [id].flatten = num 8 p.1 ++ id := by simp
  rw [e, text_eq k _ (bit_byteL _ hn), Option.bind_some, double1_eq k _ (bit_byteL _ hn) hk (by rw [bit_len _ hn]; omega), Option.bind_some]
  have hb := byteL_getD (sha_byteL (sha (num 8 p.1 ++ id))) 0
  unfold bitB
  rw [and1_u8 _ hb.1 hb.2]

theorem rbit_eq (k : Nat) (s : Int) (id : List Int) (hn : name id) (hk : 20000 < k) : trailheadref18_Bit.f k s id = some (bitB s id) := by
  unfold trailheadref18_Bit.f trailheadref18_Bit.tree
  rw [number_eq k 8 s (by omega), Option.bind_some, rname_eq k id hn (by omega), Option.bind_some, cl_8, fits_ok (by rw [hn.1]; simp), cond_true,
    rdouble_eq k _ (bit_byteL _ hn) (by rw [bit_len _ hn]; omega) (by rw [bit_len _ hn]; omega), Option.bind_some]
  have hb := byteL_getD (sha_byteL (sha (num 8 s ++ id))) 0
  unfold bitB
  rw [rem_pos _ _ hb.1]

def wb (ws : List Int) (i : Nat) : Bool := ((ws.getD (i / 64) 0).toNat).testBit (i % 64)

def okB (ws : List Int) (bits : List Bool) : Prop := ws.length = (bits.length + 63) / 64 ∧ (∀ y ∈ ws, 0 ≤ y ∧ y < 18446744073709551616) ∧ ∀ i, wb ws i = bits.getD i false

theorem okB_nil : okB [] [] := ⟨rfl, (fun y h => by cases h), (fun i => by unfold wb; simp)⟩

theorem or_bit (x : Int) (r : Nat) (h : 0 ≤ x) (h' : x < 18446744073709551616) (hr : r < 64) : orI .u64 x (shlI .u64 1 (r : Int)) = ((x.toNat ||| 2 ^ r : Nat) : Int) := by
  obtain ⟨n, rfl⟩ : ∃ n : Nat, x = n := ⟨x.toNat, by omega⟩
  have hp : 2 ^ r < 2 ^ 64 := Nat.pow_lt_pow_right (by omega) hr
  have e1 : shlI .u64 1 (r : Int) = ((2 ^ r : Nat) : Int) := by
    unfold shlI
    have hb : IntKind.bits .u64 = 64 := rfl
    rw [hb, Int.toNat_natCast, show min r 64 = r by omega, w_u64, Int.one_mul]
    have : ((2 : Int) ^ r) = ((2 ^ r : Nat) : Int) := by simp
    rw [this]
    generalize 2 ^ r = q at hp ⊢
    omega
  rw [e1]
  unfold orI
  have hb : IntKind.bits .u64 = 64 := rfl
  have t (z : Nat) (hz : z < 2 ^ 64) : (BitVec.ofInt 64 (z : Int)).toNat = z := by
    rw [BitVec.toNat_ofInt]; omega
  rw [hb, BitVec.toNat_or, t n (by omega), t _ hp, w_u64, Int.toNat_natCast]
  have := Nat.or_lt_two_pow (show n < 2 ^ 64 by omega) hp
  omega

theorem wb_at (x : Int) (r : Nat) (h : 0 ≤ x) (h' : x < 18446744073709551616) (hr : r < 64) : (andI .u64 (shrI .u64 x (r : Int)) 1 == (1 : Int)) = x.toNat.testBit r := by
  obtain ⟨n, rfl⟩ : ∃ n : Nat, x = n := ⟨x.toNat, by omega⟩
  have e1 : shrI .u64 (n : Int) (r : Int) = ((n / 2 ^ r : Nat) : Int) := by
    unfold shrI
    have hb : IntKind.bits .u64 = 64 := rfl
    rw [hb, Int.toNat_natCast, show min r 64 = r by omega]
    have : ((2 : Int) ^ r) = ((2 ^ r : Nat) : Int) := by simp
    rw [this, Int.fdiv_eq_ediv_of_nonneg _ (Int.natCast_nonneg _), ← Int.natCast_ediv]
  rw [e1]
  have hle : n / 2 ^ r ≤ n := Nat.div_le_self _ _
  unfold andI
  have hb : IntKind.bits .u64 = 64 := rfl
  have t (z : Nat) (hz : z < 2 ^ 64) : (BitVec.ofInt 64 (z : Int)).toNat = z := by
    rw [BitVec.toNat_ofInt]; omega
  have e2 : (BitVec.ofInt 64 (1 : Int)).toNat = 2 ^ 1 - 1 := by decide
  rw [hb, BitVec.toNat_and, t _ (by omega), e2, Nat.and_two_pow_sub_one_eq_mod, w_u64, Int.toNat_natCast, Nat.testBit_eq_decide_div_mod_eq]
  have : n / 2 ^ r % 2 ^ 1 = n / 2 ^ r % 2 := rfl
  rw [this]
  by_cases hh : n / 2 ^ r % 2 = 1
  · rw [dt hh, hh]; rfl
  · rw [df hh, show n / 2 ^ r % 2 = 0 by omega]; rfl

theorem wb_app0 (ws : List Int) (i : Nat) : wb (ws ++ [0]) i = wb ws i := by
  unfold wb
  by_cases h : i / 64 < ws.length
  · rw [List.getD_eq_getElem?_getD, List.getElem?_append_left h, ← List.getD_eq_getElem?_getD]
  · rw [List.getD_eq_getElem?_getD, List.getElem?_append_right (by omega)]
    have e2 : ws.getD (i / 64) 0 = 0 := by rw [List.getD_eq_getElem?_getD, List.getElem?_eq_none (by omega)]; rfl
    rw [e2]
    by_cases h0 : i / 64 - ws.length = 0
    · rw [h0]; rfl
    · rw [List.getElem?_eq_none (by simp; omega)]; rfl

theorem wb_set (ws : List Int) (g i : Nat) (hg : g / 64 < ws.length) (hw : ∀ y ∈ ws, 0 ≤ y ∧ y < 18446744073709551616) :
    wb (ws.set (g / 64) (((ws.getD (g / 64) 0).toNat ||| 2 ^ (g % 64) : Nat) : Int)) i = (wb ws i || decide (i = g)) := by
  unfold wb
  by_cases h : i / 64 = g / 64
  · rw [h, List.getD_eq_getElem?_getD, List.getElem?_set, if_pos rfl, if_pos hg, Option.getD_some, Int.toNat_natCast, Nat.testBit_or, Nat.testBit_two_pow]
    congr 1
    exact decide_eq_decide.2 (by omega)
  · rw [List.getD_eq_getElem?_getD, List.getElem?_set, if_neg (fun e => h e.symm), ← List.getD_eq_getElem?_getD, df (fun e => h (by rw [e])), Bool.or_false]

theorem getD_snoc (l : List Bool) (b : Bool) (i : Nat) : (l ++ [b]).getD i false = (l.getD i false || (decide (i = l.length) && b)) := by
  rw [List.getD_eq_getElem?_getD, List.getD_eq_getElem?_getD]
  by_cases h : i < l.length
  · rw [List.getElem?_append_left h, df (by omega : ¬ i = l.length)]; simp
  · rw [List.getElem?_append_right (by omega), List.getElem?_eq_none (by omega : l.length ≤ i)]
    by_cases h0 : i = l.length
    · subst h0; simp
    · rw [df h0, List.getElem?_eq_none (by simp; omega)]; rfl

theorem getD_w {ws : List Int} (hw : ∀ y ∈ ws, 0 ≤ y ∧ y < 18446744073709551616) (i : Nat) : 0 ≤ ws.getD i 0 ∧ ws.getD i 0 < 18446744073709551616 := by
  rw [List.getD_eq_getElem?_getD]
  by_cases hi : i < ws.length
  · rw [List.getElem?_eq_getElem hi]; exact hw _ (List.getElem_mem hi)
  · rw [List.getElem?_eq_none (by omega)]; exact ⟨by decide, by decide⟩

/-- A word more, where one is needed. -/
def grown (ws : List Int) (g : Nat) : List Int := if g % 64 = 0 then ws ++ [0] else ws
def given1 (ws : List Int) (g : Nat) (b : Bool) : List Int := bif b then (grown ws g).set (g / 64) ((((grown ws g).getD (g / 64) 0).toNat ||| 2 ^ (g % 64) : Nat) : Int) else grown ws g

theorem grown_len {ws : List Int} {bits : List Bool} (h : okB ws bits) : (grown ws bits.length).length = (bits.length + 1 + 63) / 64 ∧ bits.length / 64 < (grown ws bits.length).length := by
  have h1 := h.1
  unfold grown
  split
  · rw [List.length_append, List.length_singleton]; omega
  · omega
theorem grown_w {ws : List Int} {bits : List Bool} (h : okB ws bits) : ∀ y ∈ grown ws bits.length, 0 ≤ y ∧ y < 18446744073709551616 := by
  unfold grown
  split
  · intro y hy
    rcases List.mem_append.1 hy with hy | hy
    · exact h.2.1 y hy
    · rw [List.mem_singleton.1 hy]; exact ⟨by decide, by decide⟩
  · exact h.2.1
theorem grown_wb {ws : List Int} {bits : List Bool} (h : okB ws bits) (i : Nat) : wb (grown ws bits.length) i = bits.getD i false := by
  unfold grown
  split
  · rw [wb_app0]; exact h.2.2 i
  · exact h.2.2 i

theorem given1_ok {ws : List Int} {bits : List Bool} (h : okB ws bits) (b : Bool) : okB (given1 ws bits.length b) (bits ++ [b]) := by
  obtain ⟨hl, hg⟩ := grown_len h
  have hw := grown_w h
  have hb := grown_wb h
  unfold given1
  generalize grown ws bits.length = gs at hl hg hw hb
  cases b
  · refine ⟨by rw [cond_false, hl, List.length_append]; rfl, hw, fun i => ?_⟩
    rw [cond_false, hb, getD_snoc]; simp
  · refine ⟨by rw [cond_true, List.length_set, hl, List.length_append]; rfl, fun y hy => ?_, fun i => ?_⟩
    · rw [cond_true] at hy
      rcases List.mem_or_eq_of_mem_set hy with hy | hy
      · exact hw y hy
      · subst hy
        have h0 := getD_w hw (bits.length / 64)
        have := Nat.or_lt_two_pow (show (gs.getD (bits.length / 64) 0).toNat < 2 ^ 64 by omega) (Nat.pow_lt_pow_right (show 1 < 2 by omega) (show bits.length % 64 < 64 by omega))
        omega
    · rw [cond_true, wb_set gs bits.length i hg hw, hb, getD_snoc, Bool.and_true]

theorem at_eq (k : Nat) (p : Plan) (gm : Int × Int) {ws : List Int} {bits : List Bool} (h : okB ws bits) (i : Nat) (hi : i < bits.length) (hl : bits.length ≤ 1000000) : pledge_Book_at.f k (i : Int) p gm ws = some (bits.getD i false) := by
  unfold pledge_Book_at.f pledge_Book_at.tree
  have h1 := h.1
  have e1 : quoI .i64 (i : Int) 64 = ((i / 64 : Nat) : Int) := by
    unfold quoI; rw [Int.tdiv_eq_ediv_of_nonneg (by omega), i64_id (by omega) (by omega)]; omega
  have e2 : remI (i : Int) 64 = ((i % 64 : Nat) : Int) := by rw [rem_pos _ _ (by omega)]; omega
  simp only [e1, e2, Int.toNat_natCast]
  repeat rw [dt (by omega), cond_true]
  rw [df (by omega), cond_false]
  have hw := getD_w h.2.1 (i / 64)
  rw [wb_at _ _ hw.1 hw.2 (by omega)]
  exact congrArg some (h.2.2 i)

/-- The bits of names at heights. -/
def gb (p : Plan) : Int → List (List Int) → List Bool
  | _, [] => []
  | h, id :: r => (bif due p h then [bitB p.1 id] else []) ++ gb p (h + 1) r

theorem gb_cons (p : Plan) (h : Int) (id : List Int) (r : List (List Int)) : gb p h (id :: r) = (bif due p h then [bitB p.1 id] else []) ++ gb p (h + 1) r := rfl

theorem gb_append (p : Plan) : ∀ (a b : List (List Int)) (h : Int), gb p h (a ++ b) = gb p h a ++ gb p (h + a.length) b
  | [], b, h => by simp [gb]
  | x :: a, b, h => by
    rw [List.cons_append, gb_cons, gb_cons]
    have e : h + 1 + (a.length : Int) = h + ((a.length + 1 : Nat) : Int) := by omega
    rw [gb_append p a b (h + 1), List.append_assoc, List.length_cons, e]

theorem gb_len (p : Plan) : ∀ (a : List (List Int)) (h : Int), (gb p h a).length ≤ a.length
  | [], h => by simp [gb]
  | x :: a, h => by
    have := gb_len p a (h + 1)
    unfold gb
    rw [List.length_append, List.length_cons]
    cases due p h
    · rw [cond_false]; simp; omega
    · rw [cond_true]; simp; omega

theorem give_l0 (k : Nat) (hk : 20000 < k) (p : Plan) (x1 : Int) (hx : -9000000000000 ≤ x1 ∧ x1 ≤ 9000000000000) (l : List (List Int)) (hn : ∀ y ∈ l, name y) (hll : l.length ≤ 100000) (met : Int) : ∀ (d n i : Nat) (c : Int) (bits : List Bool) (ws : List Int), i + d = l.length → d < n → okB ws bits → bits.length + d ≤ 1000000 → 0 ≤ c → c + d ≤ 10000000 →
    ∃ ws', pledge_Book_Give.l0.f k x1 (l.length : Int) p l H8 K64 n c (i : Int) ((bits.length : Int), met) ws = some (c + ((gb p (x1 + i) (l.drop i)).length : Int), (l.length : Int), (((bits ++ gb p (x1 + i) (l.drop i)).length : Int), met), ws') ∧ okB ws' (bits ++ gb p (x1 + i) (l.drop i)) := by
  intro d
  induction d with
  | zero =>
    intro n i c bits ws hi hd ho hb hc hc'
    obtain ⟨n, rfl⟩ : ∃ q, n = q + 1 := ⟨n - 1, by omega⟩
    have : i = l.length := by omega
    subst this
    rw [List.drop_length]
    unfold gb
    refine ⟨ws, ?_, by rw [List.append_nil]; exact ho⟩
    unfold pledge_Book_Give.l0.f pledge_Book_Give.l0.go pledge_Book_Give.l0.step
    rw [df (Int.lt_irrefl _), List.append_nil]
    simp
  | succ d ih =>
    intro n i c bits ws hi hd ho hb hc hc'
    obtain ⟨n, rfl⟩ : ∃ q, n = q + 1 := ⟨n - 1, by omega⟩
    have hlt : i < l.length := by omega
    have e1 : addI .i64 (i : Int) 1 = ((i + 1 : Nat) : Int) := add_id (by omega) (by omega)
    have e3 : addI .i64 x1 (i : Int) = x1 + i := add_id (by omega) (by omega)
    have e4 : l.getD i (List.replicate 32 0 : List Int) = l[i] := by rw [List.getD_eq_getElem?_getD, List.getElem?_eq_getElem hlt]; rfl
    have eg : gb p (x1 + i) (l.drop i) = (bif due p (x1 + i) then [bitB p.1 l[i]] else []) ++ gb p (x1 + ((i + 1 : Nat) : Int)) (l.drop (i + 1)) := by
      rw [List.drop_eq_getElem_cons hlt, gb]
      congr 2
      omega
    have hname := hn l[i] (List.getElem_mem hlt)
    rw [eg]
    unfold pledge_Book_Give.l0.f at ih ⊢
    unfold pledge_Book_Give.l0.go pledge_Book_Give.l0.step
    simp only [e1, e3, Int.toNat_natCast, e4]
    rw [dt (by omega), cond_true, dt (by omega), cond_true]
    repeat rw [dt (by omega), cond_true]
    rw [due_eq, Option.bind_some]
    cases hdue : due p (x1 + i)
    · rw [Bool.not_false, cond_true, cond_false, List.nil_append]
      exact ih n (i + 1) c bits ws (by omega) (by omega) ho (by omega) hc (by omega)
    · rw [Bool.not_true, cond_false, cond_true]
      obtain ⟨ws', hr, hok⟩ := ih n (i + 1) (c + 1) (bits ++ [bitB p.1 l[i]]) (given1 ws bits.length (bitB p.1 l[i])) (by omega) (by omega) (given1_ok ho _) (by rw [List.length_append, List.length_singleton]; omega) (by omega) (by omega)
      have ea : bits ++ [bitB p.1 l[i]] ++ gb p (x1 + ((i + 1 : Nat) : Int)) (l.drop (i + 1)) = bits ++ ([bitB p.1 l[i]] ++ gb p (x1 + ((i + 1 : Nat) : Int)) (l.drop (i + 1))) := List.append_assoc _ _ _
      have el : c + 1 + ((gb p (x1 + ((i + 1 : Nat) : Int)) (l.drop (i + 1))).length : Int) = c + ((([bitB p.1 l[i]] ++ gb p (x1 + ((i + 1 : Nat) : Int)) (l.drop (i + 1))).length : Nat) : Int) := by
        rw [List.length_append, List.length_singleton]; omega
      rw [ea, el] at hr
      rw [ea] at hok
      refine ⟨ws', ?_, hok⟩
      have hlen : ((bits ++ [bitB p.1 l[i]]).length : Int) = (bits.length : Int) + 1 := by rw [List.length_append, List.length_singleton]; omega
      rw [hlen] at hr
      have ex7 : addI .i64 c 1 = c + 1 := add_id (by omega) (by omega)
      have exg : addI .i64 (bits.length : Int) 1 = (bits.length : Int) + 1 := add_id (by omega) (by omega)
      have eq1 : quoI .i64 (bits.length : Int) 64 = ((bits.length / 64 : Nat) : Int) := by
        unfold quoI; rw [Int.tdiv_eq_ediv_of_nonneg (by omega), i64_id (by omega) (by omega)]; omega
      have eq2 : remI (bits.length : Int) 64 = ((bits.length % 64 : Nat) : Int) := by rw [rem_pos _ _ (by omega)]; omega
      have hgl := grown_len ho
      have hgw := getD_w (grown_w ho) (bits.length / 64)
      simp only [ex7, exg, eq1, eq2, Int.toNat_natCast]
      have h1 := ho.1
      by_cases h0 : bits.length % 64 = 0
      · have eg0 : grown ws bits.length = ws ++ [0] := if_pos h0
        rw [beqt (by omega : ((bits.length % 64 : Nat) : Int) = 0), cond_true, fits_ok (by omega), cond_true, bit_eq k p _ hname hk, Option.bind_some]
        rw [eg0] at hgl hgw
        unfold given1 at hr
        rw [eg0] at hr
        cases hb : bitB p.1 l[i]
        · rw [hb] at hr
          exact hr
        · rw [hb, cond_true] at hr
          rw [cond_true, ← or_bit _ _ hgw.1 hgw.2 (by omega)] at *
          repeat rw [dt (by omega), cond_true]
          rw [df (by omega), cond_false]
          repeat rw [dt (by omega), cond_true]
          exact hr
      · have eg0 : grown ws bits.length = ws := if_neg h0
        rw [beqf (by omega : ((bits.length % 64 : Nat) : Int) ≠ 0), cond_false, bit_eq k p _ hname hk, Option.bind_some]
        rw [eg0] at hgl hgw
        unfold given1 at hr
        rw [eg0] at hr
        cases hb : bitB p.1 l[i]
        · rw [hb] at hr
          exact hr
        · rw [hb, cond_true] at hr
          rw [cond_true, ← or_bit _ _ hgw.1 hgw.2 (by omega)] at *
          repeat rw [dt (by omega), cond_true]
          rw [df (by omega), cond_false]
          repeat rw [dt (by omega), cond_true]
          exact hr

theorem give3_l0 (k : Nat) (hk : 20000 < k) (p : Plan) (x1 : Int) (hx : -9000000000000 ≤ x1 ∧ x1 ≤ 9000000000000) (l : List (List Int)) (hn : ∀ y ∈ l, name y) (hll : l.length ≤ 100000) (met : Int) : ∀ (d n i : Nat) (c : Int) (bits : List Bool) (ws : List Int), i + d = l.length → d < n → okB ws bits → bits.length + d ≤ 1000000 → 0 ≤ c → c + d ≤ 10000000 →
    ∃ ws', pledge_Book_Give_v3.l0.f k x1 (l.length : Int) p l H8 K64 n c (i : Int) ((bits.length : Int), met) ws = some (c + ((gb p (x1 + i) (l.drop i)).length : Int), (l.length : Int), (((bits ++ gb p (x1 + i) (l.drop i)).length : Int), met), ws') ∧ okB ws' (bits ++ gb p (x1 + i) (l.drop i)) := by
  intro d
  induction d with
  | zero =>
    intro n i c bits ws hi hd ho hb hc hc'
    obtain ⟨n, rfl⟩ : ∃ q, n = q + 1 := ⟨n - 1, by omega⟩
    have : i = l.length := by omega
    subst this
    rw [List.drop_length]
    unfold gb
    refine ⟨ws, ?_, by rw [List.append_nil]; exact ho⟩
    unfold pledge_Book_Give_v3.l0.f pledge_Book_Give_v3.l0.go pledge_Book_Give_v3.l0.step
    rw [df (Int.lt_irrefl _), List.append_nil]
    simp
  | succ d ih =>
    intro n i c bits ws hi hd ho hb hc hc'
    obtain ⟨n, rfl⟩ : ∃ q, n = q + 1 := ⟨n - 1, by omega⟩
    have hlt : i < l.length := by omega
    have e1 : addI .i64 (i : Int) 1 = ((i + 1 : Nat) : Int) := add_id (by omega) (by omega)
    have e3 : addI .i64 x1 (i : Int) = x1 + i := add_id (by omega) (by omega)
    have e4 : l.getD i (List.replicate 32 0 : List Int) = l[i] := by rw [List.getD_eq_getElem?_getD, List.getElem?_eq_getElem hlt]; rfl
    have eg : gb p (x1 + i) (l.drop i) = (bif due p (x1 + i) then [bitB p.1 l[i]] else []) ++ gb p (x1 + ((i + 1 : Nat) : Int)) (l.drop (i + 1)) := by
      rw [List.drop_eq_getElem_cons hlt, gb]
      congr 2
      omega
    have hname := hn l[i] (List.getElem_mem hlt)
    rw [eg]
    unfold pledge_Book_Give_v3.l0.f at ih ⊢
    unfold pledge_Book_Give_v3.l0.go pledge_Book_Give_v3.l0.step
    simp only [e1, e3, Int.toNat_natCast, e4]
    rw [dt (by omega), cond_true, dt (by omega), cond_true]
    repeat rw [dt (by omega), cond_true]
    rw [due_eq, Option.bind_some]
    cases hdue : due p (x1 + i)
    · rw [Bool.not_false, cond_true, cond_false, List.nil_append]
      exact ih n (i + 1) c bits ws (by omega) (by omega) ho (by omega) hc (by omega)
    · rw [Bool.not_true, cond_false, cond_true]
      obtain ⟨ws', hr, hok⟩ := ih n (i + 1) (c + 1) (bits ++ [bitB p.1 l[i]]) (given1 ws bits.length (bitB p.1 l[i])) (by omega) (by omega) (given1_ok ho _) (by rw [List.length_append, List.length_singleton]; omega) (by omega) (by omega)
      have ea : bits ++ [bitB p.1 l[i]] ++ gb p (x1 + ((i + 1 : Nat) : Int)) (l.drop (i + 1)) = bits ++ ([bitB p.1 l[i]] ++ gb p (x1 + ((i + 1 : Nat) : Int)) (l.drop (i + 1))) := List.append_assoc _ _ _
      have el : c + 1 + ((gb p (x1 + ((i + 1 : Nat) : Int)) (l.drop (i + 1))).length : Int) = c + ((([bitB p.1 l[i]] ++ gb p (x1 + ((i + 1 : Nat) : Int)) (l.drop (i + 1))).length : Nat) : Int) := by
        rw [List.length_append, List.length_singleton]; omega
      rw [ea, el] at hr
      rw [ea] at hok
      refine ⟨ws', ?_, hok⟩
      have hlen : ((bits ++ [bitB p.1 l[i]]).length : Int) = (bits.length : Int) + 1 := by rw [List.length_append, List.length_singleton]; omega
      rw [hlen] at hr
      have ex7 : addI .i64 c 1 = c + 1 := add_id (by omega) (by omega)
      have exg : addI .i64 (bits.length : Int) 1 = (bits.length : Int) + 1 := add_id (by omega) (by omega)
      have eq1 : quoI .i64 (bits.length : Int) 64 = ((bits.length / 64 : Nat) : Int) := by
        unfold quoI; rw [Int.tdiv_eq_ediv_of_nonneg (by omega), i64_id (by omega) (by omega)]; omega
      have eq2 : remI (bits.length : Int) 64 = ((bits.length % 64 : Nat) : Int) := by rw [rem_pos _ _ (by omega)]; omega
      have hgl := grown_len ho
      have hgw := getD_w (grown_w ho) (bits.length / 64)
      simp only [ex7, exg, eq1, eq2, Int.toNat_natCast]
      have h1 := ho.1
      by_cases h0 : bits.length % 64 = 0
      · have eg0 : grown ws bits.length = ws ++ [0] := if_pos h0
        rw [beqt (by omega : ((bits.length % 64 : Nat) : Int) = 0), cond_true, fits_ok (by omega), cond_true, bit_eq k p _ hname hk, Option.bind_some]
        rw [eg0] at hgl hgw
        unfold given1 at hr
        rw [eg0] at hr
        cases hb : bitB p.1 l[i]
        · rw [hb] at hr
          exact hr
        · rw [hb, cond_true] at hr
          rw [cond_true, ← or_bit _ _ hgw.1 hgw.2 (by omega)] at *
          repeat rw [dt (by omega), cond_true]
          rw [df (by omega), cond_false]
          repeat rw [dt (by omega), cond_true]
          exact hr
      · have eg0 : grown ws bits.length = ws := if_neg h0
        rw [beqf (by omega : ((bits.length % 64 : Nat) : Int) ≠ 0), cond_false, bit_eq k p _ hname hk, Option.bind_some]
        rw [eg0] at hgl hgw
        unfold given1 at hr
        rw [eg0] at hr
        cases hb : bitB p.1 l[i]
        · rw [hb] at hr
          exact hr
        · rw [hb, cond_true] at hr
          rw [cond_true, ← or_bit _ _ hgw.1 hgw.2 (by omega)] at *
          repeat rw [dt (by omega), cond_true]
          rw [df (by omega), cond_false]
          repeat rw [dt (by omega), cond_true]
          exact hr

theorem give_eq (k : Nat) (hk : 20000 < k) (p : Plan) (x1 : Int) (hx : -9000000000000 ≤ x1 ∧ x1 ≤ 9000000000000) (l : List (List Int)) (hn : ∀ y ∈ l, name y) (hl : l.length ≤ 10000) (met : Int) :
    ∃ ws, pledge_Book_Give.f k x1 p (0, met) l H8 K64 = some (((gb p x1 l).length : Int), p, (((gb p x1 l).length : Int), met), ws) ∧ okB ws (gb p x1 l) := by
  obtain ⟨ws, hr, ho⟩ := give_l0 k hk p x1 hx l hn (by omega) met l.length k 0 0 [] [] (by omega) (by omega) okB_nil (by simp; omega) (by omega) (by omega)
  simp only [List.length_nil, List.nil_append, List.drop_zero, show ((0 : Nat) : Int) = 0 from rfl, Int.add_zero, Int.zero_add] at hr ho
  refine ⟨ws, ?_, ho⟩
  unfold pledge_Book_Give.f pledge_Book_Give.tree
  simp only [hr, Option.bind_some]

theorem give3_eq (k : Nat) (hk : 20000 < k) (p : Plan) (x1 : Int) (hx : -9000000000000 ≤ x1 ∧ x1 ≤ 9000000000000) (l : List (List Int)) (hn : ∀ y ∈ l, name y) (hl : l.length ≤ 10000) (met : Int) (bits : List Bool) (ws : List Int) (ho : okB ws bits) (hb : bits.length ≤ 10000) :
    ∃ ws', pledge_Book_Give_v3.f k x1 p ((bits.length : Int), met) l H8 K64 ws = some (((gb p x1 l).length : Int), p, (((bits ++ gb p x1 l).length : Int), met), ws') ∧ okB ws' (bits ++ gb p x1 l) := by
  obtain ⟨ws', hr, ho'⟩ := give3_l0 k hk p x1 hx l hn (by omega) met l.length k 0 0 bits ws (by omega) (by omega) ho (by omega) (by omega) (by omega)
  simp only [List.drop_zero, show ((0 : Nat) : Int) = 0 from rfl, Int.add_zero, Int.zero_add] at hr ho'
  refine ⟨ws', ?_, ho'⟩
  unfold pledge_Book_Give_v3.f pledge_Book_Give_v3.tree
  simp only [hr, Option.bind_some]

theorem alive18 (k : Nat) (hk : 20000 < k) : trailheadlaw18_alive.f k H8 K64 = some true := by
  unfold trailheadlaw18_alive.f trailheadlaw18_alive.tree
  have hz : name [0, 0, 0, 0, 0, 0, 0, 0, 0, 0, 0, 0, 0, 0, 0, 0, 0, 0, 0, 0, 0, 0, 0, 0, 0, 0, 0, 0, 0, 0, 0, 0] := ⟨rfl, by intro y hy; have : y = 0 := by simpa using hy
                                                                                                                              omega⟩
  have hp : pP ((0, (4, 1)) : Plan) := by decide
  obtain ⟨ws, hr, ho⟩ := give_eq k hk (0, (4, 1)) 0 (by omega) [[0, 0, 0, 0, 0, 0, 0, 0, 0, 0, 0, 0, 0, 0, 0, 0, 0, 0, 0, 0, 0, 0, 0, 0, 0, 0, 0, 0, 0, 0, 0, 0], [0, 0, 0, 0, 0, 0, 0, 0, 0, 0, 0, 0, 0, 0, 0, 0, 0, 0, 0, 0, 0, 0, 0, 0, 0, 0, 0, 0, 0, 0, 0, 0]] (by intro y hy; simp at hy; rw [hy]; exact hz) (by simp) 0
  have hg : (gb (0, (4, 1)) 0 [[0, 0, 0, 0, 0, 0, 0, 0, 0, 0, 0, 0, 0, 0, 0, 0, 0, 0, 0, 0, 0, 0, 0, 0, 0, 0, 0, 0, 0, 0, 0, 0], [0, 0, 0, 0, 0, 0, 0, 0, 0, 0, 0, 0, 0, 0, 0, 0, 0, 0, 0, 0, 0, 0, 0, 0, 0, 0, 0, 0, 0, 0, 0, 0]]).length = 1 := by
    have d0 : due (0, (4, 1)) 0 = false := by decide
    have d1 : due (0, (4, 1)) (0 + 1) = true := by decide
    rw [gb_cons, gb_cons, d0, d1]
    rfl
  rw [hg] at hr
  rw [pnew_eq, if_pos hp, Option.bind_some]
  simp only [Sy.sel]
  rw [hr]
  rfl

theorem bits_l0 (k : Nat) (p : Plan) (gm : Int × Int) (bits : List Bool) (ws : List Int) (ho : okB ws bits) (hb : bits.length ≤ 100000) : ∀ (d n i : Nat), i + d = bits.length → d < n →
    pledge_Book_Bits_v1.l0.f k (bits.length : Int) p gm ws n (i : Int) (bits.take i) = some ((bits.length : Int), bits) := by
  intro d
  induction d with
  | zero =>
    intro n i hi hn
    obtain ⟨n, rfl⟩ : ∃ q, n = q + 1 := ⟨n - 1, by omega⟩
    have : i = bits.length := by omega
    subst this
    unfold pledge_Book_Bits_v1.l0.f pledge_Book_Bits_v1.l0.go pledge_Book_Bits_v1.l0.step
    rw [df (Int.lt_irrefl _), List.take_length]
    rfl
  | succ d ih =>
    intro n i hi hn
    obtain ⟨n, rfl⟩ : ∃ q, n = q + 1 := ⟨n - 1, by omega⟩
    have hlt : i < bits.length := by omega
    have e1 : addI .i64 (i : Int) 1 = ((i + 1 : Nat) : Int) := add_id (by omega) (by omega)
    have ih' := ih n (i + 1) (by omega) (by omega)
    have e2 : bits.take (i + 1) = bits.take i ++ [bits.getD i false] := by
      rw [List.take_succ_eq_append_getElem hlt, List.getD_eq_getElem?_getD, List.getElem?_eq_getElem hlt]; rfl
    rw [e2] at ih'
    unfold pledge_Book_Bits_v1.l0.f at ih' ⊢
    unfold pledge_Book_Bits_v1.l0.go pledge_Book_Bits_v1.l0.step
    rw [dt (by omega), cond_true, at_eq k p gm ho i hlt (by omega), Option.bind_some, e1, fits_ok (by rw [List.length_take]; omega), cond_true]
    exact ih'

theorem bits_eq (k : Nat) (p : Plan) (m : Int) (bits : List Bool) (ws : List Int) (ho : okB ws bits) (hb : bits.length ≤ 10000) (hk : 20000 < k) : pledge_Book_Bits_v1.f k p ((bits.length : Int), m) ws = some bits := by
  unfold pledge_Book_Bits_v1.f pledge_Book_Bits_v1.tree
  have := bits_l0 k p ((bits.length : Int), m) bits ws ho (by omega) bits.length k 0 (by omega) (by omega)
  rw [show ((0 : Nat) : Int) = 0 from rfl, List.take_zero] at this
  simp only [this, Option.bind_some]

theorem meet_due (k : Nat) (hk : 20000 < k) (p : Plan) (h : Int) (id : List Int) (hn : name id) (bits : List Bool) (ws : List Int) (ho : okB ws bits) (hl : bits.length ≤ 10000) (m : Nat) (hm : m < bits.length) (hd : due p h = true) :
    pledge_Book_Meet.f k h id p ((bits.length : Int), (m : Int)) H8 K64 ws = some (bits.getD m false == bitB p.1 id, p, ((bits.length : Int), bif bits.getD m false == bitB p.1 id then ((m + 1 : Nat) : Int) else (m : Int))) := by
  unfold pledge_Book_Meet.f pledge_Book_Meet.tree
  have e1 : addI .i64 (m : Int) 1 = ((m + 1 : Nat) : Int) := add_id (by omega) (by omega)
  rw [due_eq, hd, Option.bind_some, Bool.not_true, cond_false, df (by omega), cond_false, at_eq k p _ ho m hm (by omega), Option.bind_some, bit_eq k p id hn hk, Option.bind_some, e1]
  cases hb : (bits.getD m false == bitB p.1 id) <;> rfl

theorem meet_free (k : Nat) (p : Plan) (h : Int) (id : List Int) (gm : Int × Int) (ws : List Int) (hd : due p h = false) :
    pledge_Book_Meet.f k h id p gm H8 K64 ws = some (true, p, gm) := by
  unfold pledge_Book_Meet.f pledge_Book_Meet.tree
  rw [due_eq, hd]
  rfl

end Go.Proofs.YtnaenbijnpbhaaaDoor.Sy
