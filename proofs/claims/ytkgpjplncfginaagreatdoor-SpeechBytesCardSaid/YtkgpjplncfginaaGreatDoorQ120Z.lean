/- Own lemmas of other seats, turned to this one (pruneq.py). -/
import Derived.Test.YtkgpjplncfginaaGreatDoorQ63
import Derived.Test.YtkgpjplncfginaaGreatDoorWA
namespace Go.Proofs.YtkgpjplncfginaaGreatDoor.Sy
open Go
set_option linter.unusedVariables false
set_option linter.unusedSimpArgs false

theorem write0_l2 (k : Nat) (x9 x10 : Int) (y1 : List (List Int)) (z : Int) (hk : 100 < k) : ∀ (d n : Nat) (h p : List Int), 64 * d ≤ p.length → p.length < 64 * (d + 1) → d < n → okW h → byteL p →
    digest_Hasher_Write.l2.f k x9 x10 y1 K64 n h z p = some (proc d h p, z, p.drop (64 * d)) := by
  intro d
  induction d with
  | zero =>
    intro n h p h0 h1 hn hh hb
    obtain ⟨n, rfl⟩ : ∃ q, n = q + 1 := ⟨n - 1, by omega⟩
    unfold digest_Hasher_Write.l2.f digest_Hasher_Write.l2.go digest_Hasher_Write.l2.step
    rw [df (by omega)]
    rfl
  | succ d ih =>
    intro n h p h0 h1 hn hh hb
    obtain ⟨n, rfl⟩ : ∃ q, n = q + 1 := ⟨n - 1, by omega⟩
    have ih' := ih n (comp h (p.take 64)) (p.drop 64) (by rw [List.length_drop]; omega) (by rw [List.length_drop]; omega) (by omega) (okW_comp hh) (byteL_drop _ hb)
    unfold digest_Hasher_Write.l2.f at ih' ⊢
    unfold digest_Hasher_Write.l2.go digest_Hasher_Write.l2.step
    rw [dt (by omega), cond_true, cond_true, take0_eq k h z (p.take 64) p hk hh (byteL_take _ hb) (by rw [List.length_take]; omega), Option.bind_some, cond_true, ih']
    rw [proc, List.drop_drop, Nat.mul_succ, Nat.add_comm]

theorem write0_l0 (k : Nat) (parts : List (List Int)) (hp : ∀ q ∈ parts, byteL q) (hk : 20000 < k) (hpl : parts.length ≤ 1000000) : ∀ (d n i : Nat) (T : List Int), i + d = parts.length → d < n → byteL T → T.length + (parts.drop i).flatten.length ≤ 1000000 →
    digest_Hasher_Write.l0.f k (parts.length : Int) parts K64 n (i : Int) (took T).st (took T).size (took T).rest = some ((parts.length : Int), (took (T ++ (parts.drop i).flatten)).st, (took (T ++ (parts.drop i).flatten)).size, (took (T ++ (parts.drop i).flatten)).rest) := by
  intro d
  induction d with
  | zero =>
    intro n i T hi hn hT hl
    obtain ⟨n, rfl⟩ : ∃ q, n = q + 1 := ⟨n - 1, by omega⟩
    unfold digest_Hasher_Write.l0.f digest_Hasher_Write.l0.go digest_Hasher_Write.l0.step
    have : i = parts.length := by omega
    subst this
    rw [df (Int.lt_irrefl _), List.drop_length, List.flatten_nil, List.append_nil]
    rfl
  | succ d ih =>
    intro n i T hi hn hT hl
    obtain ⟨n, rfl⟩ : ∃ q, n = q + 1 := ⟨n - 1, by omega⟩
    have hlt : i < parts.length := by omega
    have hq := hp _ (List.getElem_mem hlt)
    have ed : (parts.drop i).flatten = parts[i] ++ (parts.drop (i + 1)).flatten := by rw [List.drop_eq_getElem_cons hlt]; rfl
    rw [ed, List.length_append] at hl
    have ih' := ih n (i + 1) (T ++ parts[i]) (by omega) (by omega) (byteL_append hT hq) (by rw [List.length_append]; omega)
    unfold digest_Hasher_Write.l0.f at ih' ⊢
    unfold digest_Hasher_Write.l0.go digest_Hasher_Write.l0.step
    have c1 : decide ((i : Int) < (parts.length : Int)) = true := dt (by omega)
    have c2 : decide ((0 : Int) ≤ (i : Int)) = true := dt (by omega)
    have c3 : decide (i < parts.length) = true := dt hlt
    have e1 : addI .i64 (i : Int) 1 = ((i + 1 : Nat) : Int) := add_id (by omega) (by omega)
    have e2 : parts.getD i ([] : List Int) = parts[i] := by rw [List.getD_eq_getElem?_getD, List.getElem?_eq_getElem hlt]; rfl
    have hr := took_rest_len T
    simp only [c1, c2, c3, cond_true, Int.toNat_natCast, e1, e2]
    rw [fits_ok (by omega), cond_true]
    have hz : addI .u64 (took T).size (IntKind.wrap .u64 (parts[i].length : Int)) = (took T).size + (parts[i].length : Int) := by
      have : (took T).size = (T.length : Int) := rfl
      rw [this]; unfold addI; rw [w_u64, w_u64]; omega
    rw [hz, write0_l2 k _ _ _ _ (by omega) (((took T).rest ++ parts[i]).length / 64) k (took T).st ((took T).rest ++ parts[i]) (by omega) (by omega) (by rw [List.length_append]; omega) (took_okW T) (byteL_append (took_rest_byteL hT) hq), Option.bind_some]
    have ha := took_add T parts[i]
    rw [ha] at ih'
    rw [ih', ed, List.append_assoc]

theorem write0_eq (k : Nat) (T : List Int) (parts : List (List Int)) (hT : byteL T) (hp : ∀ q ∈ parts, byteL q) (hk : 20000 < k) (hpk : parts.length < k) (hpl : parts.length ≤ 1000000) (hl : T.length + parts.flatten.length ≤ 1000000) (hr : (took T).rest = []) :
    digest_Hasher_Write.f k (took T).st (took T).size parts K64 = some ((took (T ++ parts.flatten)).st, (took (T ++ parts.flatten)).size, (took (T ++ parts.flatten)).rest) := by
  unfold digest_Hasher_Write.f digest_Hasher_Write.tree
  have := write0_l0 k parts hp hk hpl parts.length k 0 T (by omega) hpk hT (by simpa using hl)
  rw [show ((0 : Nat) : Int) = 0 from rfl, List.drop_zero] at this
  rw [hr] at this
  rw [this]
  rfl

theorem shr64 (x : Int) (i : Nat) (hi : i < 8) : IntKind.wrap .u8 (shrI .u64 x ((8 * i : Nat) : Int)) = x / 256 ^ i % 256 := by
  rw [IntKind.wrap_u8]
  congr 1
  unfold shrI
  have e : min ((8 * i : Nat) : Int).toNat (IntKind.bits .u64) = 8 * i := by
    have : IntKind.bits .u64 = 64 := rfl
    rw [this]; omega
  rw [e, Int.fdiv_eq_ediv_of_nonneg _ (Int.le_of_lt (Int.pow_pos (by omega))), Int.pow_mul]
  rfl

theorem sum_l0 (k : Nat) (y00 : List Int) (y01 : Int) (y1 y2 y3 y40 : List Int) (y41 : Int) : ∀ (d n : Nat) (l : List Int), zc l.length = d → d < n → l.length + d ≤ 100000000 →
    digest_Hasher_Sum.l0.f k y00 y01 y1 y2 y3 y40 y41 n l = some (l ++ List.replicate d 0) := by
  intro d
  induction d with
  | zero =>
    intro n l hz hn hl
    obtain ⟨n, rfl⟩ : ∃ q, n = q + 1 := ⟨n - 1, by omega⟩
    unfold digest_Hasher_Sum.l0.f digest_Hasher_Sum.l0.go digest_Hasher_Sum.l0.step
    rw [rem64, bne_f (by unfold zc at hz; omega)]
    simp
  | succ d ih =>
    intro n l hz hn hl
    obtain ⟨n, rfl⟩ : ∃ q, n = q + 1 := ⟨n - 1, by omega⟩
    have ih' := ih n (l ++ [0]) (by rw [List.length_append]; unfold zc at hz ⊢; simp; omega) (by omega) (by simp; omega)
    unfold digest_Hasher_Sum.l0.f at ih' ⊢
    unfold digest_Hasher_Sum.l0.go digest_Hasher_Sum.l0.step
    rw [rem64, bne_t (by unfold zc at hz; omega), cond_true, fits_ok (by omega), cond_true, ih', List.append_assoc]
    rfl

theorem sum_l2 (k : Nat) (y00 : List Int) (y01 v : Int) (hv : mulI .u64 y01 8 = v) (y1 y2 y3 y40 : List Int) (y41 : Int) : ∀ (i n : Nat) (l : List Int), i ≤ 8 → i < n → l.length + i ≤ 100000000 →
    ∃ x, digest_Hasher_Sum.l2.f k y00 y01 y1 y2 y3 y40 y41 n ((i : Int) - 1) l = some (x, l ++ bd i v) := by
  intro i
  induction i with
  | zero =>
    intro n l hi hn hl
    obtain ⟨n, rfl⟩ : ∃ q, n = q + 1 := ⟨n - 1, by omega⟩
    unfold digest_Hasher_Sum.l2.f digest_Hasher_Sum.l2.go digest_Hasher_Sum.l2.step
    rw [df (by omega)]
    exact ⟨_, by simp [bd]; rfl⟩
  | succ i ih =>
    intro n l hi hn hl
    obtain ⟨n, rfl⟩ : ∃ q, n = q + 1 := ⟨n - 1, by omega⟩
    obtain ⟨x, ih'⟩ := ih n (l ++ [v / 256 ^ i % 256]) (by omega) (by omega) (by simp; omega)
    unfold digest_Hasher_Sum.l2.f at ih' ⊢
    unfold digest_Hasher_Sum.l2.go digest_Hasher_Sum.l2.step
    have e0 : ((i + 1 : Nat) : Int) - 1 = (i : Int) := by omega
    have m8 : mulI .i64 8 (i : Int) = ((8 * i : Nat) : Int) := by rw [mul_id (by omega) (by omega)]; omega
    have s1 : subI .i64 (i : Int) 1 = (i : Int) - 1 := sub_id (by omega) (by omega)
    rw [e0, dt (by omega), cond_true, m8, df (by omega), cond_false, fits_ok (by omega), cond_true, hv, shr64 v i (by omega), s1, ih']
    exact ⟨x, by rw [bd, List.append_assoc]; rfl⟩

theorem sum_l4 (k : Nat) (y00 : List Int) (y01 : Int) (y2 y3 : List Int) (z : Int) (hk : 100 < k) : ∀ (d n : Nat) (h p : List Int), p.length = 64 * d → d < n → okW h → byteL p →
    digest_Hasher_Sum.l4.f k y00 y01 K64 y2 y3 n h z p = some (proc d h p, z, []) := by
  intro d
  induction d with
  | zero =>
    intro n h p h0 hn hh hb
    obtain ⟨n, rfl⟩ : ∃ q, n = q + 1 := ⟨n - 1, by omega⟩
    unfold digest_Hasher_Sum.l4.f digest_Hasher_Sum.l4.go digest_Hasher_Sum.l4.step
    have : p = [] := List.eq_nil_of_length_eq_zero (by omega)
    subst this
    rfl
  | succ d ih =>
    intro n h p h0 hn hh hb
    obtain ⟨n, rfl⟩ : ∃ q, n = q + 1 := ⟨n - 1, by omega⟩
    have ih' := ih n (comp h (p.take 64)) (p.drop 64) (by rw [List.length_drop]; omega) (by omega) (okW_comp hh) (byteL_drop _ hb)
    unfold digest_Hasher_Sum.l4.f at ih' ⊢
    unfold digest_Hasher_Sum.l4.go digest_Hasher_Sum.l4.step
    rw [dt (by omega), cond_true, dt (by omega), cond_true, take1_eq k h z (p.take 64) hk hh (byteL_take _ hb) (by rw [List.length_take]; omega), Option.bind_some, cond_true, ih']
    rfl

theorem shr_lit {x : Int} (e : Nat) (he : e ≤ 3) (c : Int) (hc : c = ((8 * e : Nat) : Int)) : IntKind.wrap .u8 (shrI .u32 x c) = x / 256 ^ e % 256 := by
  rw [hc, shr_u32 x e he, IntKind.wrap_u8]

theorem sum_l6 (k : Nat) (h y00 : List Int) (y01 : Int) (y1 y2 y3 : List Int) : ∀ (d n i : Nat) (o : List Int), i + d = 8 → d < n →
    digest_Hasher_Sum.l6.f k h y00 y01 y1 y2 y3 n (i : Int) o = some (8, outB h (4 * d) (4 * i) o) := by
  intro d
  induction d with
  | zero =>
    intro n i o hi hn
    obtain ⟨n, rfl⟩ : ∃ q, n = q + 1 := ⟨n - 1, by omega⟩
    unfold digest_Hasher_Sum.l6.f digest_Hasher_Sum.l6.go digest_Hasher_Sum.l6.step
    have : i = 8 := by omega
    subst this
    rw [df (by omega)]
    rfl
  | succ d ih =>
    intro n i o hi hn
    obtain ⟨n, rfl⟩ : ∃ q, n = q + 1 := ⟨n - 1, by omega⟩
    have ih' := ih n (i + 1) ((((o.set (4 * i) (byteAt h (4 * i))).set (4 * i + 1) (byteAt h (4 * i + 1))).set (4 * i + 2) (byteAt h (4 * i + 2))).set (4 * i + 3) (byteAt h (4 * i + 3))) (by omega) (by omega)
    have eo : outB h (4 * (d + 1)) (4 * i) o = outB h (4 * d) (4 * (i + 1)) ((((o.set (4 * i) (byteAt h (4 * i))).set (4 * i + 1) (byteAt h (4 * i + 1))).set (4 * i + 2) (byteAt h (4 * i + 2))).set (4 * i + 3) (byteAt h (4 * i + 3))) := by
      have e1 : 4 * (d + 1) = 4 * d + 1 + 1 + 1 + 1 := by omega
      have e2 : 4 * (i + 1) = 4 * i + 1 + 1 + 1 + 1 := by omega
      rw [e1, e2]; rfl
    unfold digest_Hasher_Sum.l6.f at ih' ⊢
    unfold digest_Hasher_Sum.l6.go digest_Hasher_Sum.l6.step
    have m4 : mulI .i64 4 (i : Int) = ((4 * i : Nat) : Int) := by rw [mul_id (by omega) (by omega)]; omega
    have a1 : addI .i64 ((4 * i : Nat) : Int) 1 = ((4 * i + 1 : Nat) : Int) := add_id (by omega) (by omega)
    have a2 : addI .i64 ((4 * i : Nat) : Int) 2 = ((4 * i + 2 : Nat) : Int) := add_id (by omega) (by omega)
    have a3 : addI .i64 ((4 * i : Nat) : Int) 3 = ((4 * i + 3 : Nat) : Int) := add_id (by omega) (by omega)
    have e1 : addI .i64 (i : Int) 1 = ((i + 1 : Nat) : Int) := add_id (by omega) (by omega)
    have b0 : byteAt h (4 * i) = h.getD i 0 / 256 ^ 3 % 256 := by unfold byteAt; rw [show 4 * i / 4 = i by omega, show 4 * i % 4 = 0 by omega]
    have b1 : byteAt h (4 * i + 1) = h.getD i 0 / 256 ^ 2 % 256 := by unfold byteAt; rw [show (4 * i + 1) / 4 = i by omega, show (4 * i + 1) % 4 = 1 by omega]
    have b2 : byteAt h (4 * i + 2) = h.getD i 0 / 256 ^ 1 % 256 := by unfold byteAt; rw [show (4 * i + 2) / 4 = i by omega, show (4 * i + 2) % 4 = 2 by omega]
    have b3 : byteAt h (4 * i + 3) = h.getD i 0 % 256 := by unfold byteAt; rw [show (4 * i + 3) / 4 = i by omega, show (4 * i + 3) % 4 = 3 by omega]; simp
    rw [eo, ← ih', b0, b1, b2, b3]
    simp only [m4, a1, a2, a3, e1, Int.toNat_natCast]
    rw [shr_lit 3 (by omega) 24 rfl, shr_lit 2 (by omega) 16 rfl, shr_lit 1 (by omega) 8 rfl, IntKind.wrap_u8 (h.getD i 0)]
    repeat rw [dt (by omega), cond_true]
    rfl

theorem hsum_eq (k : Nat) (T : List Int) (hT : byteL T) (hl : T.length ≤ 1000000) (hk : 20000 < k) : digest_Hasher_Sum.f k (took T).st (took T).size K64 (took T).rest = some (sha T) := by
  unfold digest_Hasher_Sum.f digest_Hasher_Sum.tree
  have hr := took_rest_len T
  have hrb := took_rest_byteL hT
  have hz : zc (T.length + 1) < 64 := by unfold zc; omega
  have el : ((took T).rest ++ [(128 : Int)]).length = (took T).rest.length + 1 := by simp
  have ez : zc ((took T).rest ++ [(128 : Int)]).length = zc (T.length + 1) := by rw [el, hr]; unfold zc; omega
  have hm : mulI .u64 (took T).size 8 = 8 * (T.length : Int) := by
    have : (took T).size = (T.length : Int) := rfl
    rw [this]; unfold mulI; rw [w_u64]; omega
  rw [fits_ok (by omega), cond_true, fits_ok (by omega), cond_true]
  rw [sum_l0 k _ _ _ _ _ _ _ (zc (T.length + 1)) k _ ez (by omega) (by omega), Option.bind_some]
  obtain ⟨x, h2⟩ := sum_l2 k (took T).st (took T).size _ hm K64 (took T).rest z32 (took T).st 0 8 k ((took T).rest ++ [128] ++ List.replicate (zc (T.length + 1)) 0) (by omega) (by omega) (by simp; omega)
  rw [show ((8 : Nat) : Int) - 1 = 7 from rfl] at h2
  rw [h2, Option.bind_some]
  have ep : (took T).rest ++ [128] ++ List.replicate (zc (T.length + 1)) 0 ++ bd 8 (8 * (T.length : Int)) = (took T).rest ++ padOf T.length := by unfold padOf; simp
  simp only
  rw [ep]
  have hpl := padOf_length T.length
  have hpm := pad_len T.length
  have h4 := sum_l4 k (took T).st (took T).size (took T).rest z32 0 (by omega) (((took T).rest ++ padOf T.length).length / 64) k (took T).st ((took T).rest ++ padOf T.length) (by rw [List.length_append]; omega) (by rw [List.length_append]; omega) (took_okW T) (byteL_append hrb (padOf_byteL _))
  rw [h4, Option.bind_some, sum_pad]
  have h6 := sum_l6 k (proc ((pad T).length / 64) H8 (pad T)) (took T).st (took T).size K64 (took T).rest z32 8 k 0 z32 (by omega) (by omega)
  rw [show ((0 : Nat) : Int) = 0 from rfl] at h6
  simp only
  rw [h6]
  unfold sha outS
  generalize proc ((pad T).length / 64) H8 (pad T) = S
  generalize outB S 32 0 z32 = o
  rfl

theorem of_eq (k : Nat) (parts : List (List Int)) (hp : ∀ q ∈ parts, byteL q) (hk : 20000 < k) (hpk : parts.length < k) (hpl : parts.length ≤ 1000000) (hl : parts.flatten.length ≤ 1000000) : digest_Of.f k parts H8 K64 = some (sha parts.flatten) := by
  unfold digest_Of.f digest_Of.tree
  have e : digest_New.f k H8 = some ((took []).st, (took []).size) := rfl
  have hfb : byteL parts.flatten := by
    intro y hy
    obtain ⟨q, hq, hy⟩ := List.mem_flatten.1 hy
    exact hp q hq y hy
  rw [e, Option.bind_some]
  simp only
  rw [write0_eq k [] parts byteL_nil hp hk hpk hpl (by simpa using hl) rfl, Option.bind_some, List.nil_append]
  simp only
  rw [hsum_eq k _ hfb hl hk]
  rfl

theorem of1_eq (k : Nat) (s : List Int) (hb : byteL s) (hk : 20000 < k) (hl : s.length ≤ 1000000) : digest_Of.f k [s] H8 K64 = some (sha s) := by
  have := of_eq k [s] (by intro q hq; rw [List.mem_singleton.1 hq]; exact hb) hk (by simp; omega) (by simp) (by simpa using hl)
  rw [this]
  simp

theorem double_eq (k : Nat) (parts : List (List Int)) (hp : ∀ q ∈ parts, byteL q) (hk : 20000 < k) (hpk : parts.length < k) (hpl : parts.length ≤ 1000000) (hl : parts.flatten.length ≤ 1000000) : digest_Double.f k parts H8 K64 = some (sha (sha parts.flatten)) := by
  unfold digest_Double.f digest_Double.tree
  rw [of_eq k parts hp hk hpk hpl hl, Option.bind_some, List.take_of_length_le (by rw [sha_length]; omega), toStr_id _ (sha_byteL _), of1_eq k _ (sha_byteL _) hk (by rw [sha_length]; omega)]
  rfl

theorem double1_eq (k : Nat) (s : List Int) (hb : byteL s) (hk : 20000 < k) (hl : s.length ≤ 1000000) : digest_Double.f k [s] H8 K64 = some (sha (sha s)) := by
  have := double_eq k [s] (by intro q hq; rw [List.mem_singleton.1 hq]; exact hb) hk (by simp; omega) (by simp) (by simpa using hl)
  rw [this]
  simp

/-- How many bytes are put. -/
def cl (s : Int) : Nat := (mnI (mxI s 1) 8).toNat

theorem cl_eq (s : Int) : mnI (mxI s 1) 8 = (cl s : Int) ∧ 1 ≤ cl s ∧ cl s ≤ 8 := by
  unfold cl mnI mxI
  split <;> split <;> omega
theorem put_l2 (k : Nat) (x1 x x10 x11 : Int) (y1 : List Int) (sz : Nat) (h8 : sz ≤ 8) : ∀ (d n : Nat) (i : Nat) (m : List Int), i + d = sz → d < n → m.length + d ≤ 140737488355328 →
    scroll_Pen_Put_v1.l2.f k x1 x x10 x11 (sz : Int) y1 n (i : Int) m = some ((sz : Int), m ++ num d (x / 256 ^ i)) := by
  intro d
  induction d with
  | zero =>
    intro n i m hi hn hf
    obtain ⟨n, rfl⟩ : ∃ q, n = q + 1 := ⟨n - 1, by omega⟩
    unfold scroll_Pen_Put_v1.l2.f scroll_Pen_Put_v1.l2.go scroll_Pen_Put_v1.l2.step
    have : i = sz := by omega
    subst this
    rw [df (Int.lt_irrefl _)]
    simp [num]
  | succ d ih =>
    intro n i m hi hn hf
    obtain ⟨n, rfl⟩ : ∃ q, n = q + 1 := ⟨n - 1, by omega⟩
    have := ih n (i + 1) (m ++ [x / 256 ^ i % 256]) (by omega) (by omega) (by simp; omega)
    unfold scroll_Pen_Put_v1.l2.f at this ⊢
    unfold scroll_Pen_Put_v1.l2.go scroll_Pen_Put_v1.l2.step
    rw [dt (by omega), mul_id (by omega) (by omega), df (by omega), fits_ok (by omega), shr_byte x i (by omega), add_id (by omega) (by omega)]
    simp only [cond_true, cond_false]
    have e : (i : Int) + 1 = ((i + 1 : Nat) : Int) := by omega
    rw [e, this, num, Int.pow_succ, Int.ediv_ediv_of_nonneg (Int.le_of_lt (Int.pow_pos (by omega)))]
    simp

theorem put_l2_0 (k : Nat) (x1 x x10 x11 : Int) (y1 : List Int) (sz : Nat) (h8 : sz ≤ 8) (n : Nat) (m : List Int) (hn : sz < n) (hf : m.length + sz ≤ 140737488355328) :
    scroll_Pen_Put_v1.l2.f k x1 x x10 x11 (sz : Int) y1 n 0 m = some ((sz : Int), m ++ num sz x) := by
  have := put_l2 k x1 x x10 x11 y1 sz h8 sz n 0 m (by omega) hn hf
  rw [Int.pow_zero, Int.ediv_one] at this
  exact this

/-- The bytes of numbers. -/
def nums (s : Nat) (l : List Int) : List Int := (l.map (num s)).flatten

theorem put_l0 (k : Nat) (s : Int) (l : List Int) (hk : 8 < k) : ∀ (d n : Nat) (i : Nat) (m : List Int), i + d = l.length → d < n → l.length ≤ 1000000 → m.length + 8 * d ≤ 140737488355328 →
    scroll_Pen_Put_v1.l0.f k s (l.length : Int) l n (i : Int) m = some ((l.length : Int), m ++ nums (cl s) (l.drop i)) := by
  obtain ⟨ec, c1, c8⟩ := cl_eq s
  intro d
  induction d with
  | zero =>
    intro n i m hi hn hl hf
    obtain ⟨n, rfl⟩ : ∃ q, n = q + 1 := ⟨n - 1, by omega⟩
    unfold scroll_Pen_Put_v1.l0.f scroll_Pen_Put_v1.l0.go scroll_Pen_Put_v1.l0.step
    have : i = l.length := by omega
    subst this
    rw [df (Int.lt_irrefl _)]
    simp [nums]
  | succ d ih =>
    intro n i m hi hn hl hf
    obtain ⟨n, rfl⟩ : ∃ q, n = q + 1 := ⟨n - 1, by omega⟩
    have hlt : i < l.length := by omega
    have := ih n (i + 1) (m ++ num (cl s) (l[i])) (by omega) (by omega) hl (by simp; omega)
    unfold scroll_Pen_Put_v1.l0.f at this ⊢
    unfold scroll_Pen_Put_v1.l0.go scroll_Pen_Put_v1.l0.step
    rw [dt (by omega), dt (by omega), dt (by omega), add_id (by omega) (by omega), ec]
    simp only [cond_true, Int.toNat_natCast]
    rw [put_l2_0 k _ _ _ _ _ (cl s) c8 k m (by omega) (by omega)]
    have e : (i : Int) + 1 = ((i + 1 : Nat) : Int) := by omega
    have e2 : l.getD i (0 : Int) = l[i] := by rw [List.getD_eq_getElem?_getD, List.getElem?_eq_getElem hlt]; rfl
    have e3 : nums (cl s) (l.drop i) = num (cl s) l[i] ++ nums (cl s) (l.drop (i + 1)) := by rw [List.drop_eq_getElem_cons hlt]; rfl
    rw [e2]
    simp only [Option.bind_some]
    rw [e, this, e3, List.append_assoc]

theorem put_eq (k : Nat) (s : Int) (l m : List Int) (hk : 8 < k) (hl : l.length < k) (hl' : l.length ≤ 1000000) (hf : m.length ≤ 100000000000000) : scroll_Pen_Put_v1.f k s l m = some (m ++ nums (cl s) l) := by
  unfold scroll_Pen_Put_v1.f scroll_Pen_Put_v1.tree
  have := put_l0 k s l hk l.length k 0 m (by omega) hl hl' (by omega)
  rw [show ((0 : Nat) : Int) = 0 from rfl] at this
  rw [this]
  simp

theorem put0_go (k : Nat) (s x10 : Int) (y1 : List Int) : ∀ (n : Nat) (i : Int) (m : List Int), scroll_Pen_Put.l0.f k s x10 y1 n i m = scroll_Pen_Put_v1.l0.f k s x10 y1 n i m := by intro n i m; kernel_rfl
theorem put0_eq (k : Nat) (s : Int) (l : List Int) (hk : 8 < k) (hl : l.length < k) (hl' : l.length ≤ 1000000) : scroll_Pen_Put.f k s l = some (nums (cl s) l) := by
  have := put_eq k s l [] hk hl hl' (by simp)
  unfold scroll_Pen_Put_v1.f scroll_Pen_Put_v1.tree at this
  unfold scroll_Pen_Put.f scroll_Pen_Put.tree
  rw [put0_go]
  simpa using this

theorem nums1 (s : Nat) (v : Int) : nums s [v] = num s v := by simp [nums]
theorem cl_1 : cl 1 = 1 := rfl
theorem cl_2 : cl 2 = 2 := rfl
theorem cl_4 : cl 4 = 4 := rfl
theorem cl_7 : cl 7 = 7 := rfl
theorem cl_8 : cl 8 = 8 := rfl
theorem num1_lit (v : Int) (h : 0 ≤ v) (h' : v < 256) : num 1 v = [v] := by
  simp only [num]; rw [Int.emod_eq_of_lt h h']

theorem rem_byte (x : Int) (h : 0 ≤ x) : IntKind.wrap .u8 (remI x 256) = x % 256 := by
  rw [IntKind.wrap_u8]; unfold remI; rw [Int.tmod_eq_emod_of_nonneg h]; omega
theorem quo_byte (x : Int) (h : 0 ≤ x) (h' : x < 18446744073709551616) : quoI .u64 x 256 = x / 256 := by
  unfold quoI; rw [Int.tdiv_eq_ediv_of_nonneg h, w_u64]; omega
theorem toStr1 (x : Int) : toStr [x % 256] = [x % 256] := toStr_id _ (by intro y hy; simp at hy; omega)

theorem number_l0 (k : Nat) (s : Int) : ∀ (d n i : Nat) (x : Int) (m : List Int), i + d = cl s → d < n → 0 ≤ x → x < 18446744073709551616 → m.length + d ≤ 140737488355328 →
    ∃ y, trailheadref05_Number.l0.f k s n x m (i : Int) = some (y, m ++ num d x, (cl s : Int)) := by
  obtain ⟨ec, c1, c8⟩ := cl_eq s
  intro d
  induction d with
  | zero =>
    intro n i x m hi hn h0 h1 hf
    obtain ⟨n, rfl⟩ : ∃ q, n = q + 1 := ⟨n - 1, by omega⟩
    unfold trailheadref05_Number.l0.f trailheadref05_Number.l0.go trailheadref05_Number.l0.step
    have : i = cl s := by omega
    subst this
    rw [ec, df (Int.lt_irrefl _)]
    exact ⟨x, by simp [num]⟩
  | succ d ih =>
    intro n i x m hi hn h0 h1 hf
    obtain ⟨n, rfl⟩ : ∃ q, n = q + 1 := ⟨n - 1, by omega⟩
    obtain ⟨y, this⟩ := ih n (i + 1) (x / 256) (m ++ [x % 256]) (by omega) (by omega) (by omega) (by omega) (by simp; omega)
    unfold trailheadref05_Number.l0.f at this ⊢
    unfold trailheadref05_Number.l0.go trailheadref05_Number.l0.step
    rw [ec, dt (by omega), rem_byte x h0, toStr1, quo_byte x h0 h1, fits_ok (by simp; omega), add_id (by omega) (by omega)]
    simp only [cond_true]
    have e : (i : Int) + 1 = ((i + 1 : Nat) : Int) := by omega
    refine ⟨y, ?_⟩
    rw [e, this, num]
    simp

theorem number_eq (k : Nat) (s v : Int) (hk : 8 < k) : trailheadref05_Number.f k s v = some (num (cl s) v) := by
  obtain ⟨ec, c1, c8⟩ := cl_eq s
  unfold trailheadref05_Number.f trailheadref05_Number.tree
  have hw : IntKind.wrap .u64 v = v % 256 ^ 8 := by rw [w_u64]; rfl
  obtain ⟨y, this⟩ := number_l0 k s (cl s) k 0 (v % 256 ^ 8) [] (by omega) (by omega) (by omega) (by omega) (by simp; omega)
  rw [show ((0 : Nat) : Int) = 0 from rfl] at this
  rw [hw, this]
  simp only [Option.bind_some, List.nil_append]
  rw [num_mod _ _ _ c8]

/-- A name: 32 bytes. -/
def name (h : List Int) : Prop := h.length = 32 ∧ byteL h

theorem names_l0 (k : Nat) (l : List (List Int)) (hn : ∀ h ∈ l, List.length h = 32) : ∀ (d n i : Nat) (m : List Int), i + d = l.length → d < n → l.length ≤ 1000000 → m.length + 32 * d ≤ 140737488355328 →
    scroll_Pen_Names.l0.f k (l.length : Int) l n (i : Int) m = some ((l.length : Int), m ++ (l.drop i).flatten) := by
  intro d
  induction d with
  | zero =>
    intro n i m hi hd hl hf
    obtain ⟨n, rfl⟩ : ∃ q, n = q + 1 := ⟨n - 1, by omega⟩
    unfold scroll_Pen_Names.l0.f scroll_Pen_Names.l0.go scroll_Pen_Names.l0.step
    have : i = l.length := by omega
    subst this
    rw [df (Int.lt_irrefl _)]
    simp
  | succ d ih =>
    intro n i m hi hd hl hf
    obtain ⟨n, rfl⟩ : ∃ q, n = q + 1 := ⟨n - 1, by omega⟩
    have hlt : i < l.length := by omega
    have h32 := hn l[i] (List.getElem_mem hlt)
    have := ih n (i + 1) (m ++ l[i]) (by omega) (by omega) hl (by simp; omega)
    unfold scroll_Pen_Names.l0.f at this ⊢
    unfold scroll_Pen_Names.l0.go scroll_Pen_Names.l0.step
    have e : (i : Int) + 1 = ((i + 1 : Nat) : Int) := by omega
    have e2 : l.getD i (List.replicate 32 0 : List Int) = l[i] := by rw [List.getD_eq_getElem?_getD, List.getElem?_eq_getElem hlt]; rfl
    rw [dt (by omega), dt (by omega), dt (by omega), add_id (by omega) (by omega)]
    simp only [cond_true, Int.toNat_natCast]
    rw [e2, List.take_of_length_le (by omega), fits_ok (by omega), cond_true, e, this, List.drop_eq_getElem_cons hlt, List.flatten_cons, List.append_assoc]

theorem names_eq (k : Nat) (l : List (List Int)) (m : List Int) (hn : ∀ h ∈ l, List.length h = 32) (hk : l.length < k) (hl : l.length ≤ 1000000) (hf : m.length ≤ 100000000000000) : scroll_Pen_Names.f k l m = some (m ++ l.flatten) := by
  unfold scroll_Pen_Names.f scroll_Pen_Names.tree
  have := names_l0 k l hn l.length k 0 m (by omega) hk hl (by omega)
  rw [show ((0 : Nat) : Int) = 0 from rfl] at this
  rw [this]
  simp

theorem rname_l0 (k : Nat) (h : List Int) (hl : h.length = 32) (hb : byteL h) : ∀ (d n i : Nat) (m : List Int), i + d = 32 → d < n → m.length = i →
    trailheadref05_Name.l0.f k h n m (i : Int) = some (m ++ h.drop i, 32) := by
  intro d
  induction d with
  | zero =>
    intro n i m hi hd hm
    obtain ⟨n, rfl⟩ : ∃ q, n = q + 1 := ⟨n - 1, by omega⟩
    unfold trailheadref05_Name.l0.f trailheadref05_Name.l0.go trailheadref05_Name.l0.step
    have : i = 32 := by omega
    subst this
    rw [df (by omega), List.drop_eq_nil_of_le (by omega)]
    simp
  | succ d ih =>
    intro n i m hi hd hm
    obtain ⟨n, rfl⟩ : ∃ q, n = q + 1 := ⟨n - 1, by omega⟩
    have hlt : i < h.length := by omega
    have := ih n (i + 1) (m ++ [h[i]]) (by omega) (by omega) (by simp; omega)
    unfold trailheadref05_Name.l0.f at this ⊢
    unfold trailheadref05_Name.l0.go trailheadref05_Name.l0.step
    have e : (i : Int) + 1 = ((i + 1 : Nat) : Int) := by omega
    have e2 : h.getD i 0 = h[i] := by rw [List.getD_eq_getElem?_getD, List.getElem?_eq_getElem hlt]; rfl
    have e3 : toStr [h[i]] = [h[i]] := toStr_id _ (by intro y hy; simp at hy; subst hy; exact hb _ (List.getElem_mem hlt))
    rw [dt (by omega), dt (by omega), dt (by omega), add_id (by omega) (by omega)]
    simp only [cond_true, Int.toNat_natCast]
    rw [e2, e3, fits_ok (by simp; omega), cond_true, e, this, List.drop_eq_getElem_cons hlt, List.append_assoc]
    rfl

theorem rname_eq (k : Nat) (h : List Int) (hn : name h) (hk : 32 < k) : trailheadref05_Name.f k h = some h := by
  unfold trailheadref05_Name.f trailheadref05_Name.tree
  have := rname_l0 k h hn.1 hn.2 32 k 0 [] (by omega) hk rfl
  rw [show ((0 : Nat) : Int) = 0 from rfl] at this
  rw [this]
  simp

theorem text_eq (k : Nat) (m : List Int) (h : byteL m) : scroll_Pen_Text.f k m = some m := by
  unfold scroll_Pen_Text.f scroll_Pen_Text.tree
  rw [toStr_id m h]

theorem eraw_take (k : Nat) (n : Nat) (t : List Int) (h : n ≤ t.length) : scroll_Eye_Raw.f k (n : Int) (t, false) = some (t.take n, (t.drop n, false)) := by
  unfold scroll_Eye_Raw.f scroll_Eye_Raw.tree
  simp only [cond_false, Int.toNat_natCast]
  rw [df (by omega), df (by omega), dt (by omega), dt (by omega)]
  rfl

theorem eraw_bad (k : Nat) (n : Int) (m : List Int × Bool) (h : m.2 = true ∨ n < 0 ∨ (m.1.length : Int) < n) : scroll_Eye_Raw.f k n m = some ([], ([], true)) := by
  unfold scroll_Eye_Raw.f scroll_Eye_Raw.tree
  cases h2 : m.2
  · rw [h2] at h
    rw [cond_false]
    by_cases h3 : n < 0
    · rw [dt h3]; rfl
    · have h4 : n > (m.1.length : Int) := by
        rcases h with h | h | h
        · cases h
        · omega
        · omega
      rw [df h3, dt h4]; rfl
  · rfl

/-- The size that is read. -/
def cl7 (s : Int) : Nat := (mnI (mxI s 1) 7).toNat

theorem cl7_eq (s : Int) : mnI (mxI s 1) 7 = (cl7 s : Int) ∧ 1 ≤ cl7 s ∧ cl7 s ≤ 7 := by
  unfold cl7 mnI mxI
  split <;> split <;> omega
theorem val_take_succ (s : List Int) (i : Nat) (h : i < s.length) : val (s.take (i + 1)) = val (s.take i) + 256 ^ i * s[i] := by
  rw [List.take_succ_eq_append_getElem h, val_append, List.length_take_of_le (by omega)]
  simp [val]

theorem eget_l0 (k : Nat) (s : List Int) (y0 : List Int × Bool) (hs : s.length ≤ 7) (hb : byteL s) : ∀ (d n i : Nat), i + d = s.length → d < n →
    scroll_Eye_Get.l0.f k s (s.length : Int) y0 n (val (s.take i)) (i : Int) = some (val s, (s.length : Int)) := by
  intro d
  induction d with
  | zero =>
    intro n i hi hd
    obtain ⟨n, rfl⟩ : ∃ q, n = q + 1 := ⟨n - 1, by omega⟩
    unfold scroll_Eye_Get.l0.f scroll_Eye_Get.l0.go scroll_Eye_Get.l0.step
    have : i = s.length := by omega
    subst this
    rw [df (Int.lt_irrefl _), List.take_length]
    rfl
  | succ d ih =>
    intro n i hi hd
    obtain ⟨n, rfl⟩ : ∃ q, n = q + 1 := ⟨n - 1, by omega⟩
    have hlt : i < s.length := by omega
    have := ih n (i + 1) (by omega) (by omega)
    unfold scroll_Eye_Get.l0.f at this ⊢
    unfold scroll_Eye_Get.l0.go scroll_Eye_Get.l0.step
    have e : (i : Int) + 1 = ((i + 1 : Nat) : Int) := by omega
    have e2 : s.getD i 0 = s[i] := by rw [List.getD_eq_getElem?_getD, List.getElem?_eq_getElem hlt]; rfl
    have hx := hb _ (List.getElem_mem hlt)
    have hv := val_lt (s.take i) (byteL_take i hb)
    rw [List.length_take_of_le (by omega)] at hv
    rw [dt (by omega), dt (by omega), mul_id (by omega) (by omega), df (by omega), add_id (by omega) (by omega)]
    simp only [cond_true, cond_false, Int.toNat_natCast]
    rw [e2, or_top _ _ i (by omega) (val_nonneg _ (byteL_take i hb)) hv hx.1 hx.2, ← val_take_succ s i hlt, e, this]

theorem eget_take (k : Nat) (s : Int) (t : List Int) (hk : 7 < k) (hb : byteL t) (h : cl7 s ≤ t.length) : scroll_Eye_Get.f k s (t, false) = some (val (t.take (cl7 s)), (t.drop (cl7 s), false)) := by
  obtain ⟨ec, c1, c7⟩ := cl7_eq s
  unfold scroll_Eye_Get.f scroll_Eye_Get.tree
  rw [ec, eraw_take k _ t h]
  simp only [Option.bind_some]
  have hl : (t.take (cl7 s)).length = cl7 s := List.length_take_of_le h
  have := eget_l0 k (t.take (cl7 s)) (t.drop (cl7 s), false) (by omega) (byteL_take _ hb) (cl7 s) k 0 (by omega) (by omega)
  rw [show ((0 : Nat) : Int) = 0 from rfl, List.take_zero, show val [] = 0 from rfl] at this
  rw [this]
  rfl

theorem eget_bad (k : Nat) (s : Int) (m : List Int × Bool) (hk : 0 < k) (h : m.2 = true ∨ m.1.length < cl7 s) : scroll_Eye_Get.f k s m = some (0, ([], true)) := by
  obtain ⟨ec, c1, c7⟩ := cl7_eq s
  obtain ⟨q, rfl⟩ : ∃ q, k = q + 1 := ⟨k - 1, by omega⟩
  unfold scroll_Eye_Get.f scroll_Eye_Get.tree
  rw [ec, eraw_bad _ _ m (h.imp id (fun h => .inr (by omega)))]
  rfl

theorem cl7_4 : cl7 4 = 4 := rfl
theorem cl7_1 : cl7 1 = 1 := rfl
theorem cl7_2 : cl7 2 = 2 := rfl

theorem ename_take (k : Nat) (t : List Int) (h : 32 ≤ t.length) : scroll_Eye_Name.f k (t, false) = some (t.take 32, (t.drop 32, false)) := by
  unfold scroll_Eye_Name.f scroll_Eye_Name.tree
  rw [show (32 : Int) = ((32 : Nat) : Int) from rfl, eraw_take k 32 t h]
  simp only [Option.bind_some]
  have hl : (t.take 32).length = 32 := List.length_take_of_le h
  rw [hl, List.take_of_length_le (by omega)]
  simp

theorem ename_bad (k : Nat) (m : List Int × Bool) (h : m.2 = true ∨ m.1.length < 32) : scroll_Eye_Name.f k m = some (List.replicate 32 0, ([], true)) := by
  unfold scroll_Eye_Name.f scroll_Eye_Name.tree
  rw [eraw_bad k 32 m (h.imp id (fun h => .inr (by omega)))]
  rfl

theorem done_eq (k : Nat) (t : List Int) : scroll_Eye_Done.f k (t, false) = some (decide (t = [])) := rfl
theorem done_bad (k : Nat) (t : List Int) : scroll_Eye_Done.f k (t, true) = some false := rfl
theorem wf_u8 {y : Int} : (Lit.int .u8 y).wf = true ↔ 0 ≤ y ∧ y < 256 := by
  simp only [Lit.wf, Bool.and_eq_true, decide_eq_true_eq]
  show (0 : Int) ≤ y ∧ y ≤ 255 ↔ _
  omega

theorem name_of {h : List Int} (hg : goodT (.arr .u8 32) h) : name h := ⟨hg.1, fun y hy => wf_u8.1 (hg.2 y hy)⟩

abbrev Hdr := T_3d5633

def hP (h : Hdr) : Prop := (-2147483648 ≤ h.1 ∧ h.1 < 2147483648) ∧ (0 ≤ h.2.2.2.1 ∧ h.2.2.2.1 < 4294967296) ∧ (0 ≤ h.2.2.2.2.1 ∧ h.2.2.2.2.1 < 4294967296) ∧ (0 ≤ h.2.2.2.2.2 ∧ h.2.2.2.2.2 < 4294967296)
instance (h : Hdr) : Decidable (hP h) := by unfold hP; infer_instance
def hgood (h : Hdr) : Bool := decide (hP h)

theorem bandD {p q : Prop} [Decidable p] [Decidable q] : (bif decide p then some (decide q) else some false) = some (decide (p ∧ q)) := by
  by_cases hp : p <;> by_cases hq : q <;> simp [hp, hq]

theorem cgood_eq (k : Nat) (a : Int) : compact_Good.f k a = some (decide (a ≥ 0 ∧ a ≤ 4294967295)) := bandD

theorem hgood_eq (k : Nat) (h : Hdr) : header_Good.f k h = some (hgood h) := by
  unfold header_Good.f header_Good.tree
  simp only [cgood_eq, Option.bind_some, bandD]
  exact congrArg some (decide_eq_decide.2 (by unfold hP; omega))

theorem rgood_eq (k : Nat) (h : Hdr) : trailheadref06_Good.f k h = some (hgood h) := by
  unfold trailheadref06_Good.f trailheadref06_Good.tree
  simp only [bandD]
  exact congrArg some (decide_eq_decide.2 (by unfold hP; omega))

/-- Both names are names. -/
def hN (h : Hdr) : Prop := name h.2.1 ∧ name h.2.2.1

def hb (h : Hdr) : List Int := num 4 h.1 ++ (h.2.1 ++ (h.2.2.1 ++ (num 4 h.2.2.2.1 ++ (num 4 h.2.2.2.2.1 ++ num 4 h.2.2.2.2.2))))

theorem hb_length {h : Hdr} (hn : hN h) : (hb h).length = 80 := by
  unfold hb; simp [hn.1.1, hn.2.1]
theorem hb_byteL {h : Hdr} (hn : hN h) : byteL (hb h) := by
  unfold hb
  exact byteL_append (num_byteL _ _) (byteL_append hn.1.2 (byteL_append hn.2.2 (byteL_append (num_byteL _ _) (byteL_append (num_byteL _ _) (num_byteL _ _)))))

abbrev zeroN : List Int := [0, 0, 0, 0, 0, 0, 0, 0, 0, 0, 0, 0, 0, 0, 0, 0, 0, 0, 0, 0, 0, 0, 0, 0, 0, 0, 0, 0, 0, 0, 0, 0]
abbrev zeroH : Hdr := (0, zeroN, zeroN, 0, 0, 0)
theorem name_zero : name zeroN := ⟨rfl, by intro y hy; have : y = 0 := by simpa using hy
                                           omega⟩
theorem hN_zero : hN zeroH := ⟨name_zero, name_zero⟩
theorem rbytes_eq (k : Nat) (h : Hdr) (hn : hN h) (hk : 100 < k) : trailheadref06_Bytes.f k h = some (hb h) := by
  unfold trailheadref06_Bytes.f trailheadref06_Bytes.tree
  have h1 := hn.1.1
  have h2 := hn.2.1
  rw [number_eq k 4 _ (by omega), Option.bind_some, rname_eq k _ hn.1 (by omega), Option.bind_some, fits_ok (by simp [cl_4, h1]), cond_true,
    rname_eq k _ hn.2 (by omega), Option.bind_some, fits_ok (by simp [cl_4, h1, h2]), cond_true,
    number_eq k 4 _ (by omega), Option.bind_some, fits_ok (by simp [cl_4, h1, h2]), cond_true,
    number_eq k 4 _ (by omega), Option.bind_some, fits_ok (by simp [cl_4, h1, h2]), cond_true,
    number_eq k 4 _ (by omega), Option.bind_some, fits_ok (by simp [cl_4, h1, h2]), cond_true, cl_4]
  unfold hb
  simp

/-- The eye, n bytes further. -/
def adv (n : Nat) (m : List Int × Bool) : List Int × Bool := if m.2 = false ∧ n ≤ m.1.length then (m.1.drop n, false) else ([], true)

theorem adv_ok {n : Nat} {t : List Int} (h : n ≤ t.length) : adv n (t, false) = (t.drop n, false) := if_pos ⟨rfl, h⟩
theorem adv_bad {n : Nat} {m : List Int × Bool} (h : m.2 = true ∨ m.1.length < n) : adv n m = ([], true) := if_neg (by
  rintro ⟨h1, h2⟩
  rcases h with h | h
  · rw [h1] at h; cases h
  · omega)
theorem adv_adv (a b : Nat) (m : List Int × Bool) : adv a (adv b m) = adv (b + a) m := by
  by_cases hb : m.2 = false ∧ b ≤ m.1.length
  · have e : adv b m = (m.1.drop b, false) := if_pos hb
    rw [e]
    by_cases ha : b + a ≤ m.1.length
    · rw [adv_ok (by rw [List.length_drop]; omega), List.drop_drop]
      unfold adv; rw [if_pos ⟨hb.1, ha⟩]
    · rw [adv_bad (.inr (by rw [List.length_drop]; omega)), adv_bad (.inr (by omega))]
  · have e : adv b m = ([], true) := if_neg hb
    rw [e, adv_bad (.inl rfl), adv_bad]
    cases h2 : m.2
    · exact .inr (by have : ¬ b ≤ m.1.length := fun h => hb ⟨h2, h⟩; omega)
    · exact .inl rfl
theorem adv_byteL {n : Nat} {m : List Int × Bool} (h : byteL m.1) : byteL (adv n m).1 := by
  unfold adv
  split
  · exact byteL_drop n h
  · exact byteL_nil

theorem eget_adv (k : Nat) (m : List Int × Bool) (hk : 7 < k) (hb : byteL m.1) : scroll_Eye_Get.f k 4 m = some (bif (adv 4 m).2 then 0 else val (m.1.take 4), adv 4 m) := by
  by_cases h : m.2 = false ∧ 4 ≤ m.1.length
  · obtain ⟨t, b⟩ := m
    obtain ⟨rfl, h⟩ := h
    rw [adv_ok h, eget_take k 4 t hk hb (by rw [cl7_4]; exact h), cl7_4]; rfl
  · have h' : m.2 = true ∨ m.1.length < 4 := by
      cases h2 : m.2
      · exact .inr (by have : ¬ 4 ≤ m.1.length := fun h' => h ⟨h2, h'⟩; omega)
      · exact .inl rfl
    rw [adv_bad h', eget_bad k 4 m (by omega) (by rw [cl7_4]; exact h')]; rfl

theorem ename_adv (k : Nat) (m : List Int × Bool) : scroll_Eye_Name.f k m = some (bif (adv 32 m).2 then zeroN else m.1.take 32, adv 32 m) := by
  by_cases h : m.2 = false ∧ 32 ≤ m.1.length
  · obtain ⟨t, b⟩ := m
    obtain ⟨rfl, h⟩ := h
    rw [adv_ok h, ename_take k t h]; rfl
  · have h' : m.2 = true ∨ m.1.length < 32 := by
      cases h2 : m.2
      · exact .inr (by have : ¬ 32 ≤ m.1.length := fun h' => h ⟨h2, h'⟩; omega)
      · exact .inl rfl
    rw [adv_bad h', ename_bad k m h']; rfl

/-- The header in 80 bytes. -/
def rd (t : List Int) : Hdr := (IntKind.wrap .i64 (IntKind.wrap .i32 (val (t.take 4))), (t.drop 4).take 32, (t.drop 36).take 32, val ((t.drop 68).take 4), val ((t.drop 72).take 4), val ((t.drop 76).take 4))

theorem hread_ok (k : Nat) (t : List Int) (hk : 7 < k) (hb : byteL t) (h : 80 ≤ t.length) : header_Read.f k (t, false) = some (rd t, (t.drop 80, false)) := by
  unfold header_Read.f header_Read.tree
  have d1 : byteL (t.drop 4) := byteL_drop 4 hb
  rw [eget_adv k _ hk hb, adv_ok (by omega), Option.bind_some]
  simp only [cond_false]
  rw [ename_adv, adv_ok (by rw [List.length_drop]; omega), Option.bind_some]
  simp only [cond_false, List.drop_drop]
  rw [ename_adv, adv_ok (by rw [List.length_drop]; omega), Option.bind_some]
  simp only [cond_false, List.drop_drop]
  rw [eget_adv k _ hk (byteL_drop _ hb), adv_ok (by rw [List.length_drop]; omega), Option.bind_some]
  simp only [cond_false, List.drop_drop]
  rw [eget_adv k _ hk (byteL_drop _ hb), adv_ok (by rw [List.length_drop]; omega), Option.bind_some]
  simp only [cond_false, List.drop_drop]
  rw [eget_adv k _ hk (byteL_drop _ hb), adv_ok (by rw [List.length_drop]; omega), Option.bind_some]
  simp only [cond_false, List.drop_drop]
  rfl

theorem hread_bad (k : Nat) (t : List Int) (hk : 7 < k) (hb : byteL t) (h : t.length < 80) : header_Read.f k (t, false) = some (zeroH, ([], true)) := by
  unfold header_Read.f header_Read.tree
  rw [eget_adv k _ hk hb, Option.bind_some]
  simp only []
  rw [ename_adv, Option.bind_some]
  simp only [adv_adv]
  rw [ename_adv, Option.bind_some]
  simp only [adv_adv]
  rw [eget_adv k _ hk (adv_byteL hb), Option.bind_some]
  simp only [adv_adv]
  rw [eget_adv k _ hk (adv_byteL hb), Option.bind_some]
  simp only [adv_adv]
  rw [eget_adv k _ hk (adv_byteL hb), Option.bind_some]
  simp only [adv_adv]
  have e : adv (4 + 32 + 32 + 4 + 4 + 4) (t, false) = ([], true) := adv_bad (.inr h)
  rw [e]
  rfl

theorem i32_wrap (n : Int) : IntKind.wrap .i32 n = (n + 2147483648) % 4294967296 - 2147483648 := by
  simp [IntKind.wrap, IntKind.bits, IntKind.signed]
  split <;> omega

theorem val4_lt {t : List Int} (hb : byteL t) : 0 ≤ val (t.take 4) ∧ val (t.take 4) < 4294967296 := by
  have h := val_lt (t.take 4) (byteL_take 4 hb)
  have h2 : (256 : Int) ^ (t.take 4).length ≤ 256 ^ 4 := pow256_le (by rw [List.length_take]; omega)
  exact ⟨val_nonneg _ (byteL_take 4 hb), by omega⟩

theorem rd_num (t : List Int) : num 4 (rd t).1 = num 4 (val (t.take 4)) := by
  show num 4 (IntKind.wrap .i64 (IntKind.wrap .i32 (val (t.take 4)))) = _
  rw [i32_wrap, i64_id (by omega) (by omega), ← num_mod 4 4 _ (by omega), ← num_mod 4 4 (val _) (by omega)]
  congr 1
  omega

theorem rd_hN (t : List Int) (hb : byteL t) (h : 80 ≤ t.length) : hN (rd t) :=
  ⟨⟨by show ((t.drop 4).take 32).length = 32
       rw [List.length_take, List.length_drop]; omega, byteL_take _ (byteL_drop _ hb)⟩,
   ⟨by show ((t.drop 36).take 32).length = 32
       rw [List.length_take, List.length_drop]; omega, byteL_take _ (byteL_drop _ hb)⟩⟩

theorem rd_good (t : List Int) (hb : byteL t) : hgood (rd t) = true := by
  have h1 := val4_lt (byteL_drop 68 hb)
  have h2 := val4_lt (byteL_drop 72 hb)
  have h3 := val4_lt (byteL_drop 76 hb)
  refine dt ⟨?_, h1, h2, h3⟩
  show -2147483648 ≤ IntKind.wrap .i64 (IntKind.wrap .i32 (val (t.take 4))) ∧ IntKind.wrap .i64 (IntKind.wrap .i32 (val (t.take 4))) < 2147483648
  rw [i32_wrap, i64_id (by omega) (by omega)]
  omega

theorem num_take (t : List Int) (n : Nat) (hb : byteL t) (h : n ≤ t.length) : num n (val (t.take n)) = t.take n := by
  have := num_val (t.take n) (byteL_take n hb)
  rw [List.length_take_of_le h] at this
  exact this

theorem hb_rd (t : List Int) (hb' : byteL t) (h : t.length = 80) : hb (rd t) = t := by
  unfold hb
  rw [rd_num]
  show num 4 (val (t.take 4)) ++ ((t.drop 4).take 32 ++ ((t.drop 36).take 32 ++ (num 4 (val ((t.drop 68).take 4)) ++ (num 4 (val ((t.drop 72).take 4)) ++ num 4 (val ((t.drop 76).take 4)))))) = t
  rw [num_take t 4 hb' (by omega), num_take _ 4 (byteL_drop _ hb') (by rw [List.length_drop]; omega), num_take _ 4 (byteL_drop _ hb') (by rw [List.length_drop]; omega), num_take _ 4 (byteL_drop _ hb') (by rw [List.length_drop]; omega)]
  have e (a b : Nat) : (t.drop a).take b ++ t.drop (a + b) = t.drop a := by rw [← List.drop_drop]; exact List.take_append_drop b (t.drop a)
  have e5 : (t.drop 76).take 4 = t.drop 76 := List.take_of_length_le (by rw [List.length_drop]; omega)
  rw [e5, e 72 4, e 68 4, e 36 32, e 4 32]
  exact List.take_append_drop 4 t

theorem take_app {a b : List Int} {n : Nat} (h : a.length = n) : (a ++ b).take n = a := by
  rw [List.take_append_of_le_length (by omega), List.take_of_length_le (by omega)]
theorem drop_app {a b : List Int} {n : Nat} (h : a.length = n) : (a ++ b).drop n = b := by
  rw [List.drop_append_of_le_length (by omega), List.drop_of_length_le (by omega), List.nil_append]

theorem rd_hb (h : Hdr) (s : List Int) (hn : hN h) (hg : hgood h = true) : rd (hb h ++ s) = h := by
  obtain ⟨v, p, r, t, b, n⟩ := h
  obtain ⟨⟨p1, p2⟩, ⟨r1, r2⟩⟩ := hn
  obtain ⟨⟨g1, g2⟩, ⟨g3, g4⟩, ⟨g5, g6⟩, ⟨g7, g8⟩⟩ := of_decide_eq_true hg
  simp only at p1 p2 r1 r2 g1 g2 g3 g4 g5 g6 g7 g8
  have hv (x : Int) (h0 : 0 ≤ x) (h1 : x < 4294967296) : val (num 4 x) = x := by rw [val_num]; exact Int.emod_eq_of_lt h0 h1
  unfold rd hb
  simp only [List.append_assoc]
  have t0 (y : List Int) (x : Int) : (num 4 x ++ y).take 4 = num 4 x := take_app (by simp)
  have d4 (y : List Int) (x : Int) : (num 4 x ++ y).drop 4 = y := drop_app (by simp)
  have e36 (y : List Int) : y.drop 36 = (y.drop 4).drop 32 := by rw [List.drop_drop]
  have e68 (y : List Int) : y.drop 68 = ((y.drop 4).drop 32).drop 32 := by rw [List.drop_drop, List.drop_drop]
  have e72 (y : List Int) : y.drop 72 = (((y.drop 4).drop 32).drop 32).drop 4 := by rw [List.drop_drop, List.drop_drop, List.drop_drop]
  have e76 (y : List Int) : y.drop 76 = ((((y.drop 4).drop 32).drop 32).drop 4).drop 4 := by rw [List.drop_drop, List.drop_drop, List.drop_drop, List.drop_drop]
  simp only [e36, e68, e72, e76, t0, d4, take_app p1, drop_app p1, take_app r1, drop_app r1, hv t g3 g4, hv b g5 g6, hv n g7 g8, val_num]
  have e : IntKind.wrap .i64 (IntKind.wrap .i32 (v % 256 ^ 4)) = v := by
    rw [i32_wrap, i64_id (by omega) (by omega)]; omega
  rw [e]

theorem rd_hb0 (h : Hdr) (hn : hN h) (hg : hgood h = true) : rd (hb h) = h := by
  have := rd_hb h [] hn hg
  rwa [List.append_nil] at this

theorem hb_inj {a b : Hdr} (ha : hN a) (hb' : hN b) (ga : hgood a = true) (gb : hgood b = true) (e : hb a = hb b) : a = b := by
  rw [← rd_hb0 a ha ga, e, rd_hb0 b hb' gb]

theorem eqDen_hdr (a b : Hdr) : eqDen (.pair (.int .i64) (.pair (.arr .u8 32) (.pair (.arr .u8 32) (.pair (.int .i64) (.pair (.int .i64) (.int .i64)))))) a b = decide (a = b) := by
  have e : eqDen (.pair (.int .i64) (.pair (.arr .u8 32) (.pair (.arr .u8 32) (.pair (.int .i64) (.pair (.int .i64) (.int .i64)))))) a b = (decide (a.1 = b.1) && (decide (a.2.1 = b.2.1) && (decide (a.2.2.1 = b.2.2.1) && (decide (a.2.2.2.1 = b.2.2.2.1) && (decide (a.2.2.2.2.1 = b.2.2.2.2.1) && decide (a.2.2.2.2.2 = b.2.2.2.2.2)))))) := by
    simp only [eqDen]
  rw [e, Bool.eq_iff_iff]
  simp only [Bool.and_eq_true, decide_eq_true_eq, Prod.ext_iff]

theorem hN_of {h : Hdr} (hg : goodT (.pair (.int .i64) (.pair (.arr .u8 32) (.pair (.arr .u8 32) (.pair (.int .i64) (.pair (.int .i64) (.int .i64)))))) h) : hN h := ⟨name_of hg.2.1, name_of hg.2.2.1⟩

abbrev Env7 := List Int × List Int
abbrev letters : List Int := [97, 98, 99, 100, 101, 102, 103, 104, 105, 106, 107, 108, 109, 110, 111, 112, 113, 114, 115, 116, 117, 118, 119, 120, 121, 122, 48, 49, 50, 51, 52, 53, 54, 55, 56, 57]

def wc (c : Int) : Bool := decide ((97 ≤ c ∧ c ≤ 122) ∨ (48 ≤ c ∧ c ≤ 57))
def wB (s : List Int) : Bool := decide (1 ≤ s.length ∧ s.length ≤ 12 ∧ ∀ c ∈ s, wc c = true)

theorem inSet_letters (c : Int) : inSet letters c = wc c := by
  unfold inSet wc
  rw [Bool.eq_iff_iff]
  simp only [List.any_cons, List.any_nil, Bool.or_eq_true, decide_eq_true_eq, Bool.or_false]
  omega

theorem mem_takeW (p : Int → Bool) : ∀ (l : List Int) (x : Int), x ∈ l.takeWhile p → p x = true
  | [], x, h => by cases h
  | a :: r, x, h => by
    rw [List.takeWhile_cons] at h
    cases ha : p a
    · rw [ha] at h; cases h
    · rw [ha] at h
      rcases List.mem_cons.1 h with rfl | h
      · exact ha
      · exact mem_takeW p r x h
theorem dropW_nil (p : Int → Bool) : ∀ (l : List Int), l.dropWhile p = [] ↔ ∀ x ∈ l, p x = true
  | [] => ⟨fun _ x h => (by cases h), fun _ => rfl⟩
  | a :: r => by
    rw [List.dropWhile_cons, List.forall_mem_cons]
    cases ha : p a
    · simp
    · simp only [if_true, true_and]; exact dropW_nil p r

theorem trimRL_split (s cs : List Int) : ∃ t, s = trimRL s cs ++ t ∧ ∀ x ∈ t, inSet cs x = true := by
  refine ⟨(s.reverse.takeWhile (inSet cs)).reverse, ?_, fun x hx => ?_⟩
  · unfold trimRL
    rw [← List.reverse_append, List.takeWhile_append_dropWhile, List.reverse_reverse]
  · have : x ∈ s.reverse.takeWhile (inSet cs) := by simpa using hx
    exact mem_takeW _ _ _ this

theorem trimL_nil (s cs : List Int) : trimL s cs = [] ↔ ∀ x ∈ s, inSet cs x = true := by
  unfold trimL
  rw [dropW_nil]
  obtain ⟨t, e, ht⟩ := trimRL_split s cs
  constructor
  · intro h x hx
    rw [e] at hx
    rcases List.mem_append.1 hx with hx | hx
    · exact h x hx
    · exact ht x hx
  · intro h x hx
    exact h x (by rw [e]; exact List.mem_append_left _ hx)

theorem word_eq (k : Nat) (s : List Int) : envelope_word.f k s = some (wB s) := by
  unfold envelope_word.f envelope_word.tree
  by_cases h0 : s = []
  · subst h0; rfl
  have hl0 : 1 ≤ s.length := by
    rcases s with _ | ⟨a, r⟩
    · exact absurd rfl h0
    · simp
  rw [df h0, Bool.not_false, cond_true]
  by_cases h1 : s.length ≤ 12
  · have e : strings_Trim.f k s letters = some (trimL s letters) := by
      show shTrim s letters = _
      unfold shTrim
      have : (asciiL letters && Nat.ble s.length 140737488355328) = true := by
        rw [Bool.and_eq_true]
        exact ⟨by decide, Nat.ble_eq_true_of_le (by omega)⟩
      rw [this]; rfl
    rw [dt (by omega), cond_true, e, Option.bind_some]
    refine congrArg some ?_
    unfold wB
    refine decide_eq_decide.2 ?_
    rw [trimL_nil]
    simp only [inSet_letters]
    exact ⟨fun h => ⟨hl0, h1, h⟩, fun h => h.2.2⟩
  · rw [df (by omega), cond_false]
    unfold wB
    rw [df (fun h : 1 ≤ s.length ∧ s.length ≤ 12 ∧ ∀ c ∈ s, wc c = true => h1 h.2.1)]

def gB (v : Env7) : Bool := wB v.1 && decide (v.2.length ≤ 16384)

theorem good7_eq (k : Nat) (v : Env7) : envelope_Good.f k v = some (gB v) := by
  unfold envelope_Good.f envelope_Good.tree gB
  rw [word_eq, Option.bind_some]
  cases wB v.1
  · rfl
  · rw [cond_true, Bool.true_and]
    exact congrArg some (decide_eq_decide.2 (by omega))

theorem wB_of {s : List Int} (h : wB s = true) : 1 ≤ s.length ∧ s.length ≤ 12 ∧ ∀ c ∈ s, wc c = true := of_decide_eq_true h
theorem wc_of {c : Int} (h : wc c = true) : (97 ≤ c ∧ c ≤ 122) ∨ (48 ≤ c ∧ c ≤ 57) := of_decide_eq_true h
theorem wB_byteL {s : List Int} (h : wB s = true) : byteL s := fun y hy => by
  have := wc_of ((wB_of h).2.2 y hy); omega

abbrev tail4 : List Int := [84, 65, 73, 76]
def w12 (w : List Int) : List Int := w ++ List.replicate (12 - w.length) 0
def sum4 (p : List Int) : List Int := (sha (sha p)).take 4
def envB (v : Env7) : List Int := tail4 ++ (w12 v.1 ++ (num 4 (v.2.length : Int) ++ (sum4 v.2 ++ v.2)))

theorem w12_length {w : List Int} (h : w.length ≤ 12) : (w12 w).length = 12 := by unfold w12; rw [List.length_append, List.length_replicate]; omega
theorem sum4_length (p : List Int) : (sum4 p).length = 4 := by unfold sum4; rw [List.length_take, sha_length]; rfl
theorem sum4_byteL (p : List Int) : byteL (sum4 p) := byteL_take 4 (sha_byteL _)
theorem byteL_zeros (n : Nat) : byteL (List.replicate n (0 : Int)) := fun y hy => by
  rw [List.eq_of_mem_replicate hy]; omega
theorem byteL_app7 {a b : List Int} (ha : byteL a) (hb : byteL b) : byteL (a ++ b) := by
  intro y hy
  rcases List.mem_append.1 hy with h | h
  · exact ha y h
  · exact hb y h
theorem byteL_tail4 : byteL tail4 := by intro y hy; simp at hy; omega
theorem envB_length {v : Env7} (h : v.1.length ≤ 12) : (envB v).length = 24 + v.2.length := by
  unfold envB
  simp only [List.length_append, w12_length h, sum4_length, num_length, List.length_cons, List.length_nil]
  omega
theorem envB_byteL {v : Env7} (h : byteL v.1) (h2 : byteL v.2) : byteL (envB v) :=
  byteL_app7 byteL_tail4 (byteL_app7 (byteL_app7 h (byteL_zeros _)) (byteL_app7 (num_byteL _ _) (byteL_app7 (sum4_byteL _) h2)))

theorem sum_eq (k : Nat) (p : List Int) (hb : byteL p) (hl : p.length ≤ 1000000) (hk : 20000 < k) : envelope_sum.f k p H8 K64 = some (sum4 p) := by
  unfold envelope_sum.f envelope_sum.tree
  rw [double1_eq k p hb hk hl, Option.bind_some, toStr_id _ (byteL_take 4 (sha_byteL _))]
  rfl

theorem repL_zero : ∀ n, repL [0] n = List.replicate n 0
  | 0 => rfl
  | n + 1 => by unfold repL; rw [repL_zero n]; rfl

theorem raw7_eq (k : Nat) (s m : List Int) (h : m.length + s.length ≤ 140737488355328) : scroll_Pen_Raw.f k s m = some (m ++ s) := by
  unfold scroll_Pen_Raw.f scroll_Pen_Raw.tree
  rw [fits_ok (by omega), cond_true]

theorem bytes7_eq (k : Nat) (v : Env7) (hg : gB v = true) (hb : byteL v.2) (hk : 20000 < k) : envelope_Bytes.f k v H8 K64 = some (envB v, 0) := by
  have hg' := hg
  unfold gB at hg'
  rw [Bool.and_eq_true] at hg'
  obtain ⟨h1, h2⟩ := hg'
  have hw := wB_of h1
  have hp : v.2.length ≤ 16384 := of_decide_eq_true h2
  unfold envelope_Bytes.f envelope_Bytes.tree
  have es : subI .i64 12 (v.1.length : Int) = ((12 - v.1.length : Nat) : Int) := (sub_id (by omega) (by omega)).trans (by omega)
  have er : strings_Repeat.f k [0] ((12 - v.1.length : Nat) : Int) = some (List.replicate (12 - v.1.length) 0) := by
    show shRepeat [0] ((12 - v.1.length : Nat) : Int) = _
    unfold shRepeat
    rw [dt (by omega), dt (by omega), dt (by simp; omega), Int.toNat_natCast, repL_zero]; rfl
  have ep : scroll_Pen_Put.f k (4 : Int) ([1279869268] : List Int) = some tail4 := by
    rw [put0_eq k 4 [1279869268] (by omega) (by simp; omega) (by simp), nums1, cl_4]
    exact congrArg some (by decide)
  rw [good7_eq, hg, Option.bind_some, Bool.not_true, cond_false, ep, Option.bind_some, es, er, Option.bind_some, fits_ok (by simp; omega), cond_true]
  have e1 : v.1 ++ List.replicate (12 - v.1.length) 0 = w12 v.1 := rfl
  rw [e1, raw7_eq k _ _ (by rw [w12_length hw.2.1]; simp), Option.bind_some]
  rw [put_eq k 4 [(v.2.length : Int)] _ (by omega) (by simp; omega) (by simp) (by rw [List.length_append, w12_length hw.2.1]; simp), Option.bind_some, nums1, cl_4]
  rw [sum_eq k _ hb (by omega) hk, Option.bind_some]
  rw [raw7_eq k _ _ (by simp only [List.length_append, w12_length hw.2.1, sum4_length, num_length, List.length_cons, List.length_nil]; omega), Option.bind_some]
  rw [raw7_eq k _ _ (by simp only [List.length_append, w12_length hw.2.1, sum4_length, num_length, List.length_cons, List.length_nil]; omega), Option.bind_some]
  have e2 : tail4 ++ w12 v.1 ++ num 4 (v.2.length : Int) ++ sum4 v.2 ++ v.2 = envB v := by unfold envB; simp only [List.append_assoc]
  rw [e2, text_eq k _ (envB_byteL (wB_byteL h1) hb), Option.bind_some]

theorem bytes7_bad (k : Nat) (v : Env7) (hg : gB v = false) : envelope_Bytes.f k v H8 K64 = some ([], 1) := by
  unfold envelope_Bytes.f envelope_Bytes.tree
  rw [good7_eq, hg]
  rfl

theorem rbytes_l0 (k : Nat) (p : List Int) : ∀ (d n : Nat) (w : List Int), w.length + d = 12 → d < n →
    trailheadref07_Bytes.l0.f k p n w = some (w ++ List.replicate d 0) := by
  intro d
  induction d with
  | zero =>
    intro n w hw hn
    obtain ⟨n, rfl⟩ : ∃ q, n = q + 1 := ⟨n - 1, by omega⟩
    unfold trailheadref07_Bytes.l0.f trailheadref07_Bytes.l0.go trailheadref07_Bytes.l0.step
    rw [df (by omega)]
    simp
  | succ d ih =>
    intro n w hw hn
    obtain ⟨n, rfl⟩ : ∃ q, n = q + 1 := ⟨n - 1, by omega⟩
    have ih' := ih n (w ++ [0]) (by rw [List.length_append, List.length_singleton]; omega) (by omega)
    unfold trailheadref07_Bytes.l0.f at ih' ⊢
    unfold trailheadref07_Bytes.l0.go trailheadref07_Bytes.l0.step
    rw [dt (by omega), cond_true, fits_ok (by omega), cond_true, ih', List.append_assoc]
    rfl

theorem rbytes7_eq (k : Nat) (w p : List Int) (hw : w.length ≤ 12) (hb : byteL p) (hl : p.length ≤ 100000) (hk : 200000 < k) : trailheadref07_Bytes.f k w p = some (envB (w, p)) := by
  unfold trailheadref07_Bytes.f trailheadref07_Bytes.tree
  have e0 : w ++ List.replicate (12 - w.length) 0 = w12 w := rfl
  rw [rbytes_l0 k p (12 - w.length) k w (by omega) (by omega), Option.bind_some, e0, rdouble_eq k p hb (by omega) (by omega), Option.bind_some, rname_eq k _ ⟨sha_length _, sha_byteL _⟩ (by omega), Option.bind_some]
  have hs : ((sha (sha p)).length : Int) = 32 := by rw [sha_length]; rfl
  rw [fits_ok (by rw [w12_length hw]; omega), cond_true, number_eq k 4 _ (by omega), Option.bind_some, cl_4]
  have e1 : (sha (sha p)).take 4 = sum4 p := rfl
  rw [hs, e1, fits_ok (by simp only [List.length_append, w12_length hw, num_length, List.length_cons, List.length_nil]; omega), cond_true, dt (by omega), cond_true,
    fits_ok (by simp only [List.length_append, w12_length hw, sum4_length, num_length, List.length_cons, List.length_nil]; omega), cond_true,
    fits_ok (by simp only [List.length_append, w12_length hw, sum4_length, num_length, List.length_cons, List.length_nil]; omega), cond_true]
  unfold envB
  simp only [List.append_assoc]

def cntB (n : Int) : List Int :=
  if n < 0 then [0] else if n < 253 then num 1 n else if n < 65536 then 253 :: num 2 n else if n < 4294967296 then 254 :: num 4 n else 255 :: num 8 n

theorem cnt_length (n : Int) : 1 ≤ (cntB n).length ∧ (cntB n).length ≤ 9 := by
  unfold cntB
  split; · simp
  split; · simp
  split; · simp
  split <;> simp

theorem count_eq (k : Nat) (n : Int) (m : List Int) (hk : 8 < k) (hf : m.length ≤ 10000000000000) : scroll_Pen_Count.f k n m = some (m ++ cntB n) := by
  unfold scroll_Pen_Count.f scroll_Pen_Count.tree
  have P := fun s v m h => put_eq k s [v] m hk (by simp; omega) (by simp) h
  by_cases h0 : n ≤ 252
  · rw [dt h0, cond_true, P _ _ _ (by omega), nums1, cl_1]
    simp only [Option.bind_some]
    by_cases h : n < 0
    · have : mxI n 0 = 0 := by unfold mxI; rw [if_pos (by omega)]
      rw [this, cntB, if_pos h]; rfl
    · have : mxI n 0 = n := by unfold mxI; rw [if_neg (by omega)]
      rw [this, cntB, if_neg h, if_pos (by omega)]
  rw [df h0, cond_false]
  by_cases h1 : n ≤ 65535
  · rw [dt h1, cond_true, P _ _ _ (by omega)]
    simp only [Option.bind_some]
    rw [P _ _ _ (by simp [nums1, cl_1]; omega)]
    simp only [Option.bind_some, nums1, cl_1, cl_2]
    rw [cntB, if_neg (by omega), if_neg (by omega), if_pos (by omega), num1_lit 253 (by omega) (by omega)]
    simp
  rw [df h1, cond_false]
  by_cases h2 : n ≤ 4294967295
  · rw [dt h2, cond_true, P _ _ _ (by omega)]
    simp only [Option.bind_some]
    rw [P _ _ _ (by simp [nums1, cl_1]; omega)]
    simp only [Option.bind_some, nums1, cl_1, cl_4]
    rw [cntB, if_neg (by omega), if_neg (by omega), if_neg (by omega), if_pos (by omega), num1_lit 254 (by omega) (by omega)]
    simp
  rw [df h2, cond_false, P _ _ _ (by omega)]
  simp only [Option.bind_some]
  rw [P _ _ _ (by simp [nums1, cl_1]; omega)]
  simp only [Option.bind_some, nums1, cl_1, cl_8]
  rw [cntB, if_neg (by omega), if_neg (by omega), if_neg (by omega), if_neg (by omega), num1_lit 255 (by omega) (by omega)]
  simp

theorem count0_eq (k : Nat) (n : Int) (hk : 8 < k) : scroll_Pen_Count_v1.f k n = some (cntB n) := by
  have := count_eq k n [] hk (by simp)
  unfold scroll_Pen_Count.f scroll_Pen_Count.tree at this
  unfold scroll_Pen_Count_v1.f scroll_Pen_Count_v1.tree
  have e (s : Int) (l : List Int) : scroll_Pen_Put_v1.f k s l [] = scroll_Pen_Put.f k s l := by kernel_rfl
  simp only [e] at this
  simpa using this

theorem rcount_eq (k : Nat) (n : Int) (hk : 8 < k) : trailheadref05_Count.f k n = some (cntB n) := by
  unfold trailheadref05_Count.f trailheadref05_Count.tree
  have P := fun s v => number_eq k s v hk
  by_cases h0 : n < 0
  · rw [dt h0, cond_true, cntB, if_pos h0]
  rw [df h0, cond_false]
  by_cases h1 : n < 253
  · rw [dt h1, cond_true, P, cl_1, cntB, if_neg h0, if_pos h1]; rfl
  rw [df h1, cond_false]
  by_cases h2 : n < 65536
  · rw [dt h2, cond_true, P, cl_2, cntB, if_neg h0, if_neg h1, if_pos h2]
    simp only [Option.bind_some]
    rw [fits_ok (by simp)]; rfl
  rw [df h2, cond_false]
  by_cases h3 : n < 4294967296
  · rw [dt h3, cond_true, P, cl_4, cntB, if_neg h0, if_neg h1, if_neg h2, if_pos h3]
    simp only [Option.bind_some]
    rw [fits_ok (by simp)]; rfl
  rw [df h3, cond_false, P, cl_8, cntB, if_neg h0, if_neg h1, if_neg h2, if_neg h3]
  simp only [Option.bind_some]
  rw [fits_ok (by simp)]; rfl

theorem or_wide (a b : Int) (ha : 0 ≤ a) (ha' : a < 2147483648) (hb : 0 ≤ b) (hb' : b < 4294967296) : orI .i64 (shlI .i64 a 32) b = b + 4294967296 * a := by
  obtain ⟨n, rfl⟩ : ∃ n : Nat, a = n := ⟨a.toNat, by omega⟩
  obtain ⟨m, rfl⟩ : ∃ m : Nat, b = m := ⟨b.toNat, by omega⟩
  have e1 : shlI .i64 (n : Int) 32 = ((2 ^ 32 * n : Nat) : Int) := by
    unfold shlI
    have e : min (32 : Int).toNat (IntKind.bits .i64) = 32 := rfl
    rw [e]
    have e2 : (n : Int) * 2 ^ 32 = ((2 ^ 32 * n : Nat) : Int) := by rw [Int.natCast_mul, Int.mul_comm]; rfl
    rw [e2]; exact i64_id (by omega) (by omega)
  rw [e1]
  unfold orI
  have hb : IntKind.bits .i64 = 64 := rfl
  rw [hb, BitVec.toNat_or]
  have t (z : Nat) (hz : z < 2 ^ 63) : (BitVec.ofInt 64 (z : Int)).toNat = z := by
    rw [BitVec.toNat_ofInt]; omega
  rw [t _ (by omega), t _ (by omega), ← Nat.two_pow_add_eq_or_of_lt (by omega)]
  rw [i64_id (by omega) (by omega)]
  omega

theorem val_4 (t : List Int) (h : 8 ≤ t.length) : val (t.take 8) = val (t.take 4) + 4294967296 * val ((t.drop 4).take 4) := by
  have : t.take 8 = t.take 4 ++ (t.drop 4).take 4 := by rw [← List.take_add]
  rw [this, val_append, List.length_take_of_le (by omega)]
  rfl

theorem ewide_take (k : Nat) (t : List Int) (hk : 7 < k) (hb : byteL t) (h : 8 ≤ t.length) :
    scroll_Eye_Wide.f k (t, false) = if val (t.take 8) < 9223372036854775808 then some (val (t.take 8), (t.drop 8, false)) else some (0, ([], true)) := by
  unfold scroll_Eye_Wide.f scroll_Eye_Wide.tree
  rw [eget_take k 4 t hk hb (by rw [cl7_4]; omega), cl7_4]
  simp only [Option.bind_some]
  rw [eget_take k 4 _ hk (byteL_drop 4 hb) (by rw [cl7_4, List.length_drop]; omega), cl7_4]
  simp only [Option.bind_some, List.drop_drop]
  have b1 := val_lt _ (byteL_take 4 hb)
  have b2 := val_lt _ (byteL_take 4 (byteL_drop 4 hb))
  rw [List.length_take_of_le (by omega)] at b1
  rw [List.length_take_of_le (by rw [List.length_drop]; omega)] at b2
  have n1 := val_nonneg _ (byteL_take 4 hb)
  have n2 := val_nonneg _ (byteL_take 4 (byteL_drop 4 hb))
  have e := val_4 t h
  by_cases hv : val ((t.drop 4).take 4) ≥ 2147483648
  · rw [dt hv, if_neg (by omega)]; rfl
  · rw [df hv, if_pos (by omega), cond_false, or_wide _ _ n2 (by omega) n1 (by omega), ← e]

theorem ewide_short (k : Nat) (t : List Int) (hk : 7 < k) (hb : byteL t) (h : t.length < 8) : ∃ v, scroll_Eye_Wide.f k (t, false) = some (v, ([], true)) ∧ 0 ≤ v ∧ v < 4294967296 := by
  by_cases h4 : t.length < 4
  · unfold scroll_Eye_Wide.f scroll_Eye_Wide.tree
    rw [eget_bad k 4 _ (by omega) (.inr (by rw [cl7_4]; exact h4))]
    simp only [Option.bind_some]
    rw [eget_bad k 4 _ (by omega) (.inl rfl)]
    exact ⟨0, rfl, by omega, by omega⟩
  · unfold scroll_Eye_Wide.f scroll_Eye_Wide.tree
    rw [eget_take k 4 t hk hb (by rw [cl7_4]; omega), cl7_4]
    simp only [Option.bind_some]
    rw [eget_bad k 4 _ (by omega) (.inr (by rw [cl7_4, List.length_drop]; omega))]
    have b1 := val_lt _ (byteL_take 4 hb)
    rw [List.length_take_of_le (by omega)] at b1
    have n1 := val_nonneg _ (byteL_take 4 hb)
    refine ⟨val (t.take 4), ?_, n1, by omega⟩
    simp only [Option.bind_some]
    rw [df (by omega), cond_false, or_wide 0 _ (by omega) (by omega) n1 (by omega)]
    simp

/-- A count of so many bytes behind its first one. -/
def cw (r : List Int) (w : Nat) (least most : Int) : Option (Int × Nat) :=
  if r.length < w then none else if val (r.take w) < least ∨ most < val (r.take w) ∨ 9223372036854775808 ≤ val (r.take w) then none else some (val (r.take w), w + 1)

/-- The count with which bytes begin, and how many bytes it has. -/
def counted : List Int → Int → Option (Int × Nat)
  | [], _ => none
  | b :: r, most => if b = 253 then cw r 2 253 most else if b = 254 then cw r 4 65536 most else if b = 255 then cw r 8 4294967296 most else if most < b then none else some (b, 1)

def eyeOf (t : List Int) : Option (Int × Nat) → Int × (List Int × Bool)
  | some (v, u) => (v, (t.drop u, false))
  | none => (0, ([], true))

theorem take_drop_cons (b : Int) (r : List Int) : (b :: r).take 1 = [b] ∧ (b :: r).drop 1 = r := ⟨rfl, rfl⟩

theorem ecount_bad (k : Nat) (most : Int) (m : List Int × Bool) (hk : 0 < k) (h : m.2 = true ∨ m.1 = []) (hm : most < 0 ∨ True) : scroll_Eye_Count.f k most m = some (0, ([], true)) := by
  unfold scroll_Eye_Count.f scroll_Eye_Count.tree
  rw [eget_bad k 1 m hk (h.imp id (fun h => by rw [h]; decide))]
  simp only [Option.bind_some]
  rw [beqf (by omega), beqf (by omega), beqf (by omega), df (by omega)]
  simp only [cond_false]
  by_cases h : (0 : Int) > most
  · rw [dt h]; rfl
  · rw [df h]; rfl

theorem ecount_eq (k : Nat) (most : Int) (t : List Int) (hk : 7 < k) (hb : byteL t) : scroll_Eye_Count.f k most (t, false) = some (eyeOf t (counted t most)) := by
  cases t with
  | nil => exact ecount_bad k most _ (by omega) (.inr rfl) (.inr trivial)
  | cons b r =>
    have hb' := byteL_cons.1 hb
    unfold scroll_Eye_Count.f scroll_Eye_Count.tree
    rw [eget_take k 1 _ hk hb (by rw [cl7_1]; simp), cl7_1]
    simp only [Option.bind_some, (take_drop_cons b r).1, (take_drop_cons b r).2]
    have ev : val [b] = b := by simp [val]
    rw [ev]
    by_cases h1 : b = 253
    · subst h1
      rw [beqt rfl, cond_true]
      simp only [counted, if_true, cw]
      by_cases hl : r.length < 2
      · rw [if_pos hl, eget_bad k 2 _ (by omega) (.inr (by rw [cl7_2]; exact hl))]
        rfl
      · rw [if_neg hl, eget_take k 2 r hk hb'.2 (by rw [cl7_2]; omega), cl7_2]
        simp only [Option.bind_some]
        have b1 := val_lt _ (byteL_take 2 hb'.2)
        rw [List.length_take_of_le (by omega)] at b1
        by_cases h2 : val (r.take 2) < 253
        · rw [dt h2, if_pos (.inl h2)]; rfl
        · rw [df h2, cond_false]
          by_cases h3 : val (r.take 2) > most
          · rw [dt h3, if_pos (.inr (.inl h3))]; rfl
          · rw [df h3, if_neg (by omega)]; rfl
    rw [beqf h1, cond_false]
    by_cases h2 : b = 254
    · subst h2
      rw [beqt rfl, cond_true]
      simp only [counted, if_neg h1, if_true, cw]
      by_cases hl : r.length < 4
      · rw [if_pos hl, eget_bad k 4 _ (by omega) (.inr (by rw [cl7_4]; exact hl))]
        rfl
      · rw [if_neg hl, eget_take k 4 r hk hb'.2 (by rw [cl7_4]; omega), cl7_4]
        simp only [Option.bind_some]
        have b1 := val_lt _ (byteL_take 4 hb'.2)
        rw [List.length_take_of_le (by omega)] at b1
        by_cases h2 : val (r.take 4) < 65536
        · rw [dt h2, if_pos (.inl h2)]; rfl
        · rw [df h2, cond_false]
          by_cases h3 : val (r.take 4) > most
          · rw [dt h3, if_pos (.inr (.inl h3))]; rfl
          · rw [df h3, if_neg (by omega)]; rfl
    rw [beqf h2, cond_false]
    by_cases h3 : b = 255
    · subst h3
      rw [beqt rfl, cond_true]
      simp only [counted, if_neg h1, if_neg h2, if_true, cw]
      by_cases hl : r.length < 8
      · obtain ⟨v, hv, v0, v1⟩ := ewide_short k r hk hb'.2 hl
        rw [if_pos hl, hv]
        simp only [Option.bind_some]
        rw [dt v1]
        rfl
      · rw [if_neg hl, ewide_take k r hk hb'.2 (by omega)]
        by_cases hv : val (r.take 8) < 9223372036854775808
        · rw [if_pos hv]
          simp only [Option.bind_some]
          by_cases h2 : val (r.take 8) < 4294967296
          · rw [dt h2, if_pos (.inl h2)]; rfl
          · rw [df h2, cond_false]
            by_cases h3 : val (r.take 8) > most
            · rw [dt h3, if_pos (.inr (.inl h3))]; rfl
            · rw [df h3, if_neg (by omega)]; rfl
        · rw [if_neg hv, if_pos (by omega)]
          rfl
    rw [beqf h3, cond_false, df (by omega), cond_false]
    simp only [counted, if_neg h1, if_neg h2, if_neg h3]
    by_cases h4 : b > most
    · rw [dt h4, if_pos h4]; rfl
    · rw [df h4, if_neg (by omega)]; rfl

end Go.Proofs.YtkgpjplncfginaaGreatDoor.Sy
