/- Own lemmas of other seats, turned to this one (pruneq.py). -/
import Derived.Test.YtkcdbbflelgbeaaDoorQ63
namespace Go.Proofs.YtkcdbbflelgbeaaDoor.Sy
open Go
set_option linter.unusedVariables false
set_option linter.unusedSimpArgs false

theorem write0_l2 (k : Nat) (x9 x10 : Int) (y1 : List (List Int)) (z : Int) (hk : 100 < k) : ∀ (d n : Nat) (h p : List Int), 64 * d ≤ p.length → p.length < 64 * (d + 1) → d < n → okW h → byteL p →
    digest_Hasher_Write.l2.f k x9 x10 y1 K64 n h z p = some (proc d h p, z, p.drop (64 * d)) := by
  intro d
  induction d with
  | zero =>
    intro n h p h0 h1 hn hh hb
    obtain ⟨n, rfl⟩ : ∃ q, n = q + 1 := ⟨n - 1, by omega⟩
    unfold digest_Hasher_Write.l2.f digest_Hasher_Write.l2.go digest_Hasher_Write.l2.step
    rw [df (by omega)]
    rfl
  | succ d ih =>
    intro n h p h0 h1 hn hh hb
    obtain ⟨n, rfl⟩ : ∃ q, n = q + 1 := ⟨n - 1, by omega⟩
    have ih' := ih n (comp h (p.take 64)) (p.drop 64) (by rw [List.length_drop]; omega) (by rw [List.length_drop]; omega) (by omega) (okW_comp hh) (byteL_drop _ hb)
    unfold digest_Hasher_Write.l2.f at ih' ⊢
    unfold digest_Hasher_Write.l2.go digest_Hasher_Write.l2.step
    rw [dt (by omega), cond_true, cond_true, take0_eq k h z (p.take 64) p hk hh (byteL_take _ hb) (by rw [List.length_take]; omega), Option.bind_some, cond_true, ih']
    rw [proc, List.drop_drop, Nat.mul_succ, Nat.add_comm]

theorem write0_l0 (k : Nat) (parts : List (List Int)) (hp : ∀ q ∈ parts, byteL q) (hk : 20000 < k) (hpl : parts.length ≤ 1000000) : ∀ (d n i : Nat) (T : List Int), i + d = parts.length → d < n → byteL T → T.length + (parts.drop i).flatten.length ≤ 1000000 →
    digest_Hasher_Write.l0.f k (parts.length : Int) parts K64 n (i : Int) (took T).st (took T).size (took T).rest = some ((parts.length : Int), (took (T ++ (parts.drop i).flatten)).st, (took (T ++ (parts.drop i).flatten)).size, (took (T ++ (parts.drop i).flatten)).rest) := by
  intro d
  induction d with
  | zero =>
    intro n i T hi hn hT hl
    obtain ⟨n, rfl⟩ : ∃ q, n = q + 1 := ⟨n - 1, by omega⟩
    unfold digest_Hasher_Write.l0.f digest_Hasher_Write.l0.go digest_Hasher_Write.l0.step
    have : i = parts.length := by omega
    subst this
    rw [df (Int.lt_irrefl _), List.drop_length, List.flatten_nil, List.append_nil]
    rfl
  | succ d ih =>
    intro n i T hi hn hT hl
    obtain ⟨n, rfl⟩ : ∃ q, n = q + 1 := ⟨n - 1, by omega⟩
    have hlt : i < parts.length := by omega
    have hq := hp _ (List.getElem_mem hlt)
    have ed : (parts.drop i).flatten = parts[i] ++ (parts.drop (i + 1)).flatten := by rw [List.drop_eq_getElem_cons hlt]; rfl
    rw [ed, List.length_append] at hl
    have ih' := ih n (i + 1) (T ++ parts[i]) (by omega) (by omega) (byteL_append hT hq) (by rw [List.length_append]; omega)
    unfold digest_Hasher_Write.l0.f at ih' ⊢
    unfold digest_Hasher_Write.l0.go digest_Hasher_Write.l0.step
    have c1 : decide ((i : Int) < (parts.length : Int)) = true := dt (by omega)
    have c2 : decide ((0 : Int) ≤ (i : Int)) = true := dt (by omega)
    have c3 : decide (i < parts.length) = true := dt hlt
    have e1 : addI .i64 (i : Int) 1 = ((i + 1 : Nat) : Int) := add_id (by omega) (by omega)
    have e2 : parts.getD i ([] : List Int) = parts[i] := by rw [List.getD_eq_getElem?_getD, List.getElem?_eq_getElem hlt]; rfl
    have hr := took_rest_len T
    simp only [c1, c2, c3, cond_true, Int.toNat_natCast, e1, e2]
    rw [fits_ok (by omega), cond_true]
    have hz : addI .u64 (took T).size (IntKind.wrap .u64 (parts[i].length : Int)) = (took T).size + (parts[i].length : Int) := by
      have : (took T).size = (T.length : Int) := rfl
      rw [this]; unfold addI; rw [w_u64, w_u64]; omega
    rw [hz, write0_l2 k _ _ _ _ (by omega) (((took T).rest ++ parts[i]).length / 64) k (took T).st ((took T).rest ++ parts[i]) (by omega) (by omega) (by rw [List.length_append]; omega) (took_okW T) (byteL_append (took_rest_byteL hT) hq), Option.bind_some]
    have ha := took_add T parts[i]
    rw [ha] at ih'
    rw [ih', ed, List.append_assoc]

theorem write0_eq (k : Nat) (T : List Int) (parts : List (List Int)) (hT : byteL T) (hp : ∀ q ∈ parts, byteL q) (hk : 20000 < k) (hpk : parts.length < k) (hpl : parts.length ≤ 1000000) (hl : T.length + parts.flatten.length ≤ 1000000) (hr : (took T).rest = []) :
    digest_Hasher_Write.f k (took T).st (took T).size parts K64 = some ((took (T ++ parts.flatten)).st, (took (T ++ parts.flatten)).size, (took (T ++ parts.flatten)).rest) := by
  unfold digest_Hasher_Write.f digest_Hasher_Write.tree
  have := write0_l0 k parts hp hk hpl parts.length k 0 T (by omega) hpk hT (by simpa using hl)
  rw [show ((0 : Nat) : Int) = 0 from rfl, List.drop_zero] at this
  rw [hr] at this
  rw [this]
  rfl

theorem shr64 (x : Int) (i : Nat) (hi : i < 8) : IntKind.wrap .u8 (shrI .u64 x ((8 * i : Nat) : Int)) = x / 256 ^ i % 256 := by
  rw [IntKind.wrap_u8]
  congr 1
  unfold shrI
  have e : min ((8 * i : Nat) : Int).toNat (IntKind.bits .u64) = 8 * i := by
    have : IntKind.bits .u64 = 64 := rfl
    rw [this]; omega
  rw [e, Int.fdiv_eq_ediv_of_nonneg _ (Int.le_of_lt (Int.pow_pos (by omega))), Int.pow_mul]
  rfl

theorem sum_l0 (k : Nat) (y00 : List Int) (y01 : Int) (y1 y2 y3 y40 : List Int) (y41 : Int) : ∀ (d n : Nat) (l : List Int), zc l.length = d → d < n → l.length + d ≤ 100000000 →
    digest_Hasher_Sum.l0.f k y00 y01 y1 y2 y3 y40 y41 n l = some (l ++ List.replicate d 0) := by
  intro d
  induction d with
  | zero =>
    intro n l hz hn hl
    obtain ⟨n, rfl⟩ : ∃ q, n = q + 1 := ⟨n - 1, by omega⟩
    unfold digest_Hasher_Sum.l0.f digest_Hasher_Sum.l0.go digest_Hasher_Sum.l0.step
    rw [rem64, bne_f (by unfold zc at hz; omega)]
    simp
  | succ d ih =>
    intro n l hz hn hl
    obtain ⟨n, rfl⟩ : ∃ q, n = q + 1 := ⟨n - 1, by omega⟩
    have ih' := ih n (l ++ [0]) (by rw [List.length_append]; unfold zc at hz ⊢; simp; omega) (by omega) (by simp; omega)
    unfold digest_Hasher_Sum.l0.f at ih' ⊢
    unfold digest_Hasher_Sum.l0.go digest_Hasher_Sum.l0.step
    rw [rem64, bne_t (by unfold zc at hz; omega), cond_true, fits_ok (by omega), cond_true, ih', List.append_assoc]
    rfl

theorem sum_l2 (k : Nat) (y00 : List Int) (y01 v : Int) (hv : mulI .u64 y01 8 = v) (y1 y2 y3 y40 : List Int) (y41 : Int) : ∀ (i n : Nat) (l : List Int), i ≤ 8 → i < n → l.length + i ≤ 100000000 →
    ∃ x, digest_Hasher_Sum.l2.f k y00 y01 y1 y2 y3 y40 y41 n ((i : Int) - 1) l = some (x, l ++ bd i v) := by
  intro i
  induction i with
  | zero =>
    intro n l hi hn hl
    obtain ⟨n, rfl⟩ : ∃ q, n = q + 1 := ⟨n - 1, by omega⟩
    unfold digest_Hasher_Sum.l2.f digest_Hasher_Sum.l2.go digest_Hasher_Sum.l2.step
    rw [df (by omega)]
    exact ⟨_, by simp [bd]; rfl⟩
  | succ i ih =>
    intro n l hi hn hl
    obtain ⟨n, rfl⟩ : ∃ q, n = q + 1 := ⟨n - 1, by omega⟩
    obtain ⟨x, ih'⟩ := ih n (l ++ [v / 256 ^ i % 256]) (by omega) (by omega) (by simp; omega)
    unfold digest_Hasher_Sum.l2.f at ih' ⊢
    unfold digest_Hasher_Sum.l2.go digest_Hasher_Sum.l2.step
    have e0 : ((i + 1 : Nat) : Int) - 1 = (i : Int) := by omega
    have m8 : mulI .i64 8 (i : Int) = ((8 * i : Nat) : Int) := by rw [mul_id (by omega) (by omega)]; omega
    have s1 : subI .i64 (i : Int) 1 = (i : Int) - 1 := sub_id (by omega) (by omega)
    rw [e0, dt (by omega), cond_true, m8, df (by omega), cond_false, fits_ok (by omega), cond_true, hv, shr64 v i (by omega), s1, ih']
    exact ⟨x, by rw [bd, List.append_assoc]; rfl⟩

theorem sum_l4 (k : Nat) (y00 : List Int) (y01 : Int) (y2 y3 : List Int) (z : Int) (hk : 100 < k) : ∀ (d n : Nat) (h p : List Int), p.length = 64 * d → d < n → okW h → byteL p →
    digest_Hasher_Sum.l4.f k y00 y01 K64 y2 y3 n h z p = some (proc d h p, z, []) := by
  intro d
  induction d with
  | zero =>
    intro n h p h0 hn hh hb
    obtain ⟨n, rfl⟩ : ∃ q, n = q + 1 := ⟨n - 1, by omega⟩
    unfold digest_Hasher_Sum.l4.f digest_Hasher_Sum.l4.go digest_Hasher_Sum.l4.step
    have : p = [] := List.eq_nil_of_length_eq_zero (by omega)
    subst this
    rfl
  | succ d ih =>
    intro n h p h0 hn hh hb
    obtain ⟨n, rfl⟩ : ∃ q, n = q + 1 := ⟨n - 1, by omega⟩
    have ih' := ih n (comp h (p.take 64)) (p.drop 64) (by rw [List.length_drop]; omega) (by omega) (okW_comp hh) (byteL_drop _ hb)
    unfold digest_Hasher_Sum.l4.f at ih' ⊢
    unfold digest_Hasher_Sum.l4.go digest_Hasher_Sum.l4.step
    rw [dt (by omega), cond_true, dt (by omega), cond_true, take1_eq k h z (p.take 64) hk hh (byteL_take _ hb) (by rw [List.length_take]; omega), Option.bind_some, cond_true, ih']
    rfl

theorem shr_lit {x : Int} (e : Nat) (he : e ≤ 3) (c : Int) (hc : c = ((8 * e : Nat) : Int)) : IntKind.wrap .u8 (shrI .u32 x c) = x / 256 ^ e % 256 := by
  rw [hc, shr_u32 x e he, IntKind.wrap_u8]

theorem sum_l6 (k : Nat) (h y00 : List Int) (y01 : Int) (y1 y2 y3 : List Int) : ∀ (d n i : Nat) (o : List Int), i + d = 8 → d < n →
    digest_Hasher_Sum.l6.f k h y00 y01 y1 y2 y3 n (i : Int) o = some (8, outB h (4 * d) (4 * i) o) := by
  intro d
  induction d with
  | zero =>
    intro n i o hi hn
    obtain ⟨n, rfl⟩ : ∃ q, n = q + 1 := ⟨n - 1, by omega⟩
    unfold digest_Hasher_Sum.l6.f digest_Hasher_Sum.l6.go digest_Hasher_Sum.l6.step
    have : i = 8 := by omega
    subst this
    rw [df (by omega)]
    rfl
  | succ d ih =>
    intro n i o hi hn
    obtain ⟨n, rfl⟩ : ∃ q, n = q + 1 := ⟨n - 1, by omega⟩
    have ih' := ih n (i + 1) ((((o.set (4 * i) (byteAt h (4 * i))).set (4 * i + 1) (byteAt h (4 * i + 1))).set (4 * i + 2) (byteAt h (4 * i + 2))).set (4 * i + 3) (byteAt h (4 * i + 3))) (by omega) (by omega)
    have eo : outB h (4 * (d + 1)) (4 * i) o = outB h (4 * d) (4 * (i + 1)) ((((o.set (4 * i) (byteAt h (4 * i))).set (4 * i + 1) (byteAt h (4 * i + 1))).set (4 * i + 2) (byteAt h (4 * i + 2))).set (4 * i + 3) (byteAt h (4 * i + 3))) := by
      have e1 : 4 * (d + 1) = 4 * d + 1 + 1 + 1 + 1 := by omega
      have e2 : 4 * (i + 1) = 4 * i + 1 + 1 + 1 + 1 := by omega
      rw [e1, e2]; rfl
    unfold digest_Hasher_Sum.l6.f at ih' ⊢
    unfold digest_Hasher_Sum.l6.go digest_Hasher_Sum.l6.step
    have m4 : mulI .i64 4 (i : Int) = ((4 * i : Nat) : Int) := by rw [mul_id (by omega) (by omega)]; omega
    have a1 : addI .i64 ((4 * i : Nat) : Int) 1 = ((4 * i + 1 : Nat) : Int) := add_id (by omega) (by omega)
    have a2 : addI .i64 ((4 * i : Nat) : Int) 2 = ((4 * i + 2 : Nat) : Int) := add_id (by omega) (by omega)
    have a3 : addI .i64 ((4 * i : Nat) : Int) 3 = ((4 * i + 3 : Nat) : Int) := add_id (by omega) (by omega)
    have e1 : addI .i64 (i : Int) 1 = ((i + 1 : Nat) : Int) := add_id (by omega) (by omega)
    have b0 : byteAt h (4 * i) = h.getD i 0 / 256 ^ 3 % 256 := by unfold byteAt; rw [show 4 * i / 4 = i by omega, show 4 * i % 4 = 0 by omega]
    have b1 : byteAt h (4 * i + 1) = h.getD i 0 / 256 ^ 2 % 256 := by unfold byteAt; rw [show (4 * i + 1) / 4 = i by omega, show (4 * i + 1) % 4 = 1 by omega]
    have b2 : byteAt h (4 * i + 2) = h.getD i 0 / 256 ^ 1 % 256 := by unfold byteAt; rw [show (4 * i + 2) / 4 = i by omega, show (4 * i + 2) % 4 = 2 by omega]
    have b3 : byteAt h (4 * i + 3) = h.getD i 0 % 256 := by unfold byteAt; rw [show (4 * i + 3) / 4 = i by omega, show (4 * i + 3) % 4 = 3 by omega]; simp
    rw [eo, ← ih', b0, b1, b2, b3]
    simp only [m4, a1, a2, a3, e1, Int.toNat_natCast]
    rw [shr_lit 3 (by omega) 24 rfl, shr_lit 2 (by omega) 16 rfl, shr_lit 1 (by omega) 8 rfl, IntKind.wrap_u8 (h.getD i 0)]
    repeat rw [dt (by omega), cond_true]
    rfl

theorem hsum_eq (k : Nat) (T : List Int) (hT : byteL T) (hl : T.length ≤ 1000000) (hk : 20000 < k) : digest_Hasher_Sum.f k (took T).st (took T).size K64 (took T).rest = some (sha T) := by
  unfold digest_Hasher_Sum.f digest_Hasher_Sum.tree
  have hr := took_rest_len T
  have hrb := took_rest_byteL hT
  have hz : zc (T.length + 1) < 64 := by unfold zc; omega
  have el : ((took T).rest ++ [(128 : Int)]).length = (took T).rest.length + 1 := by simp
  have ez : zc ((took T).rest ++ [(128 : Int)]).length = zc (T.length + 1) := by rw [el, hr]; unfold zc; omega
  have hm : mulI .u64 (took T).size 8 = 8 * (T.length : Int) := by
    have : (took T).size = (T.length : Int) := rfl
    rw [this]; unfold mulI; rw [w_u64]; omega
  rw [fits_ok (by omega), cond_true, fits_ok (by omega), cond_true]
  rw [sum_l0 k _ _ _ _ _ _ _ (zc (T.length + 1)) k _ ez (by omega) (by omega), Option.bind_some]
  obtain ⟨x, h2⟩ := sum_l2 k (took T).st (took T).size _ hm K64 (took T).rest z32 (took T).st 0 8 k ((took T).rest ++ [128] ++ List.replicate (zc (T.length + 1)) 0) (by omega) (by omega) (by simp; omega)
  rw [show ((8 : Nat) : Int) - 1 = 7 from rfl] at h2
  rw [h2, Option.bind_some]
  have ep : (took T).rest ++ [128] ++ List.replicate (zc (T.length + 1)) 0 ++ bd 8 (8 * (T.length : Int)) = (took T).rest ++ padOf T.length := by unfold padOf; simp
  simp only
  rw [ep]
  have hpl := padOf_length T.length
  have hpm := pad_len T.length
  have h4 := sum_l4 k (took T).st (took T).size (took T).rest z32 0 (by omega) (((took T).rest ++ padOf T.length).length / 64) k (took T).st ((took T).rest ++ padOf T.length) (by rw [List.length_append]; omega) (by rw [List.length_append]; omega) (took_okW T) (byteL_append hrb (padOf_byteL _))
  rw [h4, Option.bind_some, sum_pad]
  have h6 := sum_l6 k (proc ((pad T).length / 64) H8 (pad T)) (took T).st (took T).size K64 (took T).rest z32 8 k 0 z32 (by omega) (by omega)
  rw [show ((0 : Nat) : Int) = 0 from rfl] at h6
  simp only
  rw [h6]
  unfold sha outS
  generalize proc ((pad T).length / 64) H8 (pad T) = S
  generalize outB S 32 0 z32 = o
  rfl

theorem of_eq (k : Nat) (parts : List (List Int)) (hp : ∀ q ∈ parts, byteL q) (hk : 20000 < k) (hpk : parts.length < k) (hpl : parts.length ≤ 1000000) (hl : parts.flatten.length ≤ 1000000) : digest_Of.f k parts H8 K64 = some (sha parts.flatten) := by
  unfold digest_Of.f digest_Of.tree
  have e : digest_New.f k H8 = some ((took []).st, (took []).size) := rfl
  have hfb : byteL parts.flatten := by
    intro y hy
    obtain ⟨q, hq, hy⟩ := List.mem_flatten.1 hy
    exact hp q hq y hy
  rw [e, Option.bind_some]
  simp only
  rw [write0_eq k [] parts byteL_nil hp hk hpk hpl (by simpa using hl) rfl, Option.bind_some, List.nil_append]
  simp only
  rw [hsum_eq k _ hfb hl hk]
  rfl

theorem of1_eq (k : Nat) (s : List Int) (hb : byteL s) (hk : 20000 < k) (hl : s.length ≤ 1000000) : digest_Of.f k [s] H8 K64 = some (sha s) := by
  have := of_eq k [s] (by intro q hq; rw [List.mem_singleton.1 hq]; exact hb) hk (by simp; omega) (by simp) (by simpa using hl)
  rw [this]
  simp

theorem double_eq (k : Nat) (parts : List (List Int)) (hp : ∀ q ∈ parts, byteL q) (hk : 20000 < k) (hpk : parts.length < k) (hpl : parts.length ≤ 1000000) (hl : parts.flatten.length ≤ 1000000) : digest_Double.f k parts H8 K64 = some (sha (sha parts.flatten)) := by
  unfold digest_Double.f digest_Double.tree
  rw [of_eq k parts hp hk hpk hpl hl, Option.bind_some, List.take_of_length_le (by rw [sha_length]; omega), toStr_id _ (sha_byteL _), of1_eq k _ (sha_byteL _) hk (by rw [sha_length]; omega)]
  rfl

theorem double1_eq (k : Nat) (s : List Int) (hb : byteL s) (hk : 20000 < k) (hl : s.length ≤ 1000000) : digest_Double.f k [s] H8 K64 = some (sha (sha s)) := by
  have := double_eq k [s] (by intro q hq; rw [List.mem_singleton.1 hq]; exact hb) hk (by simp; omega) (by simp) (by simpa using hl)
  rw [this]
  simp

end Go.Proofs.YtkcdbbflelgbeaaDoor.Sy
