/- The hasher, asked in parts. -/
import Derived.Test.YtnnajeoeeefjaaaDoorQ64
import Derived.Test.YtnnajeoeeefjaaaDoorWP
namespace Go.Proofs.YtnnajeoeeefjaaaDoor.Sy
open Go
set_option linter.unusedVariables false
set_option linter.unusedSimpArgs false

theorem write1_l2 (k : Nat) (x9 x10 : Int) (y1 : List (List Int)) (z : Int) (hk : 100 < k) : ∀ (d n : Nat) (h p : List Int), 64 * d ≤ p.length → p.length < 64 * (d + 1) → d < n → okW h → byteL p →
    digest_Hasher_Write_v1.l2.f k x9 x10 y1 K64 n h z p = some (proc d h p, z, p.drop (64 * d)) := by
  intro d
  induction d with
  | zero =>
    intro n h p h0 h1 hn hh hb
    obtain ⟨n, rfl⟩ : ∃ q, n = q + 1 := ⟨n - 1, by omega⟩
    unfold digest_Hasher_Write_v1.l2.f digest_Hasher_Write_v1.l2.go digest_Hasher_Write_v1.l2.step
    rw [df (by omega)]
    rfl
  | succ d ih =>
    intro n h p h0 h1 hn hh hb
    obtain ⟨n, rfl⟩ : ∃ q, n = q + 1 := ⟨n - 1, by omega⟩
    have ih' := ih n (comp h (p.take 64)) (p.drop 64) (by rw [List.length_drop]; omega) (by rw [List.length_drop]; omega) (by omega) (okW_comp hh) (byteL_drop _ hb)
    unfold digest_Hasher_Write_v1.l2.f at ih' ⊢
    unfold digest_Hasher_Write_v1.l2.go digest_Hasher_Write_v1.l2.step
    rw [dt (by omega), cond_true, cond_true, take0_eq k h z (p.take 64) p hk hh (byteL_take _ hb) (by rw [List.length_take]; omega), Option.bind_some, cond_true, ih']
    rw [proc, List.drop_drop, Nat.mul_succ, Nat.add_comm]

theorem write1_l0 (k : Nat) (parts : List (List Int)) (hp : ∀ q ∈ parts, byteL q) (hk : 20000 < k) (hpl : parts.length ≤ 1000000) : ∀ (d n i : Nat) (T : List Int), i + d = parts.length → d < n → byteL T → T.length + (parts.drop i).flatten.length ≤ 1000000 →
    digest_Hasher_Write_v1.l0.f k (parts.length : Int) parts K64 n (i : Int) (took T).st (took T).size (took T).rest = some ((parts.length : Int), (took (T ++ (parts.drop i).flatten)).st, (took (T ++ (parts.drop i).flatten)).size, (took (T ++ (parts.drop i).flatten)).rest) := by
  intro d
  induction d with
  | zero =>
    intro n i T hi hn hT hl
    obtain ⟨n, rfl⟩ : ∃ q, n = q + 1 := ⟨n - 1, by omega⟩
    unfold digest_Hasher_Write_v1.l0.f digest_Hasher_Write_v1.l0.go digest_Hasher_Write_v1.l0.step
    have : i = parts.length := by omega
    subst this
    rw [df (Int.lt_irrefl _), List.drop_length, List.flatten_nil, List.append_nil]
    rfl
  | succ d ih =>
    intro n i T hi hn hT hl
    obtain ⟨n, rfl⟩ : ∃ q, n = q + 1 := ⟨n - 1, by omega⟩
    have hlt : i < parts.length := by omega
    have hq := hp _ (List.getElem_mem hlt)
    have ed : (parts.drop i).flatten = parts[i] ++ (parts.drop (i + 1)).flatten := by rw [List.drop_eq_getElem_cons hlt]; rfl
    rw [ed, List.length_append] at hl
    have ih' := ih n (i + 1) (T ++ parts[i]) (by omega) (by omega) (byteL_append hT hq) (by rw [List.length_append]; omega)
    unfold digest_Hasher_Write_v1.l0.f at ih' ⊢
    unfold digest_Hasher_Write_v1.l0.go digest_Hasher_Write_v1.l0.step
    have c1 : decide ((i : Int) < (parts.length : Int)) = true := dt (by omega)
    have c2 : decide ((0 : Int) ≤ (i : Int)) = true := dt (by omega)
    have c3 : decide (i < parts.length) = true := dt hlt
    have e1 : addI .i64 (i : Int) 1 = ((i + 1 : Nat) : Int) := add_id (by omega) (by omega)
    have e2 : parts.getD i ([] : List Int) = parts[i] := by rw [List.getD_eq_getElem?_getD, List.getElem?_eq_getElem hlt]; rfl
    have hr := took_rest_len T
    simp only [c1, c2, c3, cond_true, Int.toNat_natCast, e1, e2]
    rw [fits_ok (by omega), cond_true]
    have hz : addI .u64 (took T).size (IntKind.wrap .u64 (parts[i].length : Int)) = (took T).size + (parts[i].length : Int) := by
      have : (took T).size = (T.length : Int) := rfl
      rw [this]; unfold addI; rw [w_u64, w_u64]; omega
    rw [hz, write1_l2 k _ _ _ _ (by omega) (((took T).rest ++ parts[i]).length / 64) k (took T).st ((took T).rest ++ parts[i]) (by omega) (by omega) (by rw [List.length_append]; omega) (took_okW T) (byteL_append (took_rest_byteL hT) hq), Option.bind_some]
    have ha := took_add T parts[i]
    rw [ha] at ih'
    rw [ih', ed, List.append_assoc]

theorem write1_eq (k : Nat) (T : List Int) (parts : List (List Int)) (hT : byteL T) (hp : ∀ q ∈ parts, byteL q) (hk : 20000 < k) (hpk : parts.length < k) (hpl : parts.length ≤ 1000000) (hl : T.length + parts.flatten.length ≤ 1000000) :
    digest_Hasher_Write_v1.f k (took T).st (took T).size parts K64 (took T).rest = some ((took (T ++ parts.flatten)).st, (took (T ++ parts.flatten)).size, (took (T ++ parts.flatten)).rest) := by
  unfold digest_Hasher_Write_v1.f digest_Hasher_Write_v1.tree
  have := write1_l0 k parts hp hk hpl parts.length k 0 T (by omega) hpk hT (by simpa using hl)
  rw [show ((0 : Nat) : Int) = 0 from rfl, List.drop_zero] at this
  rw [this]
  rfl

theorem write3_l2 (k : Nat) (x9 x10 : Int) (y1 : List (List Int)) (z : Int) (hk : 100 < k) : ∀ (d n : Nat) (h p : List Int), 64 * d ≤ p.length → p.length < 64 * (d + 1) → d < n → okW h → byteL p →
    digest_Hasher_Write_v3.l2.f k x9 x10 y1 K64 n h z p = some (proc d h p, z, p.drop (64 * d)) := by
  intro d
  induction d with
  | zero =>
    intro n h p h0 h1 hn hh hb
    obtain ⟨n, rfl⟩ : ∃ q, n = q + 1 := ⟨n - 1, by omega⟩
    unfold digest_Hasher_Write_v3.l2.f digest_Hasher_Write_v3.l2.go digest_Hasher_Write_v3.l2.step
    rw [df (by omega)]
    rfl
  | succ d ih =>
    intro n h p h0 h1 hn hh hb
    obtain ⟨n, rfl⟩ : ∃ q, n = q + 1 := ⟨n - 1, by omega⟩
    have ih' := ih n (comp h (p.take 64)) (p.drop 64) (by rw [List.length_drop]; omega) (by rw [List.length_drop]; omega) (by omega) (okW_comp hh) (byteL_drop _ hb)
    unfold digest_Hasher_Write_v3.l2.f at ih' ⊢
    unfold digest_Hasher_Write_v3.l2.go digest_Hasher_Write_v3.l2.step
    rw [dt (by omega), cond_true, cond_true, take0_eq k h z (p.take 64) p hk hh (byteL_take _ hb) (by rw [List.length_take]; omega), Option.bind_some, cond_true, ih']
    rw [proc, List.drop_drop, Nat.mul_succ, Nat.add_comm]

theorem write3_l0 (k : Nat) (parts : List (List Int)) (hp : ∀ q ∈ parts, byteL q) (hk : 20000 < k) (hpl : parts.length ≤ 1000000) : ∀ (d n i : Nat) (T : List Int), i + d = parts.length → d < n → byteL T → T.length + (parts.drop i).flatten.length ≤ 1000000 →
    digest_Hasher_Write_v3.l0.f k (parts.length : Int) parts K64 n (i : Int) (took T).st (took T).size (took T).rest = some ((parts.length : Int), (took (T ++ (parts.drop i).flatten)).st, (took (T ++ (parts.drop i).flatten)).size, (took (T ++ (parts.drop i).flatten)).rest) := by
  intro d
  induction d with
  | zero =>
    intro n i T hi hn hT hl
    obtain ⟨n, rfl⟩ : ∃ q, n = q + 1 := ⟨n - 1, by omega⟩
    unfold digest_Hasher_Write_v3.l0.f digest_Hasher_Write_v3.l0.go digest_Hasher_Write_v3.l0.step
    have : i = parts.length := by omega
    subst this
    rw [df (Int.lt_irrefl _), List.drop_length, List.flatten_nil, List.append_nil]
    rfl
  | succ d ih =>
    intro n i T hi hn hT hl
    obtain ⟨n, rfl⟩ : ∃ q, n = q + 1 := ⟨n - 1, by omega⟩
    have hlt : i < parts.length := by omega
    have hq := hp _ (List.getElem_mem hlt)
    have ed : (parts.drop i).flatten = parts[i] ++ (parts.drop (i + 1)).flatten := by rw [List.drop_eq_getElem_cons hlt]; rfl
    rw [ed, List.length_append] at hl
    have ih' := ih n (i + 1) (T ++ parts[i]) (by omega) (by omega) (byteL_append hT hq) (by rw [List.length_append]; omega)
    unfold digest_Hasher_Write_v3.l0.f at ih' ⊢
    unfold digest_Hasher_Write_v3.l0.go digest_Hasher_Write_v3.l0.step
    have c1 : decide ((i : Int) < (parts.length : Int)) = true := dt (by omega)
    have c2 : decide ((0 : Int) ≤ (i : Int)) = true := dt (by omega)
    have c3 : decide (i < parts.length) = true := dt hlt
    have e1 : addI .i64 (i : Int) 1 = ((i + 1 : Nat) : Int) := add_id (by omega) (by omega)
    have e2 : parts.getD i ([] : List Int) = parts[i] := by rw [List.getD_eq_getElem?_getD, List.getElem?_eq_getElem hlt]; rfl
    have hr := took_rest_len T
    simp only [c1, c2, c3, cond_true, Int.toNat_natCast, e1, e2]
    rw [fits_ok (by omega), cond_true]
    have hz : addI .u64 (took T).size (IntKind.wrap .u64 (parts[i].length : Int)) = (took T).size + (parts[i].length : Int) := by
      have : (took T).size = (T.length : Int) := rfl
      rw [this]; unfold addI; rw [w_u64, w_u64]; omega
    rw [hz, write3_l2 k _ _ _ _ (by omega) (((took T).rest ++ parts[i]).length / 64) k (took T).st ((took T).rest ++ parts[i]) (by omega) (by omega) (by rw [List.length_append]; omega) (took_okW T) (byteL_append (took_rest_byteL hT) hq), Option.bind_some]
    have ha := took_add T parts[i]
    rw [ha] at ih'
    rw [ih', ed, List.append_assoc]

theorem write3_eq (k : Nat) (T : List Int) (parts : List (List Int)) (hT : byteL T) (hp : ∀ q ∈ parts, byteL q) (hk : 20000 < k) (hpk : parts.length < k) (hpl : parts.length ≤ 1000000) (hl : T.length + parts.flatten.length ≤ 1000000) (hr : (took T).rest = []) :
    digest_Hasher_Write_v3.f k (took T).st (took T).size parts K64 = some ((took (T ++ parts.flatten)).st, (took (T ++ parts.flatten)).size, (took (T ++ parts.flatten)).rest) := by
  unfold digest_Hasher_Write_v3.f digest_Hasher_Write_v3.tree
  have := write3_l0 k parts hp hk hpl parts.length k 0 T (by omega) hpk hT (by simpa using hl)
  rw [show ((0 : Nat) : Int) = 0 from rfl, List.drop_zero] at this
  rw [hr] at this
  rw [this]
  rfl

theorem ofv_eq (k : Nat) (parts : List (List Int)) (hp : ∀ q ∈ parts, byteL q) (hk : 20000 < k) (hpk : parts.length < k) (hpl : parts.length ≤ 1000000) (hl : parts.flatten.length ≤ 1000000) : digest_Of_v1.f k parts H8 K64 = some (sha parts.flatten) := by
  unfold digest_Of_v1.f digest_Of_v1.tree
  have e : digest_New.f k H8 = some ((took []).st, (took []).size) := rfl
  have hfb : byteL parts.flatten := by
    intro y hy
    obtain ⟨q, hq, hy⟩ := List.mem_flatten.1 hy
    exact hp q hq y hy
  rw [e, Option.bind_some]
  simp only
  rw [write3_eq k [] parts byteL_nil hp hk hpk hpl (by simpa using hl) rfl, Option.bind_some, List.nil_append]
  simp only
  rw [hsum_eq k _ hfb hl hk]
  rfl

theorem doublev_eq (k : Nat) (parts : List (List Int)) (hp : ∀ q ∈ parts, byteL q) (hk : 20000 < k) (hpk : parts.length < k) (hpl : parts.length ≤ 1000000) (hl : parts.flatten.length ≤ 1000000) : digest_Double_v1.f k parts H8 K64 = some (sha (sha parts.flatten)) := by
  unfold digest_Double_v1.f digest_Double_v1.tree
  rw [ofv_eq k parts hp hk hpk hpl hl, Option.bind_some, List.take_of_length_le (by rw [sha_length]; omega), toStr_id _ (sha_byteL _), of1_eq k _ (sha_byteL _) hk (by rw [sha_length]; omega)]
  rfl

end Go.Proofs.YtnnajeoeeefjaaaDoor.Sy
