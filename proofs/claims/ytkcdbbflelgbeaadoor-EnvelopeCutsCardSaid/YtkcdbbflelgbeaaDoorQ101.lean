/- Envelopes: what is taken. -/
import Derived.Test.YtkcdbbflelgbeaaDoorQ100
namespace Go.Proofs.YtkcdbbflelgbeaaDoor.Sy
open Go
set_option linter.unusedVariables false
set_option linter.unusedSimpArgs false

abbrev none7 : Env7 := ([], [])
def tkW (s : List Int) : List Int := trimRL ((s.drop 4).take 12) [0]
def tkN (s : List Int) : Int := val ((s.drop 16).take 4)
def tkP (s : List Int) : List Int := (s.drop 24).take (tkN s).toNat
def tkS (s : List Int) : List Int := (s.drop 20).take 4

/-- What is taken from bytes. -/
def tk (s : List Int) : Env7 × (Int × Int) :=
  if 4 ≤ s.length ∧ s.take 4 ≠ tail4 then (none7, 0, 4)
  else if s.length < 24 then (none7, 0, 7)
  else if wB (tkW s) = false ∨ 16384 < tkN s then (none7, 0, 4)
  else if (s.length : Int) < 24 + tkN s then (none7, 0, 7)
  else if sum4 (tkP s) ≠ tkS s then (none7, 0, 4)
  else ((tkW s, tkP s), 24 + tkN s, 0)

theorem val4b {t : List Int} (hb : byteL t) : 0 ≤ val (t.take 4) ∧ val (t.take 4) < 4294967296 := by
  have h := val_lt (t.take 4) (byteL_take 4 hb)
  have h2 : (256 : Int) ^ (t.take 4).length ≤ 256 ^ 4 := pow256_le (by rw [List.length_take]; omega)
  exact ⟨val_nonneg _ (byteL_take 4 hb), by omega⟩

theorem magic_iff {s : List Int} (hb : byteL s) (h4 : 4 ≤ s.length) : val (s.take 4) = 1279869268 ↔ s.take 4 = tail4 := by
  constructor
  · intro h
    have e : val tail4 = 1279869268 := by decide
    exact val_inj (byteL_take 4 hb) byteL_tail4 (by rw [List.length_take]; simp; omega) (h.trans e.symm)
  · intro h; rw [h]; decide

theorem trimR7 (k : Nat) (s : List Int) (h : s.length ≤ 12) : strings_TrimRight.f k s [0] = some (trimRL s [0]) := by
  show shTrimRight s [0] = _
  unfold shTrimRight
  have : (asciiL [0] && Nat.ble s.length 140737488355328) = true := by
    rw [Bool.and_eq_true]
    exact ⟨by decide, Nat.ble_eq_true_of_le (by omega)⟩
  rw [this]; rfl

theorem take_eq7 (k : Nat) (s : List Int) (hb : byteL s) (hl : s.length ≤ 1000000) (hk : 20000 < k) : envelope_Take.f k s H8 K64 = some (tk s) := by
  unfold envelope_Take.f envelope_Take.tree
  have e1 : scroll_On.f k s = some (s, false) := rfl
  rw [e1, Option.bind_some]
  unfold tk
  by_cases h4 : 4 ≤ s.length
  · rw [dt (by omega), cond_true, eget_take k 4 s (by omega) hb (by rw [cl7_4]; exact h4), cl7_4, Option.bind_some]
    by_cases hm : s.take 4 = tail4
    · have hv := (magic_iff hb h4).2 hm
      have b0 : (val (s.take 4) != (1279869268 : Int)) = false := by rw [hv]; rfl
      simp only [b0, cond_false]
      rw [if_neg (fun h : 4 ≤ s.length ∧ s.take 4 ≠ tail4 => h.2 hm)]
      by_cases h24 : s.length < 24
      · rw [dt (by omega), if_pos h24]; rfl
      · rw [df (by omega), cond_false, if_neg h24]
        have l4 : (s.drop 4).length = s.length - 4 := List.length_drop
        have l16 : (s.drop 16).length = s.length - 16 := List.length_drop
        have l20 : (s.drop 20).length = s.length - 20 := List.length_drop
        have l24 : (s.drop 24).length = s.length - 24 := List.length_drop
        have ew := eraw_take k 12 (s.drop 4) (by omega)
        rw [show ((12 : Nat) : Int) = 12 from rfl, List.drop_drop] at ew
        rw [ew, Option.bind_some]
        simp only []
        rw [trimR7 k _ (by rw [List.length_take]; omega), Option.bind_some, eget_take k 4 _ (by omega) (byteL_drop _ hb) (by rw [cl7_4, List.length_drop]; omega), cl7_4, Option.bind_some, List.drop_drop]
        have ew2 := eraw_take k 4 (s.drop (4 + 12 + 4)) (by rw [List.length_drop]; omega)
        rw [show ((4 : Nat) : Int) = 4 from rfl, List.drop_drop] at ew2
        simp only []
        rw [ew2, Option.bind_some, word_eq, Option.bind_some]
        have hv4 := val4b (byteL_drop 16 hb)
        have eN : val ((s.drop (4 + 12)).take 4) = tkN s := rfl
        have eW : trimRL ((s.drop 4).take 12) [0] = tkW s := rfl
        have hn0 : 0 ≤ tkN s := hv4.1
        simp only [eN, eW]
        cases hw : wB (tkW s)
        · rw [if_pos (.inl rfl)]; rfl
        · rw [Bool.not_true, cond_false]
          by_cases hmax : 16384 < tkN s
          · rw [dt (show tkN s > 16384 from hmax), if_pos (.inr hmax)]; rfl
          · rw [df (show ¬ tkN s > 16384 from hmax), cond_false, if_neg (fun h : true = false ∨ 16384 < tkN s => by
              rcases h with h | h
              · cases h
              · exact hmax h)]
            have eL : scroll_Eye_Left.f k (s.drop (4 + 12 + 4 + 4), false) = some (((s.drop 24).length : Nat) : Int) := rfl
            rw [eL, Option.bind_some]
            by_cases hlen : (s.length : Int) < 24 + tkN s
            · rw [dt (by omega), if_pos hlen]; rfl
            · rw [df (by omega), cond_false, if_neg hlen]
              have ew3 := eraw_take k (tkN s).toNat (s.drop 24) (by omega)
              rw [Int.toNat_of_nonneg hn0] at ew3
              have e24 : s.drop (4 + 12 + 4 + 4) = s.drop 24 := rfl
              rw [e24, ew3, Option.bind_some]
              simp only []
              have eP : (s.drop 24).take (tkN s).toNat = tkP s := rfl
              have lP : (tkP s).length ≤ 1000000 := by rw [← eP, List.length_take]; omega
              rw [eP, sum_eq k _ (show byteL (tkP s) from byteL_take _ (byteL_drop _ hb)) lP hk, Option.bind_some]
              have eS : (s.drop (4 + 12 + 4)).take 4 = tkS s := rfl
              rw [eS]
              by_cases hs : sum4 (tkP s) = tkS s
              · have ea : addI .i64 24 (tkN s) = 24 + tkN s := add_id (by omega) (by omega)
                rw [dt hs, if_neg (fun h : sum4 (tkP s) ≠ tkS s => h hs), ea]; rfl
              · rw [df hs, if_pos hs]; rfl
    · have b0 : (val (s.take 4) != (1279869268 : Int)) = true := by
        rw [bne_iff_ne]; exact fun h => hm ((magic_iff hb h4).1 h)
      simp only [b0, cond_true]
      rw [if_pos ⟨h4, hm⟩]
  · rw [df (by omega), cond_false, dt (by omega), cond_true, if_neg (fun h : 4 ≤ s.length ∧ s.take 4 ≠ tail4 => h4 h.1), if_pos (by omega)]

/-! ### The document -/

theorem rback7_l0 (k : Nat) (s : List Int) (hs : s.length ≤ 8) (hb : byteL s) : ∀ (i n : Nat), i ≤ s.length → i < n →
    ∃ y, trailheadref05_Back.l0.f k s n (val (s.drop i)) ((i : Int) - 1) = some (val s, y) := by
  intro i
  induction i with
  | zero =>
    intro n hi hd
    obtain ⟨n, rfl⟩ : ∃ q, n = q + 1 := ⟨n - 1, by omega⟩
    unfold trailheadref05_Back.l0.f trailheadref05_Back.l0.go trailheadref05_Back.l0.step
    rw [df (by omega)]
    exact ⟨_, rfl⟩
  | succ i ih =>
    intro n hi hd
    obtain ⟨n, rfl⟩ : ∃ q, n = q + 1 := ⟨n - 1, by omega⟩
    have hlt : i < s.length := by omega
    obtain ⟨y, this⟩ := ih n (by omega) (by omega)
    unfold trailheadref05_Back.l0.f at this ⊢
    unfold trailheadref05_Back.l0.go trailheadref05_Back.l0.step
    have e : (((i + 1 : Nat) : Int) - 1) = (i : Int) := by omega
    have e2 : s.getD i 0 = s[i] := by rw [List.getD_eq_getElem?_getD, List.getElem?_eq_getElem hlt]; rfl
    have hx := hb _ (List.getElem_mem hlt)
    have hv := val_lt _ (byteL_drop (i + 1) hb)
    have hv0 := val_nonneg _ (byteL_drop (i + 1) hb)
    rw [List.length_drop] at hv
    have hv2 : val (s.drop (i + 1)) < 256 ^ 7 := by
      have : (256 : Int) ^ (s.length - (i + 1)) ≤ 256 ^ 7 := pow256_le (by omega)
      omega
    rw [e, dt (by omega), dt (by omega), sub_id (by omega) (by omega)]
    simp only [cond_true, Int.toNat_natCast]
    have e3 : addI .u64 (mulI .u64 (val (s.drop (i + 1))) 256) (IntKind.wrap .u64 (s.getD i 0)) = val (s.drop i) := by
      rw [e2, List.drop_eq_getElem_cons hlt]
      unfold addI mulI
      rw [w_u64, w_u64, w_u64]
      simp only [val]
      omega
    rw [e3]
    exact ⟨y, this⟩

theorem rback7_eq (k : Nat) (s : List Int) (hs : s.length ≤ 4) (hb : byteL s) (hk : 8 < k) : trailheadref05_Back.f k s = some (val s, true) := by
  unfold trailheadref05_Back.f trailheadref05_Back.tree
  obtain ⟨y, this⟩ := rback7_l0 k s (by omega) hb s.length k (Nat.le_refl _) (by omega)
  rw [List.drop_length, show val [] = 0 from rfl] at this
  have h := val_lt s hb
  have h0 := val_nonneg s hb
  have h2 : (256 : Int) ^ s.length ≤ 256 ^ 4 := pow256_le (by omega)
  rw [sub_id (by omega) (by omega), this, Option.bind_some]
  simp only []
  rw [i64_id (by omega) (by omega), dt (by omega)]

theorem rtake_l0 (k : Nat) (s : List Int) (h4 : 4 ≤ s.length) : ∀ (d n i : Nat), i + d = 4 → d < n → s.take i = tail4.take i →
    trailheadref07_Take.l0.f k s n (i : Int) = some (if s.take 4 = tail4 then .inl 4 else .inr ([], [], 0, 4)) := by
  intro d
  induction d with
  | zero =>
    intro n i hi hn he
    obtain ⟨n, rfl⟩ : ∃ q, n = q + 1 := ⟨n - 1, by omega⟩
    have : i = 4 := by omega
    subst this
    unfold trailheadref07_Take.l0.f trailheadref07_Take.l0.go trailheadref07_Take.l0.step
    rw [df (by omega), if_pos (show s.take 4 = tail4 from he.trans rfl)]
    rfl
  | succ d ih =>
    intro n i hi hn he
    obtain ⟨n, rfl⟩ : ∃ q, n = q + 1 := ⟨n - 1, by omega⟩
    have hlt : i < s.length := by omega
    have hlt2 : i < tail4.length := by simp; omega
    have e1 : addI .i64 (i : Int) 1 = ((i + 1 : Nat) : Int) := add_id (by omega) (by omega)
    have e2 : s.getD i 0 = s[i] := by rw [List.getD_eq_getElem?_getD, List.getElem?_eq_getElem hlt]; rfl
    have e3 : tail4.getD i 0 = tail4[i] := by rw [List.getD_eq_getElem?_getD, List.getElem?_eq_getElem hlt2]; rfl
    have ih' := ih n (i + 1) (by omega) (by omega)
    unfold trailheadref07_Take.l0.f at ih' ⊢
    unfold trailheadref07_Take.l0.go trailheadref07_Take.l0.step
    simp only [e1, e2, e3, Int.toNat_natCast]
    have c1 : decide ((i : Int) < (4 : Int)) = true := dt (by omega)
    have c2 : decide ((0 : Int) ≤ (i : Int)) = true := dt (by omega)
    have c3 : decide (((s.length : Nat) : Int) ≥ (4 : Int)) = true := dt (by omega)
    have c4 : decide ((i : Int) < (s.length : Int)) = true := dt (by omega)
    simp only [c1, c2, c3, c4, cond_true]
    by_cases hx : s[i] = tail4[i]
    · have b0 : (s[i] != tail4[i]) = false := by rw [hx]; simp
      rw [b0, cond_false]
      exact ih' (by rw [List.take_succ_eq_append_getElem hlt, List.take_succ_eq_append_getElem hlt2, he, hx])
    · have b0 : (s[i] != tail4[i]) = true := by rw [bne_iff_ne]; exact hx
      rw [b0, cond_true, if_neg]
      intro h
      apply hx
      have h1 : (s.take 4)[i]? = tail4[i]? := by rw [h]
      rw [List.getElem?_take_of_lt (by omega), List.getElem?_eq_getElem hlt, List.getElem?_eq_getElem hlt2] at h1
      exact Option.some.inj h1

theorem trimRL_snoc (a : List Int) (c : Int) (cs : List Int) : trimRL (a ++ [c]) cs = if inSet cs c = true then trimRL a cs else a ++ [c] := by
  unfold trimRL
  rw [List.reverse_append, List.reverse_singleton, List.singleton_append, List.dropWhile_cons]
  split
  · rfl
  · rw [List.reverse_cons, List.reverse_reverse]

theorem rtake_l2 (k : Nat) (s : List Int) (h16 : 24 ≤ s.length) (hl : s.length ≤ 1000000) : ∀ (j n : Nat), j ≤ 12 → j < n →
    ∃ i, i ≤ j ∧ trailheadref07_Take.l2.f k s n ((4 + j : Nat) : Int) = some ((4 + i : Nat) : Int) ∧ ((s.drop 4).take 12).take i = trimRL (((s.drop 4).take 12).take j) [0] := by
  intro j
  induction j with
  | zero =>
    intro n hj hn
    obtain ⟨n, rfl⟩ : ∃ q, n = q + 1 := ⟨n - 1, by omega⟩
    refine ⟨0, Nat.le_refl _, ?_, rfl⟩
    unfold trailheadref07_Take.l2.f trailheadref07_Take.l2.go trailheadref07_Take.l2.step
    rw [df (by omega)]
    rfl
  | succ j ih =>
    intro n hj hn
    obtain ⟨n, rfl⟩ : ∃ q, n = q + 1 := ⟨n - 1, by omega⟩
    obtain ⟨i, hi, hr, he⟩ := ih n (by omega) (by omega)
    have e1 : subI .i64 ((4 + (j + 1) : Nat) : Int) 1 = ((4 + j : Nat) : Int) := (sub_id (by omega) (by omega)).trans (by omega)
    have hlt : 4 + j < s.length := by omega
    have e2 : s.getD (4 + j) 0 = s[4 + j] := by rw [List.getD_eq_getElem?_getD, List.getElem?_eq_getElem hlt]; rfl
    have hu : j < ((s.drop 4).take 12).length := by rw [List.length_take, List.length_drop]; omega
    have e3 : ((s.drop 4).take 12)[j] = s[4 + j] := by rw [List.getElem_take, List.getElem_drop]
    have e4 : ((s.drop 4).take 12).take (j + 1) = ((s.drop 4).take 12).take j ++ [s[4 + j]] := by rw [List.take_succ_eq_append_getElem hu, e3]
    unfold trailheadref07_Take.l2.f at hr ⊢
    unfold trailheadref07_Take.l2.go trailheadref07_Take.l2.step
    rw [e1, e4, trimRL_snoc]
    simp only [Int.toNat_natCast, e2]
    rw [dt (by omega), cond_true, dt (by omega), cond_true, dt (by omega), cond_true]
    by_cases h0 : s[4 + j] = 0
    · have hin : inSet [0] s[4 + j] = true := by rw [h0]; rfl
      rw [beqt h0, cond_true, if_pos hin]
      exact ⟨i, by omega, hr, he⟩
    · have hin : ¬ inSet [0] s[4 + j] = true := by
        unfold inSet
        simp only [List.any_cons, List.any_nil, Bool.or_false, decide_eq_true_eq]
        exact fun h => h0 h.symm
      rw [beqf h0, cond_false, if_neg hin]
      exact ⟨j + 1, Nat.le_refl _, rfl, e4⟩

theorem w12_trim {u : List Int} (hu : u.length = 12) : w12 (trimRL u [0]) = u := by
  obtain ⟨t, e, ht⟩ := trimRL_split u [0]
  have hl := congrArg List.length e
  rw [List.length_append, hu] at hl
  unfold w12
  have ez : t = List.replicate (12 - (trimRL u [0]).length) 0 := by
    rw [List.eq_replicate_iff]
    refine ⟨by omega, fun b hb => ?_⟩
    have := ht b hb
    unfold inSet at this
    simp only [List.any_cons, List.any_nil, Bool.or_false, decide_eq_true_eq] at this
    exact this.symm
  rw [← ez]
  exact e.symm

theorem split24 (s : List Int) (n : Nat) : s.take (24 + n) = s.take 4 ++ ((s.drop 4).take 12 ++ ((s.drop 16).take 4 ++ ((s.drop 20).take 4 ++ (s.drop 24).take n))) := by
  rw [show 24 + n = 4 + (12 + (4 + (4 + n))) by omega, List.take_add, List.take_add, List.take_add, List.take_add, List.drop_drop, List.drop_drop, List.drop_drop]

theorem num_take7 (t : List Int) (n : Nat) (hb : byteL t) (h : n ≤ t.length) : num n (val (t.take n)) = t.take n := by
  have := num_val (t.take n) (byteL_take n hb)
  rw [List.length_take_of_le h] at this
  exact this

/-- The bytes agree just if the sum does. -/
theorem env_iff {s : List Int} (hb : byteL s) (h24 : 24 ≤ s.length) (hm : s.take 4 = tail4) (hn : (24 + tkN s) ≤ (s.length : Int)) (hn0 : 0 ≤ tkN s) : envB (tkW s, tkP s) = s.take (24 + (tkN s).toNat) ↔ sum4 (tkP s) = tkS s := by
  have hP : ((tkP s).length : Int) = tkN s := by unfold tkP; rw [List.length_take, List.length_drop]; omega
  have hW : w12 (tkW s) = (s.drop 4).take 12 := w12_trim (by rw [List.length_take, List.length_drop]; omega)
  have hN : num 4 (tkN s) = (s.drop 16).take 4 := num_take7 _ 4 (byteL_drop _ hb) (by rw [List.length_drop]; omega)
  have eS : (s.drop 20).take 4 = tkS s := rfl
  have eP : (s.drop 24).take (tkN s).toNat = tkP s := rfl
  rw [split24, hm, eS, eP]
  unfold envB
  simp only [hP, hW, hN, List.append_cancel_left_eq, List.append_cancel_right_eq]

theorem rtake_eq7 (k : Nat) (s : List Int) (hb : byteL s) (hl : s.length ≤ 100000) (hk : 200000 < k) : trailheadref07_Take.f k s = some ((tk s).1.1, (tk s).1.2, (tk s).2.1, (tk s).2.2) := by
  unfold trailheadref07_Take.f trailheadref07_Take.tree tk
  by_cases h4 : 4 ≤ s.length
  · have hl0 := rtake_l0 k s h4 4 k 0 (by omega) (by omega) rfl
    rw [show ((0 : Nat) : Int) = 0 from rfl] at hl0
    rw [hl0, Option.bind_some]
    by_cases hm : s.take 4 = tail4
    · rw [if_pos hm, if_neg (fun h : 4 ≤ s.length ∧ s.take 4 ≠ tail4 => h.2 hm)]
      simp only [Sy.sel]
      by_cases h24 : s.length < 24
      · rw [dt (by omega), if_pos h24]; rfl
      · rw [df (by omega), cond_false, if_neg h24]
        obtain ⟨i, hi, hr, he⟩ := rtake_l2 k s (by omega) (by omega) 12 k (Nat.le_refl _) (by omega)
        rw [show ((4 + 12 : Nat) : Int) = 16 from rfl] at hr
        rw [List.take_of_length_le (show ((s.drop 4).take 12).length ≤ 12 by rw [List.length_take]; omega)] at he
        have ew : (s.take (4 + i)).drop 4 = tkW s := by
          rw [List.drop_take, show 4 + i - 4 = i by omega]
          rw [List.take_take, show min i 12 = i by omega] at he
          exact he
        have en : (s.take 20).drop 16 = (s.drop 16).take 4 := by rw [List.drop_take]
        have hv4 := val4b (byteL_drop 16 hb)
        have hn0 : 0 ≤ tkN s := hv4.1
        have eN : val ((s.drop 16).take 4) = tkN s := rfl
        rw [hr, Option.bind_some, dt (by omega), cond_true, en, rback7_eq k _ (by rw [List.length_take]; omega) (byteL_take _ (byteL_drop _ hb)) (by omega), Option.bind_some, eN]
        have c1 : decide ((0 : Int) ≤ ((4 + i : Nat) : Int)) = true := dt (by omega)
        have c2 : decide (((4 + i : Nat) : Int) ≤ (s.length : Int)) = true := dt (by omega)
        have c3 : decide ((4 : Int) ≤ ((4 + i : Nat) : Int)) = true := dt (by omega)
        simp only [c1, c2, c3, cond_true, Int.toNat_natCast, ew]
        rw [rword_eq k _ (by omega), Option.bind_some]
        cases hw : wB (tkW s)
        · rw [if_pos (.inl rfl)]; rfl
        · rw [Bool.not_true, cond_false]
          by_cases hmax : 16384 < tkN s
          · rw [dt (show tkN s > 16384 from hmax), if_pos (.inr hmax)]; rfl
          · rw [df (show ¬ tkN s > 16384 from hmax), cond_false, if_neg (fun h : true = false ∨ 16384 < tkN s => by
              rcases h with h | h
              · cases h
              · exact hmax h)]
            have ea : addI .i64 24 (tkN s) = 24 + tkN s := add_id (by omega) (by omega)
            rw [ea]
            by_cases hlen : (s.length : Int) < 24 + tkN s
            · rw [dt hlen, if_pos hlen]; rfl
            · rw [df hlen, cond_false, if_neg hlen]
              have c4 : decide ((0 : Int) ≤ 24 + tkN s) = true := dt (by omega)
              have c5 : decide (24 + tkN s ≤ (s.length : Int)) = true := dt (by omega)
              have c6 : decide ((24 : Int) ≤ 24 + tkN s) = true := dt (by omega)
              have et : (24 + tkN s).toNat = 24 + (tkN s).toNat := by omega
              have ep : (s.take (24 + (tkN s).toNat)).drop 24 = tkP s := by
                rw [List.drop_take, show 24 + (tkN s).toNat - 24 = (tkN s).toNat by omega]; rfl
              simp only [c4, c5, c6, cond_true, et, ep]
              have lP : (tkP s).length ≤ 100000 := by unfold tkP; rw [List.length_take, List.length_drop]; omega
              rw [rbytes7_eq k _ _ (wB_of hw).2.1 (show byteL (tkP s) from byteL_take _ (byteL_drop _ hb)) lP hk, Option.bind_some]
              have hiff := env_iff hb (by omega) hm (by omega) hn0
              by_cases hs : sum4 (tkP s) = tkS s
              · rw [dt (hiff.2 hs), if_neg (fun h : sum4 (tkP s) ≠ tkS s => h hs)]; rfl
              · rw [df (fun h => hs (hiff.1 h)), if_pos hs]; rfl
    · rw [if_neg hm, if_pos ⟨h4, hm⟩]
      rfl
  · have hl0 : trailheadref07_Take.l0.f k s k 0 = some (.inl 0) := by
      obtain ⟨k, rfl⟩ : ∃ q, k = q + 1 := ⟨k - 1, by omega⟩
      unfold trailheadref07_Take.l0.f trailheadref07_Take.l0.go trailheadref07_Take.l0.step
      rw [dt (by omega), cond_true, df (by omega)]
      rfl
    rw [hl0, Option.bind_some, if_neg (fun h : 4 ≤ s.length ∧ s.take 4 ≠ tail4 => h4 h.1), if_pos (by omega)]
    simp only [Sy.sel]
    rw [dt (by omega)]
    rfl

theorem eqDen7 (a b : Env7) : eqDen (.pair .str .str) a b = decide (a = b) := by
  have e : eqDen (.pair .str .str) a b = (decide (a.1 = b.1) && decide (a.2 = b.2)) := by
    simp only [eqDen]
  rw [e, Bool.eq_iff_iff]
  simp only [Bool.and_eq_true, decide_eq_true_eq, Prod.ext_iff]

theorem gB_ping : gB ([112, 105, 110, 103], []) = true := by decide

theorem alive07 (k : Nat) (hk : 200000 < k) : trailheadlaw07_alive.f k H8 K64 = some true := by
  unfold trailheadlaw07_alive.f trailheadlaw07_alive.tree
  have hb : byteL [] := fun y h => by cases h
  rw [bytes7_eq k ([112, 105, 110, 103], []) gB_ping hb (by omega), Option.bind_some, take_eq7 k [] hb (by simp) (by omega), Option.bind_some, rbytes7_eq k [112, 105, 110, 103] [] (by simp) hb (by simp) hk, Option.bind_some]
  have e : tk [] = (none7, 0, 7) := rfl
  have b0 : ((0 : Int) == (0 : Int)) = true := rfl
  simp only [b0, cond_true, e]
  rw [show decide True = true from rfl]
  rfl

end Go.Proofs.YtkcdbbflelgbeaaDoor.Sy
