/- The digest of a text. -/
import Derived.Test.YtkgpjplncfginaaGreatDoorQ62
namespace Go.Proofs.YtkgpjplncfginaaGreatDoor.Sy
open Go
set_option linter.unusedVariables false
set_option linter.unusedSimpArgs false

theorem proc_add : ∀ (a b : Nat) (h p : List Int), proc (a + b) h p = proc b (proc a h p) (p.drop (64 * a))
  | 0, b, h, p => by simp [proc]
  | a + 1, b, h, p => by
    have e : a + 1 + b = (a + b) + 1 := by omega
    rw [e, proc, proc_add a b, proc, List.drop_drop, Nat.mul_succ, Nat.add_comm]

theorem proc_append : ∀ (a : Nat) (h p q : List Int), 64 * a ≤ p.length → proc a h (p ++ q) = proc a h p
  | 0, _, _, _, _ => rfl
  | a + 1, h, p, q, hl => by
    rw [proc, proc, List.take_append_of_le_length (by omega), List.drop_append_of_le_length (by omega), proc_append a _ _ _ (by rw [List.length_drop]; omega)]

/-! ### What is put behind a text -/

/-- How many noughts. -/
def zc (n : Nat) : Nat := (120 - n % 64) % 64
def bd : Nat → Int → List Int
  | 0, _ => []
  | n + 1, v => v / 256 ^ n % 256 :: bd n v

theorem bd_length : ∀ n v, (bd n v).length = n
  | 0, _ => rfl
  | n + 1, v => by simp [bd, bd_length n]
theorem bd_byteL : ∀ n v, byteL (bd n v)
  | 0, _ => byteL_nil
  | n + 1, v => byteL_cons.2 ⟨by omega, bd_byteL n v⟩

/-- What stands behind so many bytes. -/
def padOf (n : Nat) : List Int := [128] ++ List.replicate (zc (n + 1)) 0 ++ bd 8 (8 * (n : Int))
def pad (s : List Int) : List Int := s ++ padOf s.length

theorem padOf_length (n : Nat) : (padOf n).length = 9 + zc (n + 1) := by simp [padOf, bd_length]; omega
theorem pad_len (n : Nat) : (n + (padOf n).length) % 64 = 0 := by
  rw [padOf_length]; unfold zc; omega
theorem byteL_rep (n : Nat) : byteL (List.replicate n 0) := by
  intro y hy
  have := List.eq_of_mem_replicate hy
  omega
theorem padOf_byteL (n : Nat) : byteL (padOf n) := by
  unfold padOf
  exact byteL_append (byteL_append (byteL_cons.2 ⟨by omega, byteL_nil⟩) (byteL_rep _)) (bd_byteL _ _)

theorem rem64 (n : Nat) : remI (n : Int) 64 = ((n % 64 : Nat) : Int) := by
  unfold remI; rw [Int.tmod_eq_emod_of_nonneg (by omega)]; omega

theorem bne_t {a b : Int} (h : a ≠ b) : (a != b) = true := by simp [h]
theorem bne_f {a b : Int} (h : a = b) : (a != b) = false := by simp [h]

theorem rpad0 (k : Nat) (x3 : Int) : ∀ (d n : Nat) (l : List Int), zc l.length = d → d < n → l.length + d ≤ 100000000 →
    trailheadref01_padded.l0.f k x3 n l = some (l ++ List.replicate d 0) := by
  intro d
  induction d with
  | zero =>
    intro n l hz hn hl
    obtain ⟨n, rfl⟩ : ∃ q, n = q + 1 := ⟨n - 1, by omega⟩
    unfold trailheadref01_padded.l0.f trailheadref01_padded.l0.go trailheadref01_padded.l0.step
    rw [rem64, bne_f (by unfold zc at hz; omega)]
    simp
  | succ d ih =>
    intro n l hz hn hl
    obtain ⟨n, rfl⟩ : ∃ q, n = q + 1 := ⟨n - 1, by omega⟩
    have ih' := ih n (l ++ [0]) (by rw [List.length_append]; unfold zc at hz ⊢; simp; omega) (by omega) (by simp; omega)
    unfold trailheadref01_padded.l0.f at ih' ⊢
    unfold trailheadref01_padded.l0.go trailheadref01_padded.l0.step
    rw [rem64, bne_t (by unfold zc at hz; omega), cond_true, fits_ok (by omega), cond_true, ih', List.append_assoc]
    rfl

theorem rpad2 (k : Nat) (x0 : List Int) (v : Int) (hv : 0 ≤ v) (hv' : v < 9223372036854775808) : ∀ (d n j : Nat), j + d = 8 → d < n →
    ∃ x, trailheadref01_padded.l2.f k x0 n (v / 256 ^ j) (bd j v) (j : Int) = some (x, bd 8 v, 8) := by
  intro d
  induction d with
  | zero =>
    intro n j hj hn
    obtain ⟨n, rfl⟩ : ∃ q, n = q + 1 := ⟨n - 1, by omega⟩
    have : j = 8 := by omega
    subst this
    unfold trailheadref01_padded.l2.f trailheadref01_padded.l2.go trailheadref01_padded.l2.step
    rw [df (by omega)]
    exact ⟨_, rfl⟩
  | succ d ih =>
    intro n j hj hn
    obtain ⟨n, rfl⟩ : ∃ q, n = q + 1 := ⟨n - 1, by omega⟩
    obtain ⟨x, ih'⟩ := ih n (j + 1) (by omega) (by omega)
    unfold trailheadref01_padded.l2.f at ih' ⊢
    unfold trailheadref01_padded.l2.go trailheadref01_padded.l2.step
    have hd : 0 ≤ v / 256 ^ j := Int.ediv_nonneg hv (Int.le_of_lt (Int.pow_pos (by omega)))
    have hle : v / 256 ^ j ≤ v := Int.ediv_le_self _ hv
    have e1 : addI .i64 (j : Int) 1 = ((j + 1 : Nat) : Int) := add_id (by omega) (by omega)
    have hr : IntKind.wrap .u8 (remI (v / 256 ^ j) 256) = v / 256 ^ j % 256 := by
      rw [IntKind.wrap_u8]; unfold remI; rw [Int.tmod_eq_emod_of_nonneg hd]; omega
    have hq : quoI .i64 (v / 256 ^ j) 256 = v / 256 ^ (j + 1) := by
      unfold quoI
      rw [Int.tdiv_eq_ediv_of_nonneg hd, i64_id (by omega) (by omega), Int.pow_succ, Int.ediv_ediv_of_nonneg (Int.le_of_lt (Int.pow_pos (by omega)))]
    have ht : toStr [v / 256 ^ j % 256] = [v / 256 ^ j % 256] := toStr_id _ (byteL_cons.2 ⟨by omega, byteL_nil⟩)
    rw [dt (by omega), cond_true, hr, ht, fits_ok (by rw [bd_length]; simp; omega), cond_true, hq, e1]
    exact ⟨x, ih'⟩

theorem rpadded_eq (k : Nat) (s : List Int) (hk : 100 < k) (hl : s.length ≤ 1000000) : trailheadref01_padded.f k s = some (pad s) := by
  unfold trailheadref01_padded.f trailheadref01_padded.tree
  have hz : zc (s.length + 1) < 64 := by unfold zc; omega
  have e : (s ++ [(128 : Int)]).length = s.length + 1 := by simp
  rw [fits_ok (by omega), cond_true, rpad0 k _ (zc (s.length + 1)) k (s ++ [128]) (by rw [e]) (by omega) (by omega)]
  rw [Option.bind_some]
  have m8 : mulI .i64 8 (s.length : Int) = 8 * (s.length : Int) := mul_id (by omega) (by omega)
  obtain ⟨x, h2⟩ := rpad2 k (s ++ [128] ++ List.replicate (zc (s.length + 1)) 0) (8 * (s.length : Int)) (by omega) (by omega) 8 k 0 (by omega) (by omega)
  rw [show ((0 : Nat) : Int) = 0 from rfl, Int.pow_zero, Int.ediv_one, show bd 0 (8 * (s.length : Int)) = [] from rfl] at h2
  rw [m8, h2, Option.bind_some]
  simp only
  rw [fits_ok (by rw [bd_length]; simp; omega), cond_true]
  unfold pad padOf
  simp

/-- A text's name. -/
def sha (s : List Int) : List Int := outS (proc ((pad s).length / 64) H8 (pad s))

theorem sha_length (s : List Int) : (sha s).length = 32 := outS_length _
theorem sha_byteL (s : List Int) : byteL (sha s) := outS_byteL _

theorem rof_eq (k : Nat) (s : List Int) (hb : byteL s) (hl : s.length ≤ 1000000) (hk : s.length + 300 < k) : trailheadref01_Of.f k s = some (sha s) := by
  unfold trailheadref01_Of.f trailheadref01_Of.tree
  rw [rpadded_eq k s (by omega) hl, Option.bind_some]
  have hpl : (pad s).length = s.length + (padOf s.length).length := by unfold pad; rw [List.length_append]
  have hpz := pad_len s.length
  have hpo := padOf_length s.length
  have hzc : zc (s.length + 1) < 64 := by unfold zc; omega
  have hpb : byteL (pad s) := byteL_append hb (padOf_byteL _)
  have := rof0_eq k (pad s) z32 (by omega) hpb (by omega) ((pad s).length / 64) k 0 H8 (by omega) (by omega) okW_H8
  rw [show ((0 : Nat) : Int) = 0 from rfl, List.drop_zero] at this
  have eH : H8 = [1779033703, 3144134277, 1013904242, 2773480762, 1359893119, 2600822924, 528734635, 1541459225] := rfl
  have hok : okW (proc ((pad s).length / 64) H8 (pad s)) := okW_proc _ _ _ okW_H8
  unfold sha outS
  generalize proc ((pad s).length / 64) H8 (pad s) = S at this hok ⊢
  rw [← eH, this, Option.bind_some]
  have q := rof12_eq k z32 S hok 32 k 0 z32 (by omega) (by omega)
  rw [show ((0 : Nat) : Int) = 0 from rfl] at q
  rw [q]
  generalize outB S 32 0 z32 = o
  rfl

theorem rdouble_l0 (k : Nat) (y0 h : List Int) (hl : h.length = 32) (hb : byteL h) : ∀ (d n i : Nat) (m : List Int), i + d = 32 → d < n → m.length = i →
    trailheadref01_Double.l0.f k y0 h n m (i : Int) = some (m ++ h.drop i, 32) := by
  intro d
  induction d with
  | zero =>
    intro n i m hi hd hm
    obtain ⟨n, rfl⟩ : ∃ q, n = q + 1 := ⟨n - 1, by omega⟩
    unfold trailheadref01_Double.l0.f trailheadref01_Double.l0.go trailheadref01_Double.l0.step
    have : i = 32 := by omega
    subst this
    rw [df (by omega), List.drop_eq_nil_of_le (by omega)]
    simp
  | succ d ih =>
    intro n i m hi hd hm
    obtain ⟨n, rfl⟩ : ∃ q, n = q + 1 := ⟨n - 1, by omega⟩
    have hlt : i < h.length := by omega
    have := ih n (i + 1) (m ++ [h[i]]) (by omega) (by omega) (by simp; omega)
    unfold trailheadref01_Double.l0.f at this ⊢
    unfold trailheadref01_Double.l0.go trailheadref01_Double.l0.step
    have e : addI .i64 (i : Int) 1 = ((i + 1 : Nat) : Int) := add_id (by omega) (by omega)
    have e2 : h.getD i 0 = h[i] := by rw [List.getD_eq_getElem?_getD, List.getElem?_eq_getElem hlt]; rfl
    have e3 : toStr [h[i]] = [h[i]] := toStr_id _ (by intro y hy; simp at hy; subst hy; exact hb _ (List.getElem_mem hlt))
    simp only [e, Int.toNat_natCast, e2, e3]
    rw [dt (by omega), cond_true, dt (by omega), cond_true, dt (by omega), cond_true, fits_ok (by simp; omega), cond_true, this, List.drop_eq_getElem_cons hlt, List.append_assoc]
    rfl

theorem rdouble_eq (k : Nat) (s : List Int) (hb : byteL s) (hl : s.length ≤ 1000000) (hk : s.length + 400 < k) : trailheadref01_Double.f k s = some (sha (sha s)) := by
  unfold trailheadref01_Double.f trailheadref01_Double.tree
  rw [rof_eq k s hb hl (by omega), Option.bind_some]
  have := rdouble_l0 k z32 (sha s) (sha_length s) (sha_byteL s) 32 k 0 [] (by omega) (by omega) rfl
  rw [show ((0 : Nat) : Int) = 0 from rfl] at this
  rw [this, Option.bind_some]
  simp only [List.nil_append, List.drop_zero]
  rw [rof_eq k _ (sha_byteL s) (by rw [sha_length]; omega) (by rw [sha_length]; omega)]
  rfl

/-! ### What the program has taken -/

structure Hs where
  st : List Int
  size : Int
  rest : List Int

/-- A hasher that took a text. -/
def took (t : List Int) : Hs := ⟨proc (t.length / 64) H8 t, (t.length : Int), t.drop (64 * (t.length / 64))⟩

theorem took_nil : took [] = ⟨H8, 0, []⟩ := rfl
theorem took_rest_len (t : List Int) : (took t).rest.length = t.length % 64 := by unfold took; rw [List.length_drop]; omega
theorem took_rest_byteL {t : List Int} (h : byteL t) : byteL (took t).rest := byteL_drop _ h
theorem took_okW (t : List Int) : okW (took t).st := okW_proc _ _ _ okW_H8
theorem took_st_len (t : List Int) : (took t).st.length = 8 := len_proc _ _ _

theorem took_add (t u : List Int) : took (t ++ u) = ⟨proc (((took t).rest ++ u).length / 64) (took t).st ((took t).rest ++ u), (took t).size + (u.length : Int), ((took t).rest ++ u).drop (64 * (((took t).rest ++ u).length / 64))⟩ := by
  have hr := took_rest_len t
  have hn : (t ++ u).length / 64 = t.length / 64 + ((took t).rest ++ u).length / 64 := by
    rw [List.length_append, List.length_append, hr]; omega
  have hd : (t ++ u).drop (64 * (t.length / 64)) = (took t).rest ++ u := by
    rw [List.drop_append_of_le_length (by omega)]; rfl
  show Hs.mk _ _ _ = _
  rw [hn, proc_add, proc_append _ _ _ _ (by omega), hd, Nat.mul_add, ← List.drop_drop, hd]
  congr 1
  show ((t ++ u).length : Int) = (t.length : Int) + u.length
  rw [List.length_append]; omega

/-- The loop that takes blocks. -/
theorem sum_pad (t : List Int) : proc (((took t).rest ++ padOf t.length).length / 64) (took t).st ((took t).rest ++ padOf t.length) = proc ((pad t).length / 64) H8 (pad t) := by
  have := congrArg Hs.st (took_add t (padOf t.length))
  exact this.symm

end Go.Proofs.YtkgpjplncfginaaGreatDoor.Sy
