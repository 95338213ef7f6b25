
/- Names as numbers, byte by byte. WholeHashes. -/
import Derived.Test.YtjciljaojcekeaaQ18
namespace Go.Proofs.Ytjciljaojcekeaa.Sx
open Go
set_option linter.unusedVariables false
set_option linter.unusedSimpArgs false
set_option maxRecDepth 100000

abbrev hashT : Ty := .arr .u8 32

theorem wf_u8 {y : Int} : (Lit.int .u8 y).wf = true ↔ 0 ≤ y ∧ y < 256 := by
  simp only [Lit.wf, Bool.and_eq_true, decide_eq_true_eq]
  show (0 : Int) ≤ y ∧ y ≤ 255 ↔ _
  omega

/-- The number of bytes, the lowest first. -/
def leV : List Int → Nat
  | [] => 0
  | b :: r => b.toNat + 256 * leV r

theorem leV_lt : ∀ (l : List Int), (∀ y ∈ l, 0 ≤ y ∧ y < 256) → leV l < 256 ^ l.length
  | [], _ => by simp [leV]
  | b :: r, h => by
    have h1 := h b (by simp)
    have h2 := leV_lt r (fun y hy => h y (by simp [hy]))
    simp only [leV, List.length_cons, Nat.pow_succ]
    omega

theorem leV_append : ∀ (a b : List Int), leV (a ++ b) = leV a + 256 ^ a.length * leV b
  | [], b => by simp [leV]
  | x :: a, b => by
    simp only [List.cons_append, leV, leV_append a b, List.length_cons, Nat.pow_succ, Nat.mul_add]
    rw [Nat.mul_comm (256 ^ a.length) 256, Nat.mul_assoc, Nat.add_assoc]

/-- The lowest n bytes of a number. -/
def bytesOf : Nat → Nat → List Int
  | 0, _ => []
  | n + 1, x => ((x % 256 : Nat) : Int) :: bytesOf n (x / 256)

theorem bytesOf_length : ∀ n x, (bytesOf n x).length = n
  | 0, _ => rfl
  | n + 1, x => by simp [bytesOf, bytesOf_length n]

theorem bytesOf_good : ∀ n x, ∀ y ∈ bytesOf n x, 0 ≤ y ∧ y < 256
  | 0, _, y, h => by simp [bytesOf] at h
  | n + 1, x, y, h => by
    simp only [bytesOf, List.mem_cons] at h
    rcases h with rfl | h
    · omega
    · exact bytesOf_good n _ y h

theorem leV_bytesOf : ∀ n x, leV (bytesOf n x) = x % 256 ^ n
  | 0, x => by simp [bytesOf, leV, Nat.mod_one]
  | n + 1, x => by
    simp only [bytesOf, leV, leV_bytesOf n, Int.toNat_natCast]
    rw [Nat.pow_succ, Nat.mul_comm (256 ^ n) 256, Nat.mod_mul]

theorem bytesOf_leV : ∀ (l : List Int), (∀ y ∈ l, 0 ≤ y ∧ y < 256) → bytesOf l.length (leV l) = l
  | [], _ => rfl
  | b :: r, h => by
    have h1 := h b (by simp)
    have e1 : (b.toNat + 256 * leV r) % 256 = b.toNat := by omega
    have e2 : (b.toNat + 256 * leV r) / 256 = leV r := by omega
    simp only [leV, List.length_cons, bytesOf, e1, e2, bytesOf_leV r (fun y hy => h y (by simp [hy]))]
    rw [Int.toNat_of_nonneg h1.1]

theorem bytesOf_getD : ∀ (n x i : Nat), i < n → List.getD (bytesOf n x) i 0 = ((x / 256 ^ i % 256 : Nat) : Int)
  | 0, _, _, h => by omega
  | n + 1, x, 0, _ => by simp [bytesOf]
  | n + 1, x, i + 1, h => by
    simp only [bytesOf, List.getD_cons_succ, bytesOf_getD n (x / 256) i (by omega)]
    rw [Nat.div_div_eq_div_mul, Nat.pow_succ, Nat.mul_comm]

theorem good_hash {h : List Int} (hh : goodT hashT h) : h.length = 32 ∧ ∀ y ∈ h, 0 ≤ y ∧ y < 256 := ⟨hh.1, fun y hy => wf_u8.1 (hh.2 y hy)⟩

theorem hash_of {h : List Int} (hh : goodT hashT h) : ∃ x : Nat, x < 2 ^ 256 ∧ h = bytesOf 32 x := by
  obtain ⟨hl, hg⟩ := good_hash hh
  have := leV_lt h hg
  rw [hl] at this
  refine ⟨leV h, by simpa using this, ?_⟩
  have := bytesOf_leV h hg
  rw [hl] at this
  exact this.symm

theorem quo8 (i : Nat) (hi : i < 256) : quoI .i64 (i : Int) 8 = ((i / 8 : Nat) : Int) := by
  unfold quoI
  rw [show ((i : Int).tdiv 8) = ((i / 8 : Nat) : Int) by rw [Int.tdiv_eq_ediv_of_nonneg (by omega)]; omega]
  exact wrap_i64 (by omega) (by omega)

theorem rem8 (i : Nat) : mulI .i64 8 (remI (i : Int) 8) = ((8 * (i % 8) : Nat) : Int) := by
  unfold mulI remI
  rw [Int.tmod_eq_emod_of_nonneg (by omega), wrap_i64 (by omega) (by omega)]; omega

/-- A part is put where nothing is as yet. -/
theorem or_part {x : Nat} (w s m : Nat) (hw : w < 4) (hs : s < 64) (hx : x < 2 ^ (64 * w + s)) (hm : 2 ^ s * m < 2 ^ 64) :
    List.set (toNum x) w (orI .u64 (List.getD (toNum x) w 0) (shlI .u64 (m : Int) (s : Int))) = toNum (x + m * 2 ^ (64 * w + s)) := by
  have hx256 : x < 2 ^ 256 := Nat.lt_of_lt_of_le hx (Nat.pow_le_pow_right (by omega) (by omega))
  obtain ⟨n0, n1, n2, n3, ex, h0, h1, h2, h3⟩ := num4 (toNum_good x)
  have hv := congrArg vN ex
  rw [vN_toNum_lt hx256, vN4] at hv
  have hsh : shlI .u64 (m : Int) (s : Int) = ((2 ^ s * m : Nat) : Int) := by rw [shl_u64 _ _ (by omega), Nat.mul_comm, Nat.mod_eq_of_lt hm]
  have hp := Nat.two_pow_pos s
  have hp64 : 2 ^ s < 2 ^ 64 := Nat.pow_lt_pow_right (by omega) hs
  rw [hsh, ex, Nat.pow_add]
  rw [Nat.pow_add] at hx
  have sum : ∀ n : Nat, n < 2 ^ s → 2 ^ s * m + n < 2 ^ 64 := fun n hn => by
    have e : 2 ^ s * 2 ^ (64 - s) = 2 ^ 64 := pq s hs
    have : m < 2 ^ (64 - s) := Nat.lt_of_mul_lt_mul_left (a := 2 ^ s) (by rw [e]; exact hm)
    have := Nat.mul_le_mul_left (2 ^ s) (show m + 1 ≤ 2 ^ (64 - s) by omega)
    rw [e, Nat.mul_add, Nat.mul_one] at this
    omega
  have orr : ∀ n : Nat, n < 2 ^ s → orI .u64 (n : Int) ((2 ^ s * m : Nat) : Int) = ((2 ^ s * m + n : Nat) : Int) := fun n hn => by
    rw [orI_comm, or_u64 s m n hn (sum n hn)]
  match w, hw with
  | 0, _ =>
    have hn : n0 < 2 ^ s := by omega
    have hz := sum n0 hn
    show [orI .u64 (n0 : Int) ((2 ^ s * m : Nat) : Int), (n1 : Int), (n2 : Int), (n3 : Int)] = _
    rw [orr n0 hn, Nat.mul_zero, Nat.pow_zero, Nat.one_mul, Nat.mul_comm m]
    refine toNum_of (good4 hz h1 h2 h3) ?_
    rw [vN4, hv]
    generalize 2 ^ s * m = z at *
    omega
  | 1, _ =>
    have hn : n1 < 2 ^ s := by omega
    have hz := sum n1 hn
    show [(n0 : Int), orI .u64 (n1 : Int) ((2 ^ s * m : Nat) : Int), (n2 : Int), (n3 : Int)] = _
    rw [orr n1 hn, Nat.mul_left_comm m, Nat.mul_comm m]
    refine toNum_of (good4 h0 hz h2 h3) ?_
    rw [vN4, hv]
    generalize 2 ^ s * m = z at *
    omega
  | 2, _ =>
    have hn : n2 < 2 ^ s := by omega
    have hz := sum n2 hn
    show [(n0 : Int), (n1 : Int), orI .u64 (n2 : Int) ((2 ^ s * m : Nat) : Int), (n3 : Int)] = _
    rw [orr n2 hn, Nat.mul_left_comm m, Nat.mul_comm m]
    refine toNum_of (good4 h0 h1 hz h3) ?_
    rw [vN4, hv]
    generalize 2 ^ s * m = z at *
    omega
  | 3, _ =>
    have hn : n3 < 2 ^ s := by omega
    have hz := sum n3 hn
    show [(n0 : Int), (n1 : Int), (n2 : Int), orI .u64 (n3 : Int) ((2 ^ s * m : Nat) : Int)] = _
    rw [orr n3 hn, Nat.mul_left_comm m, Nat.mul_comm m]
    refine toNum_of (good4 h0 h1 h2 hz) ?_
    rw [vN4, hv]
    generalize 2 ^ s * m = z at *
    omega

theorem pow256 (i : Nat) : 256 ^ i = 2 ^ (8 * i) := by rw [show (256 : Nat) = 2 ^ 8 from rfl, ← Nat.pow_mul]

theorem from_loop {x : Nat} (hx : x < 2 ^ 256) (z : List Int) : ∀ j i : Nat, j + i = 32 →
    Ev2 (fun k n => whole_FromHash.l0.f k (bytesOf 32 x) z n (i : Int) (toNum (x % 256 ^ i))) (32, toNum x)
  | 0, i, h => by
    have : i = 32 := by omega
    subst this
    refine Ev2.succ (G := fun k n => some (32, toNum x)) (fun k n => ?_) (Ev2.const fun _ _ => rfl)
    simp only [whole_FromHash.l0.f, whole_FromHash.l0.go, whole_FromHash.l0.step]
    rw [decide_eq_false (by omega), Nat.mod_eq_of_lt (by omega)]; rfl
  | j + 1, i, h => by
    have ih := from_loop hx z j (i + 1) (by omega)
    have hi : i < 32 := by omega
    refine Ev2.succ (fun k n => ?_) ih
    have e64 : 8 * i = 64 * (i / 8) + 8 * (i % 8) := by omega
    have hlt : x % 256 ^ i < 2 ^ (64 * (i / 8) + 8 * (i % 8)) := by rw [← e64, ← pow256]; exact Nat.mod_lt _ (by rw [pow256]; exact Nat.two_pow_pos _)
    have hb : 2 ^ (8 * (i % 8)) * (x / 256 ^ i % 256) < 2 ^ 64 := by
      have h1 : x / 256 ^ i % 256 < 256 := Nat.mod_lt _ (by omega)
      have h2 : 2 ^ (8 * (i % 8)) ≤ 2 ^ 56 := Nat.pow_le_pow_right (by omega) (by omega)
      have := Nat.mul_lt_mul_of_le_of_lt h2 h1 (by omega)
      omega
    have hset := or_part (i / 8) (8 * (i % 8)) (x / 256 ^ i % 256) (by omega) (by omega) hlt hb
    rw [← e64, ← pow256, Nat.mul_comm (x / 256 ^ i % 256), ← Nat.mod_mul, ← Nat.pow_succ] at hset
    simp only [whole_FromHash.l0.f, whole_FromHash.l0.go, whole_FromHash.l0.step]
    rw [decide_eq_true (show (i : Int) < 32 by omega), decide_eq_true (show (0 : Int) ≤ (i : Int) by omega), quo8 i (by omega), rem8, decide_eq_true (show (0 : Int) ≤ ((i / 8 : Nat) : Int) by omega), decide_eq_true (show ((i / 8 : Nat) : Int) < 4 by omega),
      Int.toNat_natCast, Int.toNat_natCast, decide_eq_true (show i / 8 < 4 by omega), decide_eq_false (show ¬ ((8 * (i % 8) : Nat) : Int) < 0 by omega), bytesOf_getD 32 x i hi, wrap_u64 (n := ((x / 256 ^ i % 256 : Nat) : Int)) (by omega) (by omega), hset, addI_one (i := (i : Int)) (by omega) (by omega)]
    rfl

theorem from_ev {x : Nat} (hx : x < 2 ^ 256) : Ev (fun k => whole_FromHash.f k (bytesOf 32 x)) (toNum x) := by
  unfold whole_FromHash.f whole_FromHash.tree
  have h := (from_loop hx [0, 0, 0, 0] 32 0 rfl).ev
  rw [Nat.pow_zero, Nat.mod_one] at h
  exact Ev.bind h (Ev.const fun k => rfl)

theorem wrapB (x : Nat) : IntKind.wrap .u8 (x : Int) = ((x % 256 : Nat) : Int) := by
  unfold IntKind.wrap
  simp only [IntKind.signed, IntKind.bits, Bool.false_and, Bool.false_eq_true, if_false]
  rfl

/-- A byte of a number. -/
theorem get_byte {x i : Nat} (hx : x < 2 ^ 256) (hi : i < 32) : IntKind.wrap .u8 (shrI .u64 (List.getD (toNum x) (i / 8) 0) ((8 * (i % 8) : Nat) : Int)) = ((x / 256 ^ i % 256 : Nat) : Int) := by
  have e64 : 8 * i = 64 * (i / 8) + 8 * (i % 8) := by omega
  rw [pow256, e64]
  have hw : i / 8 < 4 := by omega
  have hs : i % 8 < 8 := by omega
  generalize i / 8 = w at *
  generalize i % 8 = s at *
  have hp : 2 ^ (8 * s) * (256 * 2 ^ (56 - 8 * s)) = 2 ^ 64 := by rw [show (256 : Nat) = 2 ^ 8 from rfl, ← Nat.pow_add, ← Nat.pow_add]; congr 1; omega
  have key : ∀ y : Nat, IntKind.wrap .u8 (shrI .u64 ((y % 2 ^ 64 : Nat) : Int) ((8 * s : Nat) : Int)) = ((y / 2 ^ (8 * s) % 256 : Nat) : Int) := fun y => by
    rw [shr_u64' _ _ (by omega), wrapB, ← hp, Nat.mod_mul_right_div_self, Nat.mod_mul_right_mod]
  have dd : ∀ c : Nat, x / 2 ^ (c + 8 * s) % 256 = x / 2 ^ c / 2 ^ (8 * s) % 256 := fun c => by rw [Nat.pow_add, Nat.div_div_eq_div_mul]
  rw [dd]
  match w, hw with
  | 0, _ => rw [getN0, key, Nat.mul_zero, Nat.pow_zero, Nat.div_one]
  | 1, _ => rw [getN1, key]
  | 2, _ => rw [getN2, key]
  | 3, _ => rw [getN3, key]

theorem set_prefix : ∀ (p : List Int) (v : Int) (n : Nat), List.set (p ++ List.replicate (n + 1) 0) p.length v = (p ++ [v]) ++ List.replicate n 0
  | [], v, n => by simp [List.replicate_succ]
  | a :: p, v, n => by simp [List.replicate_succ]

theorem bytesOf_succ : ∀ (n x : Nat), bytesOf (n + 1) x = bytesOf n x ++ [((x / 256 ^ n % 256 : Nat) : Int)]
  | 0, x => by simp [bytesOf]
  | n + 1, x => by
    rw [bytesOf, bytesOf_succ n (x / 256), bytesOf, List.cons_append, Nat.div_div_eq_div_mul, Nat.pow_succ, Nat.mul_comm (256 ^ n) 256]

theorem hash_loop {x : Nat} (hx : x < 2 ^ 256) (z : List Int) : ∀ j i : Nat, j + i = 32 →
    Ev2 (fun k n => whole_Hash.l0.f k (toNum x) z n (i : Int) (bytesOf i x ++ List.replicate j 0)) (32, bytesOf 32 x)
  | 0, i, h => by
    have : i = 32 := by omega
    subst this
    refine Ev2.succ (G := fun k n => some (32, bytesOf 32 x)) (fun k n => ?_) (Ev2.const fun _ _ => rfl)
    simp only [whole_Hash.l0.f, whole_Hash.l0.go, whole_Hash.l0.step]
    rw [decide_eq_false (by omega)]; simp
  | j + 1, i, h => by
    have ih := hash_loop hx z j (i + 1) (by omega)
    have hi : i < 32 := by omega
    refine Ev2.succ (fun k n => ?_) ih
    have hset := set_prefix (bytesOf i x) ((x / 256 ^ i % 256 : Nat) : Int) j
    rw [bytesOf_length, ← bytesOf_succ] at hset
    simp only [whole_Hash.l0.f, whole_Hash.l0.go, whole_Hash.l0.step]
    rw [decide_eq_true (show (i : Int) < 32 by omega), decide_eq_true (show (0 : Int) ≤ (i : Int) by omega), quo8 i (by omega), rem8, decide_eq_true (show (0 : Int) ≤ ((i / 8 : Nat) : Int) by omega), decide_eq_true (show ((i / 8 : Nat) : Int) < 4 by omega),
      Int.toNat_natCast, Int.toNat_natCast, decide_eq_true (show i / 8 < 4 by omega), decide_eq_true hi, decide_eq_false (show ¬ ((8 * (i % 8) : Nat) : Int) < 0 by omega), get_byte hx hi, hset, addI_one (i := (i : Int)) (by omega) (by omega)]
    rfl

theorem hash_ev {x : Nat} (hx : x < 2 ^ 256) : Ev (fun k => whole_Hash.f k (toNum x)) (bytesOf 32 x) := by
  unfold whole_Hash.f whole_Hash.tree
  have h := (hash_loop hx (List.replicate 32 0) 32 0 rfl).ev
  exact Ev.bind h (Ev.const fun k => rfl)

theorem hashes_loop {x : Nat} (hx : x < 2 ^ 256) (b : Bool) (z : List Int) : ∀ j i : Nat, j + i = 32 →
    Ev2 (fun k n => trailheadlaw02_WholeHashes.l0.f k b (bytesOf 32 x) z (toNum x) n (i : Int)) (.inl 32)
  | 0, i, h => by
    have : i = 32 := by omega
    subst this
    refine Ev2.succ (G := fun k n => some (.inl 32)) (fun k n => ?_) (Ev2.const fun _ _ => rfl)
    simp only [trailheadlaw02_WholeHashes.l0.f, trailheadlaw02_WholeHashes.l0.go, trailheadlaw02_WholeHashes.l0.step]
    rw [decide_eq_false (by omega)]; rfl
  | j + 1, i, h => by
    have ih := hashes_loop hx b z j (i + 1) (by omega)
    have hi : i < 32 := by omega
    refine Ev2.succ (fun k n => ?_) ih
    simp only [trailheadlaw02_WholeHashes.l0.f, trailheadlaw02_WholeHashes.l0.go, trailheadlaw02_WholeHashes.l0.step]
    rw [decide_eq_true (show (i : Int) < 32 by omega), decide_eq_true (show (0 : Int) ≤ (i : Int) by omega), quo8 i (by omega), rem8, decide_eq_true (show (0 : Int) ≤ ((i / 8 : Nat) : Int) by omega), decide_eq_true (show ((i / 8 : Nat) : Int) < 4 by omega),
      Int.toNat_natCast, Int.toNat_natCast, decide_eq_true (show i / 8 < 4 by omega), decide_eq_true hi, wrap_u64 (n := ((8 * (i % 8) : Nat) : Int)) (by omega) (by omega), decide_eq_false (show ¬ ((8 * (i % 8) : Nat) : Int) < 0 by omega), get_byte hx hi,
      bytesOf_getD 32 x i hi, addI_one (i := (i : Int)) (by omega) (by omega), bne_self_eq_false]
    rfl

end Go.Proofs.Ytjciljaojcekeaa.Sx
