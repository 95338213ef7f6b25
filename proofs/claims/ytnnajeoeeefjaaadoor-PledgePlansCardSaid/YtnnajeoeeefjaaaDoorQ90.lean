/- Pledges: plans, bits, books. -/
import Derived.Test.YtnnajeoeeefjaaaDoorQ70
import Derived.Test.YtnnajeoeeefjaaaDoorQ64
import Derived.Test.YtnnajeoeeefjaaaDoorWD
namespace Go.Proofs.YtnnajeoeeefjaaaDoor.Sy
open Go
set_option linter.unusedVariables false
set_option linter.unusedSimpArgs false

abbrev Plan := Int × (Int × Int)

def pP (p : Plan) : Prop := 1 ≤ p.2.1 ∧ p.2.1 ≤ 64 ∧ 0 ≤ p.2.2 ∧ p.2.2 < p.2.1
instance (p : Plan) : Decidable (pP p) := by unfold pP; infer_instance
def due (p : Plan) (h : Int) : Bool := decide (pP p ∧ 0 ≤ h ∧ h % p.2.1 = p.2.2)

theorem bandD' {p q : Prop} [Decidable p] [Decidable q] : (bif decide p then some (decide q) else some false) = some (decide (p ∧ q)) := by
  by_cases hp : p <;> by_cases hq : q <;> simp [hp, hq]

theorem pgood_eq (k : Nat) (p : Plan) : pledge_Good.f k p = some (decide (pP p)) := by
  unfold pledge_Good.f pledge_Good.tree
  simp only [bandD']
  exact congrArg some (decide_eq_decide.2 (by unfold pP; omega))

theorem pnew_eq (k : Nat) (p : Plan) : pledge_New.f k p = some (if pP p then .inr (p, (0, 0)) else .inl ()) := by
  unfold pledge_New.f pledge_New.tree
  rw [pgood_eq, Option.bind_some]
  by_cases h : pP p
  · rw [dt h, if_pos h]; rfl
  · rw [df h, if_neg h]; rfl

theorem rem_pos (h P : Int) (h0 : 0 ≤ h) : remI h P = h % P := by unfold remI; rw [Int.tmod_eq_emod_of_nonneg h0]

theorem due_eq (k : Nat) (p : Plan) (h : Int) : pledge_Plan_Due.f k p h = some (due p h) := by
  unfold pledge_Plan_Due.f pledge_Plan_Due.tree
  rw [pgood_eq, Option.bind_some]
  unfold due
  by_cases hp : pP p
  · rw [dt hp, cond_true]
    by_cases h0 : h ≥ 0
    · have hp1 := hp.1
      rw [dt h0, cond_true, df (by omega), cond_false, rem_pos h _ h0]
      by_cases e : h % p.2.1 = p.2.2
      · rw [dt ⟨hp, h0, e⟩, beqt e]
      · rw [df (fun x : pP p ∧ 0 ≤ h ∧ h % p.2.1 = p.2.2 => e x.2.2), beqf e]
    · rw [df h0, df (fun x : pP p ∧ 0 ≤ h ∧ h % p.2.1 = p.2.2 => h0 x.2.1)]; rfl
  · rw [df hp, df (fun x : pP p ∧ 0 ≤ h ∧ h % p.2.1 = p.2.2 => hp x.1)]; rfl

theorem rdue_eq (k : Nat) (p : Plan) (h : Int) : trailheadref18_Due.f k p.2.1 p.2.2 h = some (due p h) := by
  unfold trailheadref18_Due.f trailheadref18_Due.tree due
  by_cases h1 : p.2.1 ≥ 1
  · rw [dt h1, cond_true]
    by_cases h2 : p.2.1 ≤ 64
    · rw [dt h2, cond_true]
      by_cases h3 : p.2.2 ≥ 0
      · rw [dt h3, cond_true]
        by_cases h4 : p.2.2 < p.2.1
        · rw [dt h4, cond_true]
          by_cases h0 : h ≥ 0
          · rw [dt h0, cond_true, df (by omega), cond_false, rem_pos h _ h0]
            by_cases e : h % p.2.1 = p.2.2
            · rw [dt ⟨⟨h1, h2, h3, h4⟩, h0, e⟩, beqt e]
            · rw [df (fun x : pP p ∧ 0 ≤ h ∧ h % p.2.1 = p.2.2 => e x.2.2), beqf e]
          · rw [df h0, df (fun x : pP p ∧ 0 ≤ h ∧ h % p.2.1 = p.2.2 => h0 x.2.1)]; rfl
        · rw [df h4, df (fun x : pP p ∧ 0 ≤ h ∧ h % p.2.1 = p.2.2 => h4 x.1.2.2.2)]; rfl
      · rw [df h3, df (fun x : pP p ∧ 0 ≤ h ∧ h % p.2.1 = p.2.2 => h3 x.1.2.2.1)]; rfl
    · rw [df h2, df (fun x : pP p ∧ 0 ≤ h ∧ h % p.2.1 = p.2.2 => h2 x.1.2.1)]; rfl
  · rw [df h1, df (fun x : pP p ∧ 0 ≤ h ∧ h % p.2.1 = p.2.2 => h1 x.1.1)]; rfl

def bitB (s : Int) (id : List Int) : Bool := (sha (sha (num 8 s ++ id))).getD 0 0 % 2 == 1

theorem byteL_getD {l : List Int} (h : byteL l) (i : Nat) : 0 ≤ l.getD i 0 ∧ l.getD i 0 < 256 := by
  rw [List.getD_eq_getElem?_getD]
  by_cases hi : i < l.length
  · rw [List.getElem?_eq_getElem hi]; exact h _ (List.getElem_mem hi)
  · rw [List.getElem?_eq_none (by omega)]; exact ⟨by decide, by decide⟩

theorem and1_u8 (x : Int) (h : 0 ≤ x) (h' : x < 256) : andI .u8 x 1 = x % 2 := by
  obtain ⟨n, rfl⟩ : ∃ n : Nat, x = n := ⟨x.toNat, by omega⟩
  unfold andI
  have hb : IntKind.bits .u8 = 8 := rfl
  rw [hb, BitVec.toNat_and, BitVec.toNat_ofInt]
  have e2 : (BitVec.ofInt 8 (1 : Int)).toNat = 2 ^ 1 - 1 := by decide
  have e1 : (((n : Int) % ((2 ^ 8 : Nat) : Int)).toNat) = n := by omega
  rw [e2, e1, Nat.and_two_pow_sub_one_eq_mod, IntKind.wrap_u8]
  omega

theorem bit_len (s : Int) {id : List Int} (hn : name id) : (num 8 s ++ id).length = 40 := by simp [hn.1]
theorem bit_byteL (s : Int) {id : List Int} (hn : name id) : byteL (num 8 s ++ id) := by
  intro y hy
  rcases List.mem_append.1 hy with h | h
  · exact num_byteL _ _ y h
  · exact hn.2 y h

theorem bit_eq (k : Nat) (p : Plan) (id : List Int) (hn : name id) (hk : 20000 < k) : pledge_Plan_Bit.f k p id H8 K64 = some (bitB p.1 id) := by
  unfold pledge_Plan_Bit.f pledge_Plan_Bit.tree
  rw [put0_eq k 8 [p.1] (by omega) (by simp; omega) (by simp), Option.bind_some, nums1, cl_8]
  rw [names_eq k [id] _ (by intro h hh; simp at hh; rw [hh]; exact hn.1) (by simp; omega) (by simp) (by simp), Option.bind_some]
  have e : num 8 p.1 ++ [id].flatten = num 8 p.1 ++ id := by simp
  rw [e, text_eq k _ (bit_byteL _ hn), Option.bind_some, double1_eq k _ (bit_byteL _ hn) hk (by rw [bit_len _ hn]; omega), Option.bind_some]
  have hb := byteL_getD (sha_byteL (sha (num 8 p.1 ++ id))) 0
  unfold bitB
  rw [and1_u8 _ hb.1 hb.2]

theorem rbit_eq (k : Nat) (s : Int) (id : List Int) (hn : name id) (hk : 20000 < k) : trailheadref18_Bit.f k s id = some (bitB s id) := by
  unfold trailheadref18_Bit.f trailheadref18_Bit.tree
  rw [number_eq k 8 s (by omega), Option.bind_some, rname_eq k id hn (by omega), Option.bind_some, cl_8, fits_ok (by rw [hn.1]; simp), cond_true,
    rdouble_eq k _ (bit_byteL _ hn) (by rw [bit_len _ hn]; omega) (by rw [bit_len _ hn]; omega), Option.bind_some]
  have hb := byteL_getD (sha_byteL (sha (num 8 s ++ id))) 0
  unfold bitB
  rw [rem_pos _ _ hb.1]

/-! ### Bits in words -/

def wb (ws : List Int) (i : Nat) : Bool := ((ws.getD (i / 64) 0).toNat).testBit (i % 64)

def okB (ws : List Int) (bits : List Bool) : Prop := ws.length = (bits.length + 63) / 64 ∧ (∀ y ∈ ws, 0 ≤ y ∧ y < 18446744073709551616) ∧ ∀ i, wb ws i = bits.getD i false

theorem okB_nil : okB [] [] := ⟨rfl, (fun y h => by cases h), (fun i => by unfold wb; simp)⟩

theorem or_bit (x : Int) (r : Nat) (h : 0 ≤ x) (h' : x < 18446744073709551616) (hr : r < 64) : orI .u64 x (shlI .u64 1 (r : Int)) = ((x.toNat ||| 2 ^ r : Nat) : Int) := by
  obtain ⟨n, rfl⟩ : ∃ n : Nat, x = n := ⟨x.toNat, by omega⟩
  have hp : 2 ^ r < 2 ^ 64 := Nat.pow_lt_pow_right (by omega) hr
  have e1 : shlI .u64 1 (r : Int) = ((2 ^ r : Nat) : Int) := by
    unfold shlI
    have hb : IntKind.bits .u64 = 64 := rfl
    rw [hb, Int.toNat_natCast, show min r 64 = r by omega, w_u64, Int.one_mul]
    have : ((2 : Int) ^ r) = ((2 ^ r : Nat) : Int) := by simp
    rw [this]
    generalize 2 ^ r = q at hp ⊢
    omega
  rw [e1]
  unfold orI
  have hb : IntKind.bits .u64 = 64 := rfl
  have t (z : Nat) (hz : z < 2 ^ 64) : (BitVec.ofInt 64 (z : Int)).toNat = z := by
    rw [BitVec.toNat_ofInt]; omega
  rw [hb, BitVec.toNat_or, t n (by omega), t _ hp, w_u64, Int.toNat_natCast]
  have := Nat.or_lt_two_pow (show n < 2 ^ 64 by omega) hp
  omega

theorem wb_at (x : Int) (r : Nat) (h : 0 ≤ x) (h' : x < 18446744073709551616) (hr : r < 64) : (andI .u64 (shrI .u64 x (r : Int)) 1 == (1 : Int)) = x.toNat.testBit r := by
  obtain ⟨n, rfl⟩ : ∃ n : Nat, x = n := ⟨x.toNat, by omega⟩
  have e1 : shrI .u64 (n : Int) (r : Int) = ((n / 2 ^ r : Nat) : Int) := by
    unfold shrI
    have hb : IntKind.bits .u64 = 64 := rfl
    rw [hb, Int.toNat_natCast, show min r 64 = r by omega]
    have : ((2 : Int) ^ r) = ((2 ^ r : Nat) : Int) := by simp
    rw [this, Int.fdiv_eq_ediv_of_nonneg _ (Int.natCast_nonneg _), ← Int.natCast_ediv]
  rw [e1]
  have hle : n / 2 ^ r ≤ n := Nat.div_le_self _ _
  unfold andI
  have hb : IntKind.bits .u64 = 64 := rfl
  have t (z : Nat) (hz : z < 2 ^ 64) : (BitVec.ofInt 64 (z : Int)).toNat = z := by
    rw [BitVec.toNat_ofInt]; omega
  have e2 : (BitVec.ofInt 64 (1 : Int)).toNat = 2 ^ 1 - 1 := by decide
  rw [hb, BitVec.toNat_and, t _ (by omega), e2, Nat.and_two_pow_sub_one_eq_mod, w_u64, Int.toNat_natCast, Nat.testBit_eq_decide_div_mod_eq]
  have : n / 2 ^ r % 2 ^ 1 = n / 2 ^ r % 2 := rfl
  rw [this]
  by_cases hh : n / 2 ^ r % 2 = 1
  · rw [dt hh, hh]; rfl
  · rw [df hh, show n / 2 ^ r % 2 = 0 by omega]; rfl

theorem wb_app0 (ws : List Int) (i : Nat) : wb (ws ++ [0]) i = wb ws i := by
  unfold wb
  by_cases h : i / 64 < ws.length
  · rw [List.getD_eq_getElem?_getD, List.getElem?_append_left h, ← List.getD_eq_getElem?_getD]
  · rw [List.getD_eq_getElem?_getD, List.getElem?_append_right (by omega)]
    have e2 : ws.getD (i / 64) 0 = 0 := by rw [List.getD_eq_getElem?_getD, List.getElem?_eq_none (by omega)]; rfl
    rw [e2]
    by_cases h0 : i / 64 - ws.length = 0
    · rw [h0]; rfl
    · rw [List.getElem?_eq_none (by simp; omega)]; rfl

theorem wb_set (ws : List Int) (g i : Nat) (hg : g / 64 < ws.length) (hw : ∀ y ∈ ws, 0 ≤ y ∧ y < 18446744073709551616) :
    wb (ws.set (g / 64) (((ws.getD (g / 64) 0).toNat ||| 2 ^ (g % 64) : Nat) : Int)) i = (wb ws i || decide (i = g)) := by
  unfold wb
  by_cases h : i / 64 = g / 64
  · rw [h, List.getD_eq_getElem?_getD, List.getElem?_set, if_pos rfl, if_pos hg, Option.getD_some, Int.toNat_natCast, Nat.testBit_or, Nat.testBit_two_pow]
    congr 1
    exact decide_eq_decide.2 (by omega)
  · rw [List.getD_eq_getElem?_getD, List.getElem?_set, if_neg (fun e => h e.symm), ← List.getD_eq_getElem?_getD, df (fun e => h (by rw [e])), Bool.or_false]

theorem getD_snoc (l : List Bool) (b : Bool) (i : Nat) : (l ++ [b]).getD i false = (l.getD i false || (decide (i = l.length) && b)) := by
  rw [List.getD_eq_getElem?_getD, List.getD_eq_getElem?_getD]
  by_cases h : i < l.length
  · rw [List.getElem?_append_left h, df (by omega : ¬ i = l.length)]; simp
  · rw [List.getElem?_append_right (by omega), List.getElem?_eq_none (by omega : l.length ≤ i)]
    by_cases h0 : i = l.length
    · subst h0; simp
    · rw [df h0, List.getElem?_eq_none (by simp; omega)]; rfl

theorem getD_w {ws : List Int} (hw : ∀ y ∈ ws, 0 ≤ y ∧ y < 18446744073709551616) (i : Nat) : 0 ≤ ws.getD i 0 ∧ ws.getD i 0 < 18446744073709551616 := by
  rw [List.getD_eq_getElem?_getD]
  by_cases hi : i < ws.length
  · rw [List.getElem?_eq_getElem hi]; exact hw _ (List.getElem_mem hi)
  · rw [List.getElem?_eq_none (by omega)]; exact ⟨by decide, by decide⟩

/-- A word more, where one is needed. -/
def grown (ws : List Int) (g : Nat) : List Int := if g % 64 = 0 then ws ++ [0] else ws
def given1 (ws : List Int) (g : Nat) (b : Bool) : List Int := bif b then (grown ws g).set (g / 64) ((((grown ws g).getD (g / 64) 0).toNat ||| 2 ^ (g % 64) : Nat) : Int) else grown ws g

theorem grown_len {ws : List Int} {bits : List Bool} (h : okB ws bits) : (grown ws bits.length).length = (bits.length + 1 + 63) / 64 ∧ bits.length / 64 < (grown ws bits.length).length := by
  have h1 := h.1
  unfold grown
  split
  · rw [List.length_append, List.length_singleton]; omega
  · omega
theorem grown_w {ws : List Int} {bits : List Bool} (h : okB ws bits) : ∀ y ∈ grown ws bits.length, 0 ≤ y ∧ y < 18446744073709551616 := by
  unfold grown
  split
  · intro y hy
    rcases List.mem_append.1 hy with hy | hy
    · exact h.2.1 y hy
    · rw [List.mem_singleton.1 hy]; exact ⟨by decide, by decide⟩
  · exact h.2.1
theorem grown_wb {ws : List Int} {bits : List Bool} (h : okB ws bits) (i : Nat) : wb (grown ws bits.length) i = bits.getD i false := by
  unfold grown
  split
  · rw [wb_app0]; exact h.2.2 i
  · exact h.2.2 i

theorem given1_ok {ws : List Int} {bits : List Bool} (h : okB ws bits) (b : Bool) : okB (given1 ws bits.length b) (bits ++ [b]) := by
  obtain ⟨hl, hg⟩ := grown_len h
  have hw := grown_w h
  have hb := grown_wb h
  unfold given1
  generalize grown ws bits.length = gs at hl hg hw hb
  cases b
  · refine ⟨by rw [cond_false, hl, List.length_append]; rfl, hw, fun i => ?_⟩
    rw [cond_false, hb, getD_snoc]; simp
  · refine ⟨by rw [cond_true, List.length_set, hl, List.length_append]; rfl, fun y hy => ?_, fun i => ?_⟩
    · rw [cond_true] at hy
      rcases List.mem_or_eq_of_mem_set hy with hy | hy
      · exact hw y hy
      · subst hy
        have h0 := getD_w hw (bits.length / 64)
        have := Nat.or_lt_two_pow (show (gs.getD (bits.length / 64) 0).toNat < 2 ^ 64 by omega) (Nat.pow_lt_pow_right (show 1 < 2 by omega) (show bits.length % 64 < 64 by omega))
        omega
    · rw [cond_true, wb_set gs bits.length i hg hw, hb, getD_snoc, Bool.and_true]

theorem at_eq (k : Nat) (p : Plan) (gm : Int × Int) {ws : List Int} {bits : List Bool} (h : okB ws bits) (i : Nat) (hi : i < bits.length) (hl : bits.length ≤ 1000000) : pledge_Book_at.f k (i : Int) p gm ws = some (bits.getD i false) := by
  unfold pledge_Book_at.f pledge_Book_at.tree
  have h1 := h.1
  have e1 : quoI .i64 (i : Int) 64 = ((i / 64 : Nat) : Int) := by
    unfold quoI; rw [Int.tdiv_eq_ediv_of_nonneg (by omega), i64_id (by omega) (by omega)]; omega
  have e2 : remI (i : Int) 64 = ((i % 64 : Nat) : Int) := by rw [rem_pos _ _ (by omega)]; omega
  simp only [e1, e2, Int.toNat_natCast]
  repeat rw [dt (by omega), cond_true]
  rw [df (by omega), cond_false]
  have hw := getD_w h.2.1 (i / 64)
  rw [wb_at _ _ hw.1 hw.2 (by omega)]
  exact congrArg some (h.2.2 i)

/-- The bits of names at heights. -/
def gb (p : Plan) : Int → List (List Int) → List Bool
  | _, [] => []
  | h, id :: r => (bif due p h then [bitB p.1 id] else []) ++ gb p (h + 1) r

theorem gb_cons (p : Plan) (h : Int) (id : List Int) (r : List (List Int)) : gb p h (id :: r) = (bif due p h then [bitB p.1 id] else []) ++ gb p (h + 1) r := rfl

theorem gb_append (p : Plan) : ∀ (a b : List (List Int)) (h : Int), gb p h (a ++ b) = gb p h a ++ gb p (h + a.length) b
  | [], b, h => by simp [gb]
  | x :: a, b, h => by
    rw [List.cons_append, gb_cons, gb_cons]
    have e : h + 1 + (a.length : Int) = h + ((a.length + 1 : Nat) : Int) := by omega
    rw [gb_append p a b (h + 1), List.append_assoc, List.length_cons, e]

theorem gb_len (p : Plan) : ∀ (a : List (List Int)) (h : Int), (gb p h a).length ≤ a.length
  | [], h => by simp [gb]
  | x :: a, h => by
    have := gb_len p a (h + 1)
    unfold gb
    rw [List.length_append, List.length_cons]
    cases due p h
    · rw [cond_false]; simp; omega
    · rw [cond_true]; simp; omega

theorem give_l0 (k : Nat) (hk : 20000 < k) (p : Plan) (x1 : Int) (hx : -9000000000000 ≤ x1 ∧ x1 ≤ 9000000000000) (l : List (List Int)) (hn : ∀ y ∈ l, name y) (hll : l.length ≤ 100000) (met : Int) : ∀ (d n i : Nat) (c : Int) (bits : List Bool) (ws : List Int), i + d = l.length → d < n → okB ws bits → bits.length + d ≤ 1000000 → 0 ≤ c → c + d ≤ 10000000 →
    ∃ ws', pledge_Book_Give.l0.f k x1 (l.length : Int) p l H8 K64 n c (i : Int) ((bits.length : Int), met) ws = some (c + ((gb p (x1 + i) (l.drop i)).length : Int), (l.length : Int), (((bits ++ gb p (x1 + i) (l.drop i)).length : Int), met), ws') ∧ okB ws' (bits ++ gb p (x1 + i) (l.drop i)) := by
  intro d
  induction d with
  | zero =>
    intro n i c bits ws hi hd ho hb hc hc'
    obtain ⟨n, rfl⟩ : ∃ q, n = q + 1 := ⟨n - 1, by omega⟩
    have : i = l.length := by omega
    subst this
    rw [List.drop_length]
    unfold gb
    refine ⟨ws, ?_, by rw [List.append_nil]; exact ho⟩
    unfold pledge_Book_Give.l0.f pledge_Book_Give.l0.go pledge_Book_Give.l0.step
    rw [df (Int.lt_irrefl _), List.append_nil]
    simp
  | succ d ih =>
    intro n i c bits ws hi hd ho hb hc hc'
    obtain ⟨n, rfl⟩ : ∃ q, n = q + 1 := ⟨n - 1, by omega⟩
    have hlt : i < l.length := by omega
    have e1 : addI .i64 (i : Int) 1 = ((i + 1 : Nat) : Int) := add_id (by omega) (by omega)
    have e3 : addI .i64 x1 (i : Int) = x1 + i := add_id (by omega) (by omega)
    have e4 : l.getD i (List.replicate 32 0 : List Int) = l[i] := by rw [List.getD_eq_getElem?_getD, List.getElem?_eq_getElem hlt]; rfl
    have eg : gb p (x1 + i) (l.drop i) = (bif due p (x1 + i) then [bitB p.1 l[i]] else []) ++ gb p (x1 + ((i + 1 : Nat) : Int)) (l.drop (i + 1)) := by
      rw [List.drop_eq_getElem_cons hlt, gb]
      congr 2
      omega
    have hname := hn l[i] (List.getElem_mem hlt)
    rw [eg]
    unfold pledge_Book_Give.l0.f at ih ⊢
    unfold pledge_Book_Give.l0.go pledge_Book_Give.l0.step
    simp only [e1, e3, Int.toNat_natCast, e4]
    rw [dt (by omega), cond_true, dt (by omega), cond_true]
    repeat rw [dt (by omega), cond_true]
    rw [due_eq, Option.bind_some]
    cases hdue : due p (x1 + i)
    · rw [Bool.not_false, cond_true, cond_false, List.nil_append]
      exact ih n (i + 1) c bits ws (by omega) (by omega) ho (by omega) hc (by omega)
    · rw [Bool.not_true, cond_false, cond_true]
      obtain ⟨ws', hr, hok⟩ := ih n (i + 1) (c + 1) (bits ++ [bitB p.1 l[i]]) (given1 ws bits.length (bitB p.1 l[i])) (by omega) (by omega) (given1_ok ho _) (by rw [List.length_append, List.length_singleton]; omega) (by omega) (by omega)
      have ea : bits ++ [bitB p.1 l[i]] ++ gb p (x1 + ((i + 1 : Nat) : Int)) (l.drop (i + 1)) = bits ++ ([bitB p.1 l[i]] ++ gb p (x1 + ((i + 1 : Nat) : Int)) (l.drop (i + 1))) := List.append_assoc _ _ _
      have el : c + 1 + ((gb p (x1 + ((i + 1 : Nat) : Int)) (l.drop (i + 1))).length : Int) = c + ((([bitB p.1 l[i]] ++ gb p (x1 + ((i + 1 : Nat) : Int)) (l.drop (i + 1))).length : Nat) : Int) := by
        rw [List.length_append, List.length_singleton]; omega
      rw [ea, el] at hr
      rw [ea] at hok
      refine ⟨ws', ?_, hok⟩
      have hlen : ((bits ++ [bitB p.1 l[i]]).length : Int) = (bits.length : Int) + 1 := by rw [List.length_append, List.length_singleton]; omega
      rw [hlen] at hr
      have ex7 : addI .i64 c 1 = c + 1 := add_id (by omega) (by omega)
      have exg : addI .i64 (bits.length : Int) 1 = (bits.length : Int) + 1 := add_id (by omega) (by omega)
      have eq1 : quoI .i64 (bits.length : Int) 64 = ((bits.length / 64 : Nat) : Int) := by
        unfold quoI; rw [Int.tdiv_eq_ediv_of_nonneg (by omega), i64_id (by omega) (by omega)]; omega
      have eq2 : remI (bits.length : Int) 64 = ((bits.length % 64 : Nat) : Int) := by rw [rem_pos _ _ (by omega)]; omega
      have hgl := grown_len ho
      have hgw := getD_w (grown_w ho) (bits.length / 64)
      simp only [ex7, exg, eq1, eq2, Int.toNat_natCast]
      have h1 := ho.1
      by_cases h0 : bits.length % 64 = 0
      · have eg0 : grown ws bits.length = ws ++ [0] := if_pos h0
        rw [beqt (by omega : ((bits.length % 64 : Nat) : Int) = 0), cond_true, fits_ok (by omega), cond_true, bit_eq k p _ hname hk, Option.bind_some]
        rw [eg0] at hgl hgw
        unfold given1 at hr
        rw [eg0] at hr
        cases hb : bitB p.1 l[i]
        · rw [hb] at hr
          exact hr
        · rw [hb, cond_true] at hr
          rw [cond_true, ← or_bit _ _ hgw.1 hgw.2 (by omega)] at *
          repeat rw [dt (by omega), cond_true]
          rw [df (by omega), cond_false]
          repeat rw [dt (by omega), cond_true]
          exact hr
      · have eg0 : grown ws bits.length = ws := if_neg h0
        rw [beqf (by omega : ((bits.length % 64 : Nat) : Int) ≠ 0), cond_false, bit_eq k p _ hname hk, Option.bind_some]
        rw [eg0] at hgl hgw
        unfold given1 at hr
        rw [eg0] at hr
        cases hb : bitB p.1 l[i]
        · rw [hb] at hr
          exact hr
        · rw [hb, cond_true] at hr
          rw [cond_true, ← or_bit _ _ hgw.1 hgw.2 (by omega)] at *
          repeat rw [dt (by omega), cond_true]
          rw [df (by omega), cond_false]
          repeat rw [dt (by omega), cond_true]
          exact hr

end Go.Proofs.YtnnajeoeeefjaaaDoor.Sy
