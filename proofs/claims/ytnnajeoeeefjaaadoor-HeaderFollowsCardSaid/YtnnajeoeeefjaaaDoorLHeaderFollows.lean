/- HeaderFollows: the statement on data, and the card. -/
import Derived.Test.YtnnajeoeeefjaaaDoorQ71
import Derived.Test.YtnnajeoeeefjaaaDoorRHeaderFollows
namespace Go.Proofs.YtnnajeoeeefjaaaDoor.Sy
open Go
set_option linter.unusedVariables false
set_option linter.unusedSimpArgs false

/-- The first n links hold. -/
def folB (l : List Hdr) : Nat → Bool
  | 0 => true
  | n + 1 => folB l n && decide ((l.getD (n + 1) dfl_31f8ee).2.1 = hid (l.getD n dfl_31f8ee))

theorem folB_mono (l : List Hdr) : ∀ (m n : Nat), m ≤ n → folB l n = true → folB l m = true := by
  intro m n h
  induction h with
  | refl => exact id
  | step _ ih => exact fun e => ih (Bool.and_eq_true _ _ ▸ e).1

theorem getD_app_l {α : Type} (a b : List α) (n : Nat) (d : α) (h : n < a.length) : (a ++ b).getD n d = a.getD n d := by
  rw [List.getD_eq_getElem?_getD, List.getElem?_append_left h, ← List.getD_eq_getElem?_getD]
theorem getD_app_r {α : Type} (a b : List α) (n : Nat) (d : α) (h : a.length ≤ n) : (a ++ b).getD n d = b.getD (n - a.length) d := by
  rw [List.getD_eq_getElem?_getD, List.getElem?_append_right h, ← List.getD_eq_getElem?_getD]

theorem folB_app (l : List Hdr) (x : Hdr) : ∀ n, n < l.length → folB (l ++ [x]) n = folB l n := by
  intro n
  induction n with
  | zero => intro _; rfl
  | succ n ih =>
    intro h
    unfold folB
    rw [ih (by omega)]
    simp only [getD_app_l _ _ _ _ h, getD_app_l _ _ _ _ (show n < l.length by omega)]

theorem getD_hN {l : List Hdr} (h : ∀ x ∈ l, hN x) {i : Nat} (hi : i < l.length) : hN (l.getD i dfl_31f8ee) := by
  rw [List.getD_eq_getElem?_getD, List.getElem?_eq_getElem hi]
  exact h _ (List.getElem_mem hi)

theorem fol_l0 (k : Nat) (hk : 20000 < k) (l : List Hdr) (hA : ∀ x ∈ l, hN x) (hl : l.length ≤ 1000) : ∀ (d n i : Nat), i + d = l.length → d < n → folB l (i - 1) = true →
    header_Follows.l0.f k (l.length : Int) l H8 K64 n (i : Int) = some (if folB l (l.length - 1) = true then .inl (l.length : Int) else .inr false) := by
  intro d
  induction d with
  | zero =>
    intro n i hi hn hf
    obtain ⟨n, rfl⟩ : ∃ q, n = q + 1 := ⟨n - 1, by omega⟩
    have e : i = l.length := by omega
    subst e
    unfold header_Follows.l0.f header_Follows.l0.go header_Follows.l0.step
    rw [df (Int.lt_irrefl _), if_pos hf]
    rfl
  | succ d ih =>
    intro n i hi hn hf
    obtain ⟨n, rfl⟩ : ∃ q, n = q + 1 := ⟨n - 1, by omega⟩
    have e1 : addI .i64 (i : Int) 1 = ((i + 1 : Nat) : Int) := add_id (by omega) (by omega)
    have ih' := ih n (i + 1) (by omega) (by omega)
    unfold header_Follows.l0.f at ih' ⊢
    unfold header_Follows.l0.go header_Follows.l0.step
    cases i with
    | zero =>
      simp only [e1, Int.toNat_natCast]
      repeat rw [dt (by omega), cond_true]
      rw [df (by omega), cond_false]
      exact ih' rfl
    | succ j =>
      have e2 : subI .i64 ((j + 1 : Nat) : Int) 1 = (j : Int) := (sub_id (by omega) (by omega)).trans (by omega)
      simp only [e1, e2, Int.toNat_natCast]
      repeat rw [dt (by omega), cond_true]
      have hx := getD_hN hA (show j < l.length by omega)
      have hid : header_Id.f k ((l.getD j dfl_31f8ee).1, (l.getD j dfl_31f8ee).2.1, (l.getD j dfl_31f8ee).2.2.1, (l.getD j dfl_31f8ee).2.2.2.1, (l.getD j dfl_31f8ee).2.2.2.2) H8 K64 = some (hid (l.getD j dfl_31f8ee)) := hid_eq k _ hx hk
      rw [hid, Option.bind_some]
      have hs : folB l (j + 1) = decide ((l.getD (j + 1) dfl_31f8ee).2.1 = Sy.hid (l.getD j dfl_31f8ee)) := by
        have hf' : folB l j = true := hf
        show (folB l j && _) = _
        rw [hf', Bool.true_and]
      by_cases hp : (l.getD (j + 1) dfl_31f8ee).2.1 = Sy.hid (l.getD j dfl_31f8ee)
      · rw [dt hp] at hs ⊢
        rw [Bool.not_true, cond_false]
        exact ih' hs
      · rw [df hp] at hs ⊢
        rw [if_neg (fun h => by rw [folB_mono l (j + 1) _ (by omega) h] at hs; cases hs)]
        rfl

theorem fol_eq (k : Nat) (hk : 20000 < k) (l : List Hdr) (hA : ∀ x ∈ l, hN x) (hl : l.length ≤ 1000) : header_Follows.f k l H8 K64 = some (folB l (l.length - 1)) := by
  unfold header_Follows.f header_Follows.tree
  have := fol_l0 k hk l hA hl l.length k 0 (by omega) (by omega) rfl
  rw [show ((0 : Nat) : Int) = 0 from rfl] at this
  rw [this, Option.bind_some]
  cases folB l (l.length - 1)
  · rfl
  · rfl

theorem fol1_l0 (k : Nat) (hk : 20000 < k) (l : List Hdr) (hA : ∀ x ∈ l, hN x) (hl : l.length ≤ 1000) : ∀ (d n i : Nat), i + d = l.length → d < n → folB l (i - 1) = true →
    header_Follows_v1.l0.f k (l.length : Int) l H8 K64 n (i : Int) = some (if folB l (l.length - 1) = true then .inl (l.length : Int) else .inr false) := by
  intro d
  induction d with
  | zero =>
    intro n i hi hn hf
    obtain ⟨n, rfl⟩ : ∃ q, n = q + 1 := ⟨n - 1, by omega⟩
    have e : i = l.length := by omega
    subst e
    unfold header_Follows_v1.l0.f header_Follows_v1.l0.go header_Follows_v1.l0.step
    rw [df (Int.lt_irrefl _), if_pos hf]
    rfl
  | succ d ih =>
    intro n i hi hn hf
    obtain ⟨n, rfl⟩ : ∃ q, n = q + 1 := ⟨n - 1, by omega⟩
    have e1 : addI .i64 (i : Int) 1 = ((i + 1 : Nat) : Int) := add_id (by omega) (by omega)
    have ih' := ih n (i + 1) (by omega) (by omega)
    unfold header_Follows_v1.l0.f at ih' ⊢
    unfold header_Follows_v1.l0.go header_Follows_v1.l0.step
    cases i with
    | zero =>
      simp only [e1, Int.toNat_natCast]
      repeat rw [dt (by omega), cond_true]
      rw [df (by omega), cond_false]
      exact ih' rfl
    | succ j =>
      have e2 : subI .i64 ((j + 1 : Nat) : Int) 1 = (j : Int) := (sub_id (by omega) (by omega)).trans (by omega)
      simp only [e1, e2, Int.toNat_natCast]
      repeat rw [dt (by omega), cond_true]
      have hx := getD_hN hA (show j < l.length by omega)
      have hid : header_Id.f k ((l.getD j dfl_31f8ee).1, (l.getD j dfl_31f8ee).2.1, (l.getD j dfl_31f8ee).2.2.1, (l.getD j dfl_31f8ee).2.2.2.1, (l.getD j dfl_31f8ee).2.2.2.2) H8 K64 = some (hid (l.getD j dfl_31f8ee)) := hid_eq k _ hx hk
      rw [hid, Option.bind_some]
      have hs : folB l (j + 1) = decide ((l.getD (j + 1) dfl_31f8ee).2.1 = Sy.hid (l.getD j dfl_31f8ee)) := by
        have hf' : folB l j = true := hf
        show (folB l j && _) = _
        rw [hf', Bool.true_and]
      by_cases hp : (l.getD (j + 1) dfl_31f8ee).2.1 = Sy.hid (l.getD j dfl_31f8ee)
      · rw [dt hp] at hs ⊢
        rw [Bool.not_true, cond_false]
        exact ih' hs
      · rw [df hp] at hs ⊢
        rw [if_neg (fun h => by rw [folB_mono l (j + 1) _ (by omega) h] at hs; cases hs)]
        rfl

theorem fol1_eq (k : Nat) (hk : 20000 < k) (l : List Hdr) (hA : ∀ x ∈ l, hN x) (hl : l.length ≤ 1000) : header_Follows_v1.f k l H8 K64 = some (folB l (l.length - 1)) := by
  unfold header_Follows_v1.f header_Follows_v1.tree
  have := fol1_l0 k hk l hA hl l.length k 0 (by omega) (by omega) rfl
  rw [show ((0 : Nat) : Int) = 0 from rfl] at this
  rw [this, Option.bind_some]
  cases folB l (l.length - 1)
  · rfl
  · rfl

theorem law_l0 (k : Nat) (hk : 20000 < k) (l : List Hdr) (hA : ∀ x ∈ l, hN x) (hl : l.length ≤ 1000) : ∀ (d n i : Nat) (out : List Hdr), i + d = l.length → d < n → out.length = i → (∀ x ∈ out, hN x) → folB out (i - 1) = true →
    ∃ out', trailheadlaw06_HeaderFollows.l0.f k (l.length : Int) l H8 K64 n (folB l (i - 1)) (i : Int) out = some (folB l (l.length - 1), (l.length : Int), out') ∧ (∀ x ∈ out', hN x) ∧ out'.length = l.length ∧ folB out' (out'.length - 1) = true := by
  intro d
  induction d with
  | zero =>
    intro n i out hi hn ho hoA hf
    obtain ⟨n, rfl⟩ : ∃ q, n = q + 1 := ⟨n - 1, by omega⟩
    have e : i = l.length := by omega
    unfold trailheadlaw06_HeaderFollows.l0.f trailheadlaw06_HeaderFollows.l0.go trailheadlaw06_HeaderFollows.l0.step
    refine ⟨out, ?_, hoA, ho.trans e, by rw [ho]; exact hf⟩
    rw [e, df (Int.lt_irrefl _)]
    rfl
  | succ d ih =>
    intro n i out hi hn ho hoA hf
    obtain ⟨n, rfl⟩ : ∃ q, n = q + 1 := ⟨n - 1, by omega⟩
    have hlt : i < l.length := by omega
    have e1 : addI .i64 (i : Int) 1 = ((i + 1 : Nat) : Int) := add_id (by omega) (by omega)
    have hxi := getD_hN hA hlt
    have ih' := fun out => ih n (i + 1) out (by omega) (by omega)
    unfold trailheadlaw06_HeaderFollows.l0.f at ih' ⊢
    unfold trailheadlaw06_HeaderFollows.l0.go trailheadlaw06_HeaderFollows.l0.step
    have app (x : Hdr) (hx : hN x) : ∀ y ∈ out ++ [x], hN y := by
      intro y hy
      rcases List.mem_append.1 hy with h | h
      · exact hoA y h
      · rw [List.mem_singleton.1 h]; exact hx
    cases i with
    | zero =>
      have e0 : out = [] := List.length_eq_zero_iff.1 ho
      subst e0
      simp only [e1, Int.toNat_natCast]
      repeat rw [dt (by omega), cond_true]
      rw [df (by omega), cond_false, fits_ok (by simp), cond_true]
      exact ih' _ rfl (app _ hxi) rfl
    | succ j =>
      have e2 : subI .i64 ((j + 1 : Nat) : Int) 1 = (j : Int) := (sub_id (by omega) (by omega)).trans (by omega)
      have hj : j < l.length := by omega
      have hjo : j < out.length := by omega
      have hx := getD_hN hA hj
      have hxo := getD_hN hoA hjo
      have h1 : trailheadref06_Id.f k ((l.getD j dfl_31f8ee).1, (l.getD j dfl_31f8ee).2.1, (l.getD j dfl_31f8ee).2.2.1, (l.getD j dfl_31f8ee).2.2.2.1, (l.getD j dfl_31f8ee).2.2.2.2) = some (hid (l.getD j dfl_31f8ee)) := rid_eq k _ hx hk
      have h2 : trailheadref06_Id.f k ((out.getD j dfl_31f8ee).1, (out.getD j dfl_31f8ee).2.1, (out.getD j dfl_31f8ee).2.2.1, (out.getD j dfl_31f8ee).2.2.2.1, (out.getD j dfl_31f8ee).2.2.2.2) = some (hid (out.getD j dfl_31f8ee)) := rid_eq k _ hxo hk
      have hs : folB l (j + 1) = (folB l j && decide ((l.getD (j + 1) dfl_31f8ee).2.1 = hid (l.getD j dfl_31f8ee))) := rfl
      have hf' : folB out j = true := hf
      have hy (x : Hdr) (hx : x.2.1 = hid (out.getD j dfl_31f8ee)) : folB (out ++ [x]) (j + 1) = true := by
        show (folB (out ++ [x]) j && _) = true
        rw [folB_app out x j hjo, hf', Bool.true_and]
        refine dt ?_
        rw [getD_app_l _ _ _ _ hjo, getD_app_r _ _ _ _ (by omega), show j + 1 - out.length = 0 by omega]
        exact hx
      have go := ih' (out ++ [((l.getD (j + 1) dfl_31f8ee).1, (hid (out.getD j dfl_31f8ee), (l.getD (j + 1) dfl_31f8ee).2.2.1, (l.getD (j + 1) dfl_31f8ee).2.2.2.1, (l.getD (j + 1) dfl_31f8ee).2.2.2.2))]) (by simp [ho]) (app _ ⟨hid_name _, hxi.2⟩) (hy _ rfl)
      rw [show j + 1 + 1 - 1 = j + 1 from rfl, hs] at go
      rw [show j + 1 - 1 = j from rfl]
      simp only [e1, e2, Int.toNat_natCast]
      cases hb : folB l j
      · rw [hb, Bool.false_and] at go
        repeat rw [dt (by omega), cond_true]
        rw [cond_false]
        repeat rw [dt (by omega), cond_true]
        rw [h2, Option.bind_some, fits_ok (by omega), cond_true]
        exact go
      · rw [hb, Bool.true_and] at go
        repeat rw [dt (by omega), cond_true]
        simp only [cond_true]
        rw [h1, Option.bind_some, h2, Option.bind_some, fits_ok (by omega), cond_true]
        exact go

theorem headerFollows_pure : HeaderFollowsPure := by
  intro l hl _
  refine ⟨30000, ?_⟩
  have hA : ∀ x ∈ l, hN x := fun x hx => hN_of (hl x hx)
  have hk : 20000 < 30000 := by omega
  generalize 30000 = k at hk
  have e0 : gv0 = H8 := rfl
  have e1 : gv1 = K64 := rfl
  rw [e0, e1]
  unfold trailheadlaw06_HeaderFollows.f trailheadlaw06_HeaderFollows.tree
  rw [alive06 k hk, Option.bind_some, Bool.not_true, cond_false]
  by_cases h : (l.length : Int) > 20
  · rw [dt h]; rfl
  rw [df h, cond_false]
  obtain ⟨out, hr, hoA, hol, hof⟩ := law_l0 k hk l hA (by omega) l.length k 0 [] (by omega) (by omega) rfl (fun x h => by cases h) rfl
  rw [show ((0 : Nat) : Int) = 0 from rfl, show folB l (0 - 1) = true from rfl] at hr
  rw [hr, Option.bind_some, fol_eq k hk l hA (by omega), Option.bind_some]
  have b3 (x : Bool) : (x == x) = true := by cases x <;> rfl
  simp only [b3, cond_true]
  rw [fol1_eq k hk out hoA (by omega), hof, Option.bind_some]

theorem headerFollows_said : Rows.HeaderFollowsCardSaid := headerFollows_card headerFollows_pure

end Go.Proofs.YtnnajeoeeefjaaaDoor.Sy
