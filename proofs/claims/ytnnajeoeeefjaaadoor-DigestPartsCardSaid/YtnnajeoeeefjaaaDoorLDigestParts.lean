/- DigestParts: the statement on data, and the card. -/
import Derived.Test.YtnnajeoeeefjaaaDoorQ65
import Derived.Test.YtnnajeoeeefjaaaDoorRDigestParts
namespace Go.Proofs.YtnnajeoeeefjaaaDoor.Sy
open Go
set_option linter.unusedVariables false
set_option linter.unusedSimpArgs false

theorem parts_l0 (k : Nat) (y0 : List (List Int)) (y1 : List Bool) (y2 y3 : List Int) (hb : ∀ q ∈ y0, List.length q ≤ 140737488351232) (hl : y0.length ≤ 9223372036854775807) : ∀ (d n i : Nat) (a : List Int), i + d = y0.length → d < n → a.length ≤ 1024 → (0 < i → y0.length ≤ 20) →
    ∃ r, trailheadlaw01_DigestParts.l0.f k (y0.length : Int) y0 y1 y2 y3 n a (i : Int) = some r ∧ (r = .inr true ∨ (r = .inl (a ++ (y0.drop i).flatten, (y0.length : Int)) ∧ (a ++ (y0.drop i).flatten).length ≤ 1024 ∧ y0.length ≤ 20)) := by
  intro d
  induction d with
  | zero =>
    intro n i a hi hn ha h20
    obtain ⟨n, rfl⟩ : ∃ q, n = q + 1 := ⟨n - 1, by omega⟩
    unfold trailheadlaw01_DigestParts.l0.f trailheadlaw01_DigestParts.l0.go trailheadlaw01_DigestParts.l0.step
    have : i = y0.length := by omega
    subst this
    rw [df (Int.lt_irrefl _), List.drop_length, List.flatten_nil, List.append_nil]
    refine ⟨_, rfl, .inr ⟨rfl, ha, ?_⟩⟩
    by_cases h : 0 < y0.length
    · exact h20 h
    · omega
  | succ d ih =>
    intro n i a hi hn ha h20
    obtain ⟨n, rfl⟩ : ∃ q, n = q + 1 := ⟨n - 1, by omega⟩
    have hlt : i < y0.length := by omega
    have hq := hb _ (List.getElem_mem hlt)
    have ih0 := fun a ha h => ih n (i + 1) a (by omega) (by omega) ha h
    unfold trailheadlaw01_DigestParts.l0.f at ih0 ⊢
    unfold trailheadlaw01_DigestParts.l0.go trailheadlaw01_DigestParts.l0.step
    have c1 : decide ((i : Int) < (y0.length : Int)) = true := dt (by omega)
    have c2 : decide ((0 : Int) ≤ (i : Int)) = true := dt (by omega)
    have c3 : decide (i < y0.length) = true := dt hlt
    have e1 : addI .i64 (i : Int) 1 = ((i + 1 : Nat) : Int) := add_id (by omega) (by omega)
    have e2 : y0.getD i ([] : List Int) = y0[i] := by rw [List.getD_eq_getElem?_getD, List.getElem?_eq_getElem hlt]; rfl
    have e3 : addI .i64 (a.length : Int) (y0[i].length : Int) = ((a.length + y0[i].length : Nat) : Int) := add_id (by omega) (by omega)
    simp only [c1, c2, c3, cond_true, Int.toNat_natCast, e1, e2, e3]
    by_cases h : (y0.length : Int) > 20
    · rw [dt h]
      exact ⟨_, rfl, .inl rfl⟩
    rw [df h, cond_false]
    by_cases h2 : ((a.length + y0[i].length : Nat) : Int) > 1024
    · rw [dt h2]
      exact ⟨_, rfl, .inl rfl⟩
    rw [df h2, cond_false, fits_ok (by omega), cond_true]
    obtain ⟨r, hr, hc⟩ := ih0 (a ++ y0[i]) (by rw [List.length_append]; omega) (fun _ => by omega)
    refine ⟨r, hr, ?_⟩
    have ed : (y0.drop i).flatten = y0[i] ++ (y0.drop (i + 1)).flatten := by rw [List.drop_eq_getElem_cons hlt]; rfl
    rw [ed, ← List.append_assoc]
    exact hc

theorem parts_l2 (k : Nat) (x5 : List Int) (y0 : List (List Int)) (y1 : List Bool) (hk : 29000 < k) (hb : ∀ q ∈ y0, byteL q) (hl : y0.length ≤ 20) (hy : y1.length ≤ 9223372036854775807) : ∀ (d n i : Nat) (T : List Int), i + d = y0.length → d < n → byteL T → (T ++ (y0.drop i).flatten).length ≤ 1024 →
    trailheadlaw01_DigestParts.l2.f k x5 (y0.length : Int) y0 y1 H8 K64 n T (i : Int) (took T).st (took T).size (took T).rest =
      some (.inl (T ++ (y0.drop i).flatten, (y0.length : Int), (took (T ++ (y0.drop i).flatten)).st, (took (T ++ (y0.drop i).flatten)).size, (took (T ++ (y0.drop i).flatten)).rest)) := by
  intro d
  induction d with
  | zero =>
    intro n i T hi hn hT hl2
    obtain ⟨n, rfl⟩ : ∃ q, n = q + 1 := ⟨n - 1, by omega⟩
    unfold trailheadlaw01_DigestParts.l2.f trailheadlaw01_DigestParts.l2.go trailheadlaw01_DigestParts.l2.step
    have : i = y0.length := by omega
    subst this
    rw [df (Int.lt_irrefl _), List.drop_length, List.flatten_nil, List.append_nil]
    rfl
  | succ d ih =>
    intro n i T hi hn hT hl2
    obtain ⟨n, rfl⟩ : ∃ q, n = q + 1 := ⟨n - 1, by omega⟩
    have hlt : i < y0.length := by omega
    have hq := hb _ (List.getElem_mem hlt)
    have ed : (y0.drop i).flatten = y0[i] ++ (y0.drop (i + 1)).flatten := by rw [List.drop_eq_getElem_cons hlt]; rfl
    rw [ed, ← List.append_assoc] at hl2 ⊢
    have hTq := byteL_append hT hq
    have hlen : (T ++ y0[i]).length ≤ 1024 := by rw [List.length_append] at hl2; omega
    have ih' := ih n (i + 1) (T ++ y0[i]) (by omega) (by omega) hTq hl2
    unfold trailheadlaw01_DigestParts.l2.f at ih' ⊢
    unfold trailheadlaw01_DigestParts.l2.go trailheadlaw01_DigestParts.l2.step
    have c1 : decide ((i : Int) < (y0.length : Int)) = true := dt (by omega)
    have c2 : decide ((0 : Int) ≤ (i : Int)) = true := dt (by omega)
    have c3 : decide (i < y0.length) = true := dt hlt
    have e1 : addI .i64 (i : Int) 1 = ((i + 1 : Nat) : Int) := add_id (by omega) (by omega)
    have e2 : y0.getD i ([] : List Int) = y0[i] := by rw [List.getD_eq_getElem?_getD, List.getElem?_eq_getElem hlt]; rfl
    have hw := write1_eq k T [y0[i]] hT (by intro q hq'; rw [List.mem_singleton.1 hq']; exact hq) (by omega) (by simp; omega) (by simp) (by simp; rw [List.length_append] at hlen; omega)
    have ef : [y0[i]].flatten = y0[i] := by simp
    rw [ef] at hw
    have hf : T.length + y0[i].length ≤ 140737488355328 := by rw [List.length_append] at hlen; omega
    simp only [c1, c2, c3, cond_true, Int.toNat_natCast, e1, e2, hw, Option.bind_some, fits_ok hf]
    have hs := hsum_eq k (T ++ y0[i]) hTq (by omega) (by omega)
    have hr := rof_eq k (T ++ y0[i]) hTq (by omega) (by omega)
    by_cases h1 : (i : Int) < (y1.length : Int)
    · have c4 : decide (i < y1.length) = true := dt (by omega)
      simp only [dt h1, c4, cond_true, hs, hr, Option.bind_some, decide_true, Bool.not_true, cond_false]
      cases y1.getD i false
      · exact ih'
      · exact ih'
    · rw [df h1, cond_false]
      exact ih'

theorem digestParts_pure : DigestPartsPure := by
  intro y0 g0 l0 y1 _ l1
  refine ⟨y0.length + 30000, ?_⟩
  have ml : maxLen = 9223372036854775807 := rfl
  have rb : reachBytes = 140737488351232 := rfl
  have hk : 29000 < y0.length + 30000 ∧ y0.length + 1000 < y0.length + 30000 := by omega
  generalize y0.length + 30000 = k at hk
  have e0 : gv0 = H8 := rfl
  have e1 : gv1 = K64 := rfl
  rw [e0, e1]
  have hb : ∀ q ∈ y0, byteL q := fun q hq => (g0 q hq).1
  have hq : ∀ q ∈ y0, List.length q ≤ 140737488351232 := fun q hq => (g0 q hq).2
  unfold trailheadlaw01_DigestParts.f trailheadlaw01_DigestParts.tree
  rw [alive01 k (by omega), Option.bind_some, Bool.not_true, cond_false]
  obtain ⟨r, hr, hc⟩ := parts_l0 k y0 y1 H8 K64 hq (by omega) y0.length k 0 [] (by omega) (by omega) (by simp) (fun h => by omega)
  rw [show ((0 : Nat) : Int) = 0 from rfl] at hr
  rw [hr, Option.bind_some]
  rcases hc with rfl | ⟨rfl, hl, h20⟩
  · rfl
  rw [List.drop_zero, List.nil_append] at hl ⊢
  have hfb : byteL y0.flatten := by
    intro y hy
    obtain ⟨q, hq, hy⟩ := List.mem_flatten.1 hy
    exact hb q hq y hy
  simp only [sel]
  have en : digest_New.f k H8 = some ((took []).st, (took []).size) := rfl
  rw [en, Option.bind_some]
  have h2 := parts_l2 k y0.flatten y0 y1 (by omega) hb h20 (by omega) y0.length k 0 [] (by omega) (by omega) byteL_nil (by simpa using hl)
  rw [show ((0 : Nat) : Int) = 0 from rfl, List.drop_zero, List.nil_append] at h2
  have er : (took []).rest = [] := rfl
  rw [er] at h2
  simp only
  rw [h2, Option.bind_some]
  simp only
  have ew : digest_Hasher_Write_v2.f k [[97]] K64 = some () := rfl
  rw [ew, Option.bind_some, hsum_eq k _ hfb (by omega) (by omega), Option.bind_some, of1_eq k _ hfb (by omega) (by omega), Option.bind_some, dt rfl, cond_true]
  rw [ofv_eq k y0 hb (by omega) (by omega) (by omega) (by omega), Option.bind_some, Option.bind_some, dt rfl, cond_true]
  rw [doublev_eq k y0 hb (by omega) (by omega) (by omega) (by omega), Option.bind_some, double1_eq k _ hfb (by omega) (by omega), Option.bind_some, dt rfl]
  rfl

theorem digestParts_said : Rows.DigestPartsCardSaid := digestParts_card digestParts_pure

end Go.Proofs.YtnnajeoeeefjaaaDoor.Sy
