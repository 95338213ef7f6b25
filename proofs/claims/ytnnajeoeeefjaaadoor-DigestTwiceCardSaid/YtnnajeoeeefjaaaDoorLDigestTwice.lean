/- DigestTwice: the statement on data, and the card. -/
import Derived.Test.YtnnajeoeeefjaaaDoorQ65
import Derived.Test.YtnnajeoeeefjaaaDoorRDigestTwice
namespace Go.Proofs.YtnnajeoeeefjaaaDoor.Sy
open Go
set_option linter.unusedVariables false
set_option linter.unusedSimpArgs false

theorem twice_l0 (k : Nat) (x0 y0 y1 r : List Int) (hr : r.length = 32) : ∀ (d n i : Nat) (o : List Int), i + d = 32 → d < n → o.length = 32 → (∀ j, j < i → o[j]? = r[j]?) →
    trailheadlaw01_DigestTwice.l0.f k x0 32 y0 y1 r n (i : Int) o = some (32, r) := by
  intro d
  induction d with
  | zero =>
    intro n i o hi hn ho hj
    obtain ⟨n, rfl⟩ : ∃ q, n = q + 1 := ⟨n - 1, by omega⟩
    have hi32 : i = 32 := by omega
    subst hi32
    have : o = r := by
      apply List.ext_getElem?
      intro j
      by_cases h : j < 32
      · exact hj j h
      · rw [List.getElem?_eq_none (by omega), List.getElem?_eq_none (by omega)]
    subst this
    unfold trailheadlaw01_DigestTwice.l0.f trailheadlaw01_DigestTwice.l0.go trailheadlaw01_DigestTwice.l0.step
    rw [df (by omega)]
    rfl
  | succ d ih =>
    intro n i o hi hn ho hj
    obtain ⟨n, rfl⟩ : ∃ q, n = q + 1 := ⟨n - 1, by omega⟩
    have ih' := ih n (i + 1) (o.set i (r.getD i 0)) (by omega) (by omega) (by simpa using ho) (fun j h => by
      rw [List.getElem?_set]
      by_cases e : i = j
      · subst e
        rw [if_pos rfl, if_pos (by omega), List.getD, List.getElem?_eq_getElem (by omega : i < r.length)]; rfl
      · rw [if_neg e]; exact hj j (by omega))
    unfold trailheadlaw01_DigestTwice.l0.f at ih' ⊢
    unfold trailheadlaw01_DigestTwice.l0.go trailheadlaw01_DigestTwice.l0.step
    have e1 : addI .i64 (i : Int) 1 = ((i + 1 : Nat) : Int) := add_id (by omega) (by omega)
    simp only [e1, Int.toNat_natCast]
    repeat rw [dt (by omega), cond_true]
    exact ih'

theorem digestTwice_pure : DigestTwicePure := by
  intro s hs
  refine ⟨30000, ?_⟩
  obtain ⟨hb, _⟩ : byteL s ∧ s.length ≤ reachBytes := hs
  have hk : 20000 < 30000 ∧ 29000 < 30000 := by omega
  generalize 30000 = k at hk
  have e0 : gv0 = H8 := rfl
  have e1 : gv1 = K64 := rfl
  rw [e0, e1]
  unfold trailheadlaw01_DigestTwice.f trailheadlaw01_DigestTwice.tree
  rw [alive01 k hk.1, Option.bind_some, Bool.not_true, cond_false]
  by_cases hl : (s.length : Int) > 1024
  · rw [dt hl]; rfl
  rw [df hl, cond_false, of1_eq k s hb hk.1 (by omega), Option.bind_some]
  have ht := twice_l0 k s H8 K64 (sha s) (sha_length s) 32 k 0 z32 (by omega) (by omega) rfl (fun j h => by omega)
  rw [show ((0 : Nat) : Int) = 0 from rfl] at ht
  rw [ht, Option.bind_some]
  have en : digest_New.f k H8 = some ((took []).st, (took []).size) := rfl
  rw [en, Option.bind_some]
  simp only
  rw [write0_eq k [] [s] byteL_nil (by intro q hq; rw [List.mem_singleton.1 hq]; exact hb) hk.1 (by simp; omega) (by simp) (by simp; omega) rfl, Option.bind_some]
  have ef : [] ++ [s].flatten = s := by simp
  rw [ef, double1_eq k s hb hk.1 (by omega), Option.bind_some, toStr_id _ (sha_byteL s), of1_eq k _ (sha_byteL s) hk.1 (by rw [sha_length]; omega), Option.bind_some, dt rfl, cond_true]
  simp only
  rw [hsum_eq k s hb (by omega) hk.1, Option.bind_some, dt rfl, cond_true, Option.bind_some, dt rfl]

theorem digestTwice_said : Rows.DigestTwiceCardSaid := digestTwice_card digestTwice_pure

end Go.Proofs.YtnnajeoeeefjaaaDoor.Sy
