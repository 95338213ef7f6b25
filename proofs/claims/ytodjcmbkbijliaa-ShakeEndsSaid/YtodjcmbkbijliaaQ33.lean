/- ShakeEnds: the first loop. -/
import Derived.Test.YtodjcmbkbijliaaQ32
namespace Go.Proofs.Ytodjcmbkbijliaa.Sy
open Go Go.Proofs
set_option linter.unusedVariables false
set_option linter.unusedSimpArgs false

abbrev CallT := Int × ((Int × (Int × (Int × (Int × (Int × (Value × ((List Int) × Value))))))) × (Int × Int))

theorem getD_call {l : List CallT} {i : Nat} (h : i < l.length) (d : CallT) : l.getD i d = l[i] := by
  rw [List.getD_eq_getElem?_getD, List.getElem?_eq_getElem h]; rfl

theorem ends_l0 (k : Nat) (y0 y1 : List CallT) (hl : y0.length ≤ 60) : ∀ (d n i : Nat) (x : Bool) (m : HandT), i + d = y0.length → d < n → (x = true → Waits m) →
    ∃ r, trailheadlaw21_ShakeEnds.l0.f k false (y0.length : Int) y0 y1 n x (i : Int) m = some (.inl r) := by
  intro d
  induction d with
  | zero =>
    intro n i x m hi hn hw
    obtain ⟨n, rfl⟩ : ∃ q, n = q + 1 := ⟨n - 1, by omega⟩
    have e : i = y0.length := by omega
    subst e
    unfold trailheadlaw21_ShakeEnds.l0.f trailheadlaw21_ShakeEnds.l0.go trailheadlaw21_ShakeEnds.l0.step
    rw [decide_eq_false (Int.lt_irrefl _)]
    exact ⟨_, rfl⟩
  | succ d ih =>
    intro n i x m hi hn hw
    obtain ⟨n, rfl⟩ : ∃ q, n = q + 1 := ⟨n - 1, by omega⟩
    have hlt : i < y0.length := by omega
    have e1 : addI .i64 (i : Int) 1 = ((i + 1 : Nat) : Int) := i64_ok (by omega) (by omega)
    have go := fun x m hw => ih n (i + 1) x m (by omega) (by omega) hw
    unfold trailheadlaw21_ShakeEnds.l0.f at go ⊢
    unfold trailheadlaw21_ShakeEnds.l0.go trailheadlaw21_ShakeEnds.l0.step
    have c1 : decide ((i : Int) < (y0.length : Int)) = true := decide_eq_true (by omega)
    have c2 : decide ((0 : Int) ≤ (i : Int)) = true := decide_eq_true (by omega)
    have c3 : decide (i < y0.length) = true := decide_eq_true hlt
    simp only [c1, c2, c3, e1, cond_true, Int.toNat_natCast, getD_call hlt]
    generalize y0[i] = ev
    cases c0 : (ev.1 == (0 : Int))
    · simp only [cond_false]
      cases c1 : (ev.1 == (1 : Int))
      · simp only [cond_false]
        exact go x m hw
      · simp only [cond_true]
        cases x
        · obtain ⟨r, hr, hs⟩ := ping_sent k ev.2.2.1 ev.2.2.2 m
          rw [hr]
          simp only [Option.bind_some, cond_false]
          exact go _ _ hs
        · rw [ping_waits k _ _ m (hw rfl)]
          simp only [Option.bind_some, cond_true]
          exact go true m hw
    · simp only [cond_true]
      cases x
      · obtain ⟨r, hr⟩ := in_total k ev.2.1.1 ev.2.1.2.1 ev.2.1.2.2.1 ev.2.1.2.2.2.1 ev.2.1.2.2.2.2.1 ev.2.1.2.2.2.2.2.1 ev.2.1.2.2.2.2.2.2.1 ev.2.1.2.2.2.2.2.2.2 m
        rw [hr]
        simp only [Option.bind_some, cond_false]
        exact go false _ (fun h => by cases h)
      · cases c7 : (ev.2.1.1 == (7 : Int))
        · obtain ⟨r, hr, hs⟩ := in_keep k ev.2.1.1 ev.2.1.2.1 ev.2.1.2.2.1 ev.2.1.2.2.2.1 ev.2.1.2.2.2.2.1 ev.2.1.2.2.2.2.2.1 ev.2.1.2.2.2.2.2.2.1 ev.2.1.2.2.2.2.2.2.2 m c7 (hw rfl)
          rw [hr]
          simp only [Option.bind_some, cond_true]
          exact go _ _ (fun _ => hs)
        · obtain ⟨r, hr⟩ := in_total k ev.2.1.1 ev.2.1.2.1 ev.2.1.2.2.1 ev.2.1.2.2.2.1 ev.2.1.2.2.2.2.1 ev.2.1.2.2.2.2.2.1 ev.2.1.2.2.2.2.2.2.1 ev.2.1.2.2.2.2.2.2.2 m
          rw [hr]
          simp only [Option.bind_some, cond_true]
          exact go _ _ (fun h => by
            have : (ev.2.1.1 != (7 : Int)) = false := by unfold bne; rw [c7]; rfl
            rw [this] at h; cases h)

end Go.Proofs.Ytodjcmbkbijliaa.Sy
