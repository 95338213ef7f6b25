/- The hand's steps are total. -/
import Derived.Test.YtodjcmbkbijliaaQ30
namespace Go.Proofs.Ytodjcmbkbijliaa.Sy
open Go Go.Proofs
set_option linter.unusedVariables false
set_option linter.unusedSimpArgs false

theorem bif_some {α : Type} {c : Bool} {x y : Option α} (hx : ∃ r, x = some r) (hy : ∃ r, y = some r) : ∃ r, (bif c then x else y) = some r := by
  cases c
  · exact hy
  · exact hx

theorem bind_some' {α β : Type} {x : Option α} {f : α → Option β} (hx : ∃ r, x = some r) (hf : ∀ r, ∃ s, f r = some s) : ∃ s, Option.bind x f = some s := by
  obtain ⟨r, rfl⟩ := hx
  exact hf r

theorem drop_total (k : Nat) (a m) : ∃ r, shake_Hand_drop.f k a m = some r := ⟨_, rfl⟩
theorem hello_total (k : Nat) (a) : ∃ r, shake_Own_hello.f k a = some r := ⟨_, rfl⟩

theorem version_total (k : Nat) (a b c d e f g h m) : ∃ r, shake_Hand_version_v1.f k a b c d e f g h m = some r := by
  unfold shake_Hand_version_v1.f shake_Hand_version_v1.tree
  repeat' (first | exact ⟨_, rfl⟩ | refine bif_some ?_ ?_ | refine bind_some' ⟨_, rfl⟩ (fun r => ?_))

theorem verack_total (k : Nat) (m) : ∃ r, shake_Hand_verack.f k m = some r := by
  unfold shake_Hand_verack.f shake_Hand_verack.tree
  repeat' (first | exact ⟨_, rfl⟩ | refine bif_some ?_ ?_ | refine bind_some' ⟨_, rfl⟩ (fun r => ?_))

theorem pong_total (k : Nat) (a b c d e f g h m) : ∃ r, shake_Hand_pong_v1.f k a b c d e f g h m = some r := by
  unfold shake_Hand_pong_v1.f shake_Hand_pong_v1.tree
  repeat' (first | exact ⟨_, rfl⟩ | refine bif_some ?_ ?_ | refine bind_some' ⟨_, rfl⟩ (fun r => ?_))

theorem in_total (k : Nat) (a b c d e f g h m) : ∃ r, shake_Hand_In_v1.f k a b c d e f g h m = some r := by
  unfold shake_Hand_In_v1.f shake_Hand_In_v1.tree
  repeat' (first | exact ⟨_, rfl⟩ | refine bif_some ?_ ?_ | refine bind_some' (version_total ..) (fun r => ?_) | refine bind_some' (verack_total ..) (fun r => ?_) | refine bind_some' (pong_total ..) (fun r => ?_) | refine bind_some' ⟨_, rfl⟩ (fun r => ?_))

theorem in_gone (k : Nat) (a b c d e f g h m) (hg : m.2.2.2.2.2.1 = true) : shake_Hand_In_v1.f k a b c d e f g h m = some (0, m, []) := by
  unfold shake_Hand_In_v1.f shake_Hand_In_v1.tree
  rw [hg]
  rfl

theorem tick_total (k : Nat) (a m) : ∃ r, shake_Hand_Tick.f k a m = some r := by
  unfold shake_Hand_Tick.f shake_Hand_Tick.tree
  repeat' (first | exact ⟨_, rfl⟩ | refine bif_some ?_ ?_)

theorem tick_gone (k : Nat) (a m) (hg : m.2.2.2.2.2.1 = true) : shake_Hand_Tick.f k a m = some (false, m) := by
  unfold shake_Hand_Tick.f shake_Hand_Tick.tree
  rw [hg]
  rfl

theorem ready_gone (k : Nat) (m) (hg : m.2.2.2.2.2.1 = true) : shake_Hand_Ready.f k m = some false := by
  unfold shake_Hand_Ready.f shake_Hand_Ready.tree
  rw [hg]
  cases m.2.2.2.2.1 <;> rfl

theorem direct_gone (k : Nat) (m) (hg : m.2.2.2.2.2.1 = true) : shake_Hand_Direct.f k m = some false := by
  unfold shake_Hand_Direct.f shake_Hand_Direct.tree
  rw [ready_gone k m hg]; rfl

theorem ping_gone (k : Nat) (a b m) (hg : m.2.2.2.2.2.1 = true) : shake_Hand_Ping.f k a b m = some (m, []) := by
  unfold shake_Hand_Ping.f shake_Hand_Ping.tree
  rw [ready_gone k m hg]; rfl

theorem gone_eq (k : Nat) (m) : shake_Hand_Gone.f k m = some m.2.2.2.2.2.1 := rfl

theorem ends_l3 (k : Nat) (y0 y1 m) (hg : m.2.2.2.2.2.1 = true) (hl : y1.length ≤ 60) : ∀ (d n : Nat) (i : Int), 0 ≤ i → i + d = y1.length → d < n →
    trailheadlaw21_ShakeEnds.l3.f k false (y1.length : Int) y0 y1 n i m = some (.inl ((y1.length : Int), m)) := by
  intro d
  induction d with
  | zero =>
    intro n i h0 hi hn
    obtain ⟨n, rfl⟩ : ∃ q, n = q + 1 := ⟨n - 1, by omega⟩
    have e : i = (y1.length : Int) := by omega
    subst e
    unfold trailheadlaw21_ShakeEnds.l3.f trailheadlaw21_ShakeEnds.l3.go trailheadlaw21_ShakeEnds.l3.step
    rw [decide_eq_false (Int.lt_irrefl _)]
    rfl
  | succ d ih =>
    intro n i h0 hi hn
    obtain ⟨n, rfl⟩ : ∃ q, n = q + 1 := ⟨n - 1, by omega⟩
    have hlt : i < (y1.length : Int) := by omega
    have hlt2 : i.toNat < y1.length := by omega
    have e1 : addI .i64 i 1 = i + 1 := i64_ok (by omega) (by omega)
    have := ih n (i + 1) (by omega) (by omega) (by omega)
    unfold trailheadlaw21_ShakeEnds.l3.f at this ⊢
    unfold trailheadlaw21_ShakeEnds.l3.go trailheadlaw21_ShakeEnds.l3.step
    rw [decide_eq_true hlt, decide_eq_true h0, decide_eq_true hlt2, in_gone _ _ _ _ _ _ _ _ _ _ hg]
    simp only [cond_true, Option.bind_some]
    rw [ping_gone _ _ _ _ hg]
    simp only [Option.bind_some]
    rw [tick_gone _ _ _ hg]
    simp only [Option.bind_some]
    rw [ready_gone _ _ hg, direct_gone _ _ hg, gone_eq, hg, e1]
    exact this

end Go.Proofs.Ytodjcmbkbijliaa.Sy
