/- ShakeEnds: the first loop. -/
import Derived.Test.YtodjcmbkbijliaaQ31
namespace Go.Proofs.Ytodjcmbkbijliaa.Sy
open Go Go.Proofs
set_option linter.unusedVariables false
set_option linter.unusedSimpArgs false

abbrev HandT := (Int × (Int × (Int × Int))) × (Bool × (Int × (Bool × (Bool × (Bool × (Bool × (Int × (Int × Int))))))))

def Waits (m : HandT) : Prop := m.2.2.2.2.2.2.2.2.1 ≠ 0 ∨ m.2.2.2.2.2.1 = true

theorem bif_P {α : Type} {P : α → Prop} {c : Bool} {x y : Option α} (hx : ∃ r, x = some r ∧ P r) (hy : ∃ r, y = some r ∧ P r) : ∃ r, (bif c then x else y) = some r ∧ P r := by
  cases c
  · exact hy
  · exact hx

theorem version_keep (k : Nat) (a b c d e f g h) (m : HandT) (hp : Waits m) : ∃ r, shake_Hand_version_v1.f k a b c d e f g h m = some r ∧ Waits r.2.1 := by
  unfold shake_Hand_version_v1.f shake_Hand_version_v1.tree
  repeat' (first | exact ⟨_, rfl, hp⟩ | exact ⟨_, rfl, .inr rfl⟩ | refine bif_P ?_ ?_)

theorem verack_keep (k : Nat) (m : HandT) (hp : Waits m) : ∃ r, shake_Hand_verack.f k m = some r ∧ Waits r.2.1 := by
  unfold shake_Hand_verack.f shake_Hand_verack.tree
  repeat' (first | exact ⟨_, rfl, hp⟩ | exact ⟨_, rfl, .inr rfl⟩ | refine bif_P ?_ ?_)

theorem bind_P {α β : Type} {P : α → Prop} {Q : β → Prop} {x : Option α} {f : α → Option β} (hx : ∃ r, x = some r ∧ P r) (hf : ∀ r, P r → ∃ s, f r = some s ∧ Q s) : ∃ s, Option.bind x f = some s ∧ Q s := by
  obtain ⟨r, rfl, hp⟩ := hx
  exact hf r hp

theorem in_keep (k : Nat) (a b c d e f g h) (m : HandT) (h7 : (a == (7 : Int)) = false) (hp : Waits m) : ∃ r, shake_Hand_In_v1.f k a b c d e f g h m = some r ∧ Waits r.2.1 := by
  unfold shake_Hand_In_v1.f shake_Hand_In_v1.tree
  rw [h7]
  simp only [cond_false]
  repeat' (first | exact ⟨_, rfl, hp⟩ | exact ⟨_, rfl, .inr rfl⟩ | refine bif_P ?_ ?_ | exact bind_P (version_keep k a b c d e f g h m hp) (fun r hr => ⟨_, rfl, hr⟩) | exact bind_P (verack_keep k m hp) (fun r hr => ⟨_, rfl, hr⟩))

theorem ping_total (k : Nat) (a b) (m : HandT) : ∃ r, shake_Hand_Ping.f k a b m = some r := by
  unfold shake_Hand_Ping.f shake_Hand_Ping.tree
  refine bind_some' (by unfold shake_Hand_Ready.f shake_Hand_Ready.tree; exact bif_some ⟨_, rfl⟩ ⟨_, rfl⟩) (fun r => ?_)
  repeat' (first | exact ⟨_, rfl⟩ | refine bif_some ?_ ?_)

theorem ping_waits (k : Nat) (a b) (m : HandT) (hp : Waits m) : shake_Hand_Ping.f k a b m = some (m, []) := by
  rcases hp with hp | hp
  · unfold shake_Hand_Ping.f shake_Hand_Ping.tree
    have hr : ∃ r, shake_Hand_Ready.f k m = some r := by unfold shake_Hand_Ready.f shake_Hand_Ready.tree; exact bif_some ⟨_, rfl⟩ ⟨_, rfl⟩
    obtain ⟨r, hr⟩ := hr
    rw [hr]
    have e : (m.2.2.2.2.2.2.2.2.1 != (0 : Int)) = true := by simpa using hp
    rw [e]
    cases r <;> rfl
  · exact ping_gone k a b m hp

theorem ping_sent (k : Nat) (a b) (m : HandT) : ∃ r, shake_Hand_Ping.f k a b m = some r ∧ (decide ((List.length r.2 : Int) > 0) = true → Waits r.1) := by
  unfold shake_Hand_Ping.f shake_Hand_Ping.tree
  have hr : ∃ r, shake_Hand_Ready.f k m = some r := by unfold shake_Hand_Ready.f shake_Hand_Ready.tree; exact bif_some ⟨_, rfl⟩ ⟨_, rfl⟩
  obtain ⟨r, hr⟩ := hr
  rw [hr]
  simp only [Option.bind_some]
  cases h1 : decide (a < 1)
  · have h1 := of_decide_eq_false h1
    have ha : a ≠ 0 := by omega
    repeat' (first | refine bif_P ?_ ?_ | exact ⟨_, rfl, fun h => (Bool.false_ne_true h).elim⟩ | exact ⟨_, rfl, fun _ => .inl ha⟩)
  · rw [cond_true]
    repeat' (first | refine bif_P ?_ ?_ | exact ⟨_, rfl, fun h => (Bool.false_ne_true h).elim⟩)

end Go.Proofs.Ytodjcmbkbijliaa.Sy
