/- append, copy, make, range, next as the machine has them. -/
import Derived.Test.YtkgpjplncfginaaGreatDoorSyD
import Derived.Laws.CopyOwn
namespace Go.Proofs.YtkgpjplncfginaaGreatDoor.Sy
open Go
set_option linter.unusedVariables false
set_option linter.unusedSimpArgs false

section
variable {R : Type}

theorem fits_le {n : Nat} (h : fits n = true) : n ≤ 140737488355328 := of_decide_eq_true h

theorem blt_lt' {a b : Nat} (h : Nat.blt a b = true) : a < b := Nat.le_of_ble_eq_true h

theorem app_nils {P : Program} {w : World} {B : Bz} {σ : St} {id : Nat} {e : TypeId} {ty : Ty} {ys : List ty.den} {ds : List Value} {inf : TypeInfo} {z : Value} {t u : TypeId} {q : Value} (hh : HeapR B σ.heap w) (hn : look id σ.heap = none) (h1000 : 1000 ≤ id) (hy : DRs B.z ty ys ds)
    (ht : P.underlying t = some (.slice e)) (hu : P.underlying u = some .string ∨ ∃ e, P.underlying u = some (.slice e)) (hi : P.info? e = some inf) (hz : inf.zero = some z) (hsz : inf.size = ty.size) (hzs : z.cells.size = ty.size) (hb : 0 < inf.bytes)
    (hnews : News P w ty.size q ys.length ds) (hfit : ys.length * inf.bytes ≤ 140737488355328) (tt : TypeId) :
    ∃ y w', (∀ rd, Post B σ w ⟨.vec id, [(id, .rows 2 e ty ys)], rd⟩ (upd B id y) y w') ∧ (Builtin.append_ #[t, u] tt #[.slice none 0 0, q]).run P w = .ok y w' := by
  have hlen : ys.length ≤ 140737488355328 := Nat.le_trans (Nat.le_mul_of_pos_right _ hb) hfit
  have hmax : 0 + ys.length ≤ maxLen := by simp only [maxLen]; omega
  have hids : ∀ j ∈ (AV.vec id).ids, j = id := fun j hj => by simpa [AV.ids] using hj
  have hdl := DRs.length hy
  rw [← hsz] at hnews
  by_cases h0 : ys.length = 0
  · have hy0 : ys = [] := List.eq_nil_of_length_eq_zero h0
    subst hy0
    have hd0 : ds = [] := List.eq_nil_of_length_eq_zero (by rw [hdl]; simp)
    subst hd0
    refine ⟨.slice none 0 0, w, fun rd => ?_, app_same ht hu hi hnews (Nat.le_refl _)⟩
    exact Post.add hh hn h1000 rfl rfl rfl (Nat.le_refl _) (fun _ _ => rfl) (fun b hb => hb.elim) (fun j hj => by cases hj) (EntR_at rfl ⟨[], rfl, by simp, .inl ⟨rfl, rfl⟩⟩) (VR_mk_vec ⟨_, _, _, rfl⟩) hids
  · have run := app_grow (ty := tt) ht hu hi hz hnews (a := none) (sLen := 0) (sCap := 0) (olds := []) (by simp) (fun _ => rfl) (fun ad ha => by cases ha) (by omega) (by omega) (by simpa using hfit)
    have hown := own_new (w := w) (e := e) (cs := []) (ds := ds) (size := ty.size) (n := 0) (m := ys.length) (z := z) (old := 0) (by simp) hdl hzs hmax
    simp only [Nat.zero_add, List.nil_append] at hown run
    refine ⟨_, _, fun rd => ?_, run⟩
    refine Post.add hh hn h1000 rfl rfl rfl (by simp) (fun b hb => heap_alloc_old w.drew _ b hb) (fun b hb => ?_) (fun j hj => by cases hj) (EntR_at rfl ⟨ds, hy, hown⟩) (VR_mk_vec ⟨_, _, _, rfl⟩) hids
    have hb : w.heap.size = b := hb
    omega

theorem appendK_ok {P : Program} {B : Bz} {σ : St} {w : World} {d : Option Nat} {t u tt : TypeId} {s x : AV} {su q : Value} {K : Eff → Option R} {r : R} (hh : HeapR B σ.heap w) (hs : VR B s su) (hx : VR B x q) (h : appendK P σ.heap d t u s x K = some r) :
    ∃ ef, K ef = some r ∧ ∃ B' y w', Post B σ w ef B' y w' ∧ (Builtin.append_ #[t, u] tt #[su, q]).run P w = .ok y w' := by
  unfold appendK at h
  split at h
  · rename_i d e ht
    split at h
    · rename_i ty hty
      split at h
      · rename_i inf hi
        split at h
        · rename_i z hz
          replace h := bif_eq_some h
          rcases h with ⟨hc, h⟩ | ⟨_, h⟩
          · simp only [Bool.and_eq_true] at hc
            obtain ⟨⟨⟨⟨c1, c2⟩, c3⟩, c4⟩, c5⟩ := hc
            have c1 := Nat.eq_of_beq_eq_true c1; have c2 := Nat.eq_of_beq_eq_true c2; have c3 := blt_lt' c3; have c4 := blt_lt' c4; have c5 := slT_ok c5
            obtain ⟨ys, ds, h, hy, hnews⟩ := newsK_ok hh hx h
            split at h
            · rename_i hn
              split at h
              · replace h := bif_eq_some h
                rcases h with ⟨hf, h⟩ | ⟨_, h⟩
                · obtain ⟨y, w', hp, hrun⟩ := app_nils hh hn (Nat.le_add_right _ _) hy ht c5 hi hz c1 c2 c4 hnews (fits_le hf) tt
                  rw [VR_nils hs]
                  exact ⟨_, h, _, y, w', hp _, hrun⟩
                · cases h
              · rename_i v
                split at h
                · rename_i m e' ty' xs hl
                  replace h := bif_eq_some h
                  rcases h with ⟨he, h⟩ | ⟨_, h⟩
                  · have he := Nat.eq_of_beq_eq_true he
                    subst he
                    split at h
                    · rename_i hty'
                      subst hty'
                      replace h := bif_eq_some h
                      rcases h with ⟨hf, h⟩ | ⟨_, h⟩
                      · rw [VR_vec hs]
                        split at h
                        · cases h
                        · obtain ⟨B', y, w', hp, hrun⟩ := app_vec (m := 0) (mN := 0) hh hn (Nat.le_add_right _ _) hl (.inl ⟨rfl, rfl, rfl⟩) hy ht c5 hi hz c1 c2 c4 hnews (fits_le hf) tt
                          exact ⟨_, h, _, y, w', hp _, hrun⟩
                        · rename_i m'
                          obtain ⟨B', y, w', hp, hrun⟩ := app_vec (m := m' + 1) (mN := 1) hh hn (Nat.le_add_right _ _) hl (.inr ⟨Nat.succ_pos _, rfl, rfl⟩) hy ht c5 hi hz c1 c2 c4 hnews (fits_le hf) tt
                          exact ⟨_, h, _, y, w', hp _, hrun⟩
                      · cases h
                    · cases h
                  · cases h
                · cases h
              · cases h
            · cases h
          · cases h
        · cases h
      · cases h
    · cases h
  · cases h

end

end Go.Proofs.YtkgpjplncfginaaGreatDoor.Sy
