
/- The statements of chapter 10. -/
import Derived.Test.YtjciljaojcekeaaQ22
import Derived.Test.YtjciljaojcekeaaWE
namespace Go.Proofs.Ytjciljaojcekeaa.Sx
open Go
set_option linter.unusedVariables false
set_option linter.unusedSimpArgs false
set_option maxRecDepth 100000

theorem pace_alive : Ev (fun k => trailheadlaw10_alive.f k) true := Ev.of 300 fun m => by kernel_rfl

/-- Can the rules be? -/
def pgood (lim iv sp fu : Int) : Bool := (tgt lim lim).2 && (decide (iv ≥ 2) && (decide (iv ≤ 64) && (decide (sp ≥ 1) && (decide (sp ≤ 10000) && (decide (fu ≥ 0) && decide (fu < 4294967296))))))

abbrev Rest := (List Int) × ((List Int) × (Int × ((List Int) × ((List Int) × (Int × (Int × Int))))))

theorem good_ev (lim iv sp fu : Int) (b : Bool) (u v : Value) (r : Rest) : Ev (fun k => pace_Good_v1.f k lim iv sp fu b u v r) (pgood lim iv sp fu) := by
  unfold pace_Good_v1.f pace_Good_v1.tree pgood
  refine Ev.bind (target_ev lim lim) (Ev.const fun k => ?_)
  generalize (tgt lim lim).2 = c0
  generalize decide (iv ≥ 2) = c1
  generalize decide (iv ≤ 64) = c2
  generalize decide (sp ≥ 1) = c3
  generalize decide (sp ≤ 10000) = c4
  generalize decide (fu ≥ 0) = c5
  cases c0 <;> cases c1 <;> cases c2 <;> cases c3 <;> cases c4 <;> cases c5 <;> rfl

theorem refgood_ev (lim iv sp fu : Int) (b : Bool) (u v : Value) (r : Rest) : Ev (fun k => trailheadref10_Good.f k lim iv sp fu b u v r) (pgood lim iv sp fu) := by
  unfold trailheadref10_Good.f trailheadref10_Good.tree pgood
  refine Ev.bind (reftarget_ev lim lim) (Ev.const fun k => ?_)
  generalize (tgt lim lim).2 = c0
  generalize decide (iv ≥ 2) = c1
  generalize decide (iv ≤ 64) = c2
  generalize decide (sp ≥ 1) = c3
  generalize decide (sp ≤ 10000) = c4
  generalize decide (fu ≥ 0) = c5
  cases c0 <;> cases c1 <;> cases c2 <;> cases c3 <;> cases c4 <;> cases c5 <;> rfl

/-- How long it took, as it counts. -/
def took (w : Nat) (d : Int) : Nat := if d < ((w / 4 : Nat) : Int) then w / 4 else if ((w * 4 : Nat) : Int) < d then w * 4 else d.toNat

theorem took_le (w : Nat) (d : Int) : took w d ≤ 4 * w := by
  unfold took; split
  · omega
  split <;> omega

theorem took_mono (w : Nat) {d e : Int} (h : d ≤ e) : took w d ≤ took w e := by
  unfold took; split <;> split <;> first | omega | (split <;> first | omega | (split <;> omega))

theorem tgt_self {l : Int} (h : (tgt l l).2 = true) : dAll l = ((tgt l l).1, false, false) ∧ 0 < (tgt l l).1 := by
  unfold tgt at h ⊢
  split at h
  · rename_i hc
    rw [if_pos hc]
    refine ⟨?_, by omega⟩
    rw [← hc.1]
    refine Prod.ext rfl (Prod.ext rfl ?_)
    simp only [hc.2.1, hc.1]
  · cases h

theorem tgt_enc {l : Int} {M E : Nat} (hM : 0 < M) (hME : M ≤ E) (hl : dAll l = (E, false, false)) (hE : E < 2 ^ 256) : tgt (enc' M : Int) l = (cut M, true) := by
  unfold tgt
  rw [dAll_enc (show M < 2 ^ 256 by omega), hl]
  have := cut_pos hM
  have := cut_le M
  rw [if_pos ⟨rfl, rfl, rfl, rfl, by simp only; omega, by simp only; omega⟩]

/-- What a target that is set anew is. -/
def rt (lim iv sp fu bits d : Int) : Int :=
  if pgood lim iv sp fu = true ∧ (tgt bits lim).2 = true then
    let N := (tgt bits lim).1 * took (iv * sp).toNat d / (iv * sp).toNat
    if (tgt lim lim).1 < N then lim else (enc' (if N = 0 then 1 else N) : Int)
  else lim

theorem pgood_of {lim iv sp fu : Int} (h : pgood lim iv sp fu = true) : (tgt lim lim).2 = true ∧ ∃ w : Nat, iv * sp = (w : Int) ∧ 2 ≤ w ∧ w ≤ 640000 := by
  simp only [pgood, Bool.and_eq_true, decide_eq_true_eq] at h
  obtain ⟨h1, h2, h3, h4, h5, _⟩ := h
  obtain ⟨a, rfl⟩ : ∃ a : Nat, iv = (a : Int) := ⟨iv.toNat, by omega⟩
  obtain ⟨b, rfl⟩ : ∃ b : Nat, sp = (b : Int) := ⟨sp.toNat, by omega⟩
  refine ⟨h1, a * b, by simp, ?_, ?_⟩
  · have := Nat.mul_le_mul (show 2 ≤ a by omega) (show 1 ≤ b by omega); omega
  · have := Nat.mul_le_mul (show a ≤ 64 by omega) (show b ≤ 10000 by omega); omega

theorem span_eq {w : Nat} (hw : w ≤ 640000) (d : Int) : mnI (mxI d (quoI .i64 (w : Int) 4)) (mulI .i64 (w : Int) 4) = ((took w d : Nat) : Int) := by
  have q : quoI .i64 (w : Int) 4 = ((w / 4 : Nat) : Int) := quoII w 4 (by omega)
  have m : mulI .i64 (w : Int) 4 = ((w * 4 : Nat) : Int) := mulII w 4 (by omega)
  rw [q, m]
  unfold mnI mxI took
  (repeat' split) <;> omega

theorem scaled_eq (o t w : Nat) (hw : 0 < w) : o / w * t + o % w * t / w = o * t / w := by
  have h := Nat.div_add_mod o w
  conv => rhs; rw [← h]
  rw [Nat.add_mul, Nat.mul_assoc, Nat.mul_add_div hw]

theorem oneE : Ev (fun k => whole_Of.f k 1) (toNum 1) := of_ev 1 (by omega)

theorem retarget_ev (lim iv sp fu : Int) (b : Bool) (u v : Value) (r : Rest) (bits from_ to_ : Int) :
    Ev (fun k => pace_Retarget_v1.f k lim iv sp fu b u v r bits from_ to_) (rt lim iv sp fu bits (subI .i64 to_ from_)) := by
  unfold pace_Retarget_v1.f pace_Retarget_v1.tree rt
  refine Ev.bind (target_ev bits lim) (Ev.bind (good_ev lim iv sp fu b u v r) ?_)
  cases hg : pgood lim iv sp fu
  · rw [if_neg (by simp)]; exact Ev.const fun _ => rfl
  simp only [Bool.not_true, cond_false]
  cases ht : (tgt bits lim).2
  · rw [if_neg (by simp)]; exact Ev.const fun _ => rfl
  rw [if_pos (by simp)]
  simp only [Bool.not_true, cond_false]
  obtain ⟨hl, w, ew, hw2, hwm⟩ := pgood_of hg
  have hmul : mulI .i64 iv sp = (w : Int) := by unfold mulI; rw [ew, wrapI _ (by omega)]
  refine Ev.bind (v := ((took w (subI .i64 to_ from_) : Nat) : Int)) (Ev.const fun k => ?_) ?_
  · unfold pace_span_v1.f pace_span_v1.tree
    rw [hmul, span_eq hwm]
  have hold := tgt_lt bits lim
  have htl := took_le w (subI .i64 to_ from_)
  rw [hmul, ew, Int.toNat_natCast]
  generalize took w (subI .i64 to_ from_) = t at *
  generalize (tgt bits lim).1 = o at *
  rw [wrap_u64 (n := (w : Int)) (by omega) (by omega), wrap_u64 (n := (t : Int)) (by omega) (by omega)]
  refine Ev.bind (over_ev hold (by omega) (by omega)) ?_
  have hq : o / w < 2 ^ 256 := Nat.lt_of_le_of_lt (Nat.div_le_self _ _) hold
  refine Ev.bind (times_ev hq (by omega)) ?_
  rw [decide_eq_false (show ¬ (w : Int) = 0 by omega)]
  simp only [cond_false]
  have hr := Nat.mod_lt o (show 0 < w by omega)
  have hrt : o % w * t ≤ 640000 * 2560000 := Nat.mul_le_mul (by omega) (by omega)
  have e1 : quoI .u64 (mulI .u64 ((o % w : Nat) : Int) (t : Int)) (w : Int) = ((o % w * t / w : Nat) : Int) := by
    rw [mulU, Nat.mod_eq_of_lt (by omega), quoU _ _ (by omega)]
  have hrq := Nat.div_le_self (o % w * t) w
  rw [e1]
  refine Ev.bind (of_ev (o % w * t / w) (by omega)) ?_
  have hadd := add_ev (toNum_good (o / w * t)) (toNum_good (o % w * t / w))
  rw [vN_toNum, vN_toNum_lt (show o % w * t / w < 2 ^ 256 by omega)] at hadd
  refine Ev.bind hadd (Ev.bind (target_ev lim lim) ?_)
  have hE := tgt_lt lim lim
  have hN := scaled_eq o t w (by omega)
  rw [← hN]
  generalize (tgt lim lim).1 = E at *
  generalize o / w * t = P at *
  generalize o % w * t / w = R at *
  by_cases h1 : 2 ^ 256 ≤ P
  · rw [decide_eq_true h1, if_pos (by omega)]; exact Ev.const fun _ => rfl
  rw [decide_eq_false h1, Nat.mod_eq_of_lt (show P < 2 ^ 256 by omega)]
  simp only [cond_false]
  by_cases h2 : 2 ^ 256 ≤ P + R
  · rw [decide_eq_true h2, if_pos (by omega)]; exact Ev.const fun _ => rfl
  rw [decide_eq_false h2]
  simp only [cond_false]
  refine Ev.bind (less_num hE (by omega)) ?_
  by_cases h3 : E < P + R
  · rw [decide_eq_true h3, if_pos h3]; exact Ev.const fun _ => rfl
  rw [decide_eq_false h3, if_neg h3]
  simp only [cond_false]
  refine Ev.bind (zero_ev (by omega)) ?_
  by_cases h4 : P + R = 0
  · rw [decide_eq_true h4, if_pos h4]
    simp only [cond_true]
    exact Ev.bind oneE (Ev.bind (enc_ev (by omega)) (Ev.const fun _ => rfl))
  · rw [decide_eq_false h4, if_neg h4]
    simp only [cond_false]
    exact Ev.bind (enc_ev (by omega)) (Ev.const fun _ => rfl)

/-- Under rules that can be. -/
structure Okp (l iv sp fu bits : Int) (E w o : Nat) : Prop where
  lim : dAll l = (E, false, false)
  self : tgt l l = (E, true)
  pos : 0 < E
  lt : E < 2 ^ 256
  ew : iv * sp = (w : Int)
  w2 : 2 ≤ w
  wm : w ≤ 640000
  old : tgt bits l = (o, true)
  good : pgood l iv sp fu = true

theorem okp_of {lim iv sp fu bits : Int} (hg : pgood lim iv sp fu = true) (ht : (tgt bits lim).2 = true) : ∃ E w o, Okp lim iv sp fu bits E w o := by
  obtain ⟨hl, w, ew, h2, hm⟩ := pgood_of hg
  obtain ⟨h3, h4⟩ := tgt_self hl
  exact ⟨_, w, _, h3, Prod.ext rfl hl, h4, tgt_lt _ _, ew, h2, hm, Prod.ext rfl ht, hg⟩

section
variable {lim iv sp fu bits : Int} {E w o : Nat} (h : Okp lim iv sp fu bits E w o)
include h

theorem okp_le : 0 < o ∧ o ≤ E := by
  have h1 := h.old
  unfold tgt at h1
  split at h1
  · rename_i hc
    rw [h.lim] at hc
    simp only [Prod.mk.injEq, and_true] at h1
    rw [← h1]; exact ⟨by omega, hc.2.2.2.2.2⟩
  · simp at h1

theorem okp_rt (d : Int) : rt lim iv sp fu bits d = if E < o * took w d / w then lim else (enc' (if o * took w d / w = 0 then 1 else o * took w d / w) : Int) := by
  unfold rt
  rw [if_pos ⟨h.good, by rw [h.old]⟩, h.old, h.self, h.ew, Int.toNat_natCast]

/-- The target that is set anew. -/
theorem okp_tgt (d : Int) : tgt (rt lim iv sp fu bits d) lim = (if E < o * took w d / w then E else cut (if o * took w d / w = 0 then 1 else o * took w d / w), true) := by
  rw [okp_rt h]
  generalize o * took w d / w = N
  split
  · exact h.self
  · rename_i hn
    have := h.pos
    split
    · exact tgt_enc (by omega) (by omega) h.lim h.lt
    · exact tgt_enc (by omega) (by omega) h.lim h.lt
end

theorem subI_zero {a : Int} (h : -2 ^ 63 ≤ a ∧ a < 2 ^ 63) : subI .i64 a 0 = a := by unfold subI; rw [Int.sub_zero, wrap_i64 h.1 h.2]

theorem add_sub {a b : Int} (ha : 0 ≤ a ∧ a ≤ 2 ^ 40) (hb : 0 ≤ b ∧ b ≤ 2 ^ 42) : subI .i64 (addI .i64 a b) a = b := by
  unfold subI addI
  rw [wrap_i64 (n := a + b) (by omega) (by omega), wrap_i64 (by omega) (by omega)]; omega

theorem took_same {w : Nat} (d : Int) (h : d = (w : Int)) : took w d = w := by
  unfold took; rw [if_neg (by omega), if_neg (by omega)]; omega
theorem took_most {w : Nat} (d : Int) (h : ((4 * w : Nat) : Int) ≤ d) : took w d = 4 * w := by
  unfold took; rw [if_neg (by omega)]; split <;> omega

theorem even_most {lim iv sp fu bits : Int} {E w o : Nat} (h : Okp lim iv sp fu bits E w o) (easy : Bool) (u v : Value) (r : Rest) {from_ more : Int} (hf : 0 ≤ from_ ∧ from_ ≤ 2 ^ 40) (hm : 0 ≤ more ∧ more ≤ 2 ^ 40) :
    Ev (fun k => pace_Retarget_v1.f k lim iv sp fu easy u v r bits from_ (addI .i64 (addI .i64 from_ (mulI .i64 4 (w : Int))) more)) (if E < 4 * o then lim else (enc' (4 * o) : Int)) := by
  have hw := h.w2
  have hwm := h.wm
  obtain ⟨ho0, hoE⟩ := okp_le h
  have m4 : mulI .i64 4 (w : Int) = ((4 * w : Nat) : Int) := mulII 4 w (by omega)
  have a1 : addI .i64 from_ ((4 * w : Nat) : Int) = from_ + ((4 * w : Nat) : Int) := by unfold addI; rw [wrap_i64 (by omega) (by omega)]
  have a2 : addI .i64 (from_ + ((4 * w : Nat) : Int)) more = from_ + ((4 * w : Nat) : Int) + more := by unfold addI; rw [wrap_i64 (by omega) (by omega)]
  have a3 : subI .i64 (from_ + ((4 * w : Nat) : Int) + more) from_ = ((4 * w : Nat) : Int) + more := by unfold subI; rw [wrap_i64 (by omega) (by omega)]; omega
  rw [m4, a1, a2]
  have hre := retarget_ev lim iv sp fu easy u v r bits from_ (from_ + ((4 * w : Nat) : Int) + more)
  have e : o * (4 * w) / w = 4 * o := by rw [show o * (4 * w) = 4 * o * w by rw [Nat.mul_left_comm, Nat.mul_assoc], Nat.mul_div_cancel _ (by omega)]
  rw [a3, okp_rt h, took_most _ (by omega), e, if_neg (show ¬ 4 * o = 0 by omega)] at hre
  exact hre

theorem starts_loop {h p : Nat} (hh : h ≤ 2 ^ 40) (hp : 0 < p) (hpm : p ≤ 1000) (x4 : Bool) (lim sp fu : Int) (easy : Bool) (u v : Value) (r : Rest) : ∀ j i : Nat, j + i = p →
    Ev2 (fun k n => trailheadlaw10_PaceStarts.l0.f k (h : Int) x4 lim (p : Int) sp fu easy u v r n (if (p - h % p) % p < i then 1 else 0) (i : Int)) (1, (p : Int))
  | 0, i, e => by
    have : i = p := by omega
    subst this
    have hm := Nat.mod_lt (i - h % i) hp
    rw [if_pos hm]
    refine Ev2.succ (G := fun k n => some (1, (i : Int))) (fun k n => ?_) (Ev2.const fun _ _ => rfl)
    simp only [trailheadlaw10_PaceStarts.l0.f, trailheadlaw10_PaceStarts.l0.go, trailheadlaw10_PaceStarts.l0.step]
    rw [decide_eq_false (by omega)]; rfl
  | j + 1, i, e => by
    have ih := starts_loop hh hp hpm x4 lim sp fu easy u v r j (i + 1) (by omega)
    refine Ev2.succ (fun k n => ?_) ih
    have a1 : addI .i64 (h : Int) (i : Int) = ((h + i : Nat) : Int) := addII h i (by omega)
    have a2 : addI .i64 (i : Int) 1 = ((i + 1 : Nat) : Int) := addII i 1 (by omega)
    have r1 : (remI ((h + i : Nat) : Int) (p : Int) == (0 : Int)) = decide ((p - h % p) % p = i) := by
      rw [remII, Bool.eq_iff_iff, beq_iff_eq, decide_eq_true_iff]
      have hm := Nat.mod_lt h hp
      have e1 : (h + i) % p = (h % p + i) % p := by rw [Nat.mod_add_mod]
      rw [e1]
      generalize h % p = q at *
      have hip : i < p := by omega
      rcases Nat.eq_zero_or_pos q with h0 | h0
      · subst h0
        rw [Nat.sub_zero, Nat.mod_self, Nat.zero_add, Nat.mod_eq_of_lt hip]; omega
      · rw [Nat.mod_eq_of_lt (show p - q < p by omega)]
        rcases Nat.lt_or_ge (q + i) p with g | g
        · rw [Nat.mod_eq_of_lt g]; omega
        · rw [Nat.mod_eq_sub_mod g, Nat.mod_eq_of_lt (show q + i - p < p by omega)]; omega
    simp only [trailheadlaw10_PaceStarts.l0.f, trailheadlaw10_PaceStarts.l0.go, trailheadlaw10_PaceStarts.l0.step, pace_Starts_v1.f, pace_Starts_v1.tree]
    rw [decide_eq_true (show (i : Int) < (p : Int) by omega), decide_eq_true (show (p : Int) > 0 by omega), decide_eq_false (show ¬ (p : Int) = 0 by omega), a1, a2, r1]
    simp only [cond_true, cond_false, Option.bind_some]
    generalize (p - h % p) % p = t
    rcases Nat.lt_trichotomy t i with g | g | g
    · rw [decide_eq_false (by omega), if_pos g, if_pos (by omega)]; rfl
    · rw [decide_eq_true g, if_neg (by omega), if_pos (by omega)]; rfl
    · rw [decide_eq_false (by omega), if_neg (by omega), if_neg (by omega)]; rfl

end Go.Proofs.Ytjciljaojcekeaa.Sx
