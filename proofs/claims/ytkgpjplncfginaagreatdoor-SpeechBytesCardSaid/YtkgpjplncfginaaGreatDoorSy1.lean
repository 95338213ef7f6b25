/- Reading and writing parts of abstract values, and of the entries of an abstract heap: what that does to the cells. -/
import Derived.Test.YtkgpjplncfginaaGreatDoorSy0
import Derived.Deep.MidRow
import Derived.Laws.CopyRow
namespace Go.Proofs.YtkgpjplncfginaaGreatDoor.Sy
open Go
set_option linter.unusedVariables false
set_option linter.unusedSimpArgs false

/-! ### Cells are one cell each -/

theorem AR_oneCell {B : Bz} {v : AV} {x : Value} (h : AR B v x) : x.oneCell' = true := by
  cases v with
  | ptr p => cases p with
    | none => simp only [AR] at h; subst h; rfl
    | some p => obtain ⟨b, o, _, e⟩ := h; subst e; rfl
  | vec i => obtain ⟨_, a, n, c, e⟩ := h; subst e; rfl
  | asl p n len => obtain ⟨b, o, _, e⟩ := h; subst e; rfl
  | opq u => obtain ⟨rfl, h2⟩ := h; exact h2
  | int => simp only [AR] at h; subst h; rfl
  | bool => simp only [AR] at h; subst h; rfl
  | str => obtain ⟨_, h⟩ := h; subst h; rfl
  | nils => simp only [AR] at h; subst h; rfl
  | gptr g st dys => simp only [AR] at h; subst h; rfl
  | fn => simp only [AR] at h; subst h; rfl
  | row e t xs => obtain ⟨a, k, cs, e, _⟩ := h; subst e; rfl
  | _ => exact h.elim

theorem CR_oneCell {B : Bz} : ∀ {v : AV} {cs : List Value}, CR B v cs → ∀ x ∈ cs, x.oneCell' = true := by
  intro v
  induction v with
  | one a ih => intro cs h; exact ih h
  | pair a b iha ihb =>
    rintro cs ⟨c1, c2, rfl, h1, h2⟩ x hx
    rcases List.mem_append.1 hx with h | h
    · exact iha h1 x h
    · exact ihb h2 x h
  | arr k n xs =>
    rintro cs ⟨_, rfl⟩ x hx
    obtain ⟨y, _, rfl⟩ := List.mem_map.1 hx
    rfl
  | unit => intro cs h x hx; rw [show cs = [] from h] at hx; cases hx
  | _ => rintro cs ⟨y, rfl, hy⟩ x hx; rw [List.mem_singleton.1 hx]; exact AR_oneCell hy

/-! ### Parts of a value -/

def splice (cs : List Value) (o : Nat) (us : List Value) : List Value := cs.take o ++ us ++ cs.drop (o + us.length)

theorem length_splice {cs us : List Value} {o : Nat} (h : o + us.length ≤ cs.length) : (splice cs o us).length = cs.length := by
  simp only [splice, List.length_append, List.length_take, List.length_drop]; omega

theorem splice_left {c1 c2 us : List Value} {o : Nat} (h : o + us.length ≤ c1.length) : splice (c1 ++ c2) o us = splice c1 o us ++ c2 := by
  simp only [splice, List.append_assoc]
  rw [List.take_append_of_le_length (by omega), List.drop_append_of_le_length (by omega)]

theorem splice_right {c1 c2 us : List Value} {o : Nat} (h : c1.length ≤ o) : splice (c1 ++ c2) o us = c1 ++ splice c2 (o - c1.length) us := by
  simp only [splice]
  rw [List.take_append, List.drop_append, List.take_of_length_le h, List.drop_of_length_le (by omega : c1.length ≤ o + us.length)]
  simp only [List.nil_append, List.append_assoc]
  congr 4
  omega

theorem splice_all {cs us : List Value} (h : us.length = cs.length) : splice cs 0 us = us := by
  simp [splice, h]

theorem getElem?_splice {cs us : List Value} {o : Nat} (h : o + us.length ≤ cs.length) (j : Nat) :
    (splice cs o us)[j]? = if o ≤ j ∧ j < o + us.length then us[j - o]? else cs[j]? := by
  simp only [splice]
  by_cases h1 : j < o
  · rw [if_neg (by omega), List.append_assoc, List.getElem?_append_left (by simp; omega), List.getElem?_take_of_lt h1]
  · by_cases h2 : j < o + us.length
    · rw [if_pos ⟨by omega, h2⟩, List.append_assoc, List.getElem?_append_right (by simp; omega)]
      have e : (List.take o cs).length = o := by simp; omega
      rw [e, List.getElem?_append_left (by omega)]
    · rw [if_neg (by omega), List.getElem?_append_right (by simp; omega)]
      have e : (List.take o cs ++ us).length = o + us.length := by simp; omega
      rw [e, List.getElem?_drop]
      congr 1; omega

theorem blt_lt {a b : Nat} (h : Nat.blt a b = true) : a < b := Nat.le_of_ble_eq_true h
theorem blt_ge {a b : Nat} (h : Nat.blt a b = false) : b ≤ a := by
  rcases Nat.lt_or_ge a b with hl | hl
  · have : Nat.blt a b = true := Nat.ble_eq_true_of_le hl
    rw [this] at h; cases h
  · exact hl

def nav : AV → Nat → Nat → Bool → Option AV
  | .arr k m xs, o, n, g =>
    bif Nat.beq o 0 && Nat.beq m n && g then some (.arr k m xs)
    else bif Nat.beq n 1 && !g && Nat.blt o m then some (.int k (xs.getD o 0)) else none
  | .unit, o, n, g => bif Nat.beq o 0 && Nat.beq n 0 && g then some .unit else none
  | .one a, o, n, g => bif Nat.beq o 0 && Nat.beq a.size n && g then some (.one a) else nav a o n g
  | .pair a b, o, n, g =>
    bif Nat.beq o 0 && Nat.beq (a.size + b.size) n && g then some (.pair a b)
    else bif Nat.blt o a.size then nav a o n g else nav b (o - a.size) n g
  | .tnil, _, _, _ => none
  | .tcons _ _, _, _, _ => none
  | v, o, n, g => bif Nat.beq o 0 && Nat.beq n 1 && !g then some v else none

/-- What is known of a part of cells. -/
structure PartOf (B : Bz) (cs : List Value) (o n : Nat) (u : AV) : Prop where
  le : o + n ≤ cs.length
  part : ∃ us, us.length = n ∧ CR B u us ∧ ∀ j, j < n → cs[o + j]? = us[j]?

theorem PartOf.whole {B : Bz} {v : AV} {cs : List Value} {n : Nat} (h : CR B v cs) (hn : v.size = n) : PartOf B cs 0 n v :=
  ⟨by rw [CR_length h, hn]; omega, cs, by rw [CR_length h, hn], h, fun j _ => by rw [Nat.zero_add]⟩

theorem PartOf.left {B : Bz} {c1 c2 : List Value} {o n : Nat} {u : AV} (h : PartOf B c1 o n u) : PartOf B (c1 ++ c2) o n u := by
  obtain ⟨us, h1, h2, h3⟩ := h.part
  have := h.le
  exact ⟨by rw [List.length_append]; omega, us, h1, h2, fun j hj => by rw [List.getElem?_append_left (by omega)]; exact h3 j hj⟩

theorem PartOf.right {B : Bz} {c1 c2 : List Value} {o n : Nat} {u : AV} (hle : c1.length ≤ o) (h : PartOf B c2 (o - c1.length) n u) : PartOf B (c1 ++ c2) o n u := by
  obtain ⟨us, h1, h2, h3⟩ := h.part
  have := h.le
  refine ⟨by rw [List.length_append]; omega, us, h1, h2, fun j hj => ?_⟩
  rw [List.getElem?_append_right (by omega), ← h3 j hj]
  congr 1; omega

theorem bif_eq_some.{u} {α : Type u} {c : Bool} {x y : Option α} {r : α} (h : (bif c then x else y) = some r) : (c = true ∧ x = some r) ∨ (c = false ∧ y = some r) := by
  cases c
  · exact .inr ⟨rfl, h⟩
  · exact .inl ⟨rfl, h⟩

theorem nav_ok {B : Bz} : ∀ {v : AV} {cs : List Value} {o n : Nat} {g : Bool} {u : AV}, CR B v cs → nav v o n g = some u →
    u.isAgg = g ∧ PartOf B cs o n u ∧ ∀ i ∈ u.ids, i ∈ v.ids := by
  intro v
  induction v with
  | arr k m xs =>
    rintro cs o n g u ⟨hl, rfl⟩ h
    simp only [nav] at h
    replace h := bif_eq_some h
    rcases h with ⟨hc, h⟩ | ⟨_, h⟩
    · simp only [Bool.and_eq_true] at hc
      obtain ⟨⟨h1, h2⟩, h3⟩ := hc
      have h1 := Nat.eq_of_beq_eq_true h1; have h2 := Nat.eq_of_beq_eq_true h2
      subst h1 h2 h3; cases h
      exact ⟨rfl, .whole ⟨hl, rfl⟩ rfl, fun _ h => h⟩
    · replace h := bif_eq_some h
      rcases h with ⟨hc, h⟩ | ⟨_, h⟩
      · simp only [Bool.and_eq_true, Bool.not_eq_true'] at hc
        obtain ⟨⟨h1, h2⟩, h3⟩ := hc
        have h1 := Nat.eq_of_beq_eq_true h1
        have h3 : o < m := blt_lt h3
        subst h1 h2; cases h
        refine ⟨rfl, ⟨by simp [hl]; omega, [.int k (xs.getD o 0)], rfl, ⟨_, rfl, rfl⟩, fun j hj => ?_⟩, fun i h => by simp [AV.ids] at h⟩
        have : j = 0 := by omega
        subst this
        simp [List.getD, List.getElem?_eq_getElem (show o < xs.length by omega)]
      · cases h
  | unit =>
    intro cs o n g u hr h
    replace h := bif_eq_some h
    rcases h with ⟨hc, h⟩ | ⟨_, h⟩
    · simp only [Bool.and_eq_true] at hc
      obtain ⟨⟨h1, h2⟩, h3⟩ := hc
      have h1 := Nat.eq_of_beq_eq_true h1; have h2 := Nat.eq_of_beq_eq_true h2
      subst h1 h2 h3; cases h
      exact ⟨rfl, .whole hr rfl, fun _ h => h⟩
    · cases h
  | one a ih =>
    intro cs o n g u hr h
    simp only [nav] at h
    replace h := bif_eq_some h
    rcases h with ⟨hc, h⟩ | ⟨_, h⟩
    · simp only [Bool.and_eq_true] at hc
      obtain ⟨⟨h1, h2⟩, h3⟩ := hc
      have h1 := Nat.eq_of_beq_eq_true h1; have h2 := Nat.eq_of_beq_eq_true h2
      subst h1 h3; cases h
      exact ⟨rfl, .whole hr h2, fun _ h => h⟩
    · exact ih hr h
  | pair a b iha ihb =>
    intro cs o n g u hr h
    simp only [nav] at h
    replace h := bif_eq_some h
    rcases h with ⟨hc, h⟩ | ⟨_, h⟩
    · simp only [Bool.and_eq_true] at hc
      obtain ⟨⟨h1, h2⟩, h3⟩ := hc
      have h1 := Nat.eq_of_beq_eq_true h1; have h2 := Nat.eq_of_beq_eq_true h2
      subst h1 h3; cases h
      exact ⟨rfl, .whole hr h2, fun _ h => h⟩
    · obtain ⟨c1, c2, rfl, h1, h2⟩ := hr
      replace h := bif_eq_some h
      rcases h with ⟨_, h⟩ | ⟨hc, h⟩
      · obtain ⟨ha, hp, hi⟩ := iha h1 h
        exact ⟨ha, hp.left, fun i hm => by simp [AV.ids, hi i hm]⟩
      · have hc : a.size ≤ o := blt_ge hc
        rw [← CR_length h1] at h hc
        obtain ⟨ha, hp, hi⟩ := ihb h2 h
        exact ⟨ha, hp.right hc, fun i hm => by simp [AV.ids, hi i hm]⟩
  | tnil => intro cs o n g u hr h; cases h
  | tcons => intro cs o n g u hr h; cases h
  | _ =>
    intro cs o n g u hr h
    replace h := bif_eq_some h
    rcases h with ⟨hc, h⟩ | ⟨_, h⟩
    · simp only [Bool.and_eq_true, Bool.not_eq_true'] at hc
      obtain ⟨⟨h1, h2⟩, h3⟩ := hc
      have h1 := Nat.eq_of_beq_eq_true h1; have h2 := Nat.eq_of_beq_eq_true h2
      subst h1 h2 h3; cases h
      exact ⟨rfl, .whole hr rfl, fun _ h => h⟩
    · cases h

def setNav : AV → Nat → AV → Option AV
  | .arr k m xs, o, u =>
    bif Nat.beq o 0 && Nat.beq m u.size && u.isAgg then some u
    else match u with
      | .int k' x => bif decide (k' = k) && Nat.blt o m then some (.arr k m (xs.set o x)) else none
      | _ => none
  | .unit, o, u => bif Nat.beq o 0 && Nat.beq u.size 0 && u.isAgg then some u else none
  | .one a, o, u => bif Nat.beq o 0 && Nat.beq a.size u.size && u.isAgg then some u else (match setNav a o u with
    | some x => some (.one x)
    | none => none)
  | .pair a b, o, u =>
    bif Nat.beq o 0 && Nat.beq (a.size + b.size) u.size && u.isAgg then some u
    else bif Nat.blt o a.size then (match setNav a o u with
      | some x => some (.pair x b)
      | none => none)
    else (match setNav b (o - a.size) u with
      | some x => some (.pair a x)
      | none => none)
  | .tnil, _, _ => none
  | .tcons _ _, _, _ => none
  | _, o, u => bif Nat.beq o 0 && Nat.beq u.size 1 && !u.isAgg && !u.isTup then some u else none

/-- What is known when a part of cells has been written. -/
structure PutAt (B : Bz) (v : AV) (cs : List Value) (o : Nat) (u : AV) (us : List Value) (v' : AV) : Prop where
  le : o + us.length ≤ cs.length
  cr : CR B v' (splice cs o us)
  ids : ∀ i ∈ v'.ids, i ∈ v.ids ∨ i ∈ u.ids

theorem PutAt.whole {B : Bz} {v u : AV} {cs us : List Value} (h : CR B v cs) (hu : CR B u us) (hn : v.size = u.size) : PutAt B v cs 0 u us u := by
  have hl : us.length = cs.length := by rw [CR_length h, CR_length hu, hn]
  exact ⟨by omega, by rw [splice_all hl]; exact hu, fun i h => .inr h⟩

theorem setNav_ok {B : Bz} {u : AV} {us : List Value} (hu : CR B u us) : ∀ {v : AV} {cs : List Value} {o : Nat} {v' : AV}, CR B v cs → setNav v o u = some v' → PutAt B v cs o u us v' := by
  intro v
  induction v with
  | arr k m xs =>
    rintro cs o v' ⟨hl, rfl⟩ h
    simp only [setNav] at h
    replace h := bif_eq_some h
    rcases h with ⟨hc, h⟩ | ⟨_, h⟩
    · simp only [Bool.and_eq_true] at hc
      obtain ⟨⟨h1, h2⟩, h3⟩ := hc
      have h1 := Nat.eq_of_beq_eq_true h1; have h2 := Nat.eq_of_beq_eq_true h2
      subst h1; cases h
      exact .whole ⟨hl, rfl⟩ hu h2
    · split at h
      · rename_i k' x
        replace h := bif_eq_some h
        rcases h with ⟨hc, h⟩ | ⟨_, h⟩
        · simp only [Bool.and_eq_true] at hc
          obtain ⟨h1, h2⟩ := hc
          have h1 := of_decide_eq_true h1
          have h2 : o < m := blt_lt h2
          subst h1; cases h
          obtain ⟨y, rfl, hy⟩ := hu
          simp only [AR] at hy
          subst hy
          refine ⟨by simp; omega, ⟨by simpa using hl, ?_⟩, fun i h => .inl h⟩
          apply List.ext_getElem?
          intro j
          rw [getElem?_splice (by simp; omega)]
          simp only [List.getElem?_map, List.getElem?_set, List.length_singleton]
          by_cases hj : o = j
          · subst hj; simp [hl, h2]
          · rw [if_neg hj, if_neg (by omega)]
        · cases h
      · cases h
  | unit =>
    intro cs o v' hr h
    simp only [setNav] at h
    replace h := bif_eq_some h
    rcases h with ⟨hc, h⟩ | ⟨_, h⟩
    · simp only [Bool.and_eq_true] at hc
      obtain ⟨⟨h1, h2⟩, h3⟩ := hc
      have h1 := Nat.eq_of_beq_eq_true h1; have h2 := Nat.eq_of_beq_eq_true h2
      subst h1; cases h
      exact .whole hr hu h2.symm
    · cases h
  | one a ih =>
    intro cs o v' hr h
    simp only [setNav] at h
    replace h := bif_eq_some h
    rcases h with ⟨hc, h⟩ | ⟨_, h⟩
    · simp only [Bool.and_eq_true] at hc
      obtain ⟨⟨h1, h2⟩, h3⟩ := hc
      have h1 := Nat.eq_of_beq_eq_true h1; have h2 := Nat.eq_of_beq_eq_true h2
      subst h1; cases h
      exact .whole hr hu h2
    · split at h
      · rename_i x hx
        cases h
        obtain ⟨p1, p2, p3⟩ := ih hr hx
        exact ⟨p1, p2, p3⟩
      · cases h
  | pair a b iha ihb =>
    intro cs o v' hr h
    simp only [setNav] at h
    replace h := bif_eq_some h
    rcases h with ⟨hc, h⟩ | ⟨_, h⟩
    · simp only [Bool.and_eq_true] at hc
      obtain ⟨⟨h1, h2⟩, h3⟩ := hc
      have h1 := Nat.eq_of_beq_eq_true h1; have h2 := Nat.eq_of_beq_eq_true h2
      subst h1; cases h
      exact .whole hr hu h2
    · obtain ⟨c1, c2, rfl, h1, h2⟩ := hr
      replace h := bif_eq_some h
      rcases h with ⟨_, h⟩ | ⟨hc, h⟩
      · split at h
        · rename_i x hx
          cases h
          obtain ⟨p1, p2, p3⟩ := iha h1 hx
          refine ⟨by rw [List.length_append]; omega, ⟨_, _, splice_left p1, p2, h2⟩, fun i hm => ?_⟩
          simp only [AV.ids, List.mem_append] at hm ⊢
          rcases hm with hm | hm
          · exact (p3 i hm).imp .inl id
          · exact .inl (.inr hm)
        · cases h
      · have hc : a.size ≤ o := blt_ge hc
        rw [← CR_length h1] at h hc
        split at h
        · rename_i x hx
          cases h
          obtain ⟨p1, p2, p3⟩ := ihb h2 hx
          refine ⟨by rw [List.length_append]; omega, ⟨_, _, splice_right hc, h1, p2⟩, fun i hm => ?_⟩
          simp only [AV.ids, List.mem_append] at hm ⊢
          rcases hm with hm | hm
          · exact .inl (.inl hm)
          · exact (p3 i hm).imp .inr id
        · cases h
  | tnil => intro cs o v' hr h; cases h
  | tcons => intro cs o v' hr h; cases h
  | _ =>
    intro cs o v' hr h
    simp only [setNav] at h
    replace h := bif_eq_some h
    rcases h with ⟨hc, h⟩ | ⟨_, h⟩
    · simp only [Bool.and_eq_true] at hc
      obtain ⟨⟨⟨h1, h2⟩, h3⟩, _⟩ := hc
      have h1 := Nat.eq_of_beq_eq_true h1; have h2 := Nat.eq_of_beq_eq_true h2
      subst h1; cases h
      exact .whole hr hu (by rw [h2]; rfl)
    · cases h

def navA : AV → Nat → Option (IntKind × Nat × List Int)
  | .arr k m xs, o => bif Nat.beq o 0 then some (k, m, xs) else none
  | .one a, o => navA a o
  | .pair a b, o => bif Nat.blt o a.size then navA a o else navA b (o - a.size)
  | _, _ => none

def setA : AV → Nat → Nat → Int → Option AV
  | .arr k m xs, o, i, x => bif Nat.beq o 0 then some (.arr k m (xs.set i x)) else none
  | .one a, o, i, x => (match setA a o i x with
    | some y => some (.one y)
    | none => none)
  | .pair a b, o, i, x => bif Nat.blt o a.size then (match setA a o i x with
      | some y => some (.pair y b)
      | none => none) else (match setA b (o - a.size) i x with
      | some y => some (.pair a y)
      | none => none)
  | _, _, _, _ => none

theorem navA_ok {B : Bz} : ∀ {v : AV} {cs : List Value} {o : Nat} {k : IntKind} {m : Nat} {xs : List Int}, CR B v cs → navA v o = some (k, m, xs) →
    xs.length = m ∧ o + m ≤ cs.length ∧ ∀ j, j < m → cs[o + j]? = some (.int k (xs.getD j 0)) := by
  intro v
  induction v with
  | arr k' m' xs' =>
    rintro cs o k m xs ⟨hl, rfl⟩ h
    simp only [navA] at h
    replace h := bif_eq_some h
    rcases h with ⟨hc, h⟩ | ⟨_, h⟩
    · have hc := Nat.eq_of_beq_eq_true hc
      subst hc; cases h
      refine ⟨hl, by simp [hl], fun j hj => ?_⟩
      have hj' : j < xs'.length := by omega
      simp [List.getD, hj']
    · cases h
  | one a ih => intro cs o k m xs hr h; exact ih hr h
  | pair a b iha ihb =>
    rintro cs o k m xs ⟨c1, c2, rfl, h1, h2⟩ h
    simp only [navA] at h
    replace h := bif_eq_some h
    rcases h with ⟨_, h⟩ | ⟨hc, h⟩
    · obtain ⟨p1, p2, p3⟩ := iha h1 h
      exact ⟨p1, by rw [List.length_append]; omega, fun j hj => by rw [List.getElem?_append_left (by omega)]; exact p3 j hj⟩
    · have hc : a.size ≤ o := blt_ge hc
      rw [← CR_length h1] at h hc
      obtain ⟨p1, p2, p3⟩ := ihb h2 h
      refine ⟨p1, by rw [List.length_append]; omega, fun j hj => ?_⟩
      rw [List.getElem?_append_right (by omega), ← p3 j hj]
      congr 1; omega
  | _ => intro cs o k m xs hr h; simp [navA] at h

theorem setA_ok {B : Bz} : ∀ {v : AV} {cs : List Value} {o i : Nat} {x : Int} {k : IntKind} {m : Nat} {xs : List Int} {v' : AV}, CR B v cs → navA v o = some (k, m, xs) → i < m →
    setA v o i x = some v' → PutAt B v cs (o + i) (.int k x) [.int k x] v' := by
  intro v
  induction v with
  | arr k' m' xs' =>
    rintro cs o i x k m xs v' ⟨hl, rfl⟩ h hi hs
    simp only [navA] at h
    simp only [setA] at hs
    replace h := bif_eq_some h
    rcases h with ⟨hc, h⟩ | ⟨_, h⟩
    · rw [hc] at hs
      have hc := Nat.eq_of_beq_eq_true hc
      subst hc; cases h; cases hs
      refine ⟨by simp; omega, ⟨by simpa using hl, ?_⟩, fun i h => .inl h⟩
      apply List.ext_getElem?
      intro j
      rw [getElem?_splice (by simp; omega)]
      simp only [List.getElem?_map, List.getElem?_set, List.length_singleton, Nat.zero_add]
      by_cases hj : i = j
      · subst hj; simp [hl, hi]
      · rw [if_neg hj, if_neg (by omega)]
    · cases h
  | one a ih =>
    intro cs o i x k m xs v' hr h hi hs
    simp only [setA] at hs
    split at hs
    · rename_i y hy
      cases hs
      obtain ⟨p1, p2, p3⟩ := ih hr h hi hy
      exact ⟨p1, p2, p3⟩
    · cases hs
  | pair a b iha ihb =>
    rintro cs o i x k m xs v' ⟨c1, c2, rfl, h1, h2⟩ h hi hs
    simp only [navA] at h
    simp only [setA] at hs
    replace h := bif_eq_some h
    rcases h with ⟨hc, h⟩ | ⟨hc, h⟩
    · rw [hc] at hs
      simp only [cond_true] at hs
      split at hs
      · rename_i y hy
        cases hs
        obtain ⟨p1, p2, p3⟩ := iha h1 h hi hy
        refine ⟨by rw [List.length_append]; omega, ⟨_, _, splice_left p1, p2, h2⟩, fun i hm => ?_⟩
        simp only [AV.ids, List.mem_append] at hm ⊢
        rcases hm with hm | hm
        · exact (p3 i hm).imp .inl id
        · exact .inl (.inr hm)
      · cases hs
    · rw [hc] at hs
      simp only [cond_false] at hs
      have hc : a.size ≤ o := blt_ge hc
      rw [← CR_length h1] at h hc hs
      split at hs
      · rename_i y hy
        cases hs
        obtain ⟨p1, p2, p3⟩ := ihb h2 h hi hy
        refine ⟨by rw [List.length_append]; simp only [List.length_singleton] at p1 ⊢; omega, ⟨_, _, splice_right (by omega), h1, ?_⟩, fun i hm => ?_⟩
        · rw [show o + i - c1.length = o - c1.length + i by omega]; exact p2
        · simp only [AV.ids, List.mem_append] at hm ⊢
          rcases hm with hm | hm
          · exact .inl (.inl hm)
          · exact (p3 i hm).imp .inr id
      · cases hs
  | _ => intro cs o i x k m xs v' hr h; simp [navA] at h

end Go.Proofs.YtkgpjplncfginaaGreatDoor.Sy
