/- From a callee to a row: what the arguments hold, read as data, and what is left behind the call. -/
import Derived.Test.YtkgpjplncfginaaGreatDoorSy18
import Derived.ProofKit
import Derived.OpenShut
import Derived.SizedLaws
namespace Go.Proofs.YtkgpjplncfginaaGreatDoor.Sy
open Go Go.ChangeShapes Go.WideShapes Go.ChangeAt Go.RowKit
set_option linter.unusedVariables false
set_option linter.unusedSimpArgs false

def goodL (k : IntKind) (xs : List Int) : Prop := ∀ y ∈ xs, (Lit.int k y).wf = true

def allD {α : Type} (p : α → Prop) (l : List α) : Prop := ∀ x ∈ l, p x

def goodT : (t : Ty) → t.den → Prop
  | .int k, n => (Lit.int k n).wf = true
  | .bool, _ => True
  | .str, s => byteL s ∧ List.length s ≤ reachBytes
  | .arr k n, xs => List.length xs = n ∧ goodL k xs
  | .opq, v => Value.oneCell' v = true
  | .one a, x => goodT a x
  | .pair a b, x => goodT a x.1 ∧ goodT b x.2
  | .row _ a, xs => allD (goodT a) xs ∧ List.length xs ≤ maxLen

/-- What the world holds. -/
def zOf (w : World) : Frz := fun b o => w.cell? ⟨b, o, none⟩

def goodS : (s : Sh) → s.den → Prop
  | .data t, x => goodT t x
  | .one a, x => goodS a x
  | .pair a b, x => goodS a x.1 ∧ goodS b x.2
  | .opq, _ => True
  | .ptr _, _ => True
  | .pat _ _, _ => True
  | .pdy _ _ _, _ => True
  | .nilp, _ => True
  | .vec _, _ => True
  | .nils, _ => True
  | .fn _, _ => True

/-! ### The shape of a type -/

def isInt (P : Program) (t : TypeId) (k : IntKind) : Bool := match P.underlying t with
  | some (.int k') => decide (k' = k)
  | _ => false

theorem isInt_ok {P : Program} {t : TypeId} {k : IntKind} (h : isInt P t k = true) : P.underlying t = some (.int k) := by
  unfold isInt at h
  split at h
  · rename_i k' hk; rw [hk, of_decide_eq_true h]
  · cases h

def arrIs (P : Program) (t : TypeId) (m : Nat) (e : TypeId) : Sh → Bool
  | .data (.arr k n) => Nat.beq n m && isInt P e k && Nat.beq (P.cellsOf e) 1 && Nat.beq (P.cellsOf t) m
  | _ => false

def chainIs (P : Program) (rec : TypeId → Sh → Bool) : List Field → Nat → Nat → Sh → Bool
  | [], _, _, _ => false
  | f :: [], off, tot, s => Nat.beq f.offset off && rec f.type s && Nat.beq (off + P.cellsOf f.type) tot
  | f :: g :: r, off, tot, .pair a b => Nat.beq f.offset off && rec f.type a && chainIs P rec (g :: r) (off + P.cellsOf f.type) tot b
  | f :: g :: r, off, tot, .data (.pair a b) => Nat.beq f.offset off && rec f.type (.data a) && chainIs P rec (g :: r) (off + P.cellsOf f.type) tot (.data b)
  | _, _, _, _ => false

def structIs (P : Program) (rec : TypeId → Sh → Bool) (t : TypeId) : List Field → Sh → Bool
  | [f], .one a => chainIs P rec [f] 0 (P.cellsOf t) a
  | [f], .data (.one a) => chainIs P rec [f] 0 (P.cellsOf t) (.data a)
  | f :: g :: r, s => chainIs P rec (f :: g :: r) 0 (P.cellsOf t) s
  | _, _ => false

/-- The type's rows are as the shape says; 'n' bounds how deep structs lie in structs. -/
def shIs (P : Program) : Nat → TypeId → Sh → Bool
  | 0, _, _ => false
  | n + 1, t, s => match P.underlying t with
    | some (.int k) => (match s with
      | .data (.int k') => decide (k' = k)
      | _ => false)
    | some .bool => (match s with
      | .data .bool => true
      | _ => false)
    | some .string => (match s with
      | .data .str => true
      | _ => false)
    | some (.slice e) => (match s with
      | .opq => true
      | .data .opq => true
      | .data (.row e' a) => Nat.beq e' e && Nat.beq (P.cellsOf e) a.size && Nat.blt 0 a.size && shIs P n e (.data a)
      | _ => false)
    | some (.array m e) => arrIs P t m e s
    | some (.struct fs) => structIs P (shIs P n) t fs.toList s
    | _ => false

section
variable {H : Type} {en : TypeId × Value → H} {P : Program} {w : World} {base : Nat} {spare : Nat → Bool} {held : Bool}

theorem length_unb (s : ByteArray) : (unb s).length = s.size := by
  unfold unb
  rw [List.length_map, Array.length_toList]
  rfl

/-- The cells read as a value of the shape. -/
def SOK (w : World) (s : Sh) (cs : List Value) : Prop := ∃ x : s.den, goodS s x ∧ ∀ B : Bz, Zle (zOf w) B.z → CR B (s.mk x) cs

theorem pair_data {a b : Ty} {cs : List Value} (h : ∃ c1 c2, cs = c1 ++ c2 ∧ SOK w (.data a) c1 ∧ SOK w (.data b) c2) : SOK w (.data (.pair a b)) cs := by
  obtain ⟨c1, c2, rfl, ⟨x, gx, hx⟩, ⟨y, gy, hy⟩⟩ := h
  exact ⟨(x, y), ⟨gx, gy⟩, fun B hz => ⟨c1, c2, rfl, hx B hz, hy B hz⟩⟩

theorem pair_sh {a b : Sh} {cs : List Value} (h : ∃ c1 c2, cs = c1 ++ c2 ∧ SOK w a c1 ∧ SOK w b c2) : SOK w (.pair a b) cs := by
  obtain ⟨c1, c2, rfl, ⟨x, gx, hx⟩, ⟨y, gy, hy⟩⟩ := h
  exact ⟨(x, y), ⟨gx, gy⟩, fun B hz => ⟨c1, c2, rfl, hx B hz, hy B hz⟩⟩

theorem chain_ok {rec : TypeId → Sh → Bool} {cs : List Value} : ∀ {l : List Field} {off tot : Nat} {s : Sh}, (∀ f ∈ l, ∀ s, rec f.type s = true → SOK w s ((cs.drop f.offset).take (P.cellsOf f.type))) →
    chainIs P rec l off tot s = true → cs.length = tot → SOK w s (cs.drop off)
  | [], _, _, _, _, h, _ => by simp [chainIs] at h
  | f :: [], off, tot, s, hr, h, hl => by
    simp only [chainIs, Bool.and_eq_true] at h
    obtain ⟨⟨h1, h2⟩, h3⟩ := h
    replace h1 := Nat.eq_of_beq_eq_true h1
    replace h3 := Nat.eq_of_beq_eq_true h3
    have := hr f (by simp) s h2
    rwa [h1, List.take_of_length_le (by simp; omega)] at this
  | f :: g :: r, off, tot, s, hr, h, hl => by
    have key : ∀ {a b : Sh}, (Nat.beq f.offset off && rec f.type a && chainIs P rec (g :: r) (off + P.cellsOf f.type) tot b) = true →
        ∃ c1 c2, cs.drop off = c1 ++ c2 ∧ SOK w a c1 ∧ SOK w b c2 := by
      intro a b h
      simp only [Bool.and_eq_true] at h
      obtain ⟨⟨h1, h2⟩, h3⟩ := h
      replace h1 := Nat.eq_of_beq_eq_true h1
      have p1 := hr f (by simp) a h2
      have p2 := chain_ok (l := g :: r) (fun x hx => hr x (by simp only [List.mem_cons] at hx ⊢; exact .inr hx)) h3 hl
      rw [h1] at p1
      rw [← List.drop_drop] at p2
      exact ⟨_, _, (List.take_append_drop (P.cellsOf f.type) (cs.drop off)).symm, p1, p2⟩
    cases s with
    | pair a b => exact pair_sh (key h)
    | data t =>
      cases t with
      | pair a b => exact pair_data (key h)
      | _ => simp [chainIs] at h
    | _ => simp [chainIs] at h

theorem ints_ok {k : IntKind} : ∀ {cs : List Value}, (∀ i, i < cs.length → ∃ n, (cs.drop i).take 1 = [.int k n] ∧ (Lit.int k n).wf = true) → ∃ xs : List Int, cs = xs.map (Value.int k) ∧ ∀ y ∈ xs, (Lit.int k y).wf = true
  | [], _ => ⟨[], rfl, fun y h => by cases h⟩
  | c :: cs, h => by
    obtain ⟨n, h1, h2⟩ := h 0 (by simp)
    obtain ⟨xs, h3, h4⟩ := ints_ok (cs := cs) (fun i hi => by
      have := h (i + 1) (by simp; omega)
      simpa using this)
    simp at h1
    refine ⟨n :: xs, by rw [h1, h3]; rfl, fun y hy => ?_⟩
    rcases List.mem_cons.1 hy with rfl | hy
    · exact h2
    · exact h4 y hy

theorem cell_spot {w : World} {a : Addr} {v : Value} (h : w.cell? a = some v) : a = ⟨a.block, a.off, none⟩ ∧ a.block < w.heap.size := by
  unfold World.cell? at h
  split at h
  · rename_i c e f hb
    split at h
    · cases h
    · rename_i hs
      obtain ⟨b, o, s⟩ := a
      cases s with
      | none => exact ⟨rfl, (Array.getElem?_eq_some_iff.1 hb).1⟩
      | some _ => simp at hs
  · cases h

theorem add_eq (b o n : Nat) : (Addr.add ⟨b, o, none⟩ n) = ⟨b, o + n, none⟩ := by
  unfold Addr.add
  split
  · rename_i h; subst h; rfl
  · rfl

theorem add_zero (a : Addr) : a.add 0 = a := if_pos rfl

theorem weights_mem_all {P : Program} {e : TypeId} : ∀ {l : List (DataW H)} {d : DataW H}, d ∈ l → ∀ {n : Nat}, n ∈ d.weights P e → n ∈ DataW.weightsAll P e l
  | x :: r, d, h, n, hn => by
    simp only [DataW.weightsAll, List.mem_append]
    rcases List.mem_cons.1 h with rfl | h
    · exact .inl hn
    · exact .inr (weights_mem_all h hn)

theorem list_choice {α : Type} {Q : Nat → α → Prop} : ∀ n : Nat, (∀ i, i < n → ∃ x, Q i x) → ∃ xs : List α, xs.length = n ∧ ∀ i x, xs[i]? = some x → Q i x
  | 0, _ => ⟨[], rfl, fun i x h => by simp at h⟩
  | n + 1, h => by
    obtain ⟨xs, h1, h2⟩ := list_choice n (fun i hi => h i (by omega))
    obtain ⟨y, hy⟩ := h n (by omega)
    refine ⟨xs ++ [y], by simp [h1], fun i x hx => ?_⟩
    rw [List.getElem?_append] at hx
    split at hx
    · exact h2 i x hx
    · rename_i hlt
      have hi : i - xs.length = 0 := by
        rcases Nat.eq_zero_or_pos (i - xs.length) with h0 | h0
        · exact h0
        · rw [List.getElem?_eq_none (by simp; omega)] at hx; cases hx
      rw [hi] at hx
      simp at hx
      subst hx
      have : i = n := by omega
      rw [this]; exact hy

/-- Rows that lie in the world. -/
def FzAt (w : World) (t : Ty) (xs : List t.den) (v : Value) : Prop := ∀ z, Zle (zOf w) z → FzR z (DR z t) xs v

theorem fz_of_cells {z : Frz} {t : Ty} {bl o : Nat} : ∀ {xs : List t.den} {q : Nat}, (∀ j x, xs[j]? = some x → ∃ c, DR z t x c ∧ ∀ m u, c[m]? = some u → z bl (o + (q + j) * t.size + m) = some u) →
    ∃ cs, DRs z t xs cs ∧ ∀ j u, cs[j]? = some u → z bl (o + q * t.size + j) = some u
  | [], q, _ => ⟨[], rfl, fun j u h => by simp at h⟩
  | x :: xs, q, h => by
    obtain ⟨c, h1, h2⟩ := h 0 x rfl
    obtain ⟨cs, h3, h4⟩ := fz_of_cells (xs := xs) (q := q + 1) (fun j y hj => by
      have := h (j + 1) y (by simpa using hj)
      rw [show q + (j + 1) = q + 1 + j by omega] at this
      exact this)
    have hl := DR.length h1
    refine ⟨c ++ cs, ⟨c, cs, rfl, h1, h3⟩, fun j u hj => ?_⟩
    rw [List.getElem?_append] at hj
    split at hj
    · have := h2 j u hj
      rw [Nat.add_zero] at this
      exact this
    · rename_i hge
      have := h4 _ u hj
      rw [← this]
      congr 1
      rw [Nat.succ_mul]
      omega

theorem trod_sh : ∀ {n : Nat} {t : TypeId} {s : Sh} {fuel : Nat} {cs : List Value} {x : DataW H × List MemPlace}, shIs P n t s = true → DataW.trod en P w base spare held fuel t cs = some x → (∀ m ∈ x.1.weights P t, m ≤ reachBytes) → SOK w s cs
  | 0, _, _, _, _, _, h, _, _ => by cases h
  | n + 1, t, s, fuel, cs, x, h, hx, hsz => by
    simp only [shIs] at h
    split at h
    · rename_i k hk
      split at h
      · obtain ⟨m, rfl, _, hw⟩ := DataW.trod_int hk hx
        rw [of_decide_eq_true h]
        exact ⟨m, hw, fun B hz => ⟨_, rfl, rfl⟩⟩
      · cases h
    · rename_i hk
      split at h
      · obtain ⟨m, rfl, _⟩ := DataW.trod_bool hk hx
        exact ⟨m, trivial, fun B hz => ⟨_, rfl, rfl⟩⟩
      · cases h
    · rename_i hk
      split at h
      · obtain ⟨m, rfl, rfl, hw⟩ := DataW.trod_string hk hx
        have hl : (unb m).length = m.size := length_unb m
        have hz : m.size ≤ reachBytes := hsz _ (by simp only [DataW.weights, List.mem_singleton]; rfl)
        exact ⟨unb m, ⟨byteL_unb m, by rw [hl]; exact hz⟩, fun B hz => ⟨_, rfl, byteL_unb m, by rw [bst_unb]⟩⟩
      · cases h
    · rename_i e hk
      split at h
      · rcases DataW.trod_slice hk hx with ⟨rfl, _⟩ | ⟨a, len, cap, _, _, _, _, rfl, _⟩
        · exact ⟨Value.slice none 0 0, trivial, fun B hz => ⟨_, rfl, rfl, rfl⟩⟩
        · exact ⟨Value.slice (some a) len cap, trivial, fun B hz => ⟨_, rfl, rfl, rfl⟩⟩
      · rcases DataW.trod_slice hk hx with ⟨rfl, _⟩ | ⟨a, len, cap, _, _, _, _, rfl, _⟩
        · exact ⟨(Value.slice none 0 0 : Value), rfl, fun B hz => ⟨_, rfl, rfl, rfl⟩⟩
        · exact ⟨(Value.slice (some a) len cap : Value), rfl, fun B hz => ⟨_, rfl, rfl, rfl⟩⟩
      · rename_i e' ty
        simp only [Bool.and_eq_true] at h
        obtain ⟨⟨⟨h1, h2⟩, h3⟩, h4⟩ := h
        replace h1 := Nat.eq_of_beq_eq_true h1
        replace h2 := Nat.eq_of_beq_eq_true h2
        replace h3 := blt_lt h3
        subst h1
        rcases DataW.trod_slice hk hx with ⟨rfl, _⟩ | ⟨a, len, cap, elems, rest, m, _, rfl, hxe, hb, hlc, hcap, hel, hall, _⟩
        · exact ⟨([] : List ty.den), ⟨fun x hx => (by cases hx), Nat.zero_le _⟩, fun B hz => ⟨_, rfl, none, 0, [], rfl, fun h => by simp at h, rfl, fun j u h => by simp at h⟩⟩
        · obtain ⟨xs, hxl, hx⟩ := list_choice (α := ty.den) (Q := fun i x => goodT ty x ∧ ∃ cs, w.cells? base (a.add (i * P.cellsOf e')) (P.cellsOf e') = some cs ∧ ∀ B : Bz, Zle (zOf w) B.z → DR B.z ty x cs) len (fun i hi => by
            have := hall i hi
            rw [List.getElem?_eq_getElem (by omega)] at this
            obtain ⟨cs, p1, p2⟩ := Option.bind_eq_some_iff.1 this
            obtain ⟨x, gx, hxx⟩ := trod_sh h4 p2 (fun m hm => hsz m (by
              rw [hxe]
              simp only [DataW.weights, hk, List.mem_cons, List.mem_append]
              exact .inr (.inl (weights_mem_all (List.mem_map.2 ⟨_, List.getElem_mem (by omega), rfl⟩) hm))))
            exact ⟨x, gx, cs, p1, fun B hz => (CR_enc (B := B) ty x cs).1 (hxx B hz)⟩)
          refine ⟨xs, ⟨fun x hm => ?_, by omega⟩, fun B hz => ⟨_, rfl, ?_⟩⟩
          · obtain ⟨i, hi, rfl⟩ := List.mem_iff_getElem.1 hm
            exact (hx i _ (List.getElem?_eq_getElem hi)).1
          · have cell : ∀ j x, xs[j]? = some x → ∃ c, DR B.z ty x c ∧ c.length = P.cellsOf e' ∧ ∀ q u, c[q]? = some u → w.cell? ((a.add (j * P.cellsOf e')).add q) = some u := fun j x hj => by
              obtain ⟨_, c, hc, hd⟩ := hx j x hj
              have hl := DR.length (hd B hz)
              refine ⟨c, hd B hz, by rw [hl, h2], fun q u hq => ?_⟩
              have hlt := (List.getElem?_eq_some_iff.1 hq).1
              rw [(World.cells?_some hc).2.2 q (by omega), hq]
            have spot : 0 < xs.length → a.spot = none := fun hp => by
              obtain ⟨c, _, hl, hc⟩ := cell 0 xs[0] (by simp)
              have := (cell_spot (hc 0 (c[0]'(by omega)) (by simp))).1
              rw [Nat.zero_mul, add_zero, add_zero] at this
              exact congrArg Addr.spot this
            by_cases hp : 0 < xs.length
            · have hs := spot hp
              obtain ⟨bl, o, sp⟩ := a
              simp only at hs
              subst hs
              obtain ⟨cs, g1, g2⟩ := fz_of_cells (z := B.z) (t := ty) (bl := bl) (o := o) (xs := xs) (q := 0) (fun j x hj => by
                obtain ⟨c, g1, _, g2⟩ := cell j x hj
                refine ⟨c, g1, fun m u hm => hz _ _ _ ?_⟩
                have := g2 m u hm
                rw [add_eq, add_eq, h2] at this
                rw [Nat.zero_add]
                exact this)
              refine ⟨some ⟨bl, o, none⟩, cap - len, cs, by rw [hxl]; congr 1; omega, fun _ => ⟨bl, o, rfl⟩, g1, fun j u hj => ⟨bl, o, rfl, ?_⟩⟩
              have := g2 j u hj
              rw [Nat.zero_mul, Nat.add_zero] at this
              exact this
            · have h0 : xs = [] := List.eq_nil_of_length_eq_zero (by omega)
              subst h0
              exact ⟨some a, cap - len, [], by rw [show len = 0 by simpa using hxl.symm]; simp, fun h => by simp at h, rfl, fun j u h => by simp at h⟩
      · cases h
    · rename_i m e hk
      obtain ⟨xs, q, rfl, _, hl, hxl, hel⟩ := DataW.trod_array hk hx
      unfold arrIs at h
      split at h
      · rename_i k n'
        simp only [Bool.and_eq_true] at h
        obtain ⟨⟨⟨h1, h2⟩, h3⟩, h4⟩ := h
        replace h1 := Nat.eq_of_beq_eq_true h1
        replace h3 := Nat.eq_of_beq_eq_true h3
        replace h4 := Nat.eq_of_beq_eq_true h4
        replace h2 := isInt_ok h2
        rw [h3] at hel
        obtain ⟨ys, h5, h6⟩ := ints_ok (k := k) (cs := cs) (fun i hi => by
          have := hel i (by omega)
          rw [List.getElem?_eq_getElem (by omega), Nat.mul_one] at this
          obtain ⟨z, hz, _, hw⟩ := DataW.trod_int h2 this
          exact ⟨z, hz, hw⟩)
        have hyl : ys.length = n' := by rw [h1, ← h4, ← hl, h5, List.length_map]
        exact ⟨ys, ⟨hyl, h6⟩, fun B hz => ⟨hyl, h5⟩⟩
      · cases h
    · rename_i fs hk
      obtain ⟨xs, q, rfl, rfl, hl, hxl, hel⟩ := DataW.trod_struct hk hx
      have hf : ∀ f ∈ fs.toList, ∀ s, shIs P n f.type s = true → SOK w s ((cs.drop f.offset).take (P.cellsOf f.type)) := by
        intro f hf s hs
        obtain ⟨i, hi, rfl⟩ := List.mem_iff_getElem.1 hf
        have hi' : i < fs.size := by simpa using hi
        have := hel i fs[i] (by simp [hi'])
        rw [List.getElem?_eq_getElem (by omega)] at this
        refine trod_sh (n := n) hs (by simpa using this) (fun m hm => hsz m ?_)
        simp only [DataW.weights, hk]
        exact DataW.weights_mem_each (j := i) (t := fs[i].type) (d := (xs[i]'(by omega)).1) (by simp [hi']) (by simp [show i < xs.length by omega]) m (by simpa using hm)
      unfold structIs at h
      split at h
      · rename_i f a hfs
        rw [hfs] at hf
        obtain ⟨y, gy, hy⟩ := chain_ok hf h hl
        exact ⟨y, gy, fun B hz => hy B hz⟩
      · rename_i f a hfs
        rw [hfs] at hf
        obtain ⟨y, gy, hy⟩ := chain_ok hf h hl
        exact ⟨y, gy, fun B hz => hy B hz⟩
      · rename_i f g r hfs
        rw [hfs] at hf
        exact chain_ok hf h hl
      · cases h
    · cases h

/-! ### Arguments -/

def isAggS : Sh → Bool
  | .data (.arr ..) | .data (.one _) | .data (.pair ..) | .one _ | .pair .. => true
  | _ => false

theorem chainIs_agg {P : Program} {rec : TypeId → Sh → Bool} {f g : Field} {r : List Field} {off tot : Nat} {s : Sh} (h : chainIs P rec (f :: g :: r) off tot s = true) : isAggS s = true := by
  cases s with
  | data t => cases t <;> first | rfl | (simp [chainIs] at h)
  | pair a b => rfl
  | one a => rfl
  | _ => simp [chainIs] at h

theorem isAggS_mk : ∀ {s : Sh} (x : s.den), (s.mk x).isAgg = isAggS s
  | .data t, x => by cases t <;> rfl
  | .ptr _, _ => rfl
  | .pat _ _, _ => rfl
  | .pdy _ _ _, _ => rfl
  | .nilp, _ => rfl
  | .vec _, _ => rfl
  | .nils, _ => rfl
  | .opq, _ => rfl
  | .fn _, _ => rfl
  | .one _, _ => rfl
  | .pair _ _, _ => rfl

theorem isTupS_mk : ∀ {s : Sh} (x : s.den), (s.mk x).isTup = false
  | .data t, x => by cases t <;> rfl
  | .ptr _, _ => rfl
  | .pat _ _, _ => rfl
  | .pdy _ _ _, _ => rfl
  | .nilp, _ => rfl
  | .vec _, _ => rfl
  | .nils, _ => rfl
  | .opq, _ => rfl
  | .fn _, _ => rfl
  | .one _, _ => rfl
  | .pair _ _, _ => rfl

theorem CR_single {B : Bz} {v : AV} {cs : List Value} (hv : v.isAgg = false) (h : CR B v cs) : ∃ x, cs = [x] ∧ AR B v x := by
  cases v <;> first | exact h | simp [AV.isAgg] at hv

theorem agg_of_okWide {t : TypeId} {v : Value} (h : Value.okWide P w .any base t v) : (match P.underlying t with
    | some (.struct _) => true
    | some (.array _ _) => true
    | _ => false) = true → ∃ cs, v = .agg cs := by
  intro hu
  unfold Value.okWide at h
  split at hu
  · rename_i fs hk
    simp only [hk] at h
    obtain ⟨cs, rfl, _⟩ := h; exact ⟨cs, rfl⟩
  · rename_i m e hk
    simp only [hk] at h
    obtain ⟨cs, rfl, _⟩ := h; exact ⟨cs, rfl⟩
  · cases hu

theorem plain_of_okWide {t : TypeId} {v : Value} (h : Value.okWide P w .any base t v) : (match P.underlying t with
    | some (.int _) => true
    | some .bool => true
    | some .string => true
    | some (.slice _) => true
    | _ => false) = true → v.cells = #[v] := by
  intro hu
  split at hu
  · rename_i k hk
    obtain ⟨n, rfl⟩ := okWide_int hk h; rfl
  · rename_i hk
    obtain ⟨n, rfl⟩ := okWide_bool hk h; rfl
  · rename_i hk
    obtain ⟨n, rfl⟩ := okWide_string hk h; rfl
  · rename_i e hk
    obtain ⟨a, len, cap, rfl⟩ := okWide_slice hk h; rfl
  · cases hu

/-- An argument that is data, or holds what nobody looks at. -/
theorem open_arg {n : Nat} {t : TypeId} {s : Sh} {v : Value} {d : DataW H} {p : List MemPlace} (hs : shIs P n t s = true) (hval : Value.okWide P w .any base t v) {b' : Nat}
    (h : DataW.Trod en P w b' spare held t v d p) (hsz : ∀ m ∈ d.weights P t, m ≤ reachBytes) : ∃ x : s.den, goodS s x ∧ ∀ B : Bz, Zle (zOf w) B.z → VR B (s.mk x) v := by
  obtain ⟨fuel, h⟩ := h
  obtain ⟨x, gx, hx⟩ := trod_sh hs h hsz
  refine ⟨x, gx, fun B hz => ?_⟩
  unfold VR
  rw [isTupS_mk, if_neg (by simp)]
  unfold VR0
  rw [isAggS_mk]
  cases n with
  | zero => cases hs
  | succ n =>
    have hagg : isAggS s = true → ∃ cs, v = .agg cs := by
      intro ha
      refine agg_of_okWide hval ?_
      simp only [shIs] at hs
      split at hs
      · split at hs <;> first | cases ha | cases hs
      · split at hs <;> first | cases ha | cases hs
      · split at hs <;> first | cases ha | cases hs
      · split at hs <;> first | cases ha | cases hs
      · rename_i hk; simp only [hk]
      · rename_i hk; simp only [hk]
      · cases hs
    have hpl : isAggS s = false → v.cells = #[v] := by
      intro ha
      refine plain_of_okWide hval ?_
      simp only [shIs] at hs
      split at hs
      · rename_i hk; simp only [hk]
      · rename_i hk; simp only [hk]
      · rename_i hk; simp only [hk]
      · rename_i hk; simp only [hk]
      · unfold arrIs at hs
        split at hs
        · cases ha
        · cases hs
      · unfold structIs at hs
        split at hs
        · cases ha
        · cases ha
        · rw [chainIs_agg hs] at ha; cases ha
        · cases hs
      · cases hs
    cases ha : isAggS s with
    | true =>
      rw [if_pos rfl]
      obtain ⟨cs, rfl⟩ := hagg ha
      exact ⟨cs.toList, hx B hz, by simp⟩
    | false =>
      rw [if_neg (by simp)]
      have hc := hpl ha
      obtain ⟨y, hy, har⟩ := CR_single (by rw [isAggS_mk]; exact ha) (hx B hz)
      rw [hc] at hy
      simp at hy
      subst hy
      exact har

end

end Go.Proofs.YtkgpjplncfginaaGreatDoor.Sy
