/- Functions of Go's library, by the contracts of the kit. -/
import Derived.Test.YtkgpjplncfginaaGreatDoorSy21
import Derived.Shelf.Strings.SlTrimAscii
import Derived.Shelf.Strings.Repeat
namespace Go.Proofs.YtkgpjplncfginaaGreatDoor.Sy
open Go Go.RowKit
set_option linter.unusedVariables false
set_option linter.unusedSimpArgs false

def inSet (cs : List Int) (b : Int) : Bool := cs.any (fun c => decide (c = b))
def trimRL (s cs : List Int) : List Int := (s.reverse.dropWhile (inSet cs)).reverse
def trimL (s cs : List Int) : List Int := (trimRL s cs).dropWhile (inSet cs)
def repL (s : List Int) : Nat → List Int
  | 0 => []
  | n + 1 => s ++ repL s n

def asciiL (cs : List Int) : Bool := cs.all (fun b => decide (0 ≤ b) && decide (b < 128)) && Nat.ble cs.length 1000
def shTrim (s cs : List Int) : Option (List Int) := bif asciiL cs && Nat.ble s.length 140737488355328 then some (trimL s cs) else none
def shTrimRight (s cs : List Int) : Option (List Int) := bif asciiL cs && Nat.ble s.length 140737488355328 then some (trimRL s cs) else none
def shRepeat (s : List Int) (n : Int) : Option (List Int) := bif decide (0 ≤ n) && decide (n ≤ 9223372036854775807) && decide ((s.length : Int) * n ≤ 140737488355328) then some (repL s n.toNat) else none

theorem toList_bst (s : List Int) : (bst s).data.toList = s.map fun n => UInt8.ofNat n.toNat := by simp [bst]

theorem u8_inj {a b : Int} (ha : 0 ≤ a ∧ a < 256) (hb : 0 ≤ b ∧ b < 256) : UInt8.ofNat a.toNat = UInt8.ofNat b.toNat ↔ a = b := by
  constructor
  · intro h
    have := congrArg UInt8.toNat h
    simp at this
    omega
  · rintro rfl; rfl

theorem contains_map {cs : List Int} {b : Int} (hc : byteL cs) (hb : 0 ≤ b ∧ b < 256) : (cs.map fun n => UInt8.ofNat n.toNat).contains (UInt8.ofNat b.toNat) = inSet cs b := by
  unfold inSet
  rw [Bool.eq_iff_iff, List.contains_iff_mem, List.any_eq_true]
  constructor
  · intro h
    obtain ⟨c, hc1, hc2⟩ := List.mem_map.1 h
    exact ⟨c, hc1, decide_eq_true ((u8_inj (hc c hc1) hb).1 hc2)⟩
  · rintro ⟨c, hc1, hc2⟩
    exact List.mem_map.2 ⟨c, hc1, by rw [of_decide_eq_true hc2]⟩

theorem dropWhile_map {cs : List Int} (hc : byteL cs) : ∀ {s : List Int}, byteL s → (s.map fun n => UInt8.ofNat n.toNat).dropWhile ((cs.map fun n => UInt8.ofNat n.toNat).contains ·) = (s.dropWhile (inSet cs)).map fun n => UInt8.ofNat n.toNat
  | [], _ => rfl
  | b :: r, hs => by
    have hb : 0 ≤ b ∧ b < 256 := hs b (by simp)
    rw [List.map_cons, List.dropWhile_cons, List.dropWhile_cons, contains_map hc hb]
    cases inSet cs b
    · simp
    · simp only [if_true]; exact dropWhile_map hc (fun y hy => hs y (by simp [hy]))

theorem byteL_rev {s : List Int} (h : byteL s) : byteL s.reverse := fun y hy => h y (by simpa using hy)
theorem byteL_dropW {s : List Int} (p : Int → Bool) (h : byteL s) : byteL (s.dropWhile p) := fun y hy => h y ((List.dropWhile_sublist p).mem hy)

theorem trimRL_lib {s cs : List Int} (hs : byteL s) (hc : byteL cs) : Lib.trimRightS (bst s).data.toList (bst cs).data.toList = (trimRL s cs).map fun n => UInt8.ofNat n.toNat := by
  unfold Lib.trimRightS trimRL
  rw [toList_bst, toList_bst, ← List.map_reverse, dropWhile_map hc (byteL_rev hs), List.map_reverse]

theorem byteL_trimRL {s : List Int} (cs : List Int) (hs : byteL s) : byteL (trimRL s cs) := byteL_rev (byteL_dropW _ (byteL_rev hs))
theorem byteL_trimL {s : List Int} (cs : List Int) (hs : byteL s) : byteL (trimL s cs) := byteL_dropW _ (byteL_trimRL cs hs)

theorem trimL_lib {s cs : List Int} (hs : byteL s) (hc : byteL cs) : Lib.trimS (bst s).data.toList (bst cs).data.toList = (trimL s cs).map fun n => UInt8.ofNat n.toNat := by
  unfold Lib.trimS Lib.trimLeftS trimL
  rw [trimRL_lib hs hc, toList_bst, dropWhile_map hc (byteL_trimRL cs hs)]

theorem repL_lib (s : List Int) : ∀ n, Lib.repeatL (bst s).data.toList n = (repL s n).map fun n => UInt8.ofNat n.toNat
  | 0 => rfl
  | n + 1 => by
    unfold Lib.repeatL repL
    rw [repL_lib s n, List.map_append, toList_bst]

theorem byteL_repL {s : List Int} (hs : byteL s) : ∀ n, byteL (repL s n)
  | 0 => fun y hy => by cases hy
  | n + 1 => fun y hy => by
    rcases List.mem_append.1 hy with h | h
    · exact hs y h
    · exact byteL_repL hs n y h

theorem asciiL_ok {cs : List Int} (h : asciiL cs = true) : byteL cs ∧ (bst cs).size < 4294967281 ∧ ∀ (j : Nat) b, (bst cs).data.toList[j]? = some b → b.toNat < 128 := by
  unfold asciiL at h
  rw [Bool.and_eq_true, List.all_eq_true] at h
  obtain ⟨h1, h2⟩ := h
  have hb : ∀ y ∈ cs, 0 ≤ y ∧ y < 128 := fun y hy => by
    have := h1 y hy
    rw [Bool.and_eq_true] at this
    exact ⟨of_decide_eq_true this.1, of_decide_eq_true this.2⟩
  refine ⟨fun y hy => ⟨(hb y hy).1, by have := (hb y hy).2; omega⟩, by rw [size_bst]; have := Nat.le_of_ble_eq_true h2; omega, fun j b hj => ?_⟩
  rw [toList_bst, List.getElem?_map] at hj
  cases hc : cs[j]? with
  | none => rw [hc] at hj; cases hj
  | some c =>
    rw [hc] at hj
    have e : UInt8.ofNat c.toNat = b := Option.some.inj hj
    have := hb c (List.mem_of_getElem? hc)
    rw [← e]
    simp
    omega

theorem fr_nil {B : Bz} {w w' : World} (h : Below w.heap.size w w') : Fr B [] w B [] w' :=
  ⟨h.os, h.tape, h.output, h.size, fun b hb _ => h.block b hb, Zle.refl _, fun _ _ _ h => .inl h, fun b ⟨i, e, hi, _⟩ => (by cases hi)⟩
theorem heapR_nil {B : Bz} {w w' : World} (hh : HeapR B [] w) (h : Below w.heap.size w w') : HeapR B [] w' :=
  ⟨fun i e h => (by cases h), fz_keep hh (fun b hb _ => h.block b hb), fun i j e e' b h => (by cases h), fun i e b o u h => (by cases h), fun i e h => (by cases h)⟩

/-- A function on strings alone that keeps what stands. -/
theorem shelf_ok {P : Program} {f : FuncId} (hc : Callable P f) (ps : List Sh) (F : denL ps → Option (List Int))
    (h : ∀ d r, F d = some r → ∀ (B : Bz) (vs : List Value), All2 (VR B) (mkL ps d) vs → byteL r ∧ ∀ w, Calls P f vs.toArray w (fun e w' => e = .returned (.string (bst r)) ∧ Below w.heap.size w w')) :
    CalleeOK P f (sigCallee ps [] (fun d _ => F d) (fun t => .str t) (fun _ => [])) := by
  refine ⟨hc, fun args L t ht => ?_⟩
  unfold sigRun at ht
  split at ht
  · rename_i d hd
    split at ht
    · rename_i e he
      have h1 := deL_ok _ _ _ hd
      have h2 := deH_ok _ _ _ he
      subst h1 h2
      intro B w vs hh0 ha _
      obtain ⟨hb, hcall⟩ := h d t ht B vs ha
      refine (hcall w).mono fun en w' ⟨he, hw⟩ => ⟨_, B, he, VR_mk_str B hb, fun _ _ => rfl, ?_, ?_⟩
      · exact heapR_nil hh0 hw
      · exact fr_nil hw
    · cases ht
  · cases ht

theorem shTrim_aux {P : Program} {f : FuncId}
    (h : ∀ (s cs : ByteArray) (w : World), s.size ≤ 9223372036854775807 → cs.size < 4294967281 → (∀ (j : Nat) b, cs.data.toList[j]? = some b → b.toNat < 128) → Calls P f #[.string s, .string cs] w fun e w' => e = .returned (.string ⟨(Lib.trimS s.data.toList cs.data.toList).toArray⟩) ∧ Below w.heap.size w w')
    (s cs r : List Int) (hr : shTrim s cs = some r) (b1 : byteL s) : byteL r ∧ ∀ w, Calls P f #[.string (bst s), .string (bst cs)] w (fun e w' => e = .returned (.string (bst r)) ∧ Below w.heap.size w w') := by
  unfold shTrim at hr
  rcases bif_eq_some hr with ⟨hh, hr⟩ | ⟨_, hr⟩
  · cases hr
    rw [Bool.and_eq_true] at hh
    obtain ⟨c1, c2, c3⟩ := asciiL_ok hh.1
    refine ⟨byteL_trimL _ b1, fun w => ?_⟩
    have := h (bst s) (bst cs) w (by rw [size_bst]; have := Nat.le_of_ble_eq_true hh.2; omega) c2 c3
    rw [trimL_lib b1 c1] at this
    exact this
  · cases hr

theorem shTrimRight_aux {P : Program} {f : FuncId}
    (h : ∀ (s cs : ByteArray) (w : World), s.size ≤ 9223372036854775807 → cs.size < 4294967281 → (∀ (j : Nat) b, cs.data.toList[j]? = some b → b.toNat < 128) → Calls P f #[.string s, .string cs] w fun e w' => e = .returned (.string ⟨(Lib.trimRightS s.data.toList cs.data.toList).toArray⟩) ∧ Below w.heap.size w w')
    (s cs r : List Int) (hr : shTrimRight s cs = some r) (b1 : byteL s) : byteL r ∧ ∀ w, Calls P f #[.string (bst s), .string (bst cs)] w (fun e w' => e = .returned (.string (bst r)) ∧ Below w.heap.size w w') := by
  unfold shTrimRight at hr
  rcases bif_eq_some hr with ⟨hh, hr⟩ | ⟨_, hr⟩
  · cases hr
    rw [Bool.and_eq_true] at hh
    obtain ⟨c1, c2, c3⟩ := asciiL_ok hh.1
    refine ⟨byteL_trimRL _ b1, fun w => ?_⟩
    have := h (bst s) (bst cs) w (by rw [size_bst]; have := Nat.le_of_ble_eq_true hh.2; omega) c2 c3
    rw [trimRL_lib b1 c1] at this
    exact this
  · cases hr

theorem shRepeat_aux {P : Program} {f : FuncId}
    (h : ∀ (s : ByteArray) (c : Nat) (w : World), c ≤ 9223372036854775807 → s.size * c ≤ 140737488355328 → Calls P f #[.string s, .int .i64 c] w fun e w' => e = .returned (.string ⟨(Lib.repeatL s.data.toList c).toArray⟩) ∧ Below w.heap.size w w')
    (s : List Int) (n : Int) (r : List Int) (hr : shRepeat s n = some r) (b1 : byteL s) : byteL r ∧ ∀ w, Calls P f #[.string (bst s), .int .i64 n] w (fun e w' => e = .returned (.string (bst r)) ∧ Below w.heap.size w w') := by
  unfold shRepeat at hr
  rcases bif_eq_some hr with ⟨hh, hr⟩ | ⟨_, hr⟩
  · cases hr
    rw [Bool.and_eq_true, Bool.and_eq_true] at hh
    obtain ⟨⟨h0, hm⟩, hl⟩ := hh
    replace h0 := of_decide_eq_true h0
    replace hm := of_decide_eq_true hm
    replace hl := of_decide_eq_true hl
    obtain ⟨c, rfl⟩ : ∃ c : Nat, n = (c : Int) := ⟨Int.toNat n, (Int.toNat_of_nonneg h0).symm⟩
    refine ⟨byteL_repL b1 _, fun w => ?_⟩
    have hl2 : s.length * c ≤ 140737488355328 := by
      have e : ((s.length : Int) * (c : Int)) = ((s.length * c : Nat) : Int) := by simp
      rw [e] at hl; omega
    have := h (bst s) c w (by omega) (by rw [size_bst]; exact hl2)
    rw [repL_lib] at this
    rw [Int.toNat_natCast]
    exact this
  · cases hr

theorem shTrim_ok {P : Program} {f : FuncId} (hc : Callable P f)
    (h : ∀ (s cs : ByteArray) (w : World), s.size ≤ 9223372036854775807 → cs.size < 4294967281 → (∀ (j : Nat) b, cs.data.toList[j]? = some b → b.toNat < 128) → Calls P f #[.string s, .string cs] w fun e w' => e = .returned (.string ⟨(Lib.trimS s.data.toList cs.data.toList).toArray⟩) ∧ Below w.heap.size w w') :
    CalleeOK P f (sigCallee [.data .str, .data .str] [] (fun d _ => shTrim d.1 d.2.1) (fun t => .str t) (fun _ => [])) :=
  shelf_ok hc [.data .str, .data .str] (fun d => shTrim d.1 d.2.1) (fun d r hr B vs ha => by
    match vs, ha with
    | [u, v], ⟨h1, h2, _⟩ =>
      obtain ⟨b1, rfl⟩ := VR_str' h1
      obtain ⟨b2, rfl⟩ := VR_str' h2
      exact shTrim_aux h d.1 d.2.1 r hr b1)

theorem shTrimRight_ok {P : Program} {f : FuncId} (hc : Callable P f)
    (h : ∀ (s cs : ByteArray) (w : World), s.size ≤ 9223372036854775807 → cs.size < 4294967281 → (∀ (j : Nat) b, cs.data.toList[j]? = some b → b.toNat < 128) → Calls P f #[.string s, .string cs] w fun e w' => e = .returned (.string ⟨(Lib.trimRightS s.data.toList cs.data.toList).toArray⟩) ∧ Below w.heap.size w w') :
    CalleeOK P f (sigCallee [.data .str, .data .str] [] (fun d _ => shTrimRight d.1 d.2.1) (fun t => .str t) (fun _ => [])) :=
  shelf_ok hc [.data .str, .data .str] (fun d => shTrimRight d.1 d.2.1) (fun d r hr B vs ha => by
    match vs, ha with
    | [u, v], ⟨h1, h2, _⟩ =>
      obtain ⟨b1, rfl⟩ := VR_str' h1
      obtain ⟨b2, rfl⟩ := VR_str' h2
      exact shTrimRight_aux h d.1 d.2.1 r hr b1)

theorem shRepeat_ok {P : Program} {f : FuncId} (hc : Callable P f)
    (h : ∀ (s : ByteArray) (c : Nat) (w : World), c ≤ 9223372036854775807 → s.size * c ≤ 140737488355328 → Calls P f #[.string s, .int .i64 c] w fun e w' => e = .returned (.string ⟨(Lib.repeatL s.data.toList c).toArray⟩) ∧ Below w.heap.size w w') :
    CalleeOK P f (sigCallee [.data .str, .data (.int .i64)] [] (fun d _ => shRepeat d.1 d.2.1) (fun t => .str t) (fun _ => [])) :=
  shelf_ok hc [.data .str, .data (.int .i64)] (fun d => shRepeat d.1 d.2.1) (fun d r hr B vs ha => by
    match vs, ha with
    | [u, v], ⟨h1, h2, _⟩ =>
      obtain ⟨b1, rfl⟩ := VR_str' h1
      have e2 := VR_int h2
      subst e2
      exact shRepeat_aux h d.1 d.2.1 r hr b1)

end Go.Proofs.YtkgpjplncfginaaGreatDoor.Sy
