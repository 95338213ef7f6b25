/- The operations of the machine Sy do what the model's operations do: addresses, parts, zero values, new blocks. -/
import Derived.Test.YtkgpjplncfginaaGreatDoorSy5
namespace Go.Proofs.YtkgpjplncfginaaGreatDoor.Sy
open Go
set_option linter.unusedVariables false
set_option linter.unusedSimpArgs false

section
variable {R : Type}

theorem addr_add (b o n : Nat) : (⟨b, o, none⟩ : Addr).add n = ⟨b, o + n, none⟩ := Addr.add_mid b o n

theorem fieldK_ok {P : Program} {B : Bz} {s : TypeId} {x : AV} {f : Nat} {u : Value} {K : AV → Option R} {r : R} (hx : VR B x u) (h : fieldK P s x f K = some r) (w : World) :
    ∃ z, K z = some r ∧ z.ids = x.ids ∧ ∃ q, VR B z q ∧ (Instr.fieldAt s u f).run P w = .ok q w := by
  unfold fieldK at h
  split at h
  · rename_i p
    split at h
    · rename_i fs hs
      split at h
      · rename_i fd hf
        split at h
        · rename_i inf hi
          replace h := bif_eq_some h
          rcases h with ⟨_, h⟩ | ⟨hz, h⟩
          · cases h
          · obtain ⟨b, o, hb, rfl⟩ := VR_ptr hx
            have hz : ¬ inf.size = 0 := fun e => by rw [e] at hz; cases hz
            refine ⟨_, h, rfl, .pointer (some ⟨b, o + (p.st + fd.offset) + dyOff p.dys, none⟩), (VR_atom rfl rfl).2 ⟨b, o, hb, rfl⟩, ?_⟩
            unfold Instr.fieldAt
            rw [Sem.run_bind, run_underlying hs w]
            simp only [Result.andThen_ok, hf, Instr.sureAddr, pure_bind]
            rw [Sem.run_bind, fieldPlace, Sem.run_bind]
            have hsz : (sizeOf fd.type).run P w = .ok inf.size w := by simp [sizeOf, typeInfo, hi]
            rw [hsz]
            simp only [Result.andThen_ok, if_neg hz, Sem.run_pure, addr_add]
            congr 4
            omega
        · cases h
      · cases h
    · cases h
  · cases h

theorem dyOff_append (a : List (Nat × Nat)) (i s : Nat) : dyOff (a ++ [(i, s)]) = dyOff a + i * s := by
  induction a with
  | nil => simp [dyOff]
  | cons x a ih => obtain ⟨j, t⟩ := x; simp only [List.cons_append, dyOff, ih]; omega

theorem run_sizeOf' {P : Program} {t : TypeId} {i : TypeInfo} (h : P.info? t = some i) (w : World) : (sizeOf t).run P w = .ok i.size w := by
  simp [sizeOf, typeInfo, h]

theorem vec_base {B : Bz} {v : Nat} {w : World} {o : Nat} {e : TypeId} {t : Ty} {xs : List t.den} (h : EntR B v w (.rows o e t xs)) :
    ∃ a c, B v = .slice a xs.length c ∧ (0 < xs.length → ∃ b o, a = some ⟨b, o, none⟩) := by
  match o, h with
  | 0, ⟨a, cap, _, h1, h0, _⟩ => exact ⟨a, _, h1, h0⟩
  | 1, ⟨⟨a, cap, _, h1, h0, _⟩, _⟩ => exact ⟨a, _, h1, h0⟩
  | m + 2, ⟨cs, _, _, h2⟩ =>
    rcases h2 with h2 | ⟨g, o, cap, cur, e1, _⟩
    · exact ⟨none, 0, by rw [h2.1, h2.2], fun hp => by have := h2.2; omega⟩
    · exact ⟨_, cap, e1, fun _ => ⟨g, o, rfl⟩⟩

theorem VR_vec {B : Bz} {v : Nat} {x : Value} (h : VR B (.vec v) x) : x = B v := ((VR_atom rfl rfl).1 h).1

theorem indexK_ok {P : Program} {B : Bz} {σ : St} {t : TypeId} {x ix : AV} {u v : Value} {K : Eff → Option R} {r : R} {w : World} (hh : HeapR B σ.heap w) (hxi : ∀ i ∈ x.ids, (look i σ.heap).isSome = true)
    (hx : VR B x u) (hy : VR B ix v) (h : indexK P σ.heap t x ix K = some r) :
    ∃ z rd, K ⟨z, [], rd⟩ = some r ∧ (∀ i ∈ z.ids, (look i σ.heap).isSome = true) ∧ ∃ q, VR B z q ∧ (Instr.indexAt t u v).run P w = .ok q w := by
  unfold indexK at h
  split at h
  · rename_i k i
    rw [VR_int hy]
    split at h
    · rename_i len e hu
      split at h
      · rename_i p
        split at h
        · rename_i inf hi
          replace h := bif_eq_some h
          rcases h with ⟨h0, h⟩ | ⟨_, h⟩
          · have h0 := of_decide_eq_true h0
            replace h := bif_eq_some h
            rcases h with ⟨h1, h⟩ | ⟨_, h⟩
            · have h1 := of_decide_eq_true h1
              obtain ⟨b, o, hb, rfl⟩ := VR_ptr hx
              refine ⟨_, _, h, hxi, .pointer (some ⟨b, o + p.st + dyOff (p.dys ++ [(i.toNat, inf.size)]), none⟩), (VR_atom rfl rfl).2 ⟨b, o, hb, rfl⟩, ?_⟩
              unfold Instr.indexAt
              simp only [asIntOf, pure_bind]
              rw [Sem.run_bind, run_underlying hu w]
              simp only [Result.andThen_ok, Instr.sureAddr, pure_bind]
              rw [Sem.run_bind, run_underlying hu w]
              simp only [Result.andThen_ok, if_pos (And.intro h0 h1)]
              rw [Sem.run_bind, run_sizeOf' hi w]
              simp only [Result.andThen_ok, Sem.run_pure, addr_add, dyOff_append]
              congr 4
              omega
            · cases h
          · cases h
        · cases h
      · rename_i gg st dys
        split at h
        · rename_i inf hi
          replace h := bif_eq_some h
          rcases h with ⟨h0, h⟩ | ⟨_, h⟩
          · have h0 := of_decide_eq_true h0
            replace h := bif_eq_some h
            rcases h with ⟨h1, h⟩ | ⟨_, h⟩
            · have h1 := of_decide_eq_true h1
              have hu2 : u = .pointer (some ⟨gg, st + dyOff dys, none⟩) := (VR_atom rfl rfl).1 hx
              subst hu2
              refine ⟨_, _, h, fun j hj => by simp [AV.ids] at hj, .pointer (some ⟨gg, st + dyOff (dys ++ [(i.toNat, inf.size)]), none⟩), (VR_atom rfl rfl).2 rfl, ?_⟩
              unfold Instr.indexAt
              simp only [asIntOf, pure_bind]
              rw [Sem.run_bind, run_underlying hu w]
              simp only [Result.andThen_ok, Instr.sureAddr, pure_bind]
              rw [Sem.run_bind, run_underlying hu w]
              simp only [Result.andThen_ok, if_pos (And.intro h0 h1)]
              rw [Sem.run_bind, run_sizeOf' hi w]
              simp only [Result.andThen_ok, Sem.run_pure, addr_add, dyOff_append]
              congr 4
              omega
            · cases h
          · cases h
        · cases h
      · cases h
    · rename_i e hu
      split at h
      · rename_i vv
        split at h
        · rename_i ow ee ty xs hl
          split at h
          · rename_i inf hi
            replace h := bif_eq_some h
            rcases h with ⟨h0, h⟩ | ⟨_, h⟩
            · have h0 := of_decide_eq_true h0
              replace h := bif_eq_some h
              rcases h with ⟨h1, h⟩ | ⟨_, h⟩
              · have h1 := of_decide_eq_true h1
                obtain ⟨a, c, hB, hbase⟩ := vec_base (hh.ent vv _ hl)
                obtain ⟨b, o, rfl⟩ := hbase (by omega)
                rw [VR_vec hx, hB]
                refine ⟨_, _, h, fun j hj => by simp [AV.ids] at hj; subst hj; rw [hl]; rfl, .pointer (some ⟨b, o + 0 + dyOff [(i.toNat, inf.size)], none⟩), (VR_atom rfl rfl).2 ⟨b, o, by rw [hB]; rfl, rfl⟩, ?_⟩
                unfold Instr.indexAt
                simp only [asIntOf, pure_bind]
                rw [Sem.run_bind, run_underlying hu w]
                simp only [Result.andThen_ok]
                rw [Sem.run_bind, run_underlying hu w]
                simp only [Result.andThen_ok, if_pos (And.intro h0 h1)]
                rw [Sem.run_bind, run_sizeOf' hi w]
                simp only [Result.andThen_ok, Sem.run_pure, addr_add, dyOff]
                congr 4
              · cases h
            · cases h
          · cases h
        · cases h
      · cases h
    · cases h
  · cases h

theorem getElem?_bst {s : List Int} {i : Nat} (hb : byteL s) (h : i < s.length) : ∃ y : UInt8, (bst s)[i]? = some y ∧ ((y.toNat : Nat) : Int) = s.getD i 0 := by
  have hs : i < (bst s).size := by rw [size_bst]; exact h
  refine ⟨UInt8.ofNat (s[i]).toNat, ?_, ?_⟩
  · rw [getElem?_pos (bst s) i hs]
    congr 1
    show (bst s).data[i] = _
    simp [bst]
  · have := hb s[i] (List.getElem_mem h)
    have e : s.getD i 0 = s[i] := by simp [List.getD, h]
    rw [e, UInt8.toNat_ofNat']
    omega

theorem strs_CR {B : Bz} : ∀ {x : AV} {l : List (List Int)} {cs : List Value}, x.strs = some l → CR B x cs → cs = l.map (fun s => Value.string (bst s)) ∧ ∀ s ∈ l, byteL s := by
  intro x
  induction x with
  | str s =>
    intro l cs h hc
    cases h
    obtain ⟨u, rfl, hb, rfl⟩ := hc
    exact ⟨rfl, fun y hy => by rw [List.mem_singleton.1 hy]; exact hb⟩
  | pair a b iha ihb =>
    intro l cs h hc
    simp only [AV.strs] at h
    split at h
    · rename_i la ha
      split at h
      · rename_i lb hb
        cases h
        obtain ⟨c1, c2, rfl, h1, h2⟩ := hc
        obtain ⟨e1, w1⟩ := iha ha h1
        obtain ⟨e2, w2⟩ := ihb hb h2
        refine ⟨by rw [e1, e2, List.map_append], fun s hs => ?_⟩
        rcases List.mem_append.1 hs with hs | hs
        · exact w1 s hs
        · exact w2 s hs
      · cases h
    · cases h
  | _ => intro l cs h; cases h

theorem indexVK_ok {P : Program} {B : Bz} {t : TypeId} {x ix : AV} {u v : Value} {K : AV → Option R} {r : R} (hx : VR B x u) (hy : VR B ix v) (h : indexVK P t x ix K = some r) (w : World) :
    ∃ z, K z = some r ∧ z.ids = [] ∧ ∃ q, VR B z q ∧ (Instr.index t u v).run P w = .ok q w := by
  unfold indexVK at h
  split at h
  · rename_i k i
    rw [VR_int hy]
    split at h
    · rename_i len e hu
      split at h
      · rename_i k' n xs
        split at h
        · rename_i inf hi
          split at h
          · rename_i d hd
            replace h := bif_eq_some h
            rcases h with ⟨hc, h⟩ | ⟨_, h⟩
            · simp only [Bool.and_eq_true, Bool.not_eq_true'] at hc
              obtain ⟨⟨h1, h2⟩, h3⟩ := hc
              have h1 := Nat.eq_of_beq_eq_true h1; have h2 := Nat.eq_of_beq_eq_true h2
              subst h2
              replace h := bif_eq_some h
              rcases h with ⟨h0, h⟩ | ⟨_, h⟩
              · have h0 := of_decide_eq_true h0
                replace h := bif_eq_some h
                rcases h with ⟨h4, h⟩ | ⟨_, h⟩
                · have h4 := of_decide_eq_true h4
                  obtain ⟨lx, rfl⟩ := VR_arr hx
                  have hlt : i.toNat < xs.length := by omega
                  refine ⟨_, h, rfl, _, VR_mk_int B _ _, ?_⟩
                  have hagg : (isAgg e).run P w = .ok false w := by
                    unfold isAgg; rw [Sem.run_bind, run_underlying hd w]; cases d <;> simp_all
                  unfold Instr.index
                  simp only [asIntOf, pure_bind]
                  rw [Sem.run_bind, run_underlying hu w]
                  simp only [Result.andThen_ok, if_pos (And.intro h0 h4)]
                  rw [Sem.run_bind, run_sizeOf' hi w]
                  simp only [Result.andThen_ok, part]
                  rw [Sem.run_bind, hagg]
                  simp [h1, hlt, List.getD]
                · cases h
              · cases h
            · cases h
          · cases h
        · cases h
      · rename_i a b
        split at h
        · rename_i l hl
          split at h
          · rename_i inf hi
            split at h
            · rename_i d hd
              replace h := bif_eq_some h
              rcases h with ⟨hc, h⟩ | ⟨_, h⟩
              · simp only [Bool.and_eq_true, Bool.not_eq_true'] at hc
                obtain ⟨⟨h1, h2⟩, h3⟩ := hc
                have h1 := Nat.eq_of_beq_eq_true h1; have h2 := Nat.eq_of_beq_eq_true h2
                replace h := bif_eq_some h
                rcases h with ⟨h0, h⟩ | ⟨_, h⟩
                · have h0 := of_decide_eq_true h0
                  replace h := bif_eq_some h
                  rcases h with ⟨h4, h⟩ | ⟨_, h⟩
                  · have h4 := of_decide_eq_true h4
                    have hx' : ∃ cs, CR B (.pair a b) cs ∧ u = .agg cs.toArray := hx
                    obtain ⟨cs, hcs, rfl⟩ := hx'
                    obtain ⟨rfl, hby⟩ := strs_CR hl hcs
                    have hlt : i.toNat < l.length := by omega
                    have hget : l[i.toNat]? = some (l.getD i.toNat []) := by simp [List.getD, hlt]
                    refine ⟨_, h, rfl, _, VR_mk_str B (hby _ (List.mem_of_getElem? hget)), ?_⟩
                    have hagg : (isAgg e).run P w = .ok false w := by
                      unfold isAgg; rw [Sem.run_bind, run_underlying hd w]; cases d <;> simp_all
                    unfold Instr.index
                    simp only [asIntOf, pure_bind]
                    rw [Sem.run_bind, run_underlying hu w]
                    simp only [Result.andThen_ok, if_pos (And.intro h0 h4)]
                    rw [Sem.run_bind, run_sizeOf' hi w]
                    simp only [Result.andThen_ok, part]
                    rw [Sem.run_bind, hagg]
                    simp [h1, hlt, List.getD]
                  · cases h
                · cases h
              · cases h
            · cases h
          · cases h
        · cases h
      · cases h
    · rename_i hu
      split at h
      · rename_i s
        obtain ⟨hbs, rfl⟩ := VR_str hx
        replace h := bif_eq_some h
        rcases h with ⟨h0, h⟩ | ⟨_, h⟩
        · have h0 := of_decide_eq_true h0
          replace h := bif_eq_some h
          rcases h with ⟨h1, h⟩ | ⟨_, h⟩
          · have h1 := of_decide_eq_true h1
            refine ⟨_, h, rfl, _, VR_mk_int B _ _, ?_⟩
            unfold Instr.index
            simp only [asIntOf, pure_bind]
            rw [Sem.run_bind, run_underlying hu w]
            obtain ⟨y, h5, h6⟩ := getElem?_bst hbs (show i.toNat < s.length by omega)
            simp only [Result.andThen_ok, if_pos h0, h5, Sem.run_pure, h6]
          · cases h
        · cases h
      · cases h
    · cases h
  · cases h

/-- A part of a value's cells. -/
theorem run_part {P : Program} {B : Bz} {t : TypeId} {i : TypeInfo} {d : TypeDesc} {cs : Array Value} {o : Nat} {u : AV} (hi : P.info? t = some i) (hd : P.underlying t = some d) (hg : u.isAgg = d.isRow)
    (hp : PartOf B cs.toList o i.size u) (w : World) : ∃ q, VR B u q ∧ (part t cs o).run P w = .ok q w := by
  obtain ⟨hle, us, h1, h2, h3⟩ := hp
  have hagg : (isAgg t).run P w = .ok d.isRow w := by
    unfold isAgg; rw [Sem.run_bind, run_underlying hd w]; cases d <;> rfl
  unfold part
  rw [Sem.run_bind, hagg]
  cases hr : d.isRow with
  | true =>
    rw [hr] at hg
    refine ⟨.agg (cs.extract o (o + i.size)), ?_, ?_⟩
    · have e : (cs.extract o (o + i.size)) = us.toArray := by
        apply Array.toList_inj.1
        rw [Array.toList_extract]
        apply List.ext_getElem?
        intro j
        by_cases hj : j < i.size
        · have := h3 j hj
          simp only [List.extract_eq_take_drop, List.getElem?_take, List.getElem?_drop]
          rw [if_pos (by omega), this]
        · rw [List.getElem?_eq_none (by simp [List.extract_eq_take_drop]; omega), List.getElem?_eq_none (by simp; omega)]
      rw [e]
      exact VR_of_CR_agg h2 hg
    · simp only [Result.andThen_ok, if_true]
      rw [Sem.run_bind, run_sizeOf' hi w]; rfl
  | false =>
    rw [hr] at hg
    obtain ⟨x, rfl, hx⟩ := AR_of_CR hg h2
    refine ⟨x, (VR_atom (isTup_of_CR h2) hg).2 hx, ?_⟩
    have h1' : i.size = 1 := h1.symm
    have := h3 0 (by omega)
    simp only [Nat.add_zero, List.getElem?_cons_zero, Array.getElem?_toList] at this
    simp only [Result.andThen_ok, Bool.false_eq_true, if_false, this]
    rfl

theorem fieldVK_ok {P : Program} {B : Bz} {s : TypeId} {x : AV} {f : Nat} {u : Value} {K : AV → Option R} {r : R} (hx : VR B x u) (h : fieldVK P s x f K = some r) (w : World) :
    ∃ z, K z = some r ∧ (∀ j ∈ z.ids, j ∈ x.ids) ∧ ∃ q, VR B z q ∧ (Instr.field s u f).run P w = .ok q w := by
  unfold fieldVK at h
  split at h
  · rename_i fs hs
    split at h
    · rename_i fd hf
      split at h
      · rename_i n g ht
        replace h := bif_eq_some h
        rcases h with ⟨ha, h⟩ | ⟨_, h⟩
        · split at h
          · rename_i z hz
            have hit : ∃ i d, P.info? fd.type = some i ∧ P.underlying fd.type = some d ∧ i.size = n ∧ d.isRow = g := by
              unfold tyIx at ht
              split at ht
              · rename_i i hi
                split at ht
                · rename_i d hd
                  simp only [Option.some.injEq, Prod.mk.injEq] at ht
                  exact ⟨i, d, hi, hd, ht.1, ht.2⟩
                · cases ht
              · cases ht
            obtain ⟨i, d, hi, hd, hin, hdg⟩ := hit
            have hx0 := VR0_of_VR hx (isTup_of_isAgg ha)
            unfold VR0 at hx0
            rw [if_pos ha] at hx0
            obtain ⟨cs, hc, rfl⟩ := hx0
            obtain ⟨h1, h2, h3⟩ := nav_ok hc hz
            subst hin
            obtain ⟨q, h4, h5⟩ := run_part (cs := cs.toArray) hi hd (h1.trans hdg.symm) (by simpa using h2) w
            refine ⟨z, h, h3, q, h4, ?_⟩
            unfold Instr.field
            rw [Sem.run_bind, run_underlying hs w]
            simp only [Result.andThen_ok, hf]
            exact h5
          · cases h
        · cases h
      · cases h
    · cases h
  · cases h

theorem nthT_ok {P : Program} {B : Bz} {x z : AV} {i : Nat} {u : Value} (hx : VR B x u) (h : nthT x i = some z) (w : World) :
    z.isTup = false ∧ (∀ j ∈ z.ids, j ∈ x.ids) ∧ ∃ q, VR0 B z q ∧ (Instr.extract u i).run P w = .ok q w := by
  have key : ∀ (x : AV) (i : Nat) (vs : List Value), TR B x vs → nthT x i = some z → (∀ j ∈ z.ids, j ∈ x.ids) ∧ ∃ q, VR0 B z q ∧ vs[i]? = some q := by
    intro x
    induction x with
    | tcons a b _ ihb =>
      rintro i vs ⟨v, r, rfl, h1, h2⟩ h
      cases i with
      | zero =>
        simp only [nthT, Option.some.injEq] at h
        subst h
        exact ⟨fun j hj => by simp [AV.ids, hj], v, h1, rfl⟩
      | succ i =>
        obtain ⟨h3, q, h4, h5⟩ := ihb i r h2 h
        exact ⟨fun j hj => by simp [AV.ids, h3 j hj], q, h4, by simpa using h5⟩
    | _ => intro i vs _ h; simp [nthT] at h
  have ht : x.isTup = true := by cases x <;> first | rfl | (cases i <;> simp [nthT] at h)
  unfold VR at hx
  rw [if_pos ht] at hx
  obtain ⟨vs, h1, rfl⟩ := hx
  obtain ⟨h2, q, h3, h4⟩ := key x i vs h1 h
  refine ⟨?_, h2, q, h3, ?_⟩
  · unfold VR0 at h3
    cases z <;> first | rfl | (simp [AV.isAgg, AR] at h3)
  · simp [Instr.extract, h4]

/-! ### Zero values -/

def POk (p : Parser) : Prop := ∀ cs v r, p cs = some (v, r) → v.ids = [] ∧ v.isTup = false ∧ ∃ c1, cs = c1 ++ r ∧ ∀ B, CR B v c1

theorem takeInts_ok {k : IntKind} : ∀ {n : Nat} {cs : List Value} {xs : List Int} {r : List Value}, takeInts k n cs = some (xs, r) → xs.length = n ∧ cs = xs.map (Value.int k) ++ r
  | 0, cs, xs, r, h => by simp only [takeInts, Option.some.injEq, Prod.mk.injEq] at h; obtain ⟨rfl, rfl⟩ := h; exact ⟨rfl, rfl⟩
  | n + 1, [], xs, r, h => by simp [takeInts] at h
  | n + 1, c :: cs, xs, r, h => by
    simp only [takeInts] at h
    split at h
    · rename_i k' x
      replace h := bif_eq_some h
      rcases h with ⟨hk, h⟩ | ⟨_, h⟩
      · have hk := of_decide_eq_true hk
        subst hk
        split at h
        · rename_i ys r' hr
          simp only [Option.some.injEq, Prod.mk.injEq] at h
          obtain ⟨rfl, rfl⟩ := h
          obtain ⟨h1, h2⟩ := takeInts_ok hr
          exact ⟨by simp [h1], by simp [h2]⟩
        · cases h
      · cases h
    · cases h

theorem pairUp_ok : ∀ (ps : List Parser), (∀ p ∈ ps, POk p) → POk (pairUp ps)
  | [], _ => fun cs v r h => by
    simp only [pairUp, Option.some.injEq, Prod.mk.injEq] at h
    obtain ⟨rfl, rfl⟩ := h
    exact ⟨rfl, rfl, [], rfl, fun _ => rfl⟩
  | [p], hp => fun cs v r h => hp p (by simp) cs v r h
  | p :: q :: l, hp => fun cs v r h => by
    simp only [pairUp] at h
    split at h
    · rename_i a cs' ha
      split at h
      · rename_i b cs'' hb
        simp only [Option.some.injEq, Prod.mk.injEq] at h
        obtain ⟨rfl, rfl⟩ := h
        obtain ⟨i1, _, c1, e1, h1⟩ := hp p (by simp) _ _ _ ha
        obtain ⟨i2, _, c2, e2, h2⟩ := pairUp_ok (q :: l) (fun x hx => hp x (by simp [hx])) _ _ _ hb
        exact ⟨by simp [AV.ids, i1, i2], rfl, c1 ++ c2, by rw [e1, e2, List.append_assoc], fun B => ⟨c1, c2, rfl, h1 B, h2 B⟩⟩
      · cases h
    · cases h

theorem fields_ok (ps : List Parser) (hp : ∀ p ∈ ps, POk p) : POk (fields ps) := by
  intro cs v r h
  unfold fields at h
  split at h
  · rename_i p
    split at h
    · rename_i a r' ha
      simp only [Option.some.injEq, Prod.mk.injEq] at h
      obtain ⟨rfl, rfl⟩ := h
      obtain ⟨i1, _, c1, e1, h1⟩ := hp p (by simp) _ _ _ ha
      exact ⟨i1, rfl, c1, e1, h1⟩
    · cases h
  · exact pairUp_ok ps hp cs v r h

theorem parse_ok {P : Program} : ∀ (d : Nat) (t : TypeId), POk (parse P d t)
  | 0, _ => fun cs v r h => by simp [parse] at h
  | d + 1, t => fun cs v r h => by
    simp only [parse] at h
    split at h
    · rename_i fs hu
      refine fields_ok _ (fun p hp => ?_) cs v r h
      obtain ⟨f, _, rfl⟩ := List.mem_map.1 hp
      exact parse_ok d f.type
    · rename_i n e hu
      split at h
      · rename_i k he
        split at h
        · rename_i xs r' hx
          simp only [Option.some.injEq, Prod.mk.injEq] at h
          obtain ⟨rfl, rfl⟩ := h
          obtain ⟨h1, h2⟩ := takeInts_ok hx
          exact ⟨rfl, rfl, _, h2, fun B => ⟨h1, rfl⟩⟩
        · cases h
      · refine fields_ok _ (fun p hp => ?_) cs v r h
        rw [(List.mem_replicate.1 hp).2]
        exact parse_ok d e
    · split at h
      · rename_i c r'
        split at h
        · rename_i v' hv
          simp only [Option.some.injEq, Prod.mk.injEq] at h
          obtain ⟨rfl, rfl⟩ := h
          have h0 := atomV_ok (B := ⟨fun _ => undef, fun _ _ => none⟩) hv
          exact ⟨h0.1, h0.2.1, [c], rfl, fun B => CR_of_AR (atomV_ok (B := B) hv).2.2.2⟩
        · cases h
      · cases h
    · cases h

theorem zeroA_ok {P : Program} {t : TypeId} {v : AV} (h : zeroA P t = some v) : ∃ i z, P.info? t = some i ∧ i.zero = some z ∧ v.ids = [] ∧ v.isTup = false ∧ ∀ B, CR B v z.cells.toList := by
  unfold zeroA at h
  split at h
  · rename_i i hi
    split at h
    · rename_i z hz
      split at h
      · rename_i v' hp
        cases h
        obtain ⟨h1, h2, c1, e, h3⟩ := parse_ok 12 t _ _ _ hp
        rw [List.append_nil] at e
        exact ⟨i, z, hi, hz, h1, h2, fun B => by rw [e]; exact h3 B⟩
      · cases h
    · cases h
  · cases h

theorem run_zeroValue {P : Program} {t : TypeId} {i : TypeInfo} {z : Value} (hi : P.info? t = some i) (hz : i.zero = some z) (w : World) : (zeroValue t).run P w = .ok z w := by
  simp [zeroValue, typeInfo, hi, hz]

theorem run_alloc' {P : Program} {t : TypeId} {i : TypeInfo} {z : Value} (hi : P.info? t = some i) (hz : i.zero = some z) (w : World) :
    (Instr.alloc t true (.tuple #[])).run P w = .ok (.pointer (some ⟨w.heap.size, 0, none⟩)) { w with heap := w.heap.push (.cells z.cells t) } := by
  unfold Instr.alloc
  rw [Sem.run_bind, run_zeroValue hi hz w]
  rfl

theorem run_box' {P : Program} {t : TypeId} {x : Value} (w : World) :
    (Instr.box t x).run P w = .ok (.pointer (some ⟨w.heap.size, 0, none⟩)) { w with heap := w.heap.push (.cells x.cells t) } := rfl

/-! ### Values that are built -/

theorem fill_one (cells : Array Value) (off : Nat) (us : Array Value) (h : off + us.size ≤ cells.size) :
    (us.zipIdx.foldl (fun cs (c, j) => cs.setIfInBounds (off + j) c) cells).toList = splice cells.toList off us.toList := by
  have key : ∀ (us : List Value) (k : Nat) (cells : Array Value), off + k + us.length ≤ cells.size →
      ((us.zipIdx k).foldl (fun cs (p : Value × Nat) => cs.setIfInBounds (off + p.2) p.1) cells).toList = splice cells.toList (off + k) us := by
    intro us
    induction us with
    | nil => intro k cells _; simp [splice]
    | cons u us ih =>
      intro k cells hl
      simp only [List.zipIdx_cons, List.foldl_cons]
      rw [ih (k + 1) _ (by simp at hl ⊢; omega)]
      simp only [splice, Array.toList_setIfInBounds]
      have := list_seg_step cells.toList (off + k) u us (by simp at hl ⊢; omega)
      simpa [Nat.add_assoc] using this
  have := key us.toList 0 cells (by simpa using h)
  rw [Nat.add_zero] at this
  rw [← this, ← Array.foldl_toList]
  congr 1
  simp

theorem buildParts_ok {B : Bz} {place : Nat → Option (Nat × Nat)} : ∀ {ps : List (Nat × AV)} {us : List (Nat × Value)} {z z' : AV} {cells : Array Value},
    CR B z cells.toList → All2 (fun p u => p.1 = u.1 ∧ VR B p.2 u.2) ps us → buildParts z place ps = some z' →
    (∀ i ∈ z'.ids, i ∈ z.ids ∨ ∃ p ∈ ps, i ∈ p.2.ids) ∧ ∃ out, Instr.fill place cells us = some out ∧ CR B z' out.toList := by
  intro ps
  induction ps with
  | nil =>
    intro us z z' cells hz hf h
    cases us with
    | cons => exact hf.elim
    | nil => ?_
    simp only [buildParts, Option.some.injEq] at h
    subst h
    exact ⟨fun i hi => .inl hi, cells, rfl, hz⟩
  | cons p ps ih =>
    intro us z z' cells hz hf h
    cases us with
    | nil => exact hf.elim
    | cons u us' =>
      obtain ⟨hpu, hrest⟩ := hf
      obtain ⟨i, v⟩ := p
      obtain ⟨i', x⟩ := u
      obtain ⟨hi, hv⟩ := hpu
      simp only at hi hv
      subst hi
      simp only [buildParts] at h
      split at h
      · rename_i off n hpl
        replace h := bif_eq_some h
        rcases h with ⟨hc, h⟩ | ⟨_, h⟩
        · simp only [Bool.and_eq_true, Bool.not_eq_true'] at hc
          have hn := Nat.eq_of_beq_eq_true hc.1
          split at h
          · rename_i z1 hz1
            have hcr := VR0_cells (VR0_of_VR hv hc.2)
            have hput := setNav_ok hcr hz hz1
            have hsz : x.cells.size = n := by rw [← hn, ← CR_length hcr]; simp
            have hle : off + x.cells.size ≤ cells.size := by have := hput.le; simpa using this
            have hout := fill_one cells off x.cells hle
            obtain ⟨h1, out, h2, h3⟩ := ih (cells := x.cells.zipIdx.foldl (fun cs (c, j) => cs.setIfInBounds (off + j) c) cells) (by rw [hout]; exact hput.cr) hrest h
            refine ⟨fun m hm => ?_, out, ?_, h3⟩
            · rcases h1 m hm with h4 | ⟨p, hp, h4⟩
              · rcases hput.ids m h4 with h5 | h5
                · exact .inl h5
                · exact .inr ⟨(i, v), by simp, h5⟩
              · exact .inr ⟨p, by simp [hp], h4⟩
            · simp only [Instr.fill, hpl]
              rw [if_neg (by rw [hsz] at hle ⊢; simp; omega)]
              exact h2
          · cases h
        · cases h
      · cases h

theorem buildParts_size {place : Nat → Option (Nat × Nat)} {us : List (Nat × Value)} {cells out : Array Value} (h : Instr.fill place cells us = some out) : out.size = cells.size := by
  induction us generalizing cells with
  | nil => simp only [Instr.fill, Option.some.injEq] at h; rw [h]
  | cons u us ih =>
    obtain ⟨i, v⟩ := u
    simp only [Instr.fill] at h
    split at h
    · cases h
    · split at h
      · cases h
      · rename_i off n hpl hc
        rw [ih h]
        have hle : off + v.cells.size ≤ cells.size := by
          rcases Nat.lt_or_ge cells.size (off + v.cells.size) with hl | hl
          · exact absurd (by simp [hl]) hc
          · exact hl
        have := fill_one cells _ v.cells hle
        have := congrArg List.length this
        rw [length_splice (by simpa using hle)] at this
        simpa using this

end

end Go.Proofs.YtkgpjplncfginaaGreatDoor.Sy
