/- ShakeDoes: the hand, and the document's hand. -/
import Derived.Test.YtodjcmbkbijliaaP1
import Derived.Test.YtodjcmbkbijliaaWC
namespace Go.Proofs.Ytodjcmbkbijliaa.Sy
open Go
set_option linter.unusedVariables false
set_option linter.unusedSimpArgs false

abbrev HandN := T_dd9637
abbrev RefN := T_0b0752
abbrev MsgN := T_c7162a
abbrev OwnN := Int × (Int × (Int × Int))

def stN (told agreed gone : Bool) : Int := bif gone then 3 else bif agreed then 2 else bif told then 1 else 0

/-- The document's state of a hand. -/
def mOf (h : HandN) : RefN := (h.2.1, (h.1.2.2.2, (h.2.2.1, (stN h.2.2.2.1 h.2.2.2.2.1 h.2.2.2.2.2.1, (h.2.2.2.2.2.2.1, (h.2.2.2.2.2.2.2.1, (h.2.2.2.2.2.2.2.2.1, h.2.2.2.2.2.2.2.2.2)))))))

/-- Who has agreed was told. -/
def Inv (h : HandN) : Prop := h.2.2.2.2.1 = true → h.2.2.2.1 = true

abbrev nilN : Value := (Value.slice none 0 0)
abbrev zerosN : List Int := [0, 0, 0, 0, 0, 0, 0, 0, 0, 0, 0, 0, 0, 0, 0, 0, 0, 0, 0, 0, 0, 0, 0, 0, 0, 0, 0, 0, 0, 0, 0, 0]
abbrev mHN (o : OwnN) : MsgN := (1, o.1, o.2.1, o.2.2.1, o.2.2.2, nilN, zerosN, nilN)

def goodMs (o : OwnN) (num : Int) (ms : List MsgN) : Prop := ms.length ≤ 2 ∧ ∀ x ∈ ms, (x.1 = 1 → x = mHN o) ∧ (x.1 = 7 → x.2.2.2.2.1 = num)

theorem good_nil (o num) : goodMs o num [] := ⟨by simp, fun x h => by cases h⟩
theorem good_one {o num} {x : MsgN} (h : (x.1 = 1 → x = mHN o) ∧ (x.1 = 7 → x.2.2.2.2.1 = num)) : goodMs o num [x] := ⟨by simp, fun y hy => by
  rw [List.mem_singleton.1 hy]; exact h⟩
theorem good_two {o num} {x y : MsgN} (h : (x.1 = 1 → x = mHN o) ∧ (x.1 = 7 → x.2.2.2.2.1 = num)) (h2 : (y.1 = 1 → y = mHN o) ∧ (y.1 = 7 → y.2.2.2.2.1 = num)) : goodMs o num [x, y] := ⟨by simp, fun z hz => by
  rcases List.mem_cons.1 hz with rfl | hz
  · exact h
  · rw [List.mem_singleton.1 hz]; exact h2⟩

theorem in_does (k : Nat) (a b c d e : Int) (u : Value) (w : List Int) (v : Value) (h : HandN) (hi : Inv h) :
    ∃ f h' ms, shake_Hand_In_v1.f k a b c d e u w v h = some (f, h', ms) ∧ trailheadref21_Hand_In.f k a b c d e u w v (mOf h) = some (f, mOf h', ms.map (·.1)) ∧ Inv h' ∧ h'.1 = h.1 ∧ goodMs h.1 e ms := by
  obtain ⟨o, inb, since, told, agreed, gone, direct, height, ping, asked⟩ := h
  have hi : agreed = true → told = true := hi
  cases gone
  · by_cases k1 : a = 1
    · have e1 : (a == (1 : Int)) = true := beq_iff_eq.2 k1
      cases told
      · have ag : agreed = false := by cases agreed <;> first | rfl | exact absurd (hi rfl) (by simp)
        subst ag
        by_cases n1 : e = o.2.2.2
        · have en : (e == o.2.2.2) = true := beq_iff_eq.2 n1
          exact ⟨0, _, [], by simp only [shake_Hand_In_v1.f, shake_Hand_In_v1.tree, shake_Hand_version_v1.f, shake_Hand_version_v1.tree, shake_Hand_drop.f, shake_Hand_drop.tree, e1, en, cond_true, cond_false, Option.bind_some]; rfl,
            by simp only [trailheadref21_Hand_In.f, trailheadref21_Hand_In.tree, mOf, e1, en, cond_true, cond_false]; rfl, by exact hi, by rfl, by exact good_nil _ _⟩
        · have en : (e == o.2.2.2) = false := beq_false_of_ne n1
          by_cases n2 : b < 31800
          · have ev : decide (b < (31800 : Int)) = true := dt n2
            exact ⟨0, _, [], by simp only [shake_Hand_In_v1.f, shake_Hand_In_v1.tree, shake_Hand_version_v1.f, shake_Hand_version_v1.tree, shake_Hand_drop.f, shake_Hand_drop.tree, e1, en, ev, cond_true, cond_false, Option.bind_some]; rfl,
              by simp only [trailheadref21_Hand_In.f, trailheadref21_Hand_In.tree, mOf, e1, en, ev, cond_true, cond_false]; rfl, by exact hi, by rfl, by exact good_nil _ _⟩
          · have ev : decide (b < (31800 : Int)) = false := df n2
            cases inb
            · exact ⟨0, _, _, by simp only [shake_Hand_In_v1.f, shake_Hand_In_v1.tree, shake_Hand_version_v1.f, shake_Hand_version_v1.tree, e1, en, ev, cond_true, cond_false, Option.bind_some]; rfl,
                by simp only [trailheadref21_Hand_In.f, trailheadref21_Hand_In.tree, mOf, e1, en, ev, cond_true, cond_false]; rfl, by exact fun h => rfl, by rfl, by exact good_one ⟨fun h => (by simp at h), fun h => (by simp at h)⟩⟩
            · exact ⟨0, _, _, by simp only [shake_Hand_In_v1.f, shake_Hand_In_v1.tree, shake_Hand_version_v1.f, shake_Hand_version_v1.tree, shake_Own_hello.f, shake_Own_hello.tree, e1, en, ev, cond_true, cond_false, Option.bind_some]; rfl,
                by simp only [trailheadref21_Hand_In.f, trailheadref21_Hand_In.tree, mOf, e1, en, ev, cond_true, cond_false]; rfl, by exact fun h => rfl, by rfl, by exact good_two ⟨fun h => rfl, fun h => (by simp at h)⟩ ⟨fun h => (by simp at h), fun h => (by simp at h)⟩⟩
      · refine ⟨3, _, [], by simp only [shake_Hand_In_v1.f, shake_Hand_In_v1.tree, shake_Hand_version_v1.f, shake_Hand_version_v1.tree, shake_Hand_drop.f, shake_Hand_drop.tree, e1, cond_true, cond_false, Option.bind_some]; rfl,
            ?_, by exact fun h => rfl, by rfl, by exact good_nil _ _⟩
        cases agreed <;> (simp only [trailheadref21_Hand_In.f, trailheadref21_Hand_In.tree, mOf, e1, cond_true, cond_false]; rfl)
    · have e1 : (a == (1 : Int)) = false := beq_false_of_ne k1
      by_cases k2 : a = 2
      · have e2 : (a == (2 : Int)) = true := beq_iff_eq.2 k2
        cases told
        · have ag : agreed = false := by cases agreed <;> first | rfl | exact absurd (hi rfl) (by simp)
          subst ag
          exact ⟨3, _, [], by simp only [shake_Hand_In_v1.f, shake_Hand_In_v1.tree, shake_Hand_verack.f, shake_Hand_verack.tree, shake_Hand_drop.f, shake_Hand_drop.tree, e1, e2, cond_true, cond_false, Option.bind_some]; rfl,
            by simp only [trailheadref21_Hand_In.f, trailheadref21_Hand_In.tree, mOf, e1, e2, cond_true, cond_false]; rfl, by exact hi, by rfl, by exact good_nil _ _⟩
        · cases agreed
          · exact ⟨0, _, _, by simp only [shake_Hand_In_v1.f, shake_Hand_In_v1.tree, shake_Hand_verack.f, shake_Hand_verack.tree, e1, e2, cond_true, cond_false, Option.bind_some]; rfl,
              by simp only [trailheadref21_Hand_In.f, trailheadref21_Hand_In.tree, mOf, e1, e2, cond_true, cond_false]; rfl, by exact fun h => rfl, by rfl, by exact good_one ⟨fun h => (by simp at h), fun h => (by simp at h)⟩⟩
          · exact ⟨3, _, [], by simp only [shake_Hand_In_v1.f, shake_Hand_In_v1.tree, shake_Hand_verack.f, shake_Hand_verack.tree, shake_Hand_drop.f, shake_Hand_drop.tree, e1, e2, cond_true, cond_false, Option.bind_some]; rfl,
              by simp only [trailheadref21_Hand_In.f, trailheadref21_Hand_In.tree, mOf, e1, e2, cond_true, cond_false]; rfl, by exact hi, by rfl, by exact good_nil _ _⟩
      · have e2 : (a == (2 : Int)) = false := beq_false_of_ne k2
        cases agreed
        · refine ⟨3, _, [], by simp only [shake_Hand_In_v1.f, shake_Hand_In_v1.tree, shake_Hand_drop.f, shake_Hand_drop.tree, e1, e2, cond_true, cond_false, Option.bind_some]; rfl, ?_, by exact hi, by rfl, by exact good_nil _ _⟩
          cases told <;> (simp only [trailheadref21_Hand_In.f, trailheadref21_Hand_In.tree, mOf, e1, e2, cond_true, cond_false]; rfl)
        · have ht := hi rfl
          subst ht
          by_cases k6 : a = 6
          · have e6 : (a == (6 : Int)) = true := beq_iff_eq.2 k6
            exact ⟨0, _, _, by simp only [shake_Hand_In_v1.f, shake_Hand_In_v1.tree, e1, e2, e6, cond_true, cond_false, Option.bind_some]; rfl,
              by simp only [trailheadref21_Hand_In.f, trailheadref21_Hand_In.tree, mOf, e1, e2, e6, cond_true, cond_false]; rfl, by exact hi, by rfl, by exact good_one ⟨fun h => (by simp at h), fun h => rfl⟩⟩
          have e6 : (a == (6 : Int)) = false := beq_false_of_ne k6
          by_cases k7 : a = 7
          · have e7 : (a == (7 : Int)) = true := beq_iff_eq.2 k7
            by_cases p0 : ping = 0
            · have ep : (ping == (0 : Int)) = true := beq_iff_eq.2 p0
              exact ⟨7, _, [], by simp only [shake_Hand_In_v1.f, shake_Hand_In_v1.tree, shake_Hand_pong_v1.f, shake_Hand_pong_v1.tree, e1, e2, e6, e7, ep, cond_true, cond_false, Option.bind_some]; rfl,
                by simp only [trailheadref21_Hand_In.f, trailheadref21_Hand_In.tree, mOf, e1, e2, e6, e7, ep, cond_true, cond_false]; rfl, by exact hi, by rfl, by exact good_nil _ _⟩
            have ep : (ping == (0 : Int)) = false := beq_false_of_ne p0
            by_cases pe : e = ping
            · have q1 : (e != ping) = false := by simp [pe]
              have q2 : (ping != e) = false := by simp [pe]
              exact ⟨0, _, [], by simp only [shake_Hand_In_v1.f, shake_Hand_In_v1.tree, shake_Hand_pong_v1.f, shake_Hand_pong_v1.tree, e1, e2, e6, e7, ep, q1, cond_true, cond_false, Option.bind_some]; rfl,
                by simp only [trailheadref21_Hand_In.f, trailheadref21_Hand_In.tree, mOf, e1, e2, e6, e7, ep, q2, cond_true, cond_false]; rfl, by exact hi, by rfl, by exact good_nil _ _⟩
            · have q1 : (e != ping) = true := by simp [pe]
              have q2 : (ping != e) = true := by rw [bne_iff_ne]; exact fun h => pe h.symm
              exact ⟨7, _, [], by simp only [shake_Hand_In_v1.f, shake_Hand_In_v1.tree, shake_Hand_pong_v1.f, shake_Hand_pong_v1.tree, e1, e2, e6, e7, ep, q1, cond_true, cond_false, Option.bind_some]; rfl,
                by simp only [trailheadref21_Hand_In.f, trailheadref21_Hand_In.tree, mOf, e1, e2, e6, e7, ep, q2, cond_true, cond_false]; rfl, by exact hi, by rfl, by exact good_nil _ _⟩
          have e7 : (a == (7 : Int)) = false := beq_false_of_ne k7
          by_cases k8 : a = 8
          · have e8 : (a == (8 : Int)) = true := beq_iff_eq.2 k8
            exact ⟨0, _, [], by simp only [shake_Hand_In_v1.f, shake_Hand_In_v1.tree, e1, e2, e6, e7, e8, cond_true, cond_false, Option.bind_some]; rfl,
              by simp only [trailheadref21_Hand_In.f, trailheadref21_Hand_In.tree, mOf, e1, e2, e6, e7, e8, cond_true, cond_false]; rfl, by exact hi, by rfl, by exact good_nil _ _⟩
          · have e8 : (a == (8 : Int)) = false := beq_false_of_ne k8
            exact ⟨0, _, [], by simp only [shake_Hand_In_v1.f, shake_Hand_In_v1.tree, e1, e2, e6, e7, e8, cond_true, cond_false, Option.bind_some]; rfl,
              by simp only [trailheadref21_Hand_In.f, trailheadref21_Hand_In.tree, mOf, e1, e2, e6, e7, e8, cond_true, cond_false]; rfl, by exact hi, by rfl, by exact good_nil _ _⟩
  · exact ⟨0, _, [], rfl, rfl, by exact hi, by rfl, by exact good_nil _ _⟩

theorem ping_does (k : Nat) (n now : Int) (h : HandN) (hi : Inv h) :
    ∃ h' ms b, shake_Hand_Ping.f k n now h = some (h', ms) ∧ trailheadref21_Hand_Ping.f k n now (mOf h) = some (b, mOf h') ∧ Inv h' ∧ h'.1 = h.1 ∧ (b = false ∧ ms = [] ∨ b = true ∧ ms = [(6, 0, 0, 0, n, nilN, zerosN, nilN)]) := by
  obtain ⟨o, inb, since, told, agreed, gone, direct, height, ping, asked⟩ := h
  have hi : agreed = true → told = true := hi
  have no (hg : gone = true ∨ agreed = false) : ∃ h' ms b, shake_Hand_Ping.f k n now (o, inb, since, told, agreed, gone, direct, height, ping, asked) = some (h', ms) ∧ trailheadref21_Hand_Ping.f k n now (mOf (o, inb, since, told, agreed, gone, direct, height, ping, asked)) = some (b, mOf h') ∧ Inv h' ∧ h'.1 = o ∧ (b = false ∧ ms = [] ∨ b = true ∧ ms = [(6, 0, 0, 0, n, nilN, zerosN, nilN)]) := by
    refine ⟨(o, inb, since, told, agreed, gone, direct, height, ping, asked), [], false, ?_, ?_, by exact hi, by rfl, .inl ⟨rfl, rfl⟩⟩
    · rcases hg with rfl | rfl
      · cases agreed <;> rfl
      · cases gone <;> rfl
    · rcases hg with rfl | rfl
      · rfl
      · cases gone <;> cases told <;> rfl
  cases gone
  · cases agreed
    · exact no (.inr rfl)
    · by_cases p0 : ping = 0
      · have ep : (ping != (0 : Int)) = false := by simp [p0]
        by_cases n1 : n < 1
        · exact ⟨_, [], false, by simp only [shake_Hand_Ping.f, shake_Hand_Ping.tree, shake_Hand_Ready.f, shake_Hand_Ready.tree, ep, dt n1, cond_true, cond_false, Option.bind_some, Bool.not_false, Bool.not_true]; rfl,
            by simp only [trailheadref21_Hand_Ping.f, trailheadref21_Hand_Ping.tree, mOf, ep, dt (show n ≤ 0 by omega), cond_true, cond_false]; rfl, by exact hi, by rfl, .inl ⟨rfl, rfl⟩⟩
        by_cases n2 : n ≥ 72057594037927936
        · exact ⟨_, [], false, by simp only [shake_Hand_Ping.f, shake_Hand_Ping.tree, shake_Hand_Ready.f, shake_Hand_Ready.tree, ep, df n1, dt n2, cond_true, cond_false, Option.bind_some, Bool.not_false, Bool.not_true]; rfl,
            by simp only [trailheadref21_Hand_Ping.f, trailheadref21_Hand_Ping.tree, mOf, ep, df (show ¬ n ≤ 0 by omega), dt (show n > 72057594037927935 by omega), cond_true, cond_false]; rfl, by exact hi, by rfl, .inl ⟨rfl, rfl⟩⟩
        · exact ⟨_, _, true, by simp only [shake_Hand_Ping.f, shake_Hand_Ping.tree, shake_Hand_Ready.f, shake_Hand_Ready.tree, ep, df n1, df n2, cond_true, cond_false, Option.bind_some, Bool.not_false, Bool.not_true]; rfl,
            by simp only [trailheadref21_Hand_Ping.f, trailheadref21_Hand_Ping.tree, mOf, ep, df (show ¬ n ≤ 0 by omega), df (show ¬ n > 72057594037927935 by omega), cond_true, cond_false]; rfl, by exact hi, by rfl, by exact .inr ⟨rfl, rfl⟩⟩
      · have ep : (ping != (0 : Int)) = true := by simp [p0]
        exact ⟨_, [], false, by simp only [shake_Hand_Ping.f, shake_Hand_Ping.tree, shake_Hand_Ready.f, shake_Hand_Ready.tree, ep, cond_true, cond_false, Option.bind_some, Bool.not_false, Bool.not_true]; rfl,
          by simp only [trailheadref21_Hand_Ping.f, trailheadref21_Hand_Ping.tree, mOf, ep, cond_true, cond_false]; rfl, by exact hi, by rfl, .inl ⟨rfl, rfl⟩⟩
  · exact no (.inl rfl)

def tkA (A C P agreed : Bool) (hd dead : HandN) : Option (Bool × HandN) :=
  bif !agreed then (bif A then some (false, dead) else bif P then (bif C then some (false, dead) else some (true, hd)) else some (true, hd))
  else bif P then (bif C then some (false, dead) else some (true, hd)) else some (true, hd)
def tkB (A C P agreed : Bool) (hd dead : RefN) : Option (Bool × RefN) :=
  bif !agreed then (bif A then some (false, dead) else bif P then (bif C then some (false, dead) else some (true, hd)) else some (true, hd))
  else bif P then (bif C then some (false, dead) else some (true, hd)) else some (true, hd)
theorem tick_a (k : Nat) (now : Int) (o : OwnN) (inb : Bool) (since : Int) (told agreed direct : Bool) (height ping asked : Int) :
    shake_Hand_Tick.f k now (o, inb, since, told, agreed, false, direct, height, ping, asked) = tkA (decide (subI .i64 now since > 60)) (decide (subI .i64 now asked > 60)) (ping != 0) agreed (o, inb, since, told, agreed, false, direct, height, ping, asked) (o, inb, since, told, agreed, true, direct, height, ping, asked) := by
  cases agreed <;> rfl
theorem tick_b (k : Nat) (now : Int) (o : OwnN) (inb : Bool) (since : Int) (told agreed direct : Bool) (height ping asked : Int) (hi : agreed = true → told = true) :
    trailheadref21_Hand_Tick.f k now (mOf (o, inb, since, told, agreed, false, direct, height, ping, asked)) = tkB (decide (subI .i64 now since > 60)) (decide (subI .i64 now asked > 60)) (ping != 0) agreed (mOf (o, inb, since, told, agreed, false, direct, height, ping, asked)) (mOf (o, inb, since, told, agreed, true, direct, height, ping, asked)) := by
  cases agreed
  · cases told <;> rfl
  · rw [hi rfl]; rfl

theorem tick_does (k : Nat) (now : Int) (h : HandN) (hi : Inv h) :
    ∃ h' b, shake_Hand_Tick.f k now h = some (b, h') ∧ trailheadref21_Hand_Tick.f k now (mOf h) = some (b, mOf h') ∧ Inv h' ∧ h'.1 = h.1 := by
  obtain ⟨o, inb, since, told, agreed, gone, direct, height, ping, asked⟩ := h
  have hi : agreed = true → told = true := hi
  cases gone
  · rw [tick_a, tick_b _ _ _ _ _ _ _ _ _ _ _ hi]
    generalize decide (subI .i64 now since > 60) = A
    generalize decide (subI .i64 now asked > 60) = C
    generalize (ping != (0 : Int)) = P
    cases A <;> cases C <;> cases P <;> cases agreed <;>
      exact ⟨_, _, by rfl, by rfl, by exact hi, by rfl⟩
  · exact ⟨_, _, rfl, rfl, hi, rfl⟩

/-- What may be asked of a hand. -/
theorem asks (k : Nat) (h : HandN) (hi : Inv h) : shake_Hand_Ready.f k h = some ((mOf h).2.2.2.1 == 2) ∧ shake_Hand_Gone.f k h = some ((mOf h).2.2.2.1 == 3) ∧ shake_Hand_Direct.f k h = some (bif (mOf h).2.2.2.1 == 2 then (mOf h).2.2.2.2.1 else false) ∧ shake_Hand_Height.f k h = some (mOf h).2.2.2.2.2.1 := by
  obtain ⟨o, inb, since, told, agreed, gone, direct, height, ping, asked⟩ := h
  have hi : agreed = true → told = true := hi
  cases gone <;> cases agreed <;> cases told <;> exact ⟨rfl, rfl, rfl, rfl⟩

theorem end_does (k : Nat) (h : HandN) (hi : Inv h) : ∃ h', shake_Hand_End.f k h = some h' ∧ ((mOf h).1, ((mOf h).2.1, ((mOf h).2.2.1, (3, (mOf h).2.2.2.2)))) = mOf h' ∧ Inv h' ∧ h'.1 = h.1 ∧ h'.2.2.2.2.2.1 = true := ⟨_, rfl, rfl, hi, rfl, rfl⟩

theorem hello_eq (k : Nat) (hk : 0 < k) (o : OwnN) : trailheadlaw21_hello.f k (mHN o).1 (mHN o).2.1 (mHN o).2.2.1 (mHN o).2.2.2.1 (mHN o).2.2.2.2.1 (mHN o).2.2.2.2.2.1 (mHN o).2.2.2.2.2.2.1 (mHN o).2.2.2.2.2.2.2 o = some true := by
  obtain ⟨k, rfl⟩ : ∃ q, k = q + 1 := ⟨k - 1, by omega⟩
  unfold trailheadlaw21_hello.f trailheadlaw21_hello.tree speech_Same.f speech_Same.tree
  have e1 : speech_bare.f (k + 1) 1 o.1 o.2.1 o.2.2.1 o.2.2.2 nilN zerosN nilN = some (1, o.1, o.2.1, o.2.2.1, o.2.2.2, nilN, zerosN, nilN) := rfl
  have e2 : speech_bare_v1.f (k + 1) 1 o.1 o.2.1 o.2.2.1 o.2.2.2 zerosN = some (1, o.1, o.2.1, o.2.2.1, o.2.2.2, zerosN) := rfl
  have e3 : slices_Equal_api_Hash_api_Hash.f (k + 1) nilN = some true := rfl
  have e4 : slices_Equal_api_Header_api_Header.f (k + 1) nilN = some true := rfl
  simp only [mHN]
  rw [e1, Option.bind_some, e2, Option.bind_some]
  simp only [beq_self_eq_true, cond_true, decide_true]
  rw [e3, Option.bind_some, cond_true, e4]
  rfl

end Go.Proofs.Ytodjcmbkbijliaa.Sy
