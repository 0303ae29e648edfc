/- The walk of RoadUnions. -/
import Derived.Test.YtoknkmlkeacgjaaLMn
import Derived.Test.YtoknkmlkeacgjaaWKep
namespace Go.Proofs.Ytoknkmlkeacgjaa
open Go.RowKit
def UnIs (xs us : List (Int × Int)) (er : Int) : Prop := (¬ LetL xs ∧ us = [] ∧ er = 2) ∨ (LetL xs ∧ Norm us ∧ (∀ c, InS us c ↔ InS xs c) ∧ er = 0)
theorem UnIs.uniq {xs us vs : List (Int × Int)} {e f : Int} (h : UnIs xs us e) (g : UnIs xs vs f) : us = vs ∧ e = f := by
  rcases h with ⟨a, rfl, rfl⟩ | ⟨a, b, c, rfl⟩ <;> rcases g with ⟨a', rfl, rfl⟩ | ⟨a', b', c', rfl⟩
  · exact ⟨rfl, rfl⟩
  · exact absurd a' a
  · exact absurd a a'
  · exact ⟨norm_unique b b' fun x => by rw [c x, c' x], rfl⟩
theorem UnfRes.is {xs : List (Int × Int)} {w w' : World} {e : Ending} (h : UnfRes xs w e w') : ∃ (us : List (Int × Int)) (A' : Option Addr) (c' : Nat) (er : Int), Hid (UnIs xs us er) ∧ us.length ≤ 10000000 ∧ e = .returned (.tuple #[.slice A' us.length c', .int .i64 er]) ∧ Pairs w' w'.heap.size A' us ∧ Below w.heap.size w w' := by
  by_cases ho : LetL xs
  · obtain ⟨us, A', c', n1, n2, n3, rfl, hP⟩ := h.2.1 ho
    have := ho.2
    exact ⟨us, A', c', 0, Lib.hid (.inr ⟨ho, n1, n2, rfl⟩), by omega, rfl, hP, h.2.2⟩
  · exact ⟨[], none, 0, 2, Lib.hid (.inl ⟨ho, rfl, rfl⟩), by simp, h.1 ho, .inl rfl, h.2.2⟩
def MnIs (a b us : List (Int × Int)) (er : Int) : Prop := (¬ (LetL a ∧ LetL b) ∧ us = [] ∧ er = 2) ∨ ((LetL a ∧ LetL b) ∧ Norm us ∧ (∀ c, InS us c ↔ (InS a c ∧ ¬ InS b c)) ∧ er = 0)
theorem MnIs.uniq {xs ys us vs : List (Int × Int)} {e f : Int} (h : MnIs xs ys us e) (g : MnIs xs ys vs f) : us = vs ∧ e = f := by
  rcases h with ⟨a, rfl, rfl⟩ | ⟨a, b, c, rfl⟩ <;> rcases g with ⟨a', rfl, rfl⟩ | ⟨a', b', c', rfl⟩
  · exact ⟨rfl, rfl⟩
  · exact absurd a' a
  · exact absurd a a'
  · exact ⟨norm_unique b b' fun x => by rw [c x, c' x], rfl⟩
theorem MinRes.is {xs ys : List (Int × Int)} {w w' : World} {e : Ending} (h : MinRes xs ys w e w') : ∃ (us : List (Int × Int)) (A' : Option Addr) (c' : Nat) (er : Int), Hid (MnIs xs ys us er) ∧ us.length ≤ 10000000 ∧ e = .returned (.tuple #[.slice A' us.length c', .int .i64 er]) ∧ Pairs w' w'.heap.size A' us ∧ Below w.heap.size w w' := by
  by_cases ho : LetL xs ∧ LetL ys
  · obtain ⟨us, A', c', n1, n2, n3, rfl, hP⟩ := h.2.1 ho
    exact ⟨us, A', c', 0, Lib.hid (.inr ⟨ho, n1, n2, rfl⟩), n3, rfl, hP, h.2.2⟩
  · exact ⟨[], none, 0, 2, Lib.hid (.inl ⟨ho, rfl, rfl⟩), by simp, h.1 ho, .inl rfl, h.2.2⟩
def TotIs (xs : List (Int × Int)) (v er : Int) : Prop := ∃ us, UnIs xs us er ∧ v = met us
theorem TotIs.uniq {xs : List (Int × Int)} {v e v' e' : Int} (h : TotIs xs v e) (g : TotIs xs v' e') : v = v' ∧ e = e' := by
  obtain ⟨us, a, rfl⟩ := h
  obtain ⟨vs, b, rfl⟩ := g
  obtain ⟨rfl, h2⟩ := a.uniq b
  exact ⟨rfl, h2⟩
theorem TotRes.is {xs : List (Int × Int)} {w w' : World} {e : Ending} (h : TotRes xs w e w') : ∃ v er : Int, Hid (TotIs xs v er) ∧ e = .returned (.tuple #[.int .i64 v, .int .i64 er]) ∧ Below w.heap.size w w' := by
  by_cases ho : LetL xs
  · obtain ⟨us, n1, n2, rfl⟩ := h.2.1 ho
    exact ⟨met us, 0, Lib.hid ⟨us, .inr ⟨ho, n1, n2, rfl⟩, rfl⟩, rfl, h.2.2⟩
  · exact ⟨0, 2, Lib.hid ⟨[], .inl ⟨ho, rfl, rfl⟩, by simp [met]⟩, h.1 ho, h.2.2⟩
set_option maxRecDepth 100000 in
set_option maxHeartbeats 8000000 in
theorem wUnions (A A2 : Option Addr) (c c2 B B2 : Nat) (a b : List (Int × Int)) (w : World) (h : Pairs w B A a) (hB : B ≤ w.heap.size) (hn : a.length ≤ 9223372036854775807) (h2 : Pairs w B2 A2 b) (hB2 : B2 ≤ w.heap.size) (hn2 : b.length ≤ 9223372036854775807) :
    Calls Try.prog 14 #[.slice A a.length c, .slice A2 b.length c2] w fun e w' => e = .returned (.bool true) ∧ Below w.heap.size w w' := by
  replace h := h.more hB
  replace h2 := h2.more hB2
  generalize hW : w.heap.size = W at *
  have hW' : W ≤ w.heap.size := by omega
  clear hW hB hB2 B B2
  go_enter Try.func14, Try.ntmps14
  by_cases ha : 80 < a.length
  · go_wp2_with fail
    refine (lAwake _).mono ?_
    rintro e w9 ⟨rfl, hb9⟩
    go_wp2
    go_ret
    exact ⟨rfl, hb9.mono hW'⟩
  by_cases hb : 80 < b.length
  · go_wp2_with fail
    refine (lAwake _).mono ?_
    rintro e w9 ⟨rfl, hb9⟩
    go_wp2
    go_ret
    exact ⟨rfl, hb9.mono hW'⟩
  go_wp2_with fail
  clear ha hb
  refine (lUnionF A c W a w h hW' hn).mono ?_
  intro e w1 hu
  obtain ⟨us, A3, c3, e1, U1, u1, rfl, hP1, hb1⟩ := hu.is
  have hk1 := hb1.mono hW'
  replace h := h.below hk1
  replace h2 := h2.below hk1
  have hl1 := Nat.le_trans hW' hb1.size
  clear hu hb1
  go_wp2_with fail
  refine (rUnionF A c W a w1 h hl1 hn).mono ?_
  intro e w2 hu
  obtain ⟨us', A4, c4, e1', U2, _, rfl, hP2, hb2⟩ := hu.is
  obtain ⟨q1, q2⟩ := U2.out.uniq U1.out
  subst q1 q2
  have hk2 := hk1.trans (hb2.mono hl1)
  replace h := h.below (hb2.mono hl1)
  replace h2 := h2.below (hb2.mono hl1)
  have hl2 := Nat.le_trans hl1 hb2.size
  replace hP1 := (hP1.below hb2).more hb2.size
  clear hu hb2 U1 U2 hk1 hl1
  go_wp2_with fail
  refine (lMinusF A A2 c c2 W W a b w2 h hl2 hn h2 hl2 hn2).mono ?_
  intro e w3 hu
  obtain ⟨ms, A5, c5, e2, U1, m1, rfl, hQ1, hb3⟩ := hu.is
  have hk3 := hk2.trans (hb3.mono hl2)
  replace h := h.below (hb3.mono hl2)
  replace h2 := h2.below (hb3.mono hl2)
  have hl3 := Nat.le_trans hl2 hb3.size
  replace hP1 := (hP1.below hb3).more hb3.size
  replace hP2 := (hP2.below hb3).more hb3.size
  clear hu hb3 hk2 hl2
  go_wp2_with fail
  refine (rMinusF A A2 c c2 W W a b w3 h hl3 hn h2 hl3 hn2).mono ?_
  intro e w4 hu
  obtain ⟨ms', A6, c6, e2', U2, _, rfl, hQ2, hb4⟩ := hu.is
  obtain ⟨q1, q2⟩ := U2.out.uniq U1.out
  subst q1 q2
  have hk4 := hk3.trans (hb4.mono hl3)
  replace h := h.below (hb4.mono hl3)
  have hl4 := Nat.le_trans hl3 hb4.size
  replace hP1 := (hP1.below hb4).more hb4.size
  replace hP2 := (hP2.below hb4).more hb4.size
  replace hQ1 := (hQ1.below hb4).more hb4.size
  clear hu hb4 U1 U2 hk3 hl3 h2 hn2
  go_wp2_with fail
  refine (lTotalF A c W a w4 h hl4 hn).mono ?_
  intro e w5 hu
  obtain ⟨v, e3, U1, rfl, hb5⟩ := hu.is
  have hk5 := hk4.trans (hb5.mono hl4)
  replace h := h.below (hb5.mono hl4)
  have hl5 := Nat.le_trans hl4 hb5.size
  replace hP1 := (hP1.below hb5).more hb5.size
  replace hP2 := (hP2.below hb5).more hb5.size
  replace hQ1 := (hQ1.below hb5).more hb5.size
  replace hQ2 := (hQ2.below hb5).more hb5.size
  clear hu hb5 hk4 hl4
  go_wp2_with fail
  refine (rTotalF A c W a w5 h hl5 hn).mono ?_
  intro e w6 hu
  obtain ⟨v', e3', U2, rfl, hb6⟩ := hu.is
  obtain ⟨q1, q2⟩ := U2.out.uniq U1.out
  subst q1 q2
  have hk6 := hk5.trans (hb6.mono hl5)
  have hl6 := Nat.le_trans hl5 hb6.size
  replace hP1 := (hP1.below hb6).more hb6.size
  replace hP2 := (hP2.below hb6).more hb6.size
  replace hQ1 := (hQ1.below hb6).more hb6.size
  replace hQ2 := (hQ2.below hb6).more hb6.size
  clear hu hb6 U1 U2 hk5 hl5 h
  go_wp2_with fail
  refine (lSameSpansL _ _ _ _ _ _ _ w6 hP1 hP2 u1).mono ?_
  rintro e w7 ⟨rfl, hd7⟩
  have hb7 := hd7.below w6.heap.size
  have hk7 := hk6.trans (hb7.mono hl6)
  have hl7 := Nat.le_trans hl6 hb7.size
  replace hQ1 := (hQ1.below hb7).more hb7.size
  replace hQ2 := (hQ2.below hb7).more hb7.size
  clear hP1 hP2 hd7 hb7 hk6 hl6
  go_wp2_with fail
  refine (lSameSpansL _ _ _ _ _ _ _ w7 hQ1 hQ2 m1).mono ?_
  rintro e w8 ⟨rfl, hd8⟩
  have hb8 := hd8.below w7.heap.size
  have hk8 := hk7.trans (hb8.mono hl7)
  have hl8 := Nat.le_trans hl7 hb8.size
  clear hQ1 hQ2 hd8 hb8 hk7 hl7
  go_wp2_with fail
  refine (lAwake _).mono ?_
  rintro e w9 ⟨rfl, hb9⟩
  go_wp2
  go_ret
  exact ⟨rfl, hk8.trans (hb9.mono hl8)⟩
end Go.Proofs.Ytoknkmlkeacgjaa
