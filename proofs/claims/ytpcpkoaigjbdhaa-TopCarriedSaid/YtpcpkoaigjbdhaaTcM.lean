/- TopCarried: the walk. -/
import Derived.Test.YtpcpkoaigjbdhaaTcA
import Derived.Test.YtpcpkoaigjbdhaaAwk
namespace Go.Proofs.Ytpcpkoaigjbdhaa
open Go.RowKit
theorem held4 {w2 w' : World} {a b i : Nat} {x0 x1 x2 z0 : Value} (ha : a < w2.heap.size) (hb : b < w2.heap.size) (q0 : w2.cell? ⟨a, 0, none⟩ = some x0) (q1 : w2.cell? ⟨a, 1, none⟩ = some x1) (q2 : w2.cell? ⟨a, 2, none⟩ = some x2)
    (y0 : w2.cell? ⟨b, i, none⟩ = some z0) (h : Below w2.heap.size w2 w') :
    Below w2.heap.size w2 w' ∧ w'.cell? ⟨a, 0, none⟩ = some x0 ∧ w'.cell? ⟨a, 1, none⟩ = some x1 ∧ w'.cell? ⟨a, 2, none⟩ = some x2 ∧ w'.cell? ⟨b, i, none⟩ = some z0 :=
  ⟨h, (h.cell ha).trans q0, (h.cell ha).trans q1, (h.cell ha).trans q2, (h.cell hb).trans y0⟩
theorem lwholeV (A : Option Addr) (c B : Nat) (us : List (Int × Int)) (w : World) (h : Pairs w B A us) (hN : Norm us) (hb : ∀ p ∈ us, 0 ≤ p.1 ∧ p.2 ≤ 10000000) (hl : us.length ≤ 10000000) (v : Int) (hv : met us = v) :
    Calls Try.prog 12 #[.slice A us.length c] w fun e w' => e = .returned (.int .i64 v) ∧ Drew w w' := by
  subst hv; exact lwhole A c B us w h hN hb hl
theorem JBox.new {w : World} {B : Nat} {A : Option Addr} {c : Nat} {num L a b : Int} {cs : List Chg} {m0 m1 m2 : Nat} {T T2 : TypeId} (h : Chs w B A cs) (hB : B ≤ w.heap.size) :
    JBox ((w.alloc (.cells #[.int .i64 num, .int .i64 L, .slice A cs.length c, .int .i64 a, .int .i64 b, .int .u8 m0, .int .u8 m1, .int .u8 m2] T)).alloc (.cells #[.int .i64 num, .int .i64 L, .slice A cs.length c] T2)) w.heap.size B A c num L a b cs m0 m1 m2 :=
  ⟨h.keep fun p hp => by exact (((Below.refl w.heap.size w).alloc (Nat.le_refl _) _).alloc (by simp) _).cell (show p.block < w.heap.size by omega), by simp [go_sem], by simp [go_sem], by simp [go_sem], by simp [go_sem], by simp [go_sem], by simp [go_sem], by simp [go_sem], by simp [go_sem], hB, by simp⟩
section
variable (A : Option Addr) (cp B : Nat) (num L : Int) (cs : List Chg)
theorem lengthOk (u : Nat) (w : World) (h : Chs w B A cs) (hB : B ≤ w.heap.size) (hn : cs.length ≤ 9223372036854775807) (ho : RoadOk num L cs) (hu : u ≤ cs.length) :
    Calls Try.prog 6 #[.agg #[.int .i64 num, .int .i64 L, .slice A cs.length cp], .int .i64 u] w fun e w' => e = .returned (.tuple #[.int .i64 (lenAt L cs u), .int .i64 0]) ∧ Below w.heap.size w w' := by
  have h := lLength A cp B num L cs u w h hB hn
  unfold PairRes at h
  rw [lng_ok ho hu] at h
  exact h
theorem goneOk (u t : Nat) (w : World) (h : Chs w B A cs) (hB : B ≤ w.heap.size) (hn : cs.length ≤ 9223372036854775807) (ho : RoadOk num L cs) (hu : u ≤ cs.length) (ht : t ≤ cs.length) :
    Calls Try.prog 7 #[.agg #[.int .i64 num, .int .i64 L, .slice A cs.length cp], .int .i64 u, .int .i64 t] w fun e w' => ∃ us, All cs L u t us ∧ e = .returned (.tuple #[.int .i64 (lenAt L cs u - met us), .int .i64 0]) ∧ Below w.heap.size w w' :=
  (lGone A cp B num L cs u t w h hB hn).mono fun _ _ h => gone_val ho hu ht h
theorem keptCase (a b : Int) (u t : Nat) (w : World) (h : Chs w B A cs) (hB : B ≤ w.heap.size) (hn : cs.length ≤ 9223372036854775807) (ho : RoadOk num L cs) (hc : cs.length ≤ 12) (hu : u ≤ cs.length) (ht : t ≤ cs.length) :
    Calls Try.prog 8 #[.agg #[.int .i64 num, .int .i64 L, .slice A cs.length cp], .agg #[.int .i64 a, .int .i64 b], .int .i64 u, .int .i64 t] w fun e w' => Below w.heap.size w w' ∧ (e = .returned (.tuple #[.slice none 0 0, .int .i64 2]) ∨
      ∃ (us : List (Int × Int)) (A' : Option Addr) (c' : Nat), (0 ≤ a ∧ a < b ∧ b ≤ lenAt L cs u) ∧ Moved cs u t [(a, b)] us ∧ us.length ≤ 13 ∧ (∀ p ∈ us, p.1 < p.2 ∧ 0 ≤ p.1 ∧ p.2 ≤ lenAt L cs t) ∧ e = .returned (.tuple #[.slice A' us.length c', .int .i64 0]) ∧ Pairs w' w'.heap.size A' us) := by
  refine (lKept A cp B num L cs (a, b) u t w h hB hn).mono fun e w' h => ?_
  obtain ⟨-, -, h3, h4, hb⟩ := h
  have hv : VersOk cs u t := ⟨⟨by omega, by omega⟩, by omega, by omega⟩
  refine ⟨hb, ?_⟩
  by_cases hs : SpOk L cs (a, b) (u : Int).toNat
  · obtain ⟨us, A', c', ko, he, hP⟩ := h4 ho hv hs
    obtain ⟨s0, s1, s2⟩ := hs
    simp only [Int.toNat_natCast] at ko s2
    obtain ⟨k1, k2, k3⟩ := kept_one ho hc hu ht s1 s0 s2 ko
    exact .inr ⟨us, A', c', ⟨s0, s1, s2⟩, k1, k2, k3, he, hP⟩
  · exact .inl (h3 ho hv hs)
theorem carryOk (x : Int) (u t : Nat) (w : World) (h : Chs w B A cs) (hB : B ≤ w.heap.size) (hn : cs.length ≤ 9223372036854775807) (ho : RoadOk num L cs) (hu : u ≤ cs.length) (ht : t ≤ cs.length) (hx : 0 ≤ x ∧ x ≤ lenAt L cs u) :
    Calls Try.prog 13 #[.agg #[.int .i64 num, .int .i64 L, .slice A cs.length cp], .int .i64 x, .int .i64 u, .int .i64 t] w fun e w' => ∃ v er : Int, CarryVal cs u t x v er ∧ e = .returned (.tuple #[.int .i64 v, .int .i64 er]) ∧ Below w.heap.size w w' :=
  (lCarry A cp B num L cs x u t w h hB hn).mono fun _ _ ⟨v, er, h1, h2⟩ => ⟨v, er, carry_val ho hu ht hx h1, h2⟩
end
set_option maxRecDepth 100000 in
set_option maxHeartbeats 8000000 in
theorem wCarried (A : Option Addr) (cp B : Nat) (num L a b : Int) (cs : List Chg) (m0 m1 m2 : Nat) (w : World) (h : Chs w B A cs) (hB : B ≤ w.heap.size) (hn : cs.length ≤ 9223372036854775807) (hm0 : m0 ≤ 255) (hm1 : m1 ≤ 255) (hm2 : m2 ≤ 255) :
    Calls Try.prog 3 #[.agg #[.int .i64 num, .int .i64 L, .slice A cs.length cp, .int .i64 a, .int .i64 b, .int .u8 m0, .int .u8 m1, .int .u8 m2]] w fun e w' => e = .returned (.bool true) ∧ Below w.heap.size w w' := by
  have hJ := JBox.new (c := cp) (num := num) (L := L) (a := a) (b := b) (m0 := m0) (m1 := m1) (m2 := m2) (T := 29) (T2 := 24) h hB
  have hal : Below w.heap.size w ((w.alloc (.cells #[.int .i64 num, .int .i64 L, .slice A cs.length cp, .int .i64 a, .int .i64 b, .int .u8 m0, .int .u8 m1, .int .u8 m2] 29)).alloc (.cells #[.int .i64 num, .int .i64 L, .slice A cs.length cp] 24)) := ((Below.refl _ _).alloc (Nat.le_refl _) _).alloc (by simp) _
  go_enter Try.func3, Try.ntmps3
  go_upto_region 2 with fail
  generalize (w.alloc (.cells #[.int .i64 num, .int .i64 L, .slice A cs.length cp, .int .i64 a, .int .i64 b, .int .u8 m0, .int .u8 m1, .int .u8 m2] 29)).alloc (.cells #[.int .i64 num, .int .i64 L, .slice A cs.length cp] 24) = w1 at *
  clear h
  obtain ⟨hCh, q3, q4, q5, q6, q7, r0, r1, r2, hBH, hHz⟩ := id hJ
  by_cases h12 : 12 < cs.length
  · go_wp2_with fail
    refine (lAwake _).mono ?_
    rintro e w9 ⟨rfl, hb9⟩
    go_wp2
    go_ret
    exact ⟨rfl, hal.trans (hb9.mono hal.size)⟩

  go_wp2_with fail
  refine (rValid A cp B num L cs w1 hCh (by omega) hn).mono ?_
  rintro e w2 ⟨t1, t2, hb2⟩
  clear hCh q3 q4 q5 q6 q7 r0 r1 r2 hHz
  replace hal := hal.trans (hb2.mono hal.size)
  replace hJ := hJ.below hb2 hJ.sz
  obtain ⟨hCh, q3, q4, q5, q6, q7, r0, r1, r2, -, hHz⟩ := id hJ

  clear hb2
  by_cases ho : RoadOk num L cs
  rotate_left
  · rw [t2 ho]
    clear t1 t2
    go_wp2_with fail
    refine (lAwake _).mono ?_
    rintro e w9 ⟨rfl, hb9⟩
    go_wp2
    go_ret
    exact ⟨rfl, hal.trans (hb9.mono hal.size)⟩

  rw [t1 ho]
  have HO := Lib.hid ho
  clear t1 t2 ho
  have v1 : (0 : Int) ≤ (m0 : Int) := by omega
  have v2 : (0 : Int) ≤ (m1 : Int) := by omega
  have v3 : (0 : Int) ≤ (m2 : Int) := by omega
  go_upto_region 5 with fail
  go_quiet (fail)
  obtain ⟨u, hu1, hu⟩ : ∃ u : Nat, (m0 : Int) % ((cs.length : Int) + 1) = (u : Int) ∧ u ≤ cs.length := ⟨m0 % (cs.length + 1), by push_cast; rfl, by have := Nat.mod_lt m0 (show 0 < cs.length + 1 by omega); omega⟩
  obtain ⟨t, ht1, ht⟩ : ∃ t : Nat, (m2 : Int) % ((cs.length : Int) + 1) = (t : Int) ∧ t ≤ cs.length := ⟨m2 % (cs.length + 1), by push_cast; rfl, by have := Nat.mod_lt m2 (show 0 < cs.length + 1 by omega); omega⟩
  rw [hu1, ht1]
  clear hu1 ht1
  have hbd : Below w2.heap.size w2 (w2.drewN nq) := below_drewN (Below.refl _ _) _
  generalize w2.drewN nq = w3 at *
  clear hCh q3 q4 q5 q6 q7 r0 r1 r2 hHz
  replace hal := hal.trans (hbd.mono hal.size)
  replace hJ := hJ.below hbd hJ.sz
  obtain ⟨hCh, q3, q4, q5, q6, q7, r0, r1, r2, -, hHz⟩ := id hJ

  clear hbd
  have m1a : 0 ≤ min (u : Int) (t : Int) := by omega
  have m1b : max (u : Int) (t : Int) ≤ 12 := by omega
  have m1c : 0 ≤ max (u : Int) (t : Int) := by omega
  have m1d : 0 < max (u : Int) (t : Int) - min (u : Int) (t : Int) + 1 := by omega
  have m1e : 0 ≤ (m1 : Int) % (max (u : Int) (t : Int) - min (u : Int) (t : Int) + 1) := Int.emod_nonneg _ (by omega)
  have m1f : (m1 : Int) % (max (u : Int) (t : Int) - min (u : Int) (t : Int) + 1) < max (u : Int) (t : Int) - min (u : Int) (t : Int) + 1 := Int.emod_lt_of_pos _ m1d
  go_upto_region 7 with fail
  generalize hE : (m1 : Int) % (max (u : Int) (t : Int) - min (u : Int) (t : Int) + 1) = E at *
  clear hE
  obtain ⟨v, hv1, hbt⟩ : ∃ v : Nat, min (u : Int) (t : Int) + E = (v : Int) ∧ ((u ≤ v ∧ v ≤ t) ∨ (t ≤ v ∧ v ≤ u)) := ⟨min u t + E.toNat, by push_cast; omega, by omega⟩
  rw [hv1]
  have hv : v ≤ cs.length := by omega
  clear hv1 m1a m1b m1c m1d m1e m1f
  have hc12 : cs.length ≤ 12 := by omega
  clear h12
  go_wp2_with fail
  refine (lengthOk A cp B num L cs u w3 hCh (by omega) hn HO.out hu).mono ?_
  rintro e w4 ⟨rfl, hb⟩
  clear hCh q3 q4 q5 q6 q7 r0 r1 r2 hHz
  replace hal := hal.trans (hb.mono hal.size)
  replace hJ := hJ.below hb hJ.sz
  obtain ⟨hCh, q3, q4, q5, q6, q7, r0, r1, r2, -, hHz⟩ := id hJ

  clear hb
  go_wp2_with fail
  refine (lengthOk A cp B num L cs t w4 hCh (by omega) hn HO.out ht).mono ?_
  rintro e w5 ⟨rfl, hb⟩
  clear hCh q3 q4 q5 q6 q7 r0 r1 r2 hHz
  replace hal := hal.trans (hb.mono hal.size)
  replace hJ := hJ.below hb hJ.sz
  obtain ⟨hCh, q3, q4, q5, q6, q7, r0, r1, r2, -, hHz⟩ := id hJ

  clear hb
  go_wp2_with fail
  refine (goneOk A cp B num L cs u t w5 hCh (by omega) hn HO.out hu ht).mono ?_
  rintro e w6 ⟨K1, hK1, rfl, hb⟩
  clear hCh q3 q4 q5 q6 q7 r0 r1 r2 hHz
  replace hal := hal.trans (hb.mono hal.size)
  replace hJ := hJ.below hb hJ.sz
  obtain ⟨hCh, q3, q4, q5, q6, q7, r0, r1, r2, -, hHz⟩ := id hJ

  clear hb
  go_wp2_with fail
  refine (goneOk A cp B num L cs t u w6 hCh (by omega) hn HO.out ht hu).mono ?_
  rintro e w7 ⟨K2, hK2, rfl, hb⟩
  clear hCh q3 q4 q5 q6 q7 r0 r1 r2 hHz
  replace hal := hal.trans (hb.mono hal.size)
  replace hJ := hJ.below hb hJ.sz
  obtain ⟨hCh, q3, q4, q5, q6, q7, r0, r1, r2, -, hHz⟩ := id hJ

  clear hb
  obtain ⟨e1, e2, e3, e4⟩ := gone_sum HO.out hu ht hK1 hK2
  rw [e1]
  clear e1 hK1 hK2
  have l1 := len_bd HO.out hu
  have l2 := len_bd HO.out ht
  generalize met K1 = X at *
  clear K1 K2
  obtain ⟨G, hG⟩ : ∃ G, lenAt L cs u - X = G := ⟨_, rfl⟩
  obtain ⟨G2, hG2⟩ : ∃ G2, lenAt L cs t - X = G2 := ⟨_, rfl⟩
  rw [hG, hG2]
  have hsum : lenAt L cs t = lenAt L cs u - G + G2 := by omega
  have f1 : 0 ≤ G := by omega
  have f2 : G ≤ lenAt L cs u := by omega
  have f3 : 0 ≤ G2 := by omega
  have f4 : G2 ≤ 10000000 := by omega
  have f5 : lenAt L cs u ≤ 10000000 := by omega
  rw [hsum]
  clear hG hG2 hsum e2 e3 e4 l1 l2 X
  go_wp2_with fail
  refine (keptCase A cp B num L cs a b u t w7 hCh (by omega) hn HO.out hc12 hu ht).mono ?_
  rintro e w8 ⟨hb, (rfl | ⟨once, A1, c1, ⟨s0, s1, s2⟩, hM1, hl1, hr1, rfl, hP1⟩)⟩
  · clear hCh q3 q4 q5 q6 q7 r0 r1 r2 hHz
    replace hal := hal.trans (hb.mono hal.size)
    replace hJ := hJ.below hb hJ.sz
    obtain ⟨hCh, q3, q4, q5, q6, q7, r0, r1, r2, -, hHz⟩ := id hJ
    clear hb
    go_wp2_with fail
    refine (lAwake _).mono ?_
    rintro e w9 ⟨rfl, hb9⟩
    go_wp2
    go_ret
    exact ⟨rfl, hal.trans (hb9.mono hal.size)⟩

  clear hCh q3 q4 q5 q6 q7 r0 r1 r2 hHz
  replace hal := hal.trans (hb.mono hal.size)
  replace hJ := hJ.below hb hJ.sz
  obtain ⟨hCh, q3, q4, q5, q6, q7, r0, r1, r2, -, hHz⟩ := id hJ

  clear hb f1 f2 f3 f4
  have HM1 := Lib.hid hM1
  have HR1 := Lib.hid hr1
  clear hM1 hr1
  go_wp2_with fail
  have hbx := (Below.refl w8.heap.size w8).alloc (Nat.le_refl _) (.cells #[.int .i64 a, .int .i64 b] 26)
  have hPS := one_pair w8 a b 26 (H := w8.heap.size) rfl
  generalize hw9 : w8.alloc (.cells #[.int .i64 a, .int .i64 b] 26) = w9 at *
  clear hw9
  replace hP1 := (hP1.below hbx).more hbx.size
  clear hCh q3 q4 q5 q6 q7 r0 r1 r2 hHz
  replace hal := hal.trans (hbx.mono hal.size)
  replace hJ := hJ.below hbx hJ.sz
  obtain ⟨hCh, q3, q4, q5, q6, q7, r0, r1, r2, -, hHz⟩ := id hJ

  clear hbx
  have HSS : Hid (∀ p ∈ [((a : Int), (b : Int))], 0 ≤ p.1 ∧ p.2 ≤ lenAt L cs u) := Lib.hid fun p hp => by rw [List.mem_singleton.1 hp]; exact ⟨s0, s2⟩
  refine (lkeptAll A (some ⟨w8.heap.size, 0, none⟩) cp 1 B _ num L cs [(a, b)] u v w9 hCh (by omega) hPS (Nat.le_refl _) hc12 HO.out hu hv (norm_one s1) HSS.out (by simp)).mono ?_
  rintro e w10 ⟨half, A2, c2, hM2, hl2, hr2, rfl, hP2, hb⟩
  replace hP1 := (hP1.below hb).more hb.size
  clear hCh q3 q4 q5 q6 q7 r0 r1 r2 hHz
  replace hal := hal.trans (hb.mono hal.size)
  replace hJ := hJ.below hb hJ.sz
  obtain ⟨hCh, q3, q4, q5, q6, q7, r0, r1, r2, -, hHz⟩ := id hJ

  clear hb hPS
  have HM2 := Lib.hid hM2
  have HR2 := Lib.hid hr2
  clear hM2 hr2
  have hl2' : half.length ≤ 13 := by simpa using hl2
  clear hl2
  go_wp2_with fail
  refine (lkeptAll A A2 cp c2 B _ num L cs half v t w10 hCh (by omega) hP2 (Nat.le_refl _) hc12 HO.out hv ht HM2.out.1 (fun p hp => (HR2.out p hp).2) (by omega)).mono ?_
  rintro e w11 ⟨steps, A3, c3, hM3, hl3, hr3, rfl, hP3, hb⟩
  replace hP1 := (hP1.below hb).more hb.size
  clear hCh q3 q4 q5 q6 q7 r0 r1 r2 hHz
  replace hal := hal.trans (hb.mono hal.size)
  replace hJ := hJ.below hb hJ.sz
  obtain ⟨hCh, q3, q4, q5, q6, q7, r0, r1, r2, -, hHz⟩ := id hJ

  clear hb hP2
  have HM3 := Lib.hid hM3
  clear hM3 hr3
  go_wp2_with fail
  refine (lkeptAll A A1 cp c1 B _ num L cs once t u w11 hCh (by omega) hP1 (Nat.le_refl _) hc12 HO.out ht hu HM1.out.1 (fun p hp => (HR1.out p hp).2) (by omega)).mono ?_
  rintro e w12 ⟨back, A4, c4, hM4, hl4, hr4, rfl, hP4, hb⟩
  replace hP1 := (hP1.below hb).more hb.size
  replace hP3 := (hP3.below hb).more hb.size
  clear hCh q3 q4 q5 q6 q7 r0 r1 r2 hHz
  replace hal := hal.trans (hb.mono hal.size)
  replace hJ := hJ.below hb hJ.sz
  obtain ⟨hCh, q3, q4, q5, q6, q7, r0, r1, r2, -, hHz⟩ := id hJ

  clear hb
  obtain ⟨e1, e2, e3, e4, e5⟩ := trip HO.out hu ht hbt s0 s1 s2 HM1.out HM2.out HM3.out hM4
  have HR4 := Lib.hid hr4
  have HM4 := Lib.hid hM4
  have HE2 := Lib.hid e2
  have HE5 := Lib.hid e5
  have lu := len_bd HO.out hu
  have lt := len_bd HO.out ht
  have HLB := Lib.hid (letL_iff.2 ⟨fun p hp => by have := hr4 p hp; unfold LetS; omega, (by omega : back.length ≤ 1000)⟩)
  have HLS : Hid (LetL [(a, b)]) := Lib.hid (letL_iff.2 ⟨fun p hp => by rw [List.mem_singleton.1 hp]; unfold LetS; omega, by simp⟩)
  rw [e1] at hP3 ⊢
  clear e1 e2 e5 hM4 hr4 HM2 HM3
  go_wp2_with fail
  have hbx := (Below.refl w12.heap.size w12).alloc (Nat.le_refl _) (.cells #[.int .i64 a, .int .i64 b] 26)
  have hPS := one_pair w12 a b 26 (H := w12.heap.size) rfl
  generalize hw13 : w12.alloc (.cells #[.int .i64 a, .int .i64 b] 26) = w13 at *
  clear hw13
  replace hP1 := (hP1.below hbx).more hbx.size
  replace hP3 := (hP3.below hbx).more hbx.size
  replace hP4 := (hP4.below hbx).more hbx.size
  clear hCh q3 q4 q5 q6 q7 r0 r1 r2 hHz
  replace hal := hal.trans (hbx.mono hal.size)
  replace hJ := hJ.below hbx hJ.sz
  obtain ⟨hCh, q3, q4, q5, q6, q7, r0, r1, r2, -, hHz⟩ := id hJ

  clear hbx
  refine (lMinusF A4 (some ⟨w12.heap.size, 0, none⟩) c4 1 _ _ back [(a, b)] w13 hP4 (Nat.le_refl _) (by omega) hPS (Nat.le_refl _) (by simp)).mono ?_
  rintro e w14 ⟨-, hmr, hb⟩
  obtain ⟨ls, A6, c6, n1, n2, n3, rfl, -⟩ := hmr ⟨HLB.out, HLS.out⟩
  obtain rfl := norm_empty n1 fun c hc => HE5.out c ((n2 c).1 hc)
  clear n1 n2 n3 hmr hPS
  replace hP1 := (hP1.below hb).more hb.size
  replace hP3 := (hP3.below hb).more hb.size
  replace hP4 := (hP4.below hb).more hb.size
  clear hCh q3 q4 q5 q6 q7 r0 r1 r2 hHz
  replace hal := hal.trans (hb.mono hal.size)
  replace hJ := hJ.below hb hJ.sz
  obtain ⟨hCh, q3, q4, q5, q6, q7, r0, r1, r2, -, hHz⟩ := id hJ

  clear hb
  have HN1 : Hid (Norm once ∧ ∀ p ∈ once, 0 ≤ p.1 ∧ p.2 ≤ 10000000) := ⟨HM1.out.1, fun p hp => by have := HR1.out p hp; omega⟩
  have HN4 : Hid (Norm back ∧ ∀ p ∈ back, 0 ≤ p.1 ∧ p.2 ≤ 10000000) := ⟨HM4.out.1, fun p hp => by have := HR4.out p hp; omega⟩
  obtain ⟨X, hX⟩ : ∃ X, met once = X := ⟨_, rfl⟩
  rw [hX] at e3 e4
  have HX1 := Lib.hid hX
  have HX4 : Hid (met back = X) := HE2.out.trans hX
  clear hX
  have d1 : decide (X < 0) = false := by simp; omega
  have d2 : decide (b - a < X) = false := by simp; omega
  have s3 : b ≤ 10000000 := by omega
  have s4 : a ≤ 10000000 := by omega
  go_upto_region 20 with fail
  go_quiet (first
    | (go_at_call 11; refine quiet_drew (lSameSpansL A1 A3 c1 c3 w14.heap.size w14.heap.size once _ ?_ ?_ (by omega)); exact hP1.keep fun p _ => rfl; exact hP3.keep fun p _ => rfl)
    | (go_at_call_of 12 (Value.slice A4 back.length c4); refine quiet_drew (lwholeV A4 c4 w14.heap.size back _ ?_ HN4.out.1 HN4.out.2 (by omega) X HX4.out); exact hP4.keep fun p _ => rfl)
    | (go_at_call_of 12 (Value.slice A1 once.length c1); refine quiet_drew (lwholeV A1 c1 w14.heap.size once _ ?_ HN1.out.1 HN1.out.2 (by omega) X HX1.out); exact hP1.keep fun p _ => rfl))
  clear d1 d2 e3 e4 hP1 hP3 hP4 HX1 HX4 HN1 HN4 HLB HLS HE2 HE5
  have hbd : Below w14.heap.size w14 (w14.drewN nq) := below_drewN (Below.refl _ _) _
  generalize w14.drewN nq = w15 at *
  clear hCh q3 q4 q5 q6 q7 r0 r1 r2 hHz
  replace hal := hal.trans (hbd.mono hal.size)
  replace hJ := hJ.below hbd hJ.sz
  obtain ⟨hCh, q3, q4, q5, q6, q7, r0, r1, r2, -, hHz⟩ := id hJ

  clear hbd
  go_upto_region 23 with fail
  have hq : 0 ≤ (a + b) / 2 ∧ (a + b) / 2 ≤ lenAt L cs u := by omega
  generalize (a + b) / 2 = q at *
  have hbx := (Below.refl w15.heap.size w15).alloc (Nat.le_refl _) (.cells #[.int .i64 a, .int .i64 b, .int .i64 q] 3)
  have hcl : ∀ k, k < 3 → (w15.alloc (.cells #[.int .i64 a, .int .i64 b, .int .i64 q] 3)).cell? ⟨w15.heap.size, k, none⟩ = some (.int .i64 (at0 [a, b, q] k)) := by
    intro k hk
    rcases (by omega : k = 0 ∨ k = 1 ∨ k = 2) with rfl | rfl | rfl <;> simp [go_sem, at0]
  have hxx : ∀ k, k < 3 → 0 ≤ at0 [a, b, q] k ∧ at0 [a, b, q] k ≤ lenAt L cs u := by
    intro k hk
    rcases (by omega : k = 0 ∨ k = 1 ∨ k = 2) with rfl | rfl | rfl <;> simp [at0] <;> omega
  have hnz : w15.heap.size < (w15.alloc (.cells #[.int .i64 a, .int .i64 b, .int .i64 q] 3)).heap.size := by simp
  generalize w15.alloc (.cells #[.int .i64 a, .int .i64 b, .int .i64 q] 3) = w16 at *
  clear hCh q3 q4 q5 q6 q7 r0 r1 r2 hHz
  replace hal := hal.trans (hbx.mono hal.size)
  replace hJ := hJ.below hbx hJ.sz
  obtain ⟨hCh, q3, q4, q5, q6, q7, r0, r1, r2, -, hHz⟩ := id hJ

  clear hbx
  generalize w15.heap.size = n15 at *
  go_wp2_with fail
  clear hCh q3 q4 q5 q6 q7 r0 r1 r2 hHz

  go_loopw [25] (fun i wr => ∃ k : Nat, k ≤ 3 ∧ i = .int .i64 k ∧ Below w16.heap.size w16 wr) (fun i _ => 3 - (intOf i).toNat)
  case atStart => exact ⟨0, by omega, rfl, Below.refl _ _⟩
  case round =>
    obtain ⟨k, hk, rfl, hb⟩ := hrel
    replace hJ := hJ.below hb hJ.sz
    replace hal := hal.trans (hb.mono hal.size)
    obtain ⟨hCh, q3, q4, q5, q6, q7, r0, r1, r2, -, hHz⟩ := id hJ
    clear q3 q4 q5 q6 q7
    by_cases hlt : k < 3
    · have c0 := (hb.cell (p := ⟨n15, k, none⟩) hnz).trans (hcl k hlt)
      have hx := hxx k hlt
      generalize at0 [a, b, q] k = x at *
      have hnz := Nat.lt_of_lt_of_le hnz hb.size
      have hBz : B ≤ wr.heap.size := by omega
      have v1 : (k : Int) < 3 := by omega
      go_upto_region 26 with fail
      go_region_held3 (fun w' => Below wr.heap.size wr w' ∧ w'.cell? ⟨w.heap.size + 1, 0, none⟩ = some (.int .i64 num) ∧ w'.cell? ⟨w.heap.size + 1, 1, none⟩ = some (.int .i64 L) ∧ w'.cell? ⟨w.heap.size + 1, 2, none⟩ = some (.slice A cs.length cp) ∧ w'.cell? ⟨n15, k, none⟩ = some (.int .i64 x)) ((refine held4 hHz hnz r0 r1 r2 c0 ?_; first | assumption | exact hbm2 | exact Below.refl _ _ | exact (Below.refl _ _).drew | exact below_drewN (Below.refl _ _) _ | fail)) (first
        | (go_at_call 13; refine (carryOk A cp B num L cs x u v _ ?_ ?_ hn HO.out hu hv hx).mono ?_; (solve | exact hCh.below (Below.mono (And.left (by assumption)) hBz)); (solve | exact Nat.le_trans hBz (Below.size (And.left (by assumption)))); (rintro e wm ⟨xm, erm, Vm, rfl, hbm⟩; have hbm2 : Below wr.heap.size wr wm := Below.trans (And.left (by assumption)) (hbm.mono (Below.size (And.left (by assumption))))))
        | fail)
      all_goals
        replace hJ := hJ.below hbm2 hJ.sz
        replace hal := hal.trans (hbm2.mono hal.size)
        replace hb := hb.trans (hbm2.mono hb.size)
        replace c0 := (hbm2.cell (p := ⟨n15, k, none⟩) hnz).trans c0
        clear hCh r0 r1 r2 hHz hbm
        obtain ⟨hCh, q3, q4, q5, q6, q7, r0, r1, r2, -, hHz⟩ := id hJ
        clear q3 q4 q5 q6 q7
        replace hnz := Nat.lt_of_lt_of_le hnz hbm2.size
        replace hBz := Nat.le_trans hBz hbm2.size
        clear hbm2
        go_upto_region 27 with fail
        go_region_held3 (fun w' => Below wm.heap.size wm w' ∧ w'.cell? ⟨w.heap.size + 1, 0, none⟩ = some (.int .i64 num) ∧ w'.cell? ⟨w.heap.size + 1, 1, none⟩ = some (.int .i64 L) ∧ w'.cell? ⟨w.heap.size + 1, 2, none⟩ = some (.slice A cs.length cp) ∧ w'.cell? ⟨n15, k, none⟩ = some (.int .i64 x)) ((refine held4 hHz hnz r0 r1 r2 c0 ?_; first | assumption | exact hbk2 | exact Below.refl _ _ | exact (Below.refl _ _).drew | exact below_drewN (Below.refl _ _) _ | fail)) (first
          | (go_at_call 13; refine (carryOk A cp B num L cs x u t _ ?_ ?_ hn HO.out hu ht hx).mono ?_; (solve | exact hCh.below (Below.mono (And.left (by assumption)) hBz)); (solve | exact Nat.le_trans hBz (Below.size (And.left (by assumption)))); (rintro e wk ⟨xk, erk, Vk, rfl, hbk⟩; have hbk2 : Below wm.heap.size wm wk := Below.trans (And.left (by assumption)) (hbk.mono (Below.size (And.left (by assumption))))))
          | fail)
        all_goals
          replace hJ := hJ.below hbk2 hJ.sz
          replace hal := hal.trans (hbk2.mono hal.size)
          replace hb := hb.trans (hbk2.mono hb.size)
          clear hCh r0 r1 r2 hHz hbk c0
          obtain ⟨hCh, q3, q4, q5, q6, q7, r0, r1, r2, -, hHz⟩ := id hJ
          clear q3 q4 q5 q6 q7
          replace hBz := Nat.le_trans hBz hbk2.size
          clear hbk2
          rcases carry_trip hbt Vm Vk with ⟨rfl, rfl⟩ | ⟨rfl, hx1, hy⟩
          · clear Vm Vk
            go_wp2_with fail
            exact ⟨⟨k + 1, by omega, by go_num, hb⟩, by simp [intOf]; omega⟩
          · have HX1 := Lib.hid hx1
            have HY := Lib.hid hy
            clear Vm Vk hx1 hy
            go_wp2_with fail
            refine (carryOk A cp B num L cs xm v t _ hCh hBz hn HO.out hv ht (place_in HO.out hu hv hx HX1.out)).mono ?_
            rintro e wz ⟨y, fz, V3, rfl, hbz⟩
            obtain ⟨rfl, rfl⟩ := HY.out y fz V3
            replace hb := hb.trans (hbz.mono hb.size)
            clear V3 HY HX1 hJ hal hCh r0 r1 r2 hHz hbz
            go_wp2_with fail
            exact ⟨⟨k + 1, by omega, by go_num, hb⟩, by simp [intOf]; omega⟩
    · obtain rfl : k = 3 := by omega
      go_wp2_with fail
      refine (lAwake _).mono ?_
      rintro e w9 ⟨rfl, hb9⟩
      go_wp2
      go_ret
      exact ⟨rfl, hal.trans (hb9.mono hal.size)⟩
end Go.Proofs.Ytpcpkoaigjbdhaa
