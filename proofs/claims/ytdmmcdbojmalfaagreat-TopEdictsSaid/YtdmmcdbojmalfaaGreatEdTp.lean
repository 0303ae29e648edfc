/- TopEdicts: the walk of the law: edicts that are carried say the same, and what Propose puts up makes hold what must hold. -/
import Derived.Test.YtdmmcdbojmalfaaGreatEdSy
import Derived.Test.YtdmmcdbojmalfaaGreatEdB
import Derived.Test.YtdmmcdbojmalfaaGreatSame
import Derived.Test.YtdmmcdbojmalfaaGreatWLng
namespace Go.Proofs.YtdmmcdbojmalfaaGreat
open Go.RowKit
/-- What the boxes of TopEdicts hold. -/
structure TpBox (w : World) (W B : Nat) (num L : Int) (AC AJ A : Option Addr) (cC cJ c : Nat) (cs : List Chg) (J : List Int) (es : List Edc) (hour : Int) : Prop where
  ch : Chs w B AC cs
  ji : Ints w B AJ J
  ee : RowsK w B A 8 encE es
  l0 : w.cell? ⟨W, 0, none⟩ = some (.int .i64 num)
  l1 : w.cell? ⟨W, 1, none⟩ = some (.int .i64 L)
  l2 : w.cell? ⟨W, 2, none⟩ = some (.slice AC cs.length cC)
  l3 : w.cell? ⟨W, 3, none⟩ = some (.slice AJ J.length cJ)
  l4 : w.cell? ⟨W, 4, none⟩ = some (.slice A es.length c)
  l5 : w.cell? ⟨W, 5, none⟩ = some (.int .i64 hour)
  r0 : w.cell? ⟨W + 1, 0, none⟩ = some (.int .i64 num)
  r1 : w.cell? ⟨W + 1, 1, none⟩ = some (.int .i64 L)
  r2 : w.cell? ⟨W + 1, 2, none⟩ = some (.slice AC cs.length cC)
  lt : B ≤ W
  hi : W + 1 < w.heap.size
theorem TpBox.below {w w' : World} {W B : Nat} {num L : Int} {AC AJ A : Option Addr} {cC cJ c : Nat} {cs : List Chg} {J : List Int} {es : List Edc} {hour : Int} (h : TpBox w W B num L AC AJ A cC cJ c cs J es hour) (hb : Below w.heap.size w w') : TpBox w' W B num L AC AJ A cC cJ c cs J es hour := by
  have k := fun (b o : Nat) (hlt : b < w.heap.size) => hb.cell (p := ⟨b, o, none⟩) hlt
  have h1 := h.hi
  have h2 := h.lt
  have hbB : Below B w w' := hb.mono (by omega)
  exact ⟨h.ch.below hbB, h.ji.below hbB, h.ee.below hbB, (k W 0 (by omega)).trans h.l0, (k W 1 (by omega)).trans h.l1, (k W 2 (by omega)).trans h.l2, (k W 3 (by omega)).trans h.l3, (k W 4 (by omega)).trans h.l4, (k W 5 (by omega)).trans h.l5, (k (W + 1) 0 (by omega)).trans h.r0, (k (W + 1) 1 (by omega)).trans h.r1, (k (W + 1) 2 (by omega)).trans h.r2, h.lt, Nat.lt_of_lt_of_le h.hi hb.size⟩
theorem TpBox.new {w : World} {B : Nat} {num L : Int} {AC AJ A : Option Addr} {cC cJ c : Nat} {cs : List Chg} {J : List Int} {es : List Edc} {hour : Int} (hC : Chs w B AC cs) (hJ : Ints w B AJ J) (hE : RowsK w B A 8 encE es) (hB : B ≤ w.heap.size) :
    TpBox ((w.alloc (.cells #[.int .i64 num, .int .i64 L, .slice AC cs.length cC, .slice AJ J.length cJ, .slice A es.length c, .int .i64 hour] 28)).alloc (.cells #[.int .i64 num, .int .i64 L, .slice AC cs.length cC] 24)) w.heap.size B num L AC AJ A cC cJ c cs J es hour ∧ Below w.heap.size w ((w.alloc (.cells #[.int .i64 num, .int .i64 L, .slice AC cs.length cC, .slice AJ J.length cJ, .slice A es.length c, .int .i64 hour] 28)).alloc (.cells #[.int .i64 num, .int .i64 L, .slice AC cs.length cC] 24)) := by
  have hal : Below w.heap.size w ((w.alloc (.cells #[.int .i64 num, .int .i64 L, .slice AC cs.length cC, .slice AJ J.length cJ, .slice A es.length c, .int .i64 hour] 28)).alloc (.cells #[.int .i64 num, .int .i64 L, .slice AC cs.length cC] 24)) := ((Below.refl _ _).alloc (Nat.le_refl _) _).alloc (by simp) _
  have hbB := hal.mono hB
  exact ⟨⟨hC.below hbB, hJ.below hbB, hE.below hbB, by simp [go_sem], by simp [go_sem], by simp [go_sem], by simp [go_sem], by simp [go_sem], by simp [go_sem], by simp [go_sem], by simp [go_sem], by simp [go_sem], hB, by simp⟩, hal⟩
theorem lng_okE {num L : Int} {cs : List Chg} (ho : RoadOk num L cs) : lngF num L cs cs.length = (lenAt L cs cs.length, 0) := by
  unfold lngF
  rw [if_pos ho, if_pos (by omega), Int.toNat_natCast]
set_option maxRecDepth 100000 in
set_option maxHeartbeats 16000000 in
theorem wEdicts (AC AJ A : Option Addr) (cC cJ c : Nat) (num L hour : Int) (cs : List Chg) (J : List Int) (es : List Edc) (B : Nat) (w : World) (hC : Chs w B AC cs) (hJ : Ints w B AJ J) (hE : RowsK w B A 8 encE es) (hB : B ≤ w.heap.size) (hcn : cs.length ≤ 9223372036854775807) (hJn : J.length ≤ 9223372036854775807) (hen : es.length ≤ 9223372036854775807) (hwf : ∀ x ∈ es, (Lit.int .i64 x.num).wf = true) :
    Calls Tryz.prog 3 #[.agg #[.int .i64 num, .int .i64 L, .slice AC cs.length cC, .slice AJ J.length cJ, .slice A es.length c, .int .i64 hour]] w fun e w' => e = .returned (.bool true) ∧ Below w.heap.size w w' := by
  obtain ⟨hT, hal⟩ := TpBox.new (num := num) (L := L) (cC := cC) (cJ := cJ) (c := c) (hour := hour) hC hJ hE hB
  have HWF := Lib.hid hwf
  clear hC hJ hE hB hwf
  go_enter Tryz.func3, Tryz.ntmps3
  go_upto_region 2 with fail
  generalize (w.alloc (.cells #[.int .i64 num, .int .i64 L, .slice AC cs.length cC, .slice AJ J.length cJ, .slice A es.length c, .int .i64 hour] 28)).alloc (.cells #[.int .i64 num, .int .i64 L, .slice AC cs.length cC] 24) = w1 at *
  obtain ⟨W, hW⟩ : ∃ W, w.heap.size = W := ⟨_, rfl⟩
  rw [hW] at hT hal
  obtain ⟨hCh, hJi, hEe, l0, l1, l2, l3, l4, l5, r0, r1, r2, hlt, hhi⟩ := id hT
  have hva := rValid AC cC B num L cs w1 hCh (by omega) hcn
  go_wp2_with fail
  refine hva.mono ?_
  rintro e w2 ⟨t1, t2, hb2⟩
  clear hCh hJi hEe l0 l1 l2 l3 l4 l5 r0 r1 r2 hlt hhi
  replace hal := hal.trans (hb2.mono (by have := hal.size; have := hT.hi; omega))
  replace hT := hT.below hb2
  have HAL := Lib.hid hal
  have HT := Lib.hid hT
  obtain ⟨hCh, hJi, hEe, l0, l1, l2, l3, l4, l5, r0, r1, r2, hlt, hhi⟩ := id hT
  clear hb2 hal hT hva hCh hJi hEe
  by_cases ho : RoadOk num L cs
  rotate_left
  · rw [t2 ho]
    clear t1 t2
    go_wp2_with fail
    refine (lAwake _).mono ?_
    rintro e w9 ⟨rfl, hb9⟩
    go_wp2
    go_ret
    exact ⟨rfl, by rw [hW]; exact HAL.out.trans (hb9.mono (by have := HT.out.hi; omega))⟩
  rw [t1 ho]
  have HO := Lib.hid ho
  clear t1 t2 ho
  by_cases h1 : (4 : Int) < (cs.length : Int)
  · go_wp2_with fail
    refine (lAwake _).mono ?_
    rintro e w9 ⟨rfl, hb9⟩
    go_wp2
    go_ret
    exact ⟨rfl, by rw [hW]; exact HAL.out.trans (hb9.mono (by have := HT.out.hi; omega))⟩
  by_cases h2 : (5 : Int) < (J.length : Int)
  · go_wp2_with fail
    refine (lAwake _).mono ?_
    rintro e w9 ⟨rfl, hb9⟩
    go_wp2
    go_ret
    exact ⟨rfl, by rw [hW]; exact HAL.out.trans (hb9.mono (by have := HT.out.hi; omega))⟩
  by_cases h3 : (6 : Int) < (es.length : Int)
  · go_wp2_with fail
    refine (lAwake _).mono ?_
    rintro e w9 ⟨rfl, hb9⟩
    go_wp2
    go_ret
    exact ⟨rfl, by rw [hW]; exact HAL.out.trans (hb9.mono (by have := HT.out.hi; omega))⟩
  by_cases h4 : hour < 0
  · go_wp2_with fail
    refine (lAwake _).mono ?_
    rintro e w9 ⟨rfl, hb9⟩
    go_wp2
    go_ret
    exact ⟨rfl, by rw [hW]; exact HAL.out.trans (hb9.mono (by have := HT.out.hi; omega))⟩
  by_cases h5 : 10000000 < hour
  · go_wp2_with fail
    refine (lAwake _).mono ?_
    rintro e w9 ⟨rfl, hb9⟩
    go_wp2
    go_ret
    exact ⟨rfl, by rw [hW]; exact HAL.out.trans (hb9.mono (by have := HT.out.hi; omega))⟩
  go_upto_region 5 with fail
  have hbo : Below w2.heap.size w2 (w2.alloc (.cells #[.int .i64 L, .slice AJ J.length cJ] 32)) := (Below.refl _ _).alloc (Nat.le_refl _) _
  have hlo := LnBox.new w2 L AJ J.length cJ
  have HAL3 := Lib.hid (HAL.out.trans (hbo.mono (by omega)))
  have hT := HT.out.below hbo
  clear HAL HT
  have HAL := HAL3
  have HT := Lib.hid hT
  clear hbo l0 l1 l2 l3 l4 l5 r0 r1 r2 hlt hhi HAL3 hT
  generalize w2.alloc (.cells #[.int .i64 L, .slice AJ J.length cJ] 32) = w3 at *
  generalize w2.heap.size = O at *
  have HLO := Lib.hid hlo
  clear hlo
  obtain ⟨hCh, hJi, hEe, l0, l1, l2, l3, l4, l5, r0, r1, r2, hlt, hhi⟩ := id HT.out
  obtain ⟨o0, o1, hoi⟩ := id HLO.out
  have hle := rLength AC cC B num L cs cs.length w3 hCh (by omega) hcn
  rw [lng_okE HO.out] at hle
  have HN : Hid (0 ≤ lenAt L cs cs.length) := Lib.hid (lenAt_bd HO.out.2.1.1 HO.out.2.1.2 cs.length fun j hj => HO.out.2.2.2 j hj).1
  go_wp2_with fail
  refine hle.mono ?_
  rintro e w4 ⟨rfl, hb4⟩
  clear hle
  clear hCh hJi hEe l0 l1 l2 l3 l4 l5 r0 r1 r2 hlt hhi o0 o1 hoi
  have HALn := Lib.hid (HAL.out.trans (hb4.mono (by have := HT.out.hi; omega)))
  have HTn := Lib.hid (HT.out.below hb4)
  have HLOn := Lib.hid (HLO.out.below hb4)
  clear HAL HT HLO hb4
  have HAL := HALn
  have HT := HTn
  have HLO := HLOn
  clear HALn HTn HLOn
  obtain ⟨NL, hNL⟩ := Int.eq_ofNat_of_zero_le HN.out
  have HNL : Hid ((NL : Int) = lenAt L cs cs.length) := Lib.hid hNL.symm
  rw [hNL]
  clear HN hNL
  obtain ⟨hCh, hJi, hEe, l0, l1, l2, l3, l4, l5, r0, r1, r2, hlt, hhi⟩ := id HT.out
  obtain ⟨o0, o1, hoi⟩ := id HLO.out
  by_cases h6 : L < 1
  · go_wp2_with fail
    refine (lAwake _).mono ?_
    rintro e w9 ⟨rfl, hb9⟩
    go_wp2
    go_ret
    exact ⟨rfl, by rw [hW]; exact HAL.out.trans (hb9.mono (by have := HT.out.hi; omega))⟩
  by_cases h7 : 400 < L
  · go_wp2_with fail
    refine (lAwake _).mono ?_
    rintro e w9 ⟨rfl, hb9⟩
    go_wp2
    go_ret
    exact ⟨rfl, by rw [hW]; exact HAL.out.trans (hb9.mono (by have := HT.out.hi; omega))⟩
  by_cases h8 : (NL : Int) < 1
  · go_wp2_with fail
    refine (lAwake _).mono ?_
    rintro e w9 ⟨rfl, hb9⟩
    go_wp2
    go_ret
    exact ⟨rfl, by rw [hW]; exact HAL.out.trans (hb9.mono (by have := HT.out.hi; omega))⟩
  by_cases h9 : 400 < (NL : Int)
  · go_wp2_with fail
    refine (lAwake _).mono ?_
    rintro e w9 ⟨rfl, hb9⟩
    go_wp2
    go_ret
    exact ⟨rfl, by rw [hW]; exact HAL.out.trans (hb9.mono (by have := HT.out.hi; omega))⟩
  have hvl := lVLine AJ cJ B L J w4 hJi (by omega) hJn
  go_wp2_with fail
  refine hvl.mono ?_
  rintro e w5 ⟨b, rfl, hbv, hb5⟩
  clear hvl
  clear hCh hJi hEe l0 l1 l2 l3 l4 l5 r0 r1 r2 hlt hhi o0 o1 hoi
  have HALn := Lib.hid (HAL.out.trans (hb5.mono (by have := HT.out.hi; omega)))
  have HTn := Lib.hid (HT.out.below hb5)
  have HLOn := Lib.hid (HLO.out.below hb5)
  clear HAL HT HLO hb5
  have HAL := HALn
  have HT := HTn
  have HLO := HLOn
  clear HALn HTn HLOn
  obtain ⟨hCh, hJi, hEe, l0, l1, l2, l3, l4, l5, r0, r1, r2, hlt, hhi⟩ := id HT.out
  obtain ⟨o0, o1, hoi⟩ := id HLO.out
  cases b with
  | false =>
    clear hbv
    go_wp2_with fail
    refine (lAwake _).mono ?_
    rintro e w9 ⟨rfl, hb9⟩
    go_wp2
    go_ret
    exact ⟨rfl, by rw [hW]; exact HAL.out.trans (hb9.mono (by have := HT.out.hi; omega))⟩
  | true =>
    clear hbv
    have hve := lVEds AJ A cJ c B L J es w5 hJi hEe (by omega) hJn hen HWF.out
    go_wp2_with fail
    refine hve.mono ?_
    rintro e w6 ⟨b, rfl, hbv, hb6⟩
    clear hve
    clear hCh hJi hEe l0 l1 l2 l3 l4 l5 r0 r1 r2 hlt hhi o0 o1 hoi
    have HALn := Lib.hid (HAL.out.trans (hb6.mono (by have := HT.out.hi; omega)))
    have HTn := Lib.hid (HT.out.below hb6)
    have HLOn := Lib.hid (HLO.out.below hb6)
    clear HAL HT HLO hb6
    have HAL := HALn
    have HT := HTn
    have HLO := HLOn
    clear HALn HTn HLOn
    obtain ⟨hCh, hJi, hEe, l0, l1, l2, l3, l4, l5, r0, r1, r2, hlt, hhi⟩ := id HT.out
    obtain ⟨o0, o1, hoi⟩ := id HLO.out
    cases b with
    | false =>
      clear hbv
      go_wp2_with fail
      refine (lAwake _).mono ?_
      rintro e w9 ⟨rfl, hb9⟩
      go_wp2
      go_ret
      exact ⟨rfl, by rw [hW]; exact HAL.out.trans (hb9.mono (by have := HT.out.hi; omega))⟩
    | true =>
      have hv : VEds L J es := hbv.1 rfl
      have h01 : 1 ≤ L ∧ L ≤ 400 := by omega
      have h02 : 1 ≤ NL ∧ NL ≤ 400 := by omega
      have hh : inB 0 hour 10000000 = true := inB_t (by omega) (by omega)
      have hc4 : cs.length ≤ 4 := by omega
      have hj5 : J.length ≤ 5 := by omega
      have he6 : es.length ≤ 6 := by omega
      clear hbv HWF h1 h2 h3 h4 h5 hJn hen
      obtain ⟨Ln, rfl⟩ := Int.eq_ofNat_of_zero_le (show 0 ≤ L by omega)
      obtain ⟨S, hS, hSa⟩ := sorted_of es hv.2.2.2
      have hves : ∀ x ∈ es, VEd Ln x := fun x hx => by
        obtain ⟨k, hk, rfl⟩ := List.getElem_of_mem hx
        exact hv.2.2.1 k hk
      have hvS : ∀ e ∈ S, VEd Ln e := fun e he => hves e (hS.mem_iff.1 he)
      have hve : ∀ x ∈ es, SmE x ∧ 0 ≤ x.fr ∧ x.til ≤ Ln := fun x hx => by
        obtain ⟨a1, a2, a3, a4⟩ := ved_in (hves x hx)
        exact ⟨a1, a2, a4⟩
      have hSl : S.length ≤ 6 := by rw [hS.length_eq]; omega
      have hsp : ∀ e ∈ S, SpOk Ln cs (e.fr, e.til) 0 := fun e he => by
        obtain ⟨-, a2, a3, a4⟩ := ved_in (hvS e he)
        exact ⟨a2, a3, a4⟩
      have hml : ∀ k, (mvd (kpF cs cs.length) 0 (S.take k)).length ≤ 100000 := fun k => by
        have := mvd_len HO.out hvS hc4 (S.take k) 0 fun e he => List.mem_of_mem_take he
        have : (S.take k).length ≤ S.length := by rw [List.length_take]; omega
        omega
      have HMV := Lib.hid (fun (J2 : List Int) (hJ : VLine NL J2) => moved_valid HO.out HNL.out hvS hSl hc4 hJ)
      have HEQ : Hid (∀ topic dir hour : Int, ∀ i : Nat, strF topic dir hour (mvd (kpF cs cs.length) 0 S) i = if frF cs Ln i = 0 then 0 else strF topic dir hour S (frF cs Ln i - 1).toNat) := Lib.hid fun topic dir hour i => by
        have := str_moved HO.out (show (0 : Int) ≤ (Ln : Int) by omega) (S := S) (fun e he => by
          obtain ⟨-, a2, a3, a4⟩ := ved_in (hvS e he)
          obtain ⟨us, k1, -⟩ := kept_has HO.out a2 a3 a4
          exact ⟨⟨us, k1⟩, a2, a4⟩) topic dir hour i
        rwa [Int.toNat_natCast] at this
      have HSA2 := Lib.hid (mvd_asc (kpF cs cs.length) 0 S)
      have hmo := lMoved AC A cC c B num Ln cs es S w6 hCh hEe (by omega) (by omega) hv.2.2.2 hS hSa HO.out hsp hml
      unfold MovRes at hmo
      generalize mvd (kpF cs cs.length) 0 S = ES at *
      have HV := Lib.hid hv
      have HVE := Lib.hid hve
      have HS := Lib.hid hS
      have HSA := Lib.hid hSa
      have HH := Lib.hid hh
      have H01 := Lib.hid h01
      have H02 := Lib.hid h02
      clear hv hve hves hvS hSl hS hSa hsp hml hh h01 h02
      go_wp2_with fail
      refine hmo.mono ?_
      rintro e w7 ⟨A2, c2, rfl, hE2, hb7⟩
      clear hmo h6 h7 h8 h9
      clear hCh hJi hEe l0 l1 l2 l3 l4 l5 r0 r1 r2 hlt hhi o0 o1 hoi
      have HALn := Lib.hid (HAL.out.trans (hb7.mono (by have := HT.out.hi; omega)))
      have HTn := Lib.hid (HT.out.below hb7)
      have HLOn := Lib.hid (HLO.out.below hb7)
      clear HAL HT HLO hb7
      have HAL := HALn
      have HT := HTn
      have HLO := HLOn
      clear HALn HTn HLOn
      obtain ⟨hCh, hJi, hEe, l0, l1, l2, l3, l4, l5, r0, r1, r2, hlt, hhi⟩ := id HT.out
      obtain ⟨o0, o1, hoi⟩ := id HLO.out
      have hE27 := hE2
      clear hE2
      have hjo := lJoints AC AJ cC cJ B num Ln NL cs.length cs J w7 hCh hJi (by omega) (by omega) hcn
      unfold JntRes at hjo
      go_wp2_with fail
      refine hjo.mono ?_
      rintro e w8 ⟨J2, AJ2, cJ2, rfl, hJ2, hjl, hgj, hb8⟩
      have hE28 := (hE27.below hb8).more hb8.size
      clear hjo hE27
      clear hCh hJi hEe l0 l1 l2 l3 l4 l5 r0 r1 r2 hlt hhi o0 o1 hoi
      have HALn := Lib.hid (HAL.out.trans (hb8.mono (by have := HT.out.hi; omega)))
      have HTn := Lib.hid (HT.out.below hb8)
      have HLOn := Lib.hid (HLO.out.below hb8)
      clear HAL HT HLO hb8
      have HAL := HALn
      have HT := HTn
      have HLO := HLOn
      clear HALn HTn HLOn
      obtain ⟨hCh, hJi, hEe, l0, l1, l2, l3, l4, l5, r0, r1, r2, hlt, hhi⟩ := id HT.out
      obtain ⟨o0, o1, hoi⟩ := id HLO.out
      go_upto_region 11 with fail
      have hbo : Below w8.heap.size w8 (w8.alloc (.cells #[.int .i64 NL, .slice AJ2 J2.length cJ2] 32)) := (Below.refl _ _).alloc (Nat.le_refl _) _
      have hln := LnBox.new w8 NL AJ2 J2.length cJ2
      have HALn := Lib.hid (HAL.out.trans (hbo.mono (by omega)))
      have HTn := Lib.hid (HT.out.below hbo)
      have HJ2 := Lib.hid (hJ2.below hbo)
      have HE2 := Lib.hid (hE28.below hbo)
      have hNW : W + 1 < w8.heap.size := hhi
      clear hCh hJi hEe l0 l1 l2 l3 l4 l5 r0 r1 r2 hlt hhi o0 o1 hoi
      clear HAL HT HLO hbo hJ2 hE28
      have HAL := HALn
      have HT := HTn
      clear HALn HTn
      generalize w8.alloc (.cells #[.int .i64 NL, .slice AJ2 J2.length cJ2] 32) = w9 at *
      generalize w8.heap.size = N at *
      have HLN := Lib.hid hln
      clear hln
      have hJV : VLine NL J2 := vline_of (by have := H02.out; omega) hgj hjl hj5
      obtain ⟨v2, v30, vE2, vO⟩ := HMV.out J2 hJV
      have hj2 : J2.length ≤ 5 := by omega
      have hcap := pq4_cap (hour := hour) (L := NL) (J := J2) (fun e he => (vE2 e he).2) hj2 v30
      have HPV := Lib.hid (pq_valid (L := NL) (by have := H02.out; omega) (inB_iff.1 HH.out) hcap vO)
      have HSY : Hid (∀ t d, (t = 1 ∨ t = 2) → (d = 1 ∨ d = -1) → SaysAll t d hour ES NL J2 (pq4 hour ES NL J2)) := Lib.hid fun t d ht hd => says_all_pq (J := J2) t d ht hd (fun d k _ => wv_ok vO d k)
      have HPR : Hid (∀ wz : World, Ints wz N AJ2 J2 → RowsK wz N A2 8 encE ES → N ≤ wz.heap.size → Calls Tryz.prog 12 #[.agg #[.int .i64 NL, .slice AJ2 J2.length cJ2], .slice A2 ES.length c2, .int .i64 hour] wz (PropRes hour ES NL J2 wz)) := Lib.hid fun wz hJ hE hB => lPropose AJ2 A2 cJ2 c2 N NL J2 ES ES hour wz hJ hE hB v2 vE2 (List.Perm.refl _) HSA2.out HH.out hcap
      unfold PropRes at HPR
      generalize pq4 hour ES NL J2 = ss at *
      have HCAP := Lib.hid hcap
      have HV2 := Lib.hid v2
      have HVE2 := Lib.hid vE2
      have HJV := Lib.hid hJV
      clear HMV hgj hjl hcap v2 v30 vE2 vO hJV hj2
      obtain ⟨hCh, hJi, hEe, l0, l1, l2, l3, l4, l5, r0, r1, r2, hlt, hhi⟩ := id HT.out
      obtain ⟨n0, n1, hni⟩ := id HLN.out
      have hvl := lVLineT AJ2 cJ2 N NL J2 w9 HJ2.out (by omega) HJV.out
      go_wp2_with fail
      refine hvl.mono ?_
      rintro e w10 ⟨rfl, hb10⟩
      clear hvl
      clear hCh hJi hEe l0 l1 l2 l3 l4 l5 r0 r1 r2 hlt hhi n0 n1 hni
      have HALn := Lib.hid (HAL.out.trans (hb10.mono (by have := HT.out.hi; omega)))
      have HTn := Lib.hid (HT.out.below hb10)
      have HLNn := Lib.hid (HLN.out.below hb10)
      have HJ2n := Lib.hid (HJ2.out.below (hb10.mono (by have := HLN.out.hi; omega)))
      have HE2n := Lib.hid (HE2.out.below (hb10.mono (by have := HLN.out.hi; omega)))
      clear HAL HT HLN HJ2 HE2 hb10
      have HAL := HALn
      have HT := HTn
      have HLN := HLNn
      have HJ2 := HJ2n
      have HE2 := HE2n
      clear HALn HTn HLNn HJ2n HE2n
      obtain ⟨hCh, hJi, hEe, l0, l1, l2, l3, l4, l5, r0, r1, r2, hlt, hhi⟩ := id HT.out
      obtain ⟨n0, n1, hni⟩ := id HLN.out
      have hve := lVEdsT AJ2 A2 cJ2 c2 N NL J2 ES w10 HJ2.out HE2.out (by omega) HV2.out
      go_wp2_with fail
      refine hve.mono ?_
      rintro e w11 ⟨rfl, hb11⟩
      clear hve
      clear hCh hJi hEe l0 l1 l2 l3 l4 l5 r0 r1 r2 hlt hhi n0 n1 hni
      have HALn := Lib.hid (HAL.out.trans (hb11.mono (by have := HT.out.hi; omega)))
      have HTn := Lib.hid (HT.out.below hb11)
      have HLNn := Lib.hid (HLN.out.below hb11)
      have HJ2n := Lib.hid (HJ2.out.below (hb11.mono (by have := HLN.out.hi; omega)))
      have HE2n := Lib.hid (HE2.out.below (hb11.mono (by have := HLN.out.hi; omega)))
      clear HAL HT HLN HJ2 HE2 hb11
      have HAL := HALn
      have HT := HTn
      have HLN := HLNn
      have HJ2 := HJ2n
      have HE2 := HE2n
      clear HALn HTn HLNn HJ2n HE2n
      go_wp2_with fail
      have hb0 := Below.refl w11.heap.size w11
      go_loopw [11] (fun i wr => ∃ t : Int, (1 ≤ t ∧ t ≤ 3) ∧ i = .int .i64 t ∧ Below w11.heap.size w11 wr) (fun i _ => (3 - intOf i).toNat)
      case atStart => exact ⟨1, by omega, rfl, hb0⟩
      case round =>
        obtain ⟨t, ⟨ht1, ht3⟩, rfl, hb⟩ := hrel
        clear hb0
        by_cases hlt2 : t ≤ 2
        · have HB := Lib.hid hb
          clear hb
          go_wp2_with fail
          have hb0 := HB.out
          go_loopw [12] (fun i w5 => ∃ d : Int, (d = -1 ∨ d = 1 ∨ d = 3) ∧ i = .int .i64 d ∧ Below w11.heap.size w11 w5) (fun i _ => (3 - intOf i).toNat)
          case atStart => exact ⟨-1, .inl rfl, rfl, hb0⟩
          case round =>
            obtain ⟨d, hd, rfl, hb5⟩ := hrel
            clear hb0
            by_cases hd1 : d ≤ 1
            · have hdm : -1 ≤ d := by omega
              have hdd : dirB d = true := dirB_iff.2 (by omega)
              have htt : inB 1 t 2 = true := inB_t ht1 hlt2
              have hT5 := HT.out.below hb5
              have hL5 := HLN.out.below hb5
              obtain ⟨hCh, hJi, hEe, l0, l1, l2, l3, l4, l5, r0, r1, r2, hlt, hhi⟩ := id hT5
              obtain ⟨n0, n1, hni⟩ := id hL5
              have hsy := lSays AC AJ A AJ2 A2 cC cJ c cJ2 c2 N num Ln NL cs J J2 es S ES hour t d wr (hCh.more (by omega)) (hJi.more (by omega)) (hEe.more (by omega)) (HJ2.out.below (hb5.mono (by have := HLN.out.hi; omega))) (HE2.out.below (hb5.mono (by have := HLN.out.hi; omega))) (by omega) HO.out HNL.out (by have := H01.out; omega) H02.out HV.out HVE.out HS.out HSA.out HV2.out HVE2.out HSA2.out HH.out hdd htt (fun i _ => HEQ.out t d hour i)
              have HB5 := Lib.hid hb5
              clear hb5 hT5 hL5 hCh hJi hEe hdd htt
              go_wp2_with fail
              refine hsy.mono ?_
              rintro e w12 ⟨rfl, hb12⟩
              have HB12 := Lib.hid (HB5.out.trans (hb12.mono HB5.out.size))
              clear hsy hb12 l0 l1 l2 l3 l4 l5 r0 r1 r2 n0 n1
              go_wp2_with fail
              exact ⟨⟨d + 2, by omega, by go_num, HB12.out⟩, by simp [intOf]; omega⟩
            · have HB5 := Lib.hid hb5
              clear hb5
              go_wp2_with fail
              exact ⟨⟨t + 1, by omega, by go_num, HB5.out⟩, by simp [intOf]; omega⟩
        · obtain rfl : t = 3 := by omega
          obtain ⟨w12, rfl⟩ : ∃ w12 : World, w12 = wr := ⟨_, rfl⟩
          have hb12 := hb
          clear hb
          have HALn := Lib.hid (HAL.out.trans (hb12.mono (by have := HT.out.hi; omega)))
          have HTn := Lib.hid (HT.out.below hb12)
          have HLNn := Lib.hid (HLN.out.below hb12)
          have HJ2n := Lib.hid (HJ2.out.below (hb12.mono (by have := HLN.out.hi; omega)))
          have HE2n := Lib.hid (HE2.out.below (hb12.mono (by have := HLN.out.hi; omega)))
          clear HAL HT HLN HJ2 HE2 hb12
          have HAL := HALn
          have HT := HTn
          have HLN := HLNn
          have HJ2 := HJ2n
          have HE2 := HE2n
          clear HALn HTn HLNn HJ2n HE2n
          obtain ⟨hCh, hJi, hEe, l0, l1, l2, l3, l4, l5, r0, r1, r2, hlt, hhi⟩ := id HT.out
          obtain ⟨n0, n1, hni⟩ := id HLN.out
          have hpr := HPR.out w12 HJ2.out HE2.out (by omega)
          go_wp2_with fail
          refine hpr.mono ?_
          rintro e w13 ⟨AS, cS, rfl, hG, hb13⟩
          clear hpr
          clear hCh hJi hEe l0 l1 l2 l3 l4 l5 r0 r1 r2 hlt hhi n0 n1 hni
          have HALn := Lib.hid (HAL.out.trans (hb13.mono (by have := HT.out.hi; omega)))
          have HTn := Lib.hid (HT.out.below hb13)
          have HLNn := Lib.hid (HLN.out.below hb13)
          have HJ2n := Lib.hid (HJ2.out.below (hb13.mono (by have := HLN.out.hi; omega)))
          have HE2n := Lib.hid (HE2.out.below (hb13.mono (by have := HLN.out.hi; omega)))
          clear HAL HT HLN HJ2 HE2 hb13
          have HAL := HALn
          have HT := HTn
          have HLN := HLNn
          have HJ2 := HJ2n
          have HE2 := HE2n
          clear HALn HTn HLNn HJ2n HE2n
          obtain ⟨hCh, hJi, hEe, l0, l1, l2, l3, l4, l5, r0, r1, r2, hlt, hhi⟩ := id HT.out
          obtain ⟨n0, n1, hni⟩ := id HLN.out
          have HG := Lib.hid hG
          clear hG
          have hvg := lVSgs AJ2 AS cJ2 cS w13.heap.size NL J2 ss w13 (HJ2.out.more (by omega)) HG.out (Nat.le_refl _) HJV.out HPV.out.1
          go_wp2_with fail
          refine hvg.mono ?_
          rintro e w14 ⟨rfl, hb14⟩
          have HG14 := Lib.hid ((HG.out.below hb14).more hb14.size)
          clear hvg HG
          clear hCh hJi hEe l0 l1 l2 l3 l4 l5 r0 r1 r2 hlt hhi n0 n1 hni
          have HALn := Lib.hid (HAL.out.trans (hb14.mono (by have := HT.out.hi; omega)))
          have HTn := Lib.hid (HT.out.below hb14)
          have HLNn := Lib.hid (HLN.out.below hb14)
          have HJ2n := Lib.hid (HJ2.out.below (hb14.mono (by have := HLN.out.hi; omega)))
          have HE2n := Lib.hid (HE2.out.below (hb14.mono (by have := HLN.out.hi; omega)))
          clear HAL HT HLN HJ2 HE2 hb14
          have HAL := HALn
          have HT := HTn
          have HLN := HLNn
          have HJ2 := HJ2n
          have HE2 := HE2n
          clear HALn HTn HLNn HJ2n HE2n
          obtain ⟨hCh, hJi, hEe, l0, l1, l2, l3, l4, l5, r0, r1, r2, hlt, hhi⟩ := id HT.out
          obtain ⟨n0, n1, hni⟩ := id HLN.out
          have hco := lCompareT AJ2 A2 AS cJ2 c2 cS w14.heap.size NL J2 ES ES ss hour w14 (HJ2.out.more (by omega)) (HE2.out.more (by omega)) HG14.out (Nat.le_refl _) HV2.out HVE2.out (List.Perm.refl _) HSA2.out HH.out HPV.out.1 HPV.out.2 HSY.out
          unfold GapRes at hco
          go_wp2_with fail
          refine hco.mono ?_
          rintro e w15 ⟨rfl, hb15⟩
          clear hco
          clear hCh hJi hEe l0 l1 l2 l3 l4 l5 r0 r1 r2 hlt hhi n0 n1 hni
          have HALn := Lib.hid (HAL.out.trans (hb15.mono (by have := HT.out.hi; omega)))
          have HTn := Lib.hid (HT.out.below hb15)
          have HLNn := Lib.hid (HLN.out.below hb15)
          have HJ2n := Lib.hid (HJ2.out.below (hb15.mono (by have := HLN.out.hi; omega)))
          have HE2n := Lib.hid (HE2.out.below (hb15.mono (by have := HLN.out.hi; omega)))
          clear HAL HT HLN HJ2 HE2 hb15
          have HAL := HALn
          have HT := HTn
          have HLN := HLNn
          have HJ2 := HJ2n
          have HE2 := HE2n
          clear HALn HTn HLNn HJ2n HE2n
          go_wp2_with fail
          refine (lAwake _).mono ?_
          rintro e w9 ⟨rfl, hb9⟩
          go_wp2
          go_ret
          exact ⟨rfl, by rw [hW]; exact HAL.out.trans (hb9.mono (by have := HT.out.hi; omega))⟩
end Go.Proofs.YtdmmcdbojmalfaaGreat
