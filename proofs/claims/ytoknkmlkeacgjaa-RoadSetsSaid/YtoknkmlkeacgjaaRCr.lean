/- Contracts of the reference's carry and Carry. -/
import Derived.Test.YtoknkmlkeacgjaaRCy
import Derived.Deep.DeepCutAuto
namespace Go.Proofs.Ytoknkmlkeacgjaa
open Go.RowKit
theorem mv_up (cs : List Chg) {f t k : Nat} (h : f ≤ t) (hk : k < t - f) : mvAt (movesF cs f t) k = upM cs (f + k) := by
  have hz : f - t = 0 := by omega
  simp [movesF, ups, downs, hz, mvAt, hk]
theorem mv_down (cs : List Chg) {f t k : Nat} (h : t ≤ f) (hk : k < f - t) : mvAt (movesF cs f t) k = downM cs (f - 1 - k) := by
  have hz : t - f = 0 := by omega
  simp [movesF, ups, downs, hz, mvAt, hk]
theorem part_up (cs : List Chg) (v : Nat) : (⟨(chAt cs v).fr, (chAt cs v).fr + ((chAt cs v).to - (chAt cs v).fr), (chAt cs v).new - ((chAt cs v).to - (chAt cs v).fr)⟩ : Mov) = upM cs v := by
  simp only [upM, Mov.mk.injEq, true_and, and_true]; omega
theorem part_down (cs : List Chg) (v : Nat) : (⟨(chAt cs v).fr, (chAt cs v).fr + (chAt cs v).new, ((chAt cs v).to - (chAt cs v).fr) - (chAt cs v).new⟩ : Mov) = downM cs v := by
  simp only [downM]
theorem ch_bd {num L : Int} {cs : List Chg} (h : RoadOk num L cs) {k : Nat} (hk : k < cs.length) : (0 ≤ (chAt cs k).fr ∧ (chAt cs k).fr ≤ (chAt cs k).to) ∧ (chAt cs k).to ≤ 10000000 ∧ 0 ≤ (chAt cs k).new ∧ (chAt cs k).new ≤ 10000000 := by
  obtain ⟨_, ⟨d2, d3, d4⟩, ⟨d5, d6⟩, d7⟩ := h.2.2.2 k hk
  have := lenAt_bd h.2.1.1 h.2.1.2 k (fun j hj => h.2.2.2 j (by omega))
  omega
set_option maxRecDepth 100000 in
set_option maxHeartbeats 4000000 in
theorem rcarry_up (A : Option Addr) (cp B : Nat) (num L : Int) (cs : List Chg) (f t : Nat) (c : Int) (w : World) (h : Chs w B A cs) (hB : B ≤ w.heap.size) (ho : RoadOk num L cs) (hf : f ≤ cs.length) (ht : t ≤ cs.length) (hft : f ≤ t) (c0 : 0 ≤ c) (c1 : c ≤ 10000000) :
    Calls Try.prog 56 #[.agg #[.int .i64 num, .int .i64 L, .slice A cs.length cp], .int .i64 c, .int .i64 f, .int .i64 t] w fun e w' => e = .returned (optPair (carryTo (movesF cs f t) c (movesF cs f t).length)) ∧ Below w.heap.size w w' := by
  have hT := RdBox.new (c := cp) (num := num) (L := L) (T := 24) h hB
  have hal : Below w.heap.size w (w.alloc (.cells #[.int .i64 num, .int .i64 L, .slice A cs.length cp] 24)) := (Below.refl _ _).alloc (Nat.le_refl _) _
  generalize hW : w.alloc (.cells #[.int .i64 num, .int .i64 L, .slice A cs.length cp] 24) = w2 at hT hal
  have HW := Lib.hid hW
  clear hW h
  have hTz := hT.sz
  have HO := Lib.hid ho
  have h40 := ho.2.2.1
  have HBD := Lib.hid (carry_bd (moves_grow ho hf ht) c0 c1)
  have HLEN : Hid ((movesF cs f t).length = t - f) := by refine Lib.hid ?_; rw [movesF_length]; omega
  clear ho
  go_enter Try.func56, Try.ntmps56
  go_upto_region 1 with fail
  rw [HW.out]
  clear HW
  go_loopw [1, 2] (fun cv v wr => ∃ (p k : Nat) (x : Int), p = f + k ∧ k ≤ t - f ∧ v = .int .i64 p ∧ cv = .int .i64 x ∧ Hid (carryTo (movesF cs f t) c k = some x) ∧ Below w2.heap.size w2 wr) (fun _ v _ => t - (intOf v).toNat)
  case atStart => exact ⟨f, 0, c, rfl, Nat.zero_le _, rfl, rfl, Lib.hid rfl, Below.refl _ _⟩
  case round =>
    obtain ⟨p, k, x, hp, hk, rfl, rfl, hx, hb⟩ := hrel
    have hT' := hT.below hb hTz
    obtain ⟨-, q0, q1, q2, hl0, hz⟩ := id hT'
    obtain ⟨x0, x1⟩ := HBD.out k (by rw [HLEN.out]; exact hk) x hx.out
    obtain ⟨xb0, xb1⟩ : -10000000000 ≤ x ∧ x ≤ 10000000000 := by omega
    clear x0 x1
    have HPK := Lib.hid hp
    by_cases hlt : k < t - f
    · have hpt : p < t := by omega
      have hpl : p < cs.length := by omega
      have hne : ((p : Int) == (t : Int)) = false := by simp; omega
      have hstep : carryTo (movesF cs f t) c (k + 1) = placeF (upM cs p) x := by simp only [carryTo, hx.out, Option.bind_some]; rw [mv_up cs hft hlt, hp]
      have HM : Hid (k + 1 ≤ t - f ∧ p + 1 = f + (k + 1)) := Lib.hid ⟨by omega, by omega⟩
      have HS := Lib.hid hstep
      have HH := Lib.hid hlt
      clear hstep hp hk hlt
      go_wp2_with fail
      refine (rtoward_up p t wr hpt (by omega)).mono ?_
      rintro e w' ⟨rfl, rfl⟩
      go_wp2_with fail
      refine (rstep_up A cp B num L cs p wr hT'.ch (by omega) hpl h40 (ch_bd HO.out hpl)).mono ?_
      rintro e w3 ⟨rfl, hb3⟩
      have hb4 := hb.trans (hb3.mono hb.size)
      have hT4 := hT.below hb4 hTz
      clear q0 q1 q2
      obtain ⟨-, q0, q1, q2, -, _⟩ := id hT4
      have hbd := ch_bd HO.out hpl
      go_wp2_with fail
      refine (rmoved (chAt cs p).fr ((chAt cs p).to - (chAt cs p).fr) (chAt cs p).new x w3 (by omega) (by omega) (by omega) (by omega) (by omega)).mono ?_
      rintro e w5 ⟨rfl, hb5⟩
      rw [part_up]
      have hb6 := hb4.trans (hb5.mono hb4.size)
      cases hr : placeF (upM cs p) x with
      | some y =>
        have HY := Lib.hid (HS.out.trans hr)
        simp only [optPair, Option.getD_some, Option.isSome_some]
        clear hr
        go_wp2_with fail
        exact ⟨⟨p + 1, k + 1, y, HM.out.2, HM.out.1, by go_num, rfl, HY, hb6⟩, by simp [intOf]; omega⟩
      | none =>
        have hfin := carry_none (HS.out.trans hr) (movesF cs f t).length (by rw [HLEN.out]; exact HM.out.1)
        have HFIN := Lib.hid hfin
        simp only [optPair, Option.getD_none, Option.isSome_none]
        clear hr hfin
        go_wp2_with fail
        go_ret2
        exact ⟨by rw [HFIN.out]; rfl, hal.trans (hb6.mono hal.size)⟩
    · have hkn : k = t - f := by omega
      have hpt : p = t := by omega
      have HKN := Lib.hid hkn
      subst hpt
      clear hkn hp hlt hk
      go_wp2
      go_ret2
      exact ⟨by rw [HLEN.out, ← HKN.out, hx.out]; rfl, hal.trans (hb.mono hal.size)⟩
set_option maxRecDepth 100000 in
set_option maxHeartbeats 4000000 in
theorem rcarry_down (A : Option Addr) (cp B : Nat) (num L : Int) (cs : List Chg) (f t : Nat) (c : Int) (w : World) (h : Chs w B A cs) (hB : B ≤ w.heap.size) (ho : RoadOk num L cs) (hf : f ≤ cs.length) (ht : t ≤ cs.length) (hft : t ≤ f) (c0 : 0 ≤ c) (c1 : c ≤ 10000000) :
    Calls Try.prog 56 #[.agg #[.int .i64 num, .int .i64 L, .slice A cs.length cp], .int .i64 c, .int .i64 f, .int .i64 t] w fun e w' => e = .returned (optPair (carryTo (movesF cs f t) c (movesF cs f t).length)) ∧ Below w.heap.size w w' := by
  have hT := RdBox.new (c := cp) (num := num) (L := L) (T := 24) h hB
  have hal : Below w.heap.size w (w.alloc (.cells #[.int .i64 num, .int .i64 L, .slice A cs.length cp] 24)) := (Below.refl _ _).alloc (Nat.le_refl _) _
  generalize hW : w.alloc (.cells #[.int .i64 num, .int .i64 L, .slice A cs.length cp] 24) = w2 at hT hal
  have HW := Lib.hid hW
  clear hW h
  have hTz := hT.sz
  have HO := Lib.hid ho
  have h40 := ho.2.2.1
  have HBD := Lib.hid (carry_bd (moves_grow ho hf ht) c0 c1)
  have HLEN : Hid ((movesF cs f t).length = f - t) := by refine Lib.hid ?_; rw [movesF_length]; omega
  clear ho
  go_enter Try.func56, Try.ntmps56
  go_upto_region 1 with fail
  rw [HW.out]
  clear HW
  go_loopw [1, 2] (fun cv v wr => ∃ (p k : Nat) (x : Int), f = p + k ∧ k ≤ f - t ∧ v = .int .i64 p ∧ cv = .int .i64 x ∧ Hid (carryTo (movesF cs f t) c k = some x) ∧ Below w2.heap.size w2 wr) (fun _ v _ => (intOf v).toNat - t)
  case atStart => exact ⟨f, 0, c, rfl, Nat.zero_le _, rfl, rfl, Lib.hid rfl, Below.refl _ _⟩
  case round =>
    obtain ⟨p, k, x, hp, hk, rfl, rfl, hx, hb⟩ := hrel
    have hT' := hT.below hb hTz
    obtain ⟨-, q0, q1, q2, hl0, hz⟩ := id hT'
    obtain ⟨x0, x1⟩ := HBD.out k (by rw [HLEN.out]; exact hk) x hx.out
    obtain ⟨xb0, xb1⟩ : -10000000000 ≤ x ∧ x ≤ 10000000000 := by omega
    clear x0 x1
    have HPK := Lib.hid hp
    by_cases hlt : k < f - t
    · obtain ⟨p, rfl⟩ : ∃ p', p = p' + 1 := ⟨p - 1, by omega⟩
      have hpt : t ≤ p := by omega
      have hpl : p < cs.length := by omega
      have hstep : carryTo (movesF cs f t) c (k + 1) = placeF (downM cs p) x := by simp only [carryTo, hx.out, Option.bind_some]; rw [mv_down cs hft hlt]; congr 2; omega
      have HM : Hid (k + 1 ≤ f - t ∧ f = p + (k + 1)) := Lib.hid ⟨by omega, by omega⟩
      have HS := Lib.hid hstep
      have HH := Lib.hid hlt
      clear hstep hp hk hlt
      go_wp2_with fail
      refine (rtoward_down p t wr hpt (by omega)).mono ?_
      rintro e w' ⟨rfl, rfl⟩
      go_wp2_with fail
      refine (rstep_down A cp B num L cs p wr hT'.ch (by omega) hpl h40 (ch_bd HO.out hpl)).mono ?_
      rintro e w3 ⟨rfl, hb3⟩
      have hb4 := hb.trans (hb3.mono hb.size)
      have hT4 := hT.below hb4 hTz
      clear q0 q1 q2
      obtain ⟨-, q0, q1, q2, -, _⟩ := id hT4
      have hbd := ch_bd HO.out hpl
      go_wp2_with fail
      refine (rmoved (chAt cs p).fr (chAt cs p).new ((chAt cs p).to - (chAt cs p).fr) x w3 (by omega) (by omega) (by omega) (by omega) (by omega)).mono ?_
      rintro e w5 ⟨rfl, hb5⟩
      rw [part_down]
      have hb6 := hb4.trans (hb5.mono hb4.size)
      cases hr : placeF (downM cs p) x with
      | some y =>
        have HY := Lib.hid (HS.out.trans hr)
        simp only [optPair, Option.getD_some, Option.isSome_some]
        clear hr
        go_wp2_with fail
        exact ⟨⟨p, k + 1, y, HM.out.2, HM.out.1, by go_num, rfl, HY, hb6⟩, by simp [intOf]; omega⟩
      | none =>
        have hfin := carry_none (HS.out.trans hr) (movesF cs f t).length (by rw [HLEN.out]; exact HM.out.1)
        have HFIN := Lib.hid hfin
        simp only [optPair, Option.getD_none, Option.isSome_none]
        clear hr hfin
        go_wp2_with fail
        go_ret2
        exact ⟨by rw [HFIN.out]; rfl, hal.trans (hb6.mono hal.size)⟩
    · have hkn : k = f - t := by omega
      have hpt : p = t := by omega
      have HKN := Lib.hid hkn
      subst hpt
      clear hkn hp hlt hk
      go_wp2
      go_ret2
      exact ⟨by rw [HLEN.out, ← HKN.out, hx.out]; rfl, hal.trans (hb.mono hal.size)⟩
theorem rcarry (A : Option Addr) (cp B : Nat) (num L : Int) (cs : List Chg) (f t : Nat) (c : Int) (w : World) (h : Chs w B A cs) (hB : B ≤ w.heap.size) (ho : RoadOk num L cs) (hf : f ≤ cs.length) (ht : t ≤ cs.length) (c0 : 0 ≤ c) (c1 : c ≤ 10000000) :
    Calls Try.prog 56 #[.agg #[.int .i64 num, .int .i64 L, .slice A cs.length cp], .int .i64 c, .int .i64 f, .int .i64 t] w fun e w' => e = .returned (optPair (carryTo (movesF cs f t) c (movesF cs f t).length)) ∧ Below w.heap.size w w' := by
  by_cases hft : f ≤ t
  · exact rcarry_up A cp B num L cs f t c w h hB ho hf ht hft c0 c1
  · exact rcarry_down A cp B num L cs f t c w h hB ho hf ht (by omega) c0 c1
set_option maxRecDepth 100000 in
set_option maxHeartbeats 2000000 in
theorem rCarry (A : Option Addr) (cp B : Nat) (num L : Int) (cs : List Chg) (c f t : Int) (w : World) (h : Chs w B A cs) (hB : B ≤ w.heap.size) (hn : cs.length ≤ 9223372036854775807) :
    Calls Try.prog 19 #[.agg #[.int .i64 num, .int .i64 L, .slice A cs.length cp], .int .i64 c, .int .i64 f, .int .i64 t] w (CarryRes num L cs c f t w) := by
  have hT := RdBox.new (c := cp) (num := num) (L := L) (T := 24) h hB
  have hal : Below w.heap.size w (w.alloc (.cells #[.int .i64 num, .int .i64 L, .slice A cs.length cp] 24)) := (Below.refl _ _).alloc (Nat.le_refl _) _
  generalize hW : w.alloc (.cells #[.int .i64 num, .int .i64 L, .slice A cs.length cp] 24) = w2 at hT hal
  have HW := Lib.hid hW
  clear hW h
  have hTz := hT.sz
  obtain ⟨-, q0, q1, q2, hl0, _⟩ := id hT
  go_enter Try.func19, Try.ntmps19
  go_upto_region 1 with fail
  rw [HW.out]
  clear HW
  go_wp2_with fail
  refine (rVersions A cp B num L cs f t w2 hT.ch (by omega) hn).mono ?_
  rintro e w3 ⟨r1, r2, r3, hb2⟩
  have hT2 := hT.below hb2 hTz
  have hal2 := hal.trans (hb2.mono hal.size)
  clear q0 q1 q2 hT
  obtain ⟨-, q0, q1, q2, -, _⟩ := id hT2
  by_cases ho : RoadOk num L cs
  · have HO := Lib.hid ho
    by_cases hv : VersOk cs f t
    · obtain ⟨A', c', rfl, hI⟩ := r3 ho hv
      obtain ⟨⟨v0, v1⟩, v2, v3⟩ := id hv
      have HV := Lib.hid hv
      obtain ⟨fn, rfl⟩ := Int.eq_ofNat_of_zero_le v0
      obtain ⟨tn, rfl⟩ := Int.eq_ofNat_of_zero_le v2
      have h40 := ho.2.2.1
      clear r1 r2 r3 ho hv
      obtain ⟨b, off, hA, hbb, hc⟩ := hI.at_ (k := fn) (by rw [lens_length]; omega)
      have u0 := hc fn (by rw [lens_length]; omega)
      rw [lens_at L cs (by omega)] at u0
      subst hA
      clear hc
      by_cases hin : 0 ≤ c ∧ c ≤ lenAt L cs fn
      · have j1 := inB_t hin.1 hin.2
        have hlb := lenAt_bd HO.out.2.1.1 HO.out.2.1.2 fn (fun j hj => HO.out.2.2.2 j (by omega))
        go_wp2_with (go_at_call 55; refine (rfrom _ _ _ _).mono ?_; rintro e w' ⟨rfl, rfl⟩)
        refine (rcarry A cp B num L cs fn tn c w3 hT2.ch (by have := hT2.lt; have := hT2.sz; omega) HO.out (by omega) (by omega) hin.1 (by omega)).mono ?_
        rintro e w4 ⟨rfl, hb4⟩
        have hal4 := hal2.trans (hb4.mono hal2.size)
        clear q0 q1 q2 u0 j1
        cases hr : carryTo (movesF cs fn tn) c (movesF cs fn tn).length with
        | some d =>
          have HR := Lib.hid hr
          simp only [optPair, Option.getD_some, Option.isSome_some]
          clear hr
          go_wp2
          go_ret2
          exact ⟨d, 0, ⟨fun hh => absurd HO.out hh, fun _ hh => absurd HV.out hh, fun _ _ hh => absurd hin hh, fun _ _ _ => ⟨fun d' hd => ⟨by have := HR.out.symm.trans hd; cases this; rfl, rfl⟩, fun hd => by have := HR.out.symm.trans hd; cases this⟩⟩, rfl, hal4⟩
        | none =>
          have HR := Lib.hid hr
          simp only [optPair, Option.getD_none, Option.isSome_none]
          clear hr
          go_wp2
          go_ret2
          exact ⟨0, 62, ⟨fun hh => absurd HO.out hh, fun _ hh => absurd HV.out hh, fun _ _ hh => absurd hin hh, fun _ _ _ => ⟨fun d' hd => by (have := HR.out.symm.trans hd; cases this), fun _ => ⟨rfl, rfl⟩⟩⟩, rfl, hal4⟩
      · have j1 := inB_f hin
        go_wp2_with (go_at_call 55; refine (rfrom _ _ _ _).mono ?_; rintro e w' ⟨rfl, rfl⟩)
        go_ret2
        exact ⟨0, 2, ⟨fun hh => absurd HO.out hh, fun _ hh => absurd HV.out hh, fun _ _ _ => ⟨rfl, rfl⟩, fun _ _ hh => absurd hh hin⟩, rfl, hal2⟩
    · rw [r2 ho hv]
      have HV := Lib.hid hv
      clear r1 r2 r3 ho hv
      go_wp2
      go_ret2
      exact ⟨0, 61, ⟨fun hh => absurd HO.out hh, fun _ _ => ⟨rfl, rfl⟩, fun _ hh => absurd hh HV.out, fun _ hh => absurd hh HV.out⟩, rfl, hal2⟩
  · rw [r1 ho]
    have HO := Lib.hid ho
    clear r1 r2 r3 ho
    go_wp2
    go_ret2
    exact ⟨0, 60, ⟨fun _ => ⟨rfl, rfl⟩, fun hh => absurd hh HO.out, fun hh => absurd hh HO.out, fun hh => absurd hh HO.out⟩, rfl, hal2⟩
theorem carry_any (num L : Int) (cs : List Chg) (c f t : Int) : ∃ v er : Int, CarryIs num L cs c f t v er ∧ ∀ v' er', CarryIs num L cs c f t v' er' → v' = v ∧ er' = er := by
  by_cases ho : RoadOk num L cs
  · by_cases hv : VersOk cs f t
    · by_cases hin : 0 ≤ c ∧ c ≤ lenAt L cs f.toNat
      · cases hr : carryTo (movesF cs f.toNat t.toNat) c (movesF cs f.toNat t.toNat).length with
        | some d => exact ⟨d, 0, ⟨fun h => absurd ho h, fun _ h => absurd hv h, fun _ _ h => absurd hin h, fun _ _ _ => ⟨fun d' hd => ⟨by (have := hr.symm.trans hd; cases this; rfl), rfl⟩, fun hd => by (have := hr.symm.trans hd; cases this)⟩⟩, fun v' er' h => (h.2.2.2 ho hv hin).1 d hr⟩
        | none => exact ⟨0, 62, ⟨fun h => absurd ho h, fun _ h => absurd hv h, fun _ _ h => absurd hin h, fun _ _ _ => ⟨fun d' hd => by (have := hr.symm.trans hd; cases this), fun _ => ⟨rfl, rfl⟩⟩⟩, fun v' er' h => (h.2.2.2 ho hv hin).2 hr⟩
      · exact ⟨0, 2, ⟨fun h => absurd ho h, fun _ h => absurd hv h, fun _ _ _ => ⟨rfl, rfl⟩, fun _ _ h => absurd h hin⟩, fun v' er' h => h.2.2.1 ho hv hin⟩
    · exact ⟨0, 61, ⟨fun h => absurd ho h, fun _ _ => ⟨rfl, rfl⟩, fun _ h => absurd h hv, fun _ h => absurd h hv⟩, fun v' er' h => h.2.1 ho hv⟩
  · exact ⟨0, 60, ⟨fun _ => ⟨rfl, rfl⟩, fun h => absurd h ho, fun h => absurd h ho, fun h => absurd h ho⟩, fun v' er' h => h.1 ho⟩
end Go.Proofs.Ytoknkmlkeacgjaa
