/- Contract of the reference's kept (61). -/
import Derived.Test.YtoknkmlkeacgjaaRNm
import Derived.Test.YtoknkmlkeacgjaaRLf
import Derived.Test.YtoknkmlkeacgjaaRCr
import Derived.Test.YtoknkmlkeacgjaaKpt
namespace Go.Proofs.Ytoknkmlkeacgjaa
open Go.RowKit
set_option maxRecDepth 100000 in
set_option maxHeartbeats 4000000 in
theorem rkept_up (A A0 : Option Addr) (cp c0 B B0 : Nat) (num L : Int) (cs : List Chg) (l0 : List (Int × Int)) (f t : Nat) (w : World) (h : Chs w B A cs) (hB : B ≤ w.heap.size) (hQ : Pairs w B0 A0 l0) (hB0 : B0 ≤ w.heap.size) (ho : RoadOk num L cs) (hf : f ≤ cs.length) (ht : t ≤ cs.length) (hft : f ≤ t) (hF : Full l0) (hK : InK 10000000 l0) (hmet : met l0 ≤ 10000000) :
    Calls Try.prog 61 #[.agg #[.int .i64 num, .int .i64 L, .slice A cs.length cp], .slice A0 l0.length c0, .int .i64 f, .int .i64 t] w (UnRes (keepTo (movesF cs f t) l0 (movesF cs f t).length) w) := by
  have hT := RdBox.new (c := cp) (num := num) (L := L) (T := 24) h hB
  have hal : Below w.heap.size w (w.alloc (.cells #[.int .i64 num, .int .i64 L, .slice A cs.length cp] 24)) := (Below.refl _ _).alloc (Nat.le_refl _) _
  have hQ0 := hQ.below (hal.mono hB0)
  generalize hW : w.alloc (.cells #[.int .i64 num, .int .i64 L, .slice A cs.length cp] 24) = w2 at hT hal hQ0
  have HW := Lib.hid hW
  clear hW h hQ
  have hTz := hT.sz
  have HO := Lib.hid ho
  have h40 := ho.2.2.1
  have HI := Lib.hid (keep_inv (moves_ok ho hf ht) hF hK)
  have HMET := Lib.hid hmet
  have HLEN : Hid ((movesF cs f t).length = t - f) := by refine Lib.hid ?_; rw [movesF_length]; omega
  have HST : Hid (Pairs w2 w2.heap.size A0 l0) := hQ0.more (Nat.le_trans hB0 (Nat.le_of_lt hTz))
  clear ho hF hK hmet hQ0
  go_enter Try.func61, Try.ntmps61
  go_upto_region 1 with fail
  rw [HW.out]
  clear HW
  go_loopw [1, 2] (fun out v wr => ∃ (p k : Nat) (A1 : Option Addr) (c1 : Nat), p = f + k ∧ k ≤ t - f ∧ v = .int .i64 p ∧ out = .slice A1 (keepTo (movesF cs f t) l0 k).length c1 ∧ Pairs wr wr.heap.size A1 (keepTo (movesF cs f t) l0 k) ∧ Below w2.heap.size w2 wr) (fun _ v _ => t - (intOf v).toNat)
  case atStart => exact ⟨f, 0, A0, c0, rfl, Nat.zero_le _, rfl, rfl, HST.out, Below.refl _ _⟩
  case round =>
    clear HST
    obtain ⟨p, k, A1, c1, hp, hk, rfl, rfl, hP, hb⟩ := hrel
    have hT' := hT.below hb hTz
    obtain ⟨-, q0, q1, q2, hl0, hz⟩ := id hT'
    obtain ⟨i1, i2, i3⟩ := HI.out k (by rw [HLEN.out]; exact hk)
    have hlen := met_ge i1
    have hl7 : (keepTo (movesF cs f t) l0 k).length ≤ 10000000 := by have := HMET.out; omega
    have hsm : ∀ p ∈ keepTo (movesF cs f t) l0 k, SmS p := i2.sm (by omega)
    have HSM := Lib.hid hsm
    have HF := Lib.hid i1
    clear i1 i2 i3 hlen hsm
    have HPK := Lib.hid hp
    by_cases hlt : k < t - f
    · have hpt : p < t := by omega
      have hpl : p < cs.length := by omega
      have hstep : keepTo (movesF cs f t) l0 (k + 1) = strTo (mvOf (chAt cs p).fr ((chAt cs p).to - (chAt cs p).fr) (chAt cs p).new) (keepTo (movesF cs f t) l0 k) (keepTo (movesF cs f t) l0 k).length := by
        simp only [keepTo]; rw [mv_up cs hft hlt, hp, ← part_up]; rfl
      have HM : Hid (k + 1 ≤ t - f ∧ p + 1 = f + (k + 1)) := Lib.hid ⟨by omega, by omega⟩
      have HS := Lib.hid hstep
      clear hstep hp hk hlt
      go_wp2_with fail
      refine (rtoward_up p t wr hpt (by omega)).mono ?_
      rintro e w' ⟨rfl, rfl⟩
      go_wp2_with fail
      refine (rstep_up A cp B num L cs p wr hT'.ch (by omega) hpl h40 (ch_bd HO.out hpl)).mono ?_
      rintro e w3 ⟨rfl, hb3⟩
      have hb4 := hb.trans (hb3.mono hb.size)
      have hP3 := hP.below hb3
      clear q0 q1 q2
      have hbd := ch_bd HO.out hpl
      go_wp2_with fail
      refine (rLeft (chAt cs p).fr ((chAt cs p).to - (chAt cs p).fr) (chAt cs p).new A1 c1 wr.heap.size (keepTo (movesF cs f t) l0 k) w3 hP3 hb3.size (by omega) HSM.out hl7).mono ?_
      rintro e w5 ⟨A5, c5, rfl, hP5, hb5⟩
      rw [← HS.out]
      rw [← HS.out] at hP5
      have hb6 := hb4.trans (hb5.mono hb4.size)
      go_wp2_with fail
      exact ⟨⟨p + 1, k + 1, A5, c5, HM.out.2, HM.out.1, by go_num, rfl, hP5, hb6⟩, by simp [intOf]; omega⟩
    · have hkn : k = t - f := by omega
      have hpt : p = t := by omega
      have HKN : Hid (k = (movesF cs f t).length) := Lib.hid (by rw [HLEN.out]; exact hkn)
      subst hpt
      clear hkn hp hlt hk
      go_wp2_with fail
      refine (rJoined A1 c1 wr.heap.size (keepTo (movesF cs f p) l0 k) wr hP (Nat.le_refl _) hl7).mono ?_
      rintro e w5 hu
      obtain ⟨us, A3, c3, n1, n2, n3, rfl, hP3, hb3⟩ := hu.norm HF.out
      have hbf := hal.trans ((hb.trans (hb3.mono hb.size)).mono hal.size)
      go_wp2
      go_ret
      exact ⟨us, A3, c3, n1, HKN.out ▸ n2, HKN.out ▸ n3, rfl, hP3, hbf⟩
set_option maxRecDepth 100000 in
set_option maxHeartbeats 4000000 in
theorem rkept_down (A A0 : Option Addr) (cp c0 B B0 : Nat) (num L : Int) (cs : List Chg) (l0 : List (Int × Int)) (f t : Nat) (w : World) (h : Chs w B A cs) (hB : B ≤ w.heap.size) (hQ : Pairs w B0 A0 l0) (hB0 : B0 ≤ w.heap.size) (ho : RoadOk num L cs) (hf : f ≤ cs.length) (ht : t ≤ cs.length) (hft : t ≤ f) (hF : Full l0) (hK : InK 10000000 l0) (hmet : met l0 ≤ 10000000) :
    Calls Try.prog 61 #[.agg #[.int .i64 num, .int .i64 L, .slice A cs.length cp], .slice A0 l0.length c0, .int .i64 f, .int .i64 t] w (UnRes (keepTo (movesF cs f t) l0 (movesF cs f t).length) w) := by
  have hT := RdBox.new (c := cp) (num := num) (L := L) (T := 24) h hB
  have hal : Below w.heap.size w (w.alloc (.cells #[.int .i64 num, .int .i64 L, .slice A cs.length cp] 24)) := (Below.refl _ _).alloc (Nat.le_refl _) _
  have hQ0 := hQ.below (hal.mono hB0)
  generalize hW : w.alloc (.cells #[.int .i64 num, .int .i64 L, .slice A cs.length cp] 24) = w2 at hT hal hQ0
  have HW := Lib.hid hW
  clear hW h hQ
  have hTz := hT.sz
  have HO := Lib.hid ho
  have h40 := ho.2.2.1
  have HI := Lib.hid (keep_inv (moves_ok ho hf ht) hF hK)
  have HMET := Lib.hid hmet
  have HLEN : Hid ((movesF cs f t).length = f - t) := by refine Lib.hid ?_; rw [movesF_length]; omega
  have HST : Hid (Pairs w2 w2.heap.size A0 l0) := hQ0.more (Nat.le_trans hB0 (Nat.le_of_lt hTz))
  clear ho hF hK hmet hQ0
  go_enter Try.func61, Try.ntmps61
  go_upto_region 1 with fail
  rw [HW.out]
  clear HW
  go_loopw [1, 2] (fun out v wr => ∃ (p k : Nat) (A1 : Option Addr) (c1 : Nat), f = p + k ∧ k ≤ f - t ∧ v = .int .i64 p ∧ out = .slice A1 (keepTo (movesF cs f t) l0 k).length c1 ∧ Pairs wr wr.heap.size A1 (keepTo (movesF cs f t) l0 k) ∧ Below w2.heap.size w2 wr) (fun _ v _ => (intOf v).toNat - t)
  case atStart => exact ⟨f, 0, A0, c0, rfl, Nat.zero_le _, rfl, rfl, HST.out, Below.refl _ _⟩
  case round =>
    clear HST
    obtain ⟨p, k, A1, c1, hp, hk, rfl, rfl, hP, hb⟩ := hrel
    have hT' := hT.below hb hTz
    obtain ⟨-, q0, q1, q2, hl0, hz⟩ := id hT'
    obtain ⟨i1, i2, i3⟩ := HI.out k (by rw [HLEN.out]; exact hk)
    have hlen := met_ge i1
    have hl7 : (keepTo (movesF cs f t) l0 k).length ≤ 10000000 := by have := HMET.out; omega
    have hsm : ∀ p ∈ keepTo (movesF cs f t) l0 k, SmS p := i2.sm (by omega)
    have HSM := Lib.hid hsm
    have HF := Lib.hid i1
    clear i1 i2 i3 hlen hsm
    have HPK := Lib.hid hp
    by_cases hlt : k < f - t
    · obtain ⟨p, rfl⟩ : ∃ p', p = p' + 1 := ⟨p - 1, by omega⟩
      have hpt : t ≤ p := by omega
      have hpl : p < cs.length := by omega
      have hstep : keepTo (movesF cs f t) l0 (k + 1) = strTo (mvOf (chAt cs p).fr (chAt cs p).new ((chAt cs p).to - (chAt cs p).fr)) (keepTo (movesF cs f t) l0 k) (keepTo (movesF cs f t) l0 k).length := by
        simp only [keepTo]; rw [mv_down cs hft hlt, show f - 1 - k = p by omega, ← part_down]; rfl
      have HM : Hid (k + 1 ≤ f - t ∧ f = p + (k + 1)) := Lib.hid ⟨by omega, by omega⟩
      have HS := Lib.hid hstep
      clear hstep hp hk hlt
      go_wp2_with fail
      refine (rtoward_down p t wr hpt (by omega)).mono ?_
      rintro e w' ⟨rfl, rfl⟩
      go_wp2_with fail
      refine (rstep_down A cp B num L cs p wr hT'.ch (by omega) hpl h40 (ch_bd HO.out hpl)).mono ?_
      rintro e w3 ⟨rfl, hb3⟩
      have hb4 := hb.trans (hb3.mono hb.size)
      have hP3 := hP.below hb3
      clear q0 q1 q2
      have hbd := ch_bd HO.out hpl
      go_wp2_with fail
      refine (rLeft (chAt cs p).fr (chAt cs p).new ((chAt cs p).to - (chAt cs p).fr) A1 c1 wr.heap.size (keepTo (movesF cs f t) l0 k) w3 hP3 hb3.size (by omega) HSM.out hl7).mono ?_
      rintro e w5 ⟨A5, c5, rfl, hP5, hb5⟩
      rw [← HS.out]
      rw [← HS.out] at hP5
      have hb6 := hb4.trans (hb5.mono hb4.size)
      go_wp2_with fail
      exact ⟨⟨p, k + 1, A5, c5, HM.out.2, HM.out.1, by go_num, rfl, hP5, hb6⟩, by simp [intOf]; omega⟩
    · have hkn : k = f - t := by omega
      have hpt : p = t := by omega
      have HKN : Hid (k = (movesF cs f t).length) := Lib.hid (by rw [HLEN.out]; exact hkn)
      subst hpt
      clear hkn hp hlt hk
      go_wp2_with fail
      refine (rJoined A1 c1 wr.heap.size (keepTo (movesF cs f p) l0 k) wr hP (Nat.le_refl _) hl7).mono ?_
      rintro e w5 hu
      obtain ⟨us, A3, c3, n1, n2, n3, rfl, hP3, hb3⟩ := hu.norm HF.out
      have hbf := hal.trans ((hb.trans (hb3.mono hb.size)).mono hal.size)
      go_wp2
      go_ret
      exact ⟨us, A3, c3, n1, HKN.out ▸ n2, HKN.out ▸ n3, rfl, hP3, hbf⟩
theorem rkept (A A0 : Option Addr) (cp c0 B B0 : Nat) (num L : Int) (cs : List Chg) (l0 : List (Int × Int)) (f t : Nat) (w : World) (h : Chs w B A cs) (hB : B ≤ w.heap.size) (hQ : Pairs w B0 A0 l0) (hB0 : B0 ≤ w.heap.size) (ho : RoadOk num L cs) (hf : f ≤ cs.length) (ht : t ≤ cs.length) (hF : Full l0) (hK : InK 10000000 l0) (hmet : met l0 ≤ 10000000) :
    Calls Try.prog 61 #[.agg #[.int .i64 num, .int .i64 L, .slice A cs.length cp], .slice A0 l0.length c0, .int .i64 f, .int .i64 t] w (UnRes (keepTo (movesF cs f t) l0 (movesF cs f t).length) w) := by
  by_cases hft : f ≤ t
  · exact rkept_up A A0 cp c0 B B0 num L cs l0 f t w h hB hQ hB0 ho hf ht hft hF hK hmet
  · exact rkept_down A A0 cp c0 B B0 num L cs l0 f t w h hB hQ hB0 ho hf ht (by omega) hF hK hmet
end Go.Proofs.Ytoknkmlkeacgjaa
