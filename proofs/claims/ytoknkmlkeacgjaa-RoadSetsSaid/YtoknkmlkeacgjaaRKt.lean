/- Contract of the reference's Kept. -/
import Derived.Test.YtoknkmlkeacgjaaRKp
namespace Go.Proofs.Ytoknkmlkeacgjaa
open Go.RowKit
set_option maxRecDepth 100000 in
set_option maxHeartbeats 2000000 in
theorem rKept (A : Option Addr) (cp B : Nat) (num L : Int) (cs : List Chg) (s : Int × Int) (f t : Int) (w : World) (h : Chs w B A cs) (hB : B ≤ w.heap.size) (hn : cs.length ≤ 9223372036854775807) :
    Calls Try.prog 23 #[.agg #[.int .i64 num, .int .i64 L, .slice A cs.length cp], .agg #[.int .i64 s.1, .int .i64 s.2], .int .i64 f, .int .i64 t] w (KeptRes num L cs s f t w) := by
  have hT := RdBox.new (c := cp) (num := num) (L := L) (T := 24) h hB
  have hal : Below w.heap.size w (w.alloc (.cells #[.int .i64 num, .int .i64 L, .slice A cs.length cp] 24)) := (Below.refl _ _).alloc (Nat.le_refl _) _
  generalize hW : w.alloc (.cells #[.int .i64 num, .int .i64 L, .slice A cs.length cp] 24) = w0 at hT hal
  have hz : w0.heap.size = w.heap.size + 1 := by rw [← hW]; simp
  have hT' := hT.below ((Below.refl w0.heap.size w0).alloc (Nat.le_refl _) (.cells #[.int .i64 s.1, .int .i64 s.2] 33)) hT.sz
  have hal' := hal.alloc hal.size (.cells #[.int .i64 s.1, .int .i64 s.2] 33)
  have y0 : (w0.alloc (.cells #[.int .i64 s.1, .int .i64 s.2] 33)).cell? ⟨w.heap.size + 1, 0, none⟩ = some (.int .i64 s.1) := by rw [← hz]; simp [go_sem]
  have y1 : (w0.alloc (.cells #[.int .i64 s.1, .int .i64 s.2] 33)).cell? ⟨w.heap.size + 1, 1, none⟩ = some (.int .i64 s.2) := by rw [← hz]; simp [go_sem]
  generalize hW1 : w0.alloc (.cells #[.int .i64 s.1, .int .i64 s.2] 33) = w1 at hT' hal' y0 y1
  have hz1 : w1.heap.size = w.heap.size + 2 := by rw [← hW1]; simp [hz]
  have HW := Lib.hid hW
  have HW1 := Lib.hid hW1
  clear hW hW1 h hT hal
  obtain ⟨-, q0, q1, q2, -, _⟩ := id hT'
  have HZ := Lib.hid hz1
  have hy : w.heap.size + 1 < w1.heap.size := by omega
  clear hz hz1
  go_enter Try.func23, Try.ntmps23
  go_upto_region 1 with fail
  rw [HW.out, HW1.out]
  go_wp2_with fail
  clear HW HW1
  refine (rVersions A cp B num L cs f t w1 hT'.ch (by have := hT'.lt; have := hT'.sz; omega) hn).mono ?_
  rintro e w2 ⟨r1, r2, r3, hb2⟩
  have hT2 := hT'.below hb2 hT'.sz
  have hal2 := hal'.trans (hb2.mono hal'.size)
  replace y0 := (hb2.cell (p := ⟨w.heap.size + 1, 0, none⟩) hy).trans y0
  replace y1 := (hb2.cell (p := ⟨w.heap.size + 1, 1, none⟩) hy).trans y1
  replace hy := Nat.lt_of_lt_of_le hy hb2.size
  clear q0 q1 q2 hb2 hal'
  obtain ⟨-, q0, q1, q2, -, _⟩ := id hT2
  by_cases ho : RoadOk num L cs
  · have HO := Lib.hid ho
    by_cases hv : VersOk cs f t
    · obtain ⟨A', c', rfl, hI⟩ := r3 ho hv
      obtain ⟨⟨v0, v1⟩, v2, v3⟩ := id hv
      have HV := Lib.hid hv
      obtain ⟨fn, rfl⟩ := Int.eq_ofNat_of_zero_le v0
      obtain ⟨tn, rfl⟩ := Int.eq_ofNat_of_zero_le v2
      have h40 := ho.2.2.1
      clear r1 r2 r3 ho hv hT'
      obtain ⟨b, off, hA, hbb, hc⟩ := hI.at_ (k := fn) (by rw [lens_length]; omega)
      have u0 := hc fn (by rw [lens_length]; omega)
      rw [lens_at L cs (by omega)] at u0
      subst hA
      clear hc
      have hlb := lenAt_bd HO.out.2.1.1 HO.out.2.1.2 fn (fun j hj => HO.out.2.2.2 j (by omega))
      obtain ⟨n0, n1⟩ := hlb
      have v4 : (fn : Int) < (cs.length : Int) + 1 := by omega
      have v5 : fn < cs.length + 1 := by omega
      have v6 : fn ≤ cs.length := by omega
      by_cases k0 : 0 ≤ s.1
      rotate_left
      · have HS : Hid (¬ SpOk L cs s fn) := fun hh => k0 hh.1
        go_wp2_with fail
        go_quiet (fail)
        go_wp2_with fail
        go_ret2
        exact ⟨fun hh => absurd HO.out hh, fun _ hh => absurd HV.out hh, fun _ _ _ => rfl, fun _ _ hh => absurd hh HS.out, below_drewN hal2 _⟩
      by_cases k1 : s.1 < s.2
      rotate_left
      · have HS : Hid (¬ SpOk L cs s fn) := fun hh => k1 hh.2.1
        go_wp2_with fail
        go_quiet (fail)
        go_wp2_with fail
        go_ret2
        exact ⟨fun hh => absurd HO.out hh, fun _ hh => absurd HV.out hh, fun _ _ _ => rfl, fun _ _ hh => absurd hh HS.out, below_drewN hal2 _⟩
      by_cases k2 : s.2 ≤ lenAt L cs fn
      rotate_left
      · have HS : Hid (¬ SpOk L cs s fn) := fun hh => k2 hh.2.2
        go_wp2_with fail
        go_quiet (fail)
        go_wp2_with fail
        go_ret2
        exact ⟨fun hh => absurd HO.out hh, fun _ hh => absurd HV.out hh, fun _ _ _ => rfl, fun _ _ hh => absurd hh HS.out, below_drewN hal2 _⟩
      have HS : Hid (SpOk L cs s fn) := ⟨k0, k1, k2⟩
      go_wp2_with fail
      go_quiet (fail)
      clear u0
      go_upto_region 6 with fail
      have hbq : Below w2.heap.size w2 (w2.drewN nq) := below_drewN (Below.refl w2.heap.size w2) nq
      have hal3 := below_drewN hal2 nq
      have hT3 := hT2.below hbq hT2.sz
      replace y0 := (hbq.cell (p := ⟨w.heap.size + 1, 0, none⟩) hy).trans y0
      replace y1 := (hbq.cell (p := ⟨w.heap.size + 1, 1, none⟩) hy).trans y1
      replace hy := Nat.lt_of_lt_of_le hy hbq.size
      have HK := Lib.hid hal3
      generalize w2.drewN nq = w3 at *
      clear q0 q1 q2 hT2 hal2 hbq hI hbb hal3
      obtain ⟨-, q0, q1, q2, -, _⟩ := id hT3
      have hzz := hT3.sz
      have hBz : B ≤ w3.heap.size := by have := hT3.lt; omega
      have hft : fn ≤ cs.length ∧ tn ≤ cs.length := ⟨by omega, by omega⟩
      have hsl : s.2 ≤ 10000000 := by omega
      clear n0 n1 k2 v0 v1 v2 v3 v4 v5 v6
      have hF : Full [s] := fun p hp => by rw [List.mem_singleton.1 hp]; exact k1
      have hKK : InK 10000000 [s] := fun p hp => by rw [List.mem_singleton.1 hp]; omega
      have hmt : met [s] ≤ 10000000 := by simp only [met]; omega
      have hbl := (Below.refl w3.heap.size w3).alloc (Nat.le_refl _) (.cells #[.int .i64 s.1, .int .i64 s.2] 33)
      have hP1 := one_pair w3 s.1 s.2 33 rfl
      have hT4 := hT3.below hbl hzz
      go_wp2_with fail
      have hz5 := hbl.size
      refine (rkept A (some ⟨w3.heap.size, 0, none⟩) cp 1 B (w3.alloc (.cells #[.int .i64 s.1, .int .i64 s.2] 33)).heap.size num L cs [s] fn tn _ hT4.ch (Nat.le_trans hBz hz5) hP1 (Nat.le_refl _) HO.out hft.1 hft.2 hF hKK hmt).mono ?_
      rintro e wk ⟨us, Ak, ck, n1, n2, n3, rfl, hP, hbk⟩
      have hlen := (keep_len (moves_ok HO.out hft.1 hft.2) k1 k0 hsl).2
      have hfin := HK.out.trans ((hbl.trans (hbk.mono hbl.size)).mono HK.out.size)
      go_wp2
      go_ret2
      exact ⟨fun hh => absurd HO.out hh, fun _ hh => absurd HV.out hh, fun _ _ hh => absurd HS.out hh, fun _ _ _ => ⟨us, Ak, ck, ⟨n1, n2, Nat.le_trans n3 hlen⟩, rfl, hP⟩, hfin⟩
    · rw [r2 ho hv]
      have HV := Lib.hid hv
      clear r1 r2 r3 ho hv
      go_wp2
      go_ret2
      exact ⟨fun hh => absurd HO.out hh, fun _ _ => rfl, fun _ hh => absurd hh HV.out, fun _ hh => absurd hh HV.out, hal2⟩
  · rw [r1 ho]
    have HO := Lib.hid ho
    clear r1 r2 r3 ho
    go_wp2
    go_ret2
    exact ⟨fun _ => rfl, fun hh => absurd hh HO.out, fun hh => absurd hh HO.out, fun hh => absurd hh HO.out, hal2⟩
end Go.Proofs.Ytoknkmlkeacgjaa
