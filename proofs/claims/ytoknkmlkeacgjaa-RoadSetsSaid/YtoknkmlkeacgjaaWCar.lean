/- The walk of RoadCarries. -/
import Derived.Test.YtoknkmlkeacgjaaRCr
import Derived.Test.YtoknkmlkeacgjaaAwk
namespace Go.Proofs.Ytoknkmlkeacgjaa
open Go.RowKit
theorem lmany (A : Option Addr) (cp : Nat) (num L : Int) (cs : List Chg) (w : World) : Calls Try.prog 16 #[.agg #[.int .i64 num, .int .i64 L, .slice A cs.length cp]] w fun e w' => e = .returned (.bool (decide (60 < cs.length))) ∧ Below w.heap.size w w' := by
  have hal : Below w.heap.size w (w.alloc (.cells #[.int .i64 num, .int .i64 L, .slice A cs.length cp] 24)) := (Below.refl _ _).alloc (Nat.le_refl _) _
  by_cases h : 60 < cs.length
  · go_enter Try.func16, Try.ntmps16
    go_wp2
    go_ret
    exact ⟨by simp [h]; omega, hal⟩
  · go_enter Try.func16, Try.ntmps16
    go_wp2
    go_ret
    exact ⟨by simp [h]; omega, hal⟩
/-- Two ints in a box. -/
structure WyBox (W : World) (n : Nat) (f t : Int) : Prop where
  p0 : W.cell? ⟨n, 0, none⟩ = some (.int .i64 f)
  p1 : W.cell? ⟨n, 1, none⟩ = some (.int .i64 t)
  pz : n < W.heap.size
theorem WyBox.below {W W' : World} {n C : Nat} {f t : Int} (h : WyBox W n f t) (hb : Below C W W') (hC : n < C) : WyBox W' n f t :=
  ⟨(hb.cell (p := ⟨n, 0, none⟩) hC).trans h.p0, (hb.cell (p := ⟨n, 1, none⟩) hC).trans h.p1, Nat.lt_of_lt_of_le h.pz hb.size⟩
theorem WyBox.new (w : World) (f t : Int) (T : TypeId) {n : Nat} (hn : w.heap.size = n) : WyBox (w.alloc (.cells #[.int .i64 f, .int .i64 t] T)) n f t := by
  subst hn
  exact ⟨by simp [go_sem], by simp [go_sem], by simp⟩
set_option maxRecDepth 100000 in
set_option maxHeartbeats 2000000 in
theorem wCarries (A : Option Addr) (cp B : Nat) (num L : Int) (cs : List Chg) (c f t : Int) (w : World) (h : Chs w B A cs) (hB : B ≤ w.heap.size) (hn : cs.length ≤ 9223372036854775807) :
    Calls Try.prog 3 #[.agg #[.int .i64 num, .int .i64 L, .slice A cs.length cp], .int .i64 c, .agg #[.int .i64 f, .int .i64 t]] w fun e w' => e = .returned (.bool true) ∧ Below w.heap.size w w' := by
  have hT := RdBox.new (c := cp) (num := num) (L := L) (T := 24) h hB
  have hal : Below w.heap.size w (w.alloc (.cells #[.int .i64 num, .int .i64 L, .slice A cs.length cp] 24)) := (Below.refl _ _).alloc (Nat.le_refl _) _
  generalize hW : w.alloc (.cells #[.int .i64 num, .int .i64 L, .slice A cs.length cp] 24) = w0 at hT hal
  have hz0 : w0.heap.size = w.heap.size + 1 := by rw [← hW]; simp
  have hT1 := hT.below ((Below.refl w0.heap.size w0).alloc (Nat.le_refl _) (.cells #[.int .i64 f, .int .i64 t] 26)) hT.sz
  have hY := WyBox.new w0 f t 26 hz0
  have hal1 := hal.alloc hal.size (.cells #[.int .i64 f, .int .i64 t] 26)
  generalize hW1 : w0.alloc (.cells #[.int .i64 f, .int .i64 t] 26) = w1 at *
  have HW := Lib.hid hW
  have HW1 := Lib.hid hW1
  clear hW hW1 hT hal h hz0
  obtain ⟨-, q0, q1, q2, hl0, hz⟩ := id hT1
  go_enter Try.func3, Try.ntmps3
  go_upto_region 1 with fail
  rw [HW.out, HW1.out]
  clear HW HW1
  go_wp2_with fail
  refine (lmany A cp num L cs w1).mono ?_
  rintro e w2 ⟨rfl, hb2⟩
  have hT2 := hT1.below hb2 hz
  have hY2 := hY.below hb2 hY.pz
  have hal2 := hal1.trans (hb2.mono hal1.size)
  clear q0 q1 q2 hz hT1 hY hal1 hb2
  by_cases hm : 60 < cs.length
  · have hd : decide (60 < cs.length) = true := by simp [hm]
    rw [hd]
    go_wp2_with fail
    refine (lAwake w2).mono ?_
    rintro e w5 ⟨rfl, hb5⟩
    go_wp2
    go_ret
    exact ⟨rfl, hal2.trans (hb5.mono hal2.size)⟩
  · have hd : decide (60 < cs.length) = false := by simp [hm]
    rw [hd]
    clear hd hm
    obtain ⟨v, er, _, HV⟩ := carry_any num L cs c f t
    have HVV := Lib.hid HV
    clear HV
    obtain ⟨-, q0, q1, q2, -, hz⟩ := id hT2
    obtain ⟨p0, p1, pz⟩ := id hY2
    go_wp2_with fail
    refine (lCarry A cp B num L cs c f t w2 hT2.ch (by omega) hn).mono ?_
    rintro e w3 ⟨v', er', hv, rfl, hb3⟩
    obtain ⟨rfl, rfl⟩ := HVV.out _ _ hv
    clear hv
    have hT3 := hT2.below hb3 hz
    have hY3 := hY2.below hb3 pz
    have hal3 := hal2.trans (hb3.mono hal2.size)
    clear q0 q1 q2 hz p0 p1 pz hT2 hY2 hal2 hb3
    obtain ⟨-, q0, q1, q2, -, hz⟩ := id hT3
    obtain ⟨p0, p1, pz⟩ := id hY3
    go_wp2_with fail
    refine (rCarry A cp B num L cs c f t w3 hT3.ch (by omega) hn).mono ?_
    rintro e w4 ⟨v', er', hv, rfl, hb4⟩
    obtain ⟨rfl, rfl⟩ := HVV.out _ _ hv
    clear hv
    have hal4 := hal3.trans (hb4.mono hal3.size)
    clear q0 q1 q2 hz p0 p1 pz hT3 hY3 hal3 hb4
    go_wp2_with fail
    refine (lAwake w4).mono ?_
    rintro e w5 ⟨rfl, hb5⟩
    go_wp2
    go_ret
    exact ⟨rfl, hal4.trans (hb5.mono hal4.size)⟩
end Go.Proofs.Ytoknkmlkeacgjaa
