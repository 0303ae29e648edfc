/- The walk of RoadKept. -/
import Derived.Test.YtoknkmlkeacgjaaRKt
import Derived.Test.YtoknkmlkeacgjaaGon
import Derived.Test.YtoknkmlkeacgjaaWCar
namespace Go.Proofs.Ytoknkmlkeacgjaa
open Go.RowKit
set_option maxRecDepth 100000 in
set_option maxHeartbeats 4000000 in
theorem lSameSpansL (A A' : Option Addr) (c c' B B' : Nat) (xs : List (Int × Int)) (w : World) (h : Pairs w B A xs) (h' : Pairs w B' A' xs) (hn : xs.length ≤ 10000000) :
    Calls Try.prog 26 #[.slice A xs.length c, .slice A' xs.length c'] w fun e w' => e = .returned (.bool true) ∧ Drew w w' := by
  go_enter Try.func26, Try.ntmps26
  go_wp2
  go_loopw [5] (fun i wr => ∃ k : Nat, k ≤ xs.length ∧ i = .int .i64 k ∧ Drew w wr) (fun i _ => xs.length - (intOf i).toNat)
  case atStart => exact ⟨0, Nat.zero_le _, rfl, Drew.refl _⟩
  case round =>
    obtain ⟨k, hk, rfl, hd⟩ := hrel
    by_cases hlt : k < xs.length
    · obtain ⟨b, o, rfl, _, hc⟩ := (h.keep fun p _ => hd.cell p).at_ hlt
      obtain ⟨x1, x2⟩ := hc k hlt
      obtain ⟨b', o', hA', _, hc'⟩ := (h'.keep fun p _ => hd.cell p).at_ hlt
      obtain ⟨y1, y2⟩ := hc' k hlt
      clear hc hc' h h'
      subst hA'
      go_wp2_with fail
      go_quiet (fail)
      go_wp2
      exact ⟨⟨k + 1, by omega, by go_num, hd.drewN nq⟩, by simp [intOf]; omega⟩
    · go_wp2
      go_ret
      exact ⟨rfl, hd⟩
theorem kept_bad {num L : Int} {cs : List Chg} {s : Int × Int} {f t : Int} (h : ¬ (RoadOk num L cs ∧ VersOk cs f t ∧ SpOk L cs s f.toNat)) : ∃ er : Int, ∀ (w w' : World) (e : Ending), KeptRes num L cs s f t w e w' → e = .returned (.tuple #[.slice none 0 0, .int .i64 er]) ∧ Below w.heap.size w w' := by
  by_cases ho : RoadOk num L cs
  · by_cases hv : VersOk cs f t
    · exact ⟨2, fun w w' e hh => ⟨hh.2.2.1 ho hv (fun hs => h ⟨ho, hv, hs⟩), hh.2.2.2.2⟩⟩
    · exact ⟨61, fun w w' e hh => ⟨hh.2.1 ho hv, hh.2.2.2.2⟩⟩
  · exact ⟨60, fun w w' e hh => ⟨hh.1 ho, hh.2.2.2.2⟩⟩
set_option maxRecDepth 100000 in
set_option maxHeartbeats 8000000 in
theorem wKept (A : Option Addr) (cp B : Nat) (num L : Int) (cs : List Chg) (s : Int × Int) (f t : Int) (w : World) (h : Chs w B A cs) (hB : B ≤ w.heap.size) (hn : cs.length ≤ 9223372036854775807) :
    Calls Try.prog 6 #[.agg #[.int .i64 num, .int .i64 L, .slice A cs.length cp], .agg #[.int .i64 s.1, .int .i64 s.2], .agg #[.int .i64 f, .int .i64 t]] w fun e w' => e = .returned (.bool true) ∧ Below w.heap.size w w' := by
  have hT := RdBox.new (c := cp) (num := num) (L := L) (T := 24) h hB
  have hal : Below w.heap.size w (w.alloc (.cells #[.int .i64 num, .int .i64 L, .slice A cs.length cp] 24)) := (Below.refl _ _).alloc (Nat.le_refl _) _
  generalize hW : w.alloc (.cells #[.int .i64 num, .int .i64 L, .slice A cs.length cp] 24) = w0 at hT hal
  have hz0 : w0.heap.size = w.heap.size + 1 := by rw [← hW]; simp
  have hT1 := hT.below ((Below.refl w0.heap.size w0).alloc (Nat.le_refl _) (.cells #[.int .i64 s.1, .int .i64 s.2] 33)) hT.sz
  have hS1 := WyBox.new w0 s.1 s.2 33 hz0
  have hal1 := hal.alloc hal.size (.cells #[.int .i64 s.1, .int .i64 s.2] 33)
  generalize hW1 : w0.alloc (.cells #[.int .i64 s.1, .int .i64 s.2] 33) = w1 at *
  have hz1 : w1.heap.size = w.heap.size + 2 := by rw [← hW1]; simp [hz0]
  have hT2 := hT1.below ((Below.refl w1.heap.size w1).alloc (Nat.le_refl _) (.cells #[.int .i64 f, .int .i64 t] 26)) hT1.sz
  have hS2 := hS1.below ((Below.refl w1.heap.size w1).alloc (Nat.le_refl _) (.cells #[.int .i64 f, .int .i64 t] 26)) hS1.pz
  have hY2 := WyBox.new w1 f t 26 hz1
  have hal2 := hal1.alloc hal1.size (.cells #[.int .i64 f, .int .i64 t] 26)
  generalize hW2 : w1.alloc (.cells #[.int .i64 f, .int .i64 t] 26) = w2 at *
  have HW := Lib.hid hW
  have HW1 := Lib.hid hW1
  have HW2 := Lib.hid hW2
  clear hW hW1 hW2 hT hal h hz0 hz1 hT1 hS1 hal1
  obtain ⟨-, q0, q1, q2, hl0, hz⟩ := id hT2
  obtain ⟨p0, p1, pz⟩ := id hY2
  obtain ⟨x0, x1, xz⟩ := id hS2
  go_enter Try.func6, Try.ntmps6
  go_upto_region 1 with fail
  rw [HW.out, HW1.out, HW2.out]
  clear HW HW1 HW2
  go_wp2_with fail
  refine (lmany A cp num L cs w2).mono ?_
  rintro e w3 ⟨rfl, hb3⟩
  have hT3 := hT2.below hb3 hT2.sz
  have hS3 := hS2.below hb3 hS2.pz
  have hY3 := hY2.below hb3 hY2.pz
  have hal3 := hal2.trans (hb3.mono hal2.size)
  clear hT2 hS2 hY2 hal2 hb3
  clear q0 q1 q2 hz p0 p1 pz x0 x1 xz
  obtain ⟨-, q0, q1, q2, hl0, hz⟩ := id hT3
  obtain ⟨p0, p1, pz⟩ := id hY3
  obtain ⟨x0, x1, xz⟩ := id hS3
  by_cases hm : 60 < cs.length
  · have hd : decide (60 < cs.length) = true := by simp [hm]
    rw [hd]
    go_wp2_with fail
    refine (lAwake _).mono ?_
    rintro e w9 ⟨rfl, hb9⟩
    go_wp2
    go_ret
    exact ⟨rfl, hal3.trans (hb9.mono hal3.size)⟩
  have hd : decide (60 < cs.length) = false := by simp [hm]
  rw [hd]
  clear hd hm
  by_cases hok : RoadOk num L cs ∧ VersOk cs f t ∧ SpOk L cs s f.toNat
  · obtain ⟨ho, hv, hs⟩ := hok
    have HO := Lib.hid ho
    have HV := Lib.hid hv
    have HS := Lib.hid hs
    clear ho hv hs
    go_wp2_with fail
    refine (lKept A cp B num L cs s f t w3 hT3.ch (by omega) hn).mono ?_
    rintro e w4 ⟨_, _, _, hk1, hb4⟩
    obtain ⟨us, A1, c1, ⟨n1, n2, n3⟩, rfl, hP1⟩ := hk1 HO.out HV.out HS.out
    clear hk1
    have N1 := Lib.hid n1
    have N2 := Lib.hid n2
    clear n1 n2
    have hT4 := hT3.below hb4 hT3.sz
    have hS4 := hS3.below hb4 hS3.pz
    have hY4 := hY3.below hb4 hY3.pz
    have hal4 := hal3.trans (hb4.mono hal3.size)
    clear hT3 hS3 hY3 hal3 hb4
    clear q0 q1 q2 hz p0 p1 pz x0 x1 xz
    obtain ⟨-, q0, q1, q2, hl0, hz⟩ := id hT4
    obtain ⟨p0, p1, pz⟩ := id hY4
    obtain ⟨x0, x1, xz⟩ := id hS4
    go_wp2_with fail
    refine (rKept A cp B num L cs s f t w4 hT4.ch (by omega) hn).mono ?_
    rintro e w5 ⟨_, _, _, hk2, hb5⟩
    obtain ⟨us', A2, c2, ⟨m1, m2, _⟩, rfl, hP2⟩ := hk2 HO.out HV.out HS.out
    have hus : us = us' := norm_unique N1.out m1 fun c => by rw [N2.out c, m2 c]
    subst hus
    clear hk2 m1 m2 N1 N2
    replace hP1 := hP1.below hb5
    replace hP1 := hP1.more hb5.size
    have hT5 := hT4.below hb5 hT4.sz
    have hS5 := hS4.below hb5 hS4.pz
    have hY5 := hY4.below hb5 hY4.pz
    have hal5 := hal4.trans (hb5.mono hal4.size)
    clear hT4 hS4 hY4 hal4 hb5
    clear q0 q1 q2 hz p0 p1 pz x0 x1 xz
    obtain ⟨-, q0, q1, q2, hl0, hz⟩ := id hT5
    obtain ⟨p0, p1, pz⟩ := id hY5
    obtain ⟨x0, x1, xz⟩ := id hS5
    go_wp2_with fail
    refine (lGone A cp B num L cs f t w5 hT5.ch (by omega) hn).mono ?_
    intro e w6 hg1
    obtain ⟨_, gv, ger, rfl⟩ := gone_same hg1 hg1
    have hb6 := hg1.2.2.2.2
    have HG1 := Lib.hid hg1
    clear hg1
    replace hP1 := (hP1.below hb6).more hb6.size
    replace hP2 := (hP2.below hb6).more hb6.size
    have hT6 := hT5.below hb6 hT5.sz
    have hS6 := hS5.below hb6 hS5.pz
    have hY6 := hY5.below hb6 hY5.pz
    have hal6 := hal5.trans (hb6.mono hal5.size)
    clear hT5 hS5 hY5 hal5 hb6
    clear q0 q1 q2 hz p0 p1 pz x0 x1 xz
    obtain ⟨-, q0, q1, q2, hl0, hz⟩ := id hT6
    obtain ⟨p0, p1, pz⟩ := id hY6
    obtain ⟨x0, x1, xz⟩ := id hS6
    go_wp2_with fail
    refine (rGone A cp B num L cs f t w6 hT6.ch (by omega) hn).mono ?_
    intro e w7 hg2
    obtain ⟨rfl, _⟩ := gone_same HG1.out hg2
    have hb7 := hg2.2.2.2.2
    clear hg2 HG1
    replace hP1 := (hP1.below hb7).more hb7.size
    replace hP2 := (hP2.below hb7).more hb7.size
    have hT7 := hT6.below hb7 hT6.sz
    have hS7 := hS6.below hb7 hS6.pz
    have hY7 := hY6.below hb7 hY6.pz
    have hal7 := hal6.trans (hb7.mono hal6.size)
    clear hT6 hS6 hY6 hal6 hb7
    clear q0 q1 q2 hz p0 p1 pz x0 x1 xz
    obtain ⟨-, q0, q1, q2, hl0, hz⟩ := id hT7
    obtain ⟨p0, p1, pz⟩ := id hY7
    obtain ⟨x0, x1, xz⟩ := id hS7
    go_wp2_with fail
    refine (lSameSpansL A1 A2 c1 c2 _ _ us w7 hP1 hP2 n3).mono ?_
    rintro e w8 ⟨rfl, hd8⟩
    have hal8 := hal7.trans (hd8.below _)
    go_wp2_with fail
    refine (lAwake _).mono ?_
    rintro e w9 ⟨rfl, hb9⟩
    go_wp2
    go_ret
    exact ⟨rfl, hal8.trans (hb9.mono hal8.size)⟩
  · obtain ⟨er, hkb⟩ := kept_bad hok
    have HKB := Lib.hid hkb
    clear hkb hok
    go_wp2_with fail
    refine (lKept A cp B num L cs s f t w3 hT3.ch (by omega) hn).mono ?_
    intro e w4 hh
    obtain ⟨rfl, hb4⟩ := HKB.out _ _ _ hh
    clear hh
    have hT4 := hT3.below hb4 hT3.sz
    have hS4 := hS3.below hb4 hS3.pz
    have hY4 := hY3.below hb4 hY3.pz
    have hal4 := hal3.trans (hb4.mono hal3.size)
    clear hT3 hS3 hY3 hal3 hb4
    clear q0 q1 q2 hz p0 p1 pz x0 x1 xz
    obtain ⟨-, q0, q1, q2, hl0, hz⟩ := id hT4
    obtain ⟨p0, p1, pz⟩ := id hY4
    obtain ⟨x0, x1, xz⟩ := id hS4
    go_wp2_with fail
    refine (rKept A cp B num L cs s f t w4 hT4.ch (by omega) hn).mono ?_
    intro e w5 hh
    obtain ⟨rfl, hb5⟩ := HKB.out _ _ _ hh
    clear hh HKB
    have hT5 := hT4.below hb5 hT4.sz
    have hS5 := hS4.below hb5 hS4.pz
    have hY5 := hY4.below hb5 hY4.pz
    have hal5 := hal4.trans (hb5.mono hal4.size)
    clear hT4 hS4 hY4 hal4 hb5
    clear q0 q1 q2 hz p0 p1 pz x0 x1 xz
    obtain ⟨-, q0, q1, q2, hl0, hz⟩ := id hT5
    obtain ⟨p0, p1, pz⟩ := id hY5
    obtain ⟨x0, x1, xz⟩ := id hS5
    go_wp2_with fail
    refine (lGone A cp B num L cs f t w5 hT5.ch (by omega) hn).mono ?_
    intro e w6 hg1
    obtain ⟨_, gv, ger, rfl⟩ := gone_same hg1 hg1
    have hb6 := hg1.2.2.2.2
    have HG1 := Lib.hid hg1
    clear hg1
    have hT6 := hT5.below hb6 hT5.sz
    have hS6 := hS5.below hb6 hS5.pz
    have hY6 := hY5.below hb6 hY5.pz
    have hal6 := hal5.trans (hb6.mono hal5.size)
    clear hT5 hS5 hY5 hal5 hb6
    clear q0 q1 q2 hz p0 p1 pz x0 x1 xz
    obtain ⟨-, q0, q1, q2, hl0, hz⟩ := id hT6
    obtain ⟨p0, p1, pz⟩ := id hY6
    obtain ⟨x0, x1, xz⟩ := id hS6
    go_wp2_with fail
    refine (rGone A cp B num L cs f t w6 hT6.ch (by omega) hn).mono ?_
    intro e w7 hg2
    obtain ⟨rfl, _⟩ := gone_same HG1.out hg2
    have hb7 := hg2.2.2.2.2
    clear hg2 HG1
    have hT7 := hT6.below hb7 hT6.sz
    have hS7 := hS6.below hb7 hS6.pz
    have hY7 := hY6.below hb7 hY6.pz
    have hal7 := hal6.trans (hb7.mono hal6.size)
    clear hT6 hS6 hY6 hal6 hb7
    clear q0 q1 q2 hz p0 p1 pz x0 x1 xz
    obtain ⟨-, q0, q1, q2, hl0, hz⟩ := id hT7
    obtain ⟨p0, p1, pz⟩ := id hY7
    obtain ⟨x0, x1, xz⟩ := id hS7
    go_wp2_with fail
    refine (lSameSpansL none none 0 0 0 0 [] w7 (.inl rfl) (.inl rfl) (by simp)).mono ?_
    rintro e w8 ⟨rfl, hd8⟩
    have hal8 := hal7.trans (hd8.below _)
    go_wp2_with fail
    refine (lAwake _).mono ?_
    rintro e w9 ⟨rfl, hb9⟩
    go_wp2
    go_ret
    exact ⟨rfl, hal8.trans (hb9.mono hal8.size)⟩
end Go.Proofs.Ytoknkmlkeacgjaa
