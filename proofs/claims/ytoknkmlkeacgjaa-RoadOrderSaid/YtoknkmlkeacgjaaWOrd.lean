/- The walk of RoadOrder. -/
import Derived.Test.YtoknkmlkeacgjaaWCar
import Derived.Test.YtoknkmlkeacgjaaOrd
namespace Go.Proofs.Ytoknkmlkeacgjaa
open Go.RowKit
theorem met_take_bd {us : List (Int × Int)} (h : Full us) : ∀ k, k ≤ us.length → 0 ≤ met (us.take k) ∧ met (us.take k) ≤ met us := by
  intro k hk
  have e : met us = met (us.take k) + met (us.drop k) := by rw [← met_append, List.take_append_drop]
  have h1 := met_ge (l := us.take k) fun p hp => h p (List.mem_of_mem_take hp)
  have h2 := met_ge (l := us.drop k) fun p hp => h p (List.mem_of_mem_drop hp)
  omega
theorem norm_next {us : List (Int × Int)} (h : Norm us) {m : Nat} (hm : m + 1 < us.length) : (atp us m).2 < (atp us (m + 1)).1 := by
  have := List.pairwise_iff_getElem.1 h.2 m (m + 1) (by omega) hm (by omega)
  simpa [atp, hm, show m < us.length by omega] using this
set_option maxRecDepth 100000 in
set_option maxHeartbeats 8000000 in
theorem wOrder (A : Option Addr) (cp B : Nat) (num L : Int) (cs : List Chg) (s : Int × Int) (f t : Int) (w : World) (h : Chs w B A cs) (hB : B ≤ w.heap.size) (hn : cs.length ≤ 9223372036854775807) :
    Calls Try.prog 4 #[.agg #[.int .i64 num, .int .i64 L, .slice A cs.length cp], .agg #[.int .i64 s.1, .int .i64 s.2], .agg #[.int .i64 f, .int .i64 t]] w fun e w' => e = .returned (.bool true) ∧ Below w.heap.size w w' := by
  have hT := RdBox.new (c := cp) (num := num) (L := L) (T := 24) h hB
  have hal : Below w.heap.size w (w.alloc (.cells #[.int .i64 num, .int .i64 L, .slice A cs.length cp] 24)) := (Below.refl _ _).alloc (Nat.le_refl _) _
  generalize hW : w.alloc (.cells #[.int .i64 num, .int .i64 L, .slice A cs.length cp] 24) = w0 at hT hal
  have hz0 : w0.heap.size = w.heap.size + 1 := by rw [← hW]; simp
  have hT1 := hT.below ((Below.refl w0.heap.size w0).alloc (Nat.le_refl _) (.cells #[.int .i64 s.1, .int .i64 s.2] 33)) hT.sz
  have hS1 := WyBox.new w0 s.1 s.2 33 hz0
  have hal1 := hal.alloc hal.size (.cells #[.int .i64 s.1, .int .i64 s.2] 33)
  generalize hW1 : w0.alloc (.cells #[.int .i64 s.1, .int .i64 s.2] 33) = w1 at *
  have hz1 : w1.heap.size = w.heap.size + 2 := by rw [← hW1]; simp [hz0]
  have hT2 := hT1.below ((Below.refl w1.heap.size w1).alloc (Nat.le_refl _) (.cells #[.int .i64 f, .int .i64 t] 26)) hT1.sz
  have hS2 := hS1.below ((Below.refl w1.heap.size w1).alloc (Nat.le_refl _) (.cells #[.int .i64 f, .int .i64 t] 26)) hS1.pz
  have hY2 := WyBox.new w1 f t 26 hz1
  have hal2 := hal1.alloc hal1.size (.cells #[.int .i64 f, .int .i64 t] 26)
  generalize hW2 : w1.alloc (.cells #[.int .i64 f, .int .i64 t] 26) = w2 at *
  have HW := Lib.hid hW
  have HW1 := Lib.hid hW1
  have HW2 := Lib.hid hW2
  clear hW hW1 hW2 hT hal h hz0 hz1 hT1 hS1 hal1
  obtain ⟨-, q0, q1, q2, hl0, hz⟩ := id hT2
  obtain ⟨p0, p1, pz⟩ := id hY2
  obtain ⟨x0, x1, xz⟩ := id hS2
  go_enter Try.func4, Try.ntmps4
  go_upto_region 1 with fail
  rw [HW.out, HW1.out, HW2.out]
  clear HW HW1 HW2
  go_wp2_with fail
  refine (lmany A cp num L cs w2).mono ?_
  rintro e w3 ⟨rfl, hb3⟩
  have hT3 := hT2.below hb3 hT2.sz
  have hS3 := hS2.below hb3 hS2.pz
  have hY3 := hY2.below hb3 hY2.pz
  have hal3 := hal2.trans (hb3.mono hal2.size)
  clear hT2 hS2 hY2 hal2 hb3
  clear q0 q1 q2 hz p0 p1 pz x0 x1 xz
  obtain ⟨-, q0, q1, q2, hl0, hz⟩ := id hT3
  obtain ⟨p0, p1, pz⟩ := id hY3
  obtain ⟨x0, x1, xz⟩ := id hS3
  by_cases hm : 60 < cs.length
  · have hd : decide (60 < cs.length) = true := by simp [hm]
    rw [hd]
    go_wp2_with fail
    refine (lAwake _).mono ?_
    rintro e w9 ⟨rfl, hb9⟩
    go_wp2
    go_ret
    exact ⟨rfl, hal3.trans (hb9.mono hal3.size)⟩
  have hd : decide (60 < cs.length) = false := by simp [hm]
  rw [hd]
  clear hd hm
  by_cases hs : s.1 < s.2
  rotate_left
  · skip
    go_wp2_with fail
    refine (lAwake _).mono ?_
    rintro e w9 ⟨rfl, hb9⟩
    go_wp2
    go_ret
    exact ⟨rfl, hal3.trans (hb9.mono hal3.size)⟩
  obtain ⟨v, er, HC1, HV⟩ := carry_any num L cs s.1 f t
  obtain ⟨v', er', HC2, HV'⟩ := carry_any num L cs s.2 f t
  have HVV := Lib.hid HV
  have HVV' := Lib.hid HV'
  have hord : er = 0 → er' = 0 → v ≤ v' := fun h1 h2 => carry_order HC1 HC2 (by omega) h1 h2
  clear HV HV' HC1 HC2
  go_wp2_with fail
  refine (lCarry A cp B num L cs s.1 f t w3 hT3.ch (by omega) hn).mono ?_
  rintro e w4 ⟨v1, er1, hv, rfl, hb4⟩
  obtain ⟨e1, e2⟩ := HVV.out _ _ hv
  rw [e1, e2]
  clear hv e1 e2
  have hT4 := hT3.below hb4 hT3.sz
  have hS4 := hS3.below hb4 hS3.pz
  have hY4 := hY3.below hb4 hY3.pz
  have hal4 := hal3.trans (hb4.mono hal3.size)
  clear hT3 hS3 hY3 hal3 hb4
  clear q0 q1 q2 hz p0 p1 pz x0 x1 xz
  obtain ⟨-, q0, q1, q2, hl0, hz⟩ := id hT4
  obtain ⟨p0, p1, pz⟩ := id hY4
  obtain ⟨x0, x1, xz⟩ := id hS4
  have HORD := Lib.hid hord
  clear hord
  go_wp2_with fail
  refine (lCarry A cp B num L cs s.2 f t w4 hT4.ch (by omega) hn).mono ?_
  rintro e w5 ⟨v1, er1, hv, rfl, hb5⟩
  obtain ⟨e1, e2⟩ := HVV'.out _ _ hv
  rw [e1, e2]
  clear hv HVV HVV' e1 e2
  have hT5 := hT4.below hb5 hT4.sz
  have hS5 := hS4.below hb5 hS4.pz
  have hY5 := hY4.below hb5 hY4.pz
  have hal5 := hal4.trans (hb5.mono hal4.size)
  clear hT4 hS4 hY4 hal4 hb5
  clear q0 q1 q2 hz p0 p1 pz x0 x1 xz
  obtain ⟨-, q0, q1, q2, hl0, hz⟩ := id hT5
  obtain ⟨p0, p1, pz⟩ := id hY5
  obtain ⟨x0, x1, xz⟩ := id hS5
  have hcut : ∀ (n1 n2 : Int), n1 = n1 → n2 = n2 → True := fun _ _ _ _ => trivial
  clear hcut
  by_cases he1 : er = 0
  · have he1b : (er == 0) = true := by simp [he1]
    by_cases he2 : er' = 0
    · have he2b : (er' == 0) = true := by simp [he2]
      have hvv := HORD.out he1 he2
      subst he1
      subst he2
      go_wp2_with fail
      refine (lKept A cp B num L cs s f t w5 hT5.ch (by omega) hn).mono ?_
      intro e w6 hk
      obtain ⟨hb6, hk⟩ := kept_cases hk
      have hT6 := hT5.below hb6 hT5.sz
      have hS6 := hS5.below hb6 hS5.pz
      have hY6 := hY5.below hb6 hY5.pz
      have hal6 := hal5.trans (hb6.mono hal5.size)
      clear hT5 hS5 hY5 hal5 hb6
      clear q0 q1 q2 hz p0 p1 pz x0 x1 xz
      obtain ⟨-, q0, q1, q2, hl0, hz⟩ := id hT6
      obtain ⟨p0, p1, pz⟩ := id hY6
      obtain ⟨x0, x1, xz⟩ := id hS6
      rcases hk with ⟨er, her, rfl⟩ | ⟨us, A', c', n1, n2, n3, rfl, hP, n4, n5⟩
      · have her0 : (er == 0) = false := by rcases her with rfl | rfl | rfl <;> rfl
        have her1 : er ≠ 0 := by rcases her with rfl | rfl | rfl <;> decide
        go_wp2_with fail
        refine (lAwake _).mono ?_
        rintro e w9 ⟨rfl, hb9⟩
        go_wp2
        go_ret
        exact ⟨rfl, hal6.trans (hb9.mono hal6.size)⟩
      · have HN := Lib.hid n1
        have HBD := Lib.hid (met_take_bd n1.1)
        have HK := Lib.hid n4
        clear n1 n4
        go_wp2_with fail
        go_loopw [13, 14] (fun nv i wr => ∃ k : Nat, k ≤ us.length ∧ i = .int .i64 k ∧ nv = .int .i64 (met (us.take k)) ∧ Drew w6 wr) (fun _ i _ => us.length - (intOf i).toNat)
        case atStart => exact ⟨0, Nat.zero_le _, rfl, rfl, Drew.refl _⟩
        case round =>
          obtain ⟨k, hk, rfl, rfl, hd⟩ := hrel
          obtain ⟨b0, b1⟩ := HBD.out k hk
          by_cases hlt : k < us.length
          · obtain ⟨b, o, rfl, _, hc⟩ := (hP.keep fun p _ => hd.cell p).at_ hlt
            obtain ⟨y1, y2⟩ := hc k hlt
            have hf := HN.out.1 _ (atp_mem hlt)
            have hin := HK.out _ (atp_mem hlt)
            obtain ⟨⟨i0, i1⟩, i2, i3⟩ := hin
            have hnx := (HBD.out (k + 1) hlt)
            have hst := met_take us k hlt
            rw [hst] at hnx
            obtain ⟨b2, b3⟩ := hnx
            have HST := Lib.hid hst
            clear hst
            rcases k with _ | m
            · clear hc
              simp only [Nat.zero_mul, Nat.add_zero] at y1 y2 hf i0 i1 i2 i3
              have e0 : met (us.take 0) = 0 := rfl
              have HST1 : Hid (met (us.take 1) = (atp us 0).2 - (atp us 0).1) := by refine Lib.hid ?_; have := HST.out; rw [e0, Int.zero_add] at this; exact this
              rw [e0, Int.zero_add] at b2 b3
              rw [e0]
              clear e0 b0 b1 HST
              have v4 : (0 : Int) < (us.length : Int) := by omega
              have g1 : decide ((atp us 0).2 ≤ (atp us 0).1) = false := by simp; omega
              go_wp2_with fail
              go_quiet (fail)
              go_wp2_with fail
              go_quiet (fail)
              have hd2 := hd.drewN nq
              go_wp2_with fail
              exact ⟨⟨1, by omega, rfl, by rw [HST1.out], by first | exact hd2 | exact hd.drewN _⟩, by simp [intOf]; omega⟩
            · obtain ⟨_, y3⟩ := hc m (by omega)
              have hnn := norm_next HN.out hlt
              have v4 : (m : Int) + 1 < (us.length : Int) := by omega
              have v5 : m < us.length := by omega
              have v6 : (m : Int) < (us.length : Int) := by omega
              have v7 : (0 : Int) < (m : Int) + 1 := by omega
              have g1 : decide ((atp us (m + 1)).2 ≤ (atp us (m + 1)).1) = false := by simp; omega
              have g2 : decide ((0 : Int) < (m : Int) + 1) = true := by first | (simp; done) | (simp; omega)
              have g3 : decide ((atp us (m + 1)).1 ≤ (atp us m).2) = false := by simp; omega
              clear hc
              go_wp2_with fail
              go_quiet (fail)
              go_wp2_with fail
              go_quiet (fail)
              go_wp2_with fail
              exact ⟨⟨m + 1 + 1, by omega, by go_num, by rw [HST.out], hd.drewN _⟩, by simp [intOf]; omega⟩
          · obtain rfl : k = us.length := by omega
            rw [List.take_length]
            rw [List.take_length] at b0 b1
            have hT7 := hT6.below (hd.below _) hT6.sz
            have hS7 := hS6.below (hd.below _) hS6.pz
            have hal7 := hal6.trans (hd.below _)
            clear q0 q1 q2 hz p0 p1 pz x0 x1 xz
            obtain ⟨x0, x1, xz⟩ := id hS7
            go_wp2_with fail
            refine (lAwake _).mono ?_
            rintro e w9 ⟨rfl, hb9⟩
            go_wp2
            go_ret
            exact ⟨rfl, hal7.trans (hb9.mono hal7.size)⟩
    · have he2b : (er' == 0) = false := by simp [he2]
      subst he1
      go_wp2_with fail
      refine (lKept A cp B num L cs s f t w5 hT5.ch (by omega) hn).mono ?_
      intro e w6 hk
      obtain ⟨hb6, hk⟩ := kept_cases hk
      have hT6 := hT5.below hb6 hT5.sz
      have hS6 := hS5.below hb6 hS5.pz
      have hY6 := hY5.below hb6 hY5.pz
      have hal6 := hal5.trans (hb6.mono hal5.size)
      clear hT5 hS5 hY5 hal5 hb6
      clear q0 q1 q2 hz p0 p1 pz x0 x1 xz
      obtain ⟨-, q0, q1, q2, hl0, hz⟩ := id hT6
      obtain ⟨p0, p1, pz⟩ := id hY6
      obtain ⟨x0, x1, xz⟩ := id hS6
      rcases hk with ⟨er, her, rfl⟩ | ⟨us, A', c', n1, n2, n3, rfl, hP, n4, n5⟩
      · have her0 : (er == 0) = false := by rcases her with rfl | rfl | rfl <;> rfl
        have her1 : er ≠ 0 := by rcases her with rfl | rfl | rfl <;> decide
        go_wp2_with fail
        refine (lAwake _).mono ?_
        rintro e w9 ⟨rfl, hb9⟩
        go_wp2
        go_ret
        exact ⟨rfl, hal6.trans (hb9.mono hal6.size)⟩
      · have HN := Lib.hid n1
        have HBD := Lib.hid (met_take_bd n1.1)
        have HK := Lib.hid n4
        clear n1 n4
        go_wp2_with fail
        go_loopw [13, 14] (fun nv i wr => ∃ k : Nat, k ≤ us.length ∧ i = .int .i64 k ∧ nv = .int .i64 (met (us.take k)) ∧ Drew w6 wr) (fun _ i _ => us.length - (intOf i).toNat)
        case atStart => exact ⟨0, Nat.zero_le _, rfl, rfl, Drew.refl _⟩
        case round =>
          obtain ⟨k, hk, rfl, rfl, hd⟩ := hrel
          obtain ⟨b0, b1⟩ := HBD.out k hk
          by_cases hlt : k < us.length
          · obtain ⟨b, o, rfl, _, hc⟩ := (hP.keep fun p _ => hd.cell p).at_ hlt
            obtain ⟨y1, y2⟩ := hc k hlt
            have hf := HN.out.1 _ (atp_mem hlt)
            have hin := HK.out _ (atp_mem hlt)
            obtain ⟨⟨i0, i1⟩, i2, i3⟩ := hin
            have hnx := (HBD.out (k + 1) hlt)
            have hst := met_take us k hlt
            rw [hst] at hnx
            obtain ⟨b2, b3⟩ := hnx
            have HST := Lib.hid hst
            clear hst
            rcases k with _ | m
            · clear hc
              simp only [Nat.zero_mul, Nat.add_zero] at y1 y2 hf i0 i1 i2 i3
              have e0 : met (us.take 0) = 0 := rfl
              have HST1 : Hid (met (us.take 1) = (atp us 0).2 - (atp us 0).1) := by refine Lib.hid ?_; have := HST.out; rw [e0, Int.zero_add] at this; exact this
              rw [e0, Int.zero_add] at b2 b3
              rw [e0]
              clear e0 b0 b1 HST
              have v4 : (0 : Int) < (us.length : Int) := by omega
              have g1 : decide ((atp us 0).2 ≤ (atp us 0).1) = false := by simp; omega
              go_wp2_with fail
              go_quiet (fail)
              go_wp2_with fail
              go_quiet (fail)
              have hd2 := hd.drewN nq
              go_wp2_with fail
              exact ⟨⟨1, by omega, rfl, by rw [HST1.out], by first | exact hd2 | exact hd.drewN _⟩, by simp [intOf]; omega⟩
            · obtain ⟨_, y3⟩ := hc m (by omega)
              have hnn := norm_next HN.out hlt
              have v4 : (m : Int) + 1 < (us.length : Int) := by omega
              have v5 : m < us.length := by omega
              have v6 : (m : Int) < (us.length : Int) := by omega
              have v7 : (0 : Int) < (m : Int) + 1 := by omega
              have g1 : decide ((atp us (m + 1)).2 ≤ (atp us (m + 1)).1) = false := by simp; omega
              have g2 : decide ((0 : Int) < (m : Int) + 1) = true := by first | (simp; done) | (simp; omega)
              have g3 : decide ((atp us (m + 1)).1 ≤ (atp us m).2) = false := by simp; omega
              clear hc
              go_wp2_with fail
              go_quiet (fail)
              go_wp2_with fail
              go_quiet (fail)
              go_wp2_with fail
              exact ⟨⟨m + 1 + 1, by omega, by go_num, by rw [HST.out], hd.drewN _⟩, by simp [intOf]; omega⟩
          · obtain rfl : k = us.length := by omega
            rw [List.take_length]
            rw [List.take_length] at b0 b1
            have hT7 := hT6.below (hd.below _) hT6.sz
            have hS7 := hS6.below (hd.below _) hS6.pz
            have hal7 := hal6.trans (hd.below _)
            clear q0 q1 q2 hz p0 p1 pz x0 x1 xz
            obtain ⟨x0, x1, xz⟩ := id hS7
            go_wp2_with fail
            refine (lAwake _).mono ?_
            rintro e w9 ⟨rfl, hb9⟩
            go_wp2
            go_ret
            exact ⟨rfl, hal7.trans (hb9.mono hal7.size)⟩
  · have he1b : (er == 0) = false := by simp [he1]
    go_wp2_with fail
    refine (lKept A cp B num L cs s f t w5 hT5.ch (by omega) hn).mono ?_
    intro e w6 hk
    obtain ⟨hb6, hk⟩ := kept_cases hk
    have hT6 := hT5.below hb6 hT5.sz
    have hS6 := hS5.below hb6 hS5.pz
    have hY6 := hY5.below hb6 hY5.pz
    have hal6 := hal5.trans (hb6.mono hal5.size)
    clear hT5 hS5 hY5 hal5 hb6
    clear q0 q1 q2 hz p0 p1 pz x0 x1 xz
    obtain ⟨-, q0, q1, q2, hl0, hz⟩ := id hT6
    obtain ⟨p0, p1, pz⟩ := id hY6
    obtain ⟨x0, x1, xz⟩ := id hS6
    rcases hk with ⟨er, her, rfl⟩ | ⟨us, A', c', n1, n2, n3, rfl, hP, n4, n5⟩
    · have her0 : (er == 0) = false := by rcases her with rfl | rfl | rfl <;> rfl
      have her1 : er ≠ 0 := by rcases her with rfl | rfl | rfl <;> decide
      go_wp2_with fail
      refine (lAwake _).mono ?_
      rintro e w9 ⟨rfl, hb9⟩
      go_wp2
      go_ret
      exact ⟨rfl, hal6.trans (hb9.mono hal6.size)⟩
    · have HN := Lib.hid n1
      have HBD := Lib.hid (met_take_bd n1.1)
      have HK := Lib.hid n4
      clear n1 n4
      go_wp2_with fail
      go_loopw [13, 14] (fun nv i wr => ∃ k : Nat, k ≤ us.length ∧ i = .int .i64 k ∧ nv = .int .i64 (met (us.take k)) ∧ Drew w6 wr) (fun _ i _ => us.length - (intOf i).toNat)
      case atStart => exact ⟨0, Nat.zero_le _, rfl, rfl, Drew.refl _⟩
      case round =>
        obtain ⟨k, hk, rfl, rfl, hd⟩ := hrel
        obtain ⟨b0, b1⟩ := HBD.out k hk
        by_cases hlt : k < us.length
        · obtain ⟨b, o, rfl, _, hc⟩ := (hP.keep fun p _ => hd.cell p).at_ hlt
          obtain ⟨y1, y2⟩ := hc k hlt
          have hf := HN.out.1 _ (atp_mem hlt)
          have hin := HK.out _ (atp_mem hlt)
          obtain ⟨⟨i0, i1⟩, i2, i3⟩ := hin
          have hnx := (HBD.out (k + 1) hlt)
          have hst := met_take us k hlt
          rw [hst] at hnx
          obtain ⟨b2, b3⟩ := hnx
          have HST := Lib.hid hst
          clear hst
          rcases k with _ | m
          · clear hc
            simp only [Nat.zero_mul, Nat.add_zero] at y1 y2 hf i0 i1 i2 i3
            have e0 : met (us.take 0) = 0 := rfl
            have HST1 : Hid (met (us.take 1) = (atp us 0).2 - (atp us 0).1) := by refine Lib.hid ?_; have := HST.out; rw [e0, Int.zero_add] at this; exact this
            rw [e0, Int.zero_add] at b2 b3
            rw [e0]
            clear e0 b0 b1 HST
            have v4 : (0 : Int) < (us.length : Int) := by omega
            have g1 : decide ((atp us 0).2 ≤ (atp us 0).1) = false := by simp; omega
            go_wp2_with fail
            go_quiet (fail)
            go_wp2_with fail
            go_quiet (fail)
            have hd2 := hd.drewN nq
            go_wp2_with fail
            exact ⟨⟨1, by omega, rfl, by rw [HST1.out], by first | exact hd2 | exact hd.drewN _⟩, by simp [intOf]; omega⟩
          · obtain ⟨_, y3⟩ := hc m (by omega)
            have hnn := norm_next HN.out hlt
            have v4 : (m : Int) + 1 < (us.length : Int) := by omega
            have v5 : m < us.length := by omega
            have v6 : (m : Int) < (us.length : Int) := by omega
            have v7 : (0 : Int) < (m : Int) + 1 := by omega
            have g1 : decide ((atp us (m + 1)).2 ≤ (atp us (m + 1)).1) = false := by simp; omega
            have g2 : decide ((0 : Int) < (m : Int) + 1) = true := by first | (simp; done) | (simp; omega)
            have g3 : decide ((atp us (m + 1)).1 ≤ (atp us m).2) = false := by simp; omega
            clear hc
            go_wp2_with fail
            go_quiet (fail)
            go_wp2_with fail
            go_quiet (fail)
            go_wp2_with fail
            exact ⟨⟨m + 1 + 1, by omega, by go_num, by rw [HST.out], hd.drewN _⟩, by simp [intOf]; omega⟩
        · obtain rfl : k = us.length := by omega
          rw [List.take_length]
          rw [List.take_length] at b0 b1
          have hT7 := hT6.below (hd.below _) hT6.sz
          have hS7 := hS6.below (hd.below _) hS6.pz
          have hal7 := hal6.trans (hd.below _)
          clear q0 q1 q2 hz p0 p1 pz x0 x1 xz
          obtain ⟨x0, x1, xz⟩ := id hS7
          go_wp2_with fail
          refine (lAwake _).mono ?_
          rintro e w9 ⟨rfl, hb9⟩
          go_wp2
          go_ret
          exact ⟨rfl, hal7.trans (hb9.mono hal7.size)⟩
end Go.Proofs.Ytoknkmlkeacgjaa
