/- Statement LightPlates: for every row of readings and every number the law returns true: Corrected returns the readings where both readings of the plate are the reference, and a plate that is read lower gives no lower readings. No condition. -/
import Derived.Test.YtihhfelhdgmceaaLCorrects
import Derived.Test.YtihhfelhdgmceaaPlp
import Derived.Deep.DeepCutAuto
namespace Go.Proofs.Ytihhfelhdgmceaa
open Go.RowKit
/-- An own box of a row: no cell of it is frozen. -/
structure RFree (W : World) (n : Nat) : Prop where
  z2 : W.frozen? ⟨n, 2, none⟩ = false
  z4 : W.frozen? ⟨n, 4, none⟩ = false
theorem RFree.below {W W' : World} {n C : Nat} (h : RFree W n) (hb : Below C W W') (hC : n < C) : RFree W' n := ⟨(hb.frozen hC).trans h.z2, (hb.frozen hC).trans h.z4⟩
theorem lCor_good (A : Option Addr) (c B : Nat) (xs : List (Int × Int)) (f l : Int × Int) (r : Int) (w : World) (h : Pairs w B A xs) (hB : B ≤ w.heap.size) (hn : xs.length ≤ 200) (ho : CorOk xs f l r) (hf : ¬ (farFrom f.2 r = true ∨ farFrom l.2 r = true)) :
    Calls Try.prog 33 #[.slice A xs.length c, .agg #[.int .i64 f.1, .int .i64 f.2], .agg #[.int .i64 l.1, .int .i64 l.2], .int .i64 r] w fun e w' => ∃ (A' : Option Addr) (c' : Nat), e = .returned (.tuple #[.slice A' xs.length c', .int .i64 0]) ∧ Ints w' w'.heap.size A' (corTo xs f l r xs.length) ∧ Below w.heap.size w w' :=
  (lCorrected A c B xs f l r w h hB hn).mono fun _ _ hr => by
    obtain ⟨A', c', he, hI⟩ := hr.2.2.1 ho hf
    exact ⟨A', c', he, hI, hr.2.2.2⟩
theorem lCor_far (A : Option Addr) (c B : Nat) (xs : List (Int × Int)) (f l : Int × Int) (r : Int) (w : World) (h : Pairs w B A xs) (hB : B ≤ w.heap.size) (hn : xs.length ≤ 200) (ho : CorOk xs f l r) (hf : farFrom f.2 r = true ∨ farFrom l.2 r = true) :
    Calls Try.prog 33 #[.slice A xs.length c, .agg #[.int .i64 f.1, .int .i64 f.2], .agg #[.int .i64 l.1, .int .i64 l.2], .int .i64 r] w fun e w' => e = .returned (.tuple #[.slice none 0 0, .int .i64 32]) ∧ Below w.heap.size w w' :=
  (lCorrected A c B xs f l r w h hB hn).mono fun _ _ hr => ⟨hr.2.1 ho hf, hr.2.2.2⟩
theorem RFree.new (w : World) (x0 x1 x2 x3 x4 x5 : Value) (t : TypeId) : RFree (w.alloc (.cells #[x0, x1, x2, x3, x4, x5] t)) w.heap.size := ⟨by simp [go_sem], by simp [go_sem]⟩
theorem rbox_draw {W : World} {n : Nat} {A : Option Addr} {k c : Nat} {f l : Int × Int} {r : Int} (h : RBox W n A k c f l r) : RBox W.drew n A k c f l r := ⟨h.q0, h.q1, h.q2, h.q3, h.q4, h.q5, h.sz⟩
theorem two_rows (w : World) (A : Option Addr) (k c : Nat) (f l : Int × Int) (r : Int) (T : TypeId) : ∀ W : World, W = ((w.alloc (.cells #[.slice A k c, .int .i64 f.1, .int .i64 f.2, .int .i64 l.1, .int .i64 l.2, .int .i64 r] T)).alloc (.cells #[.slice A k c, .int .i64 f.1, .int .i64 f.2, .int .i64 l.1, .int .i64 l.2, .int .i64 r] T)).drew →
    RBox W w.heap.size A k c f l r ∧ RBox W (w.heap.size + 1) A k c f l r ∧ RFree W w.heap.size ∧ RFree W (w.heap.size + 1) ∧ Below w.heap.size w W := by
  rintro W rfl
  have h1 := RBox.new w A k c f l r T
  have z1 := RFree.new w (.slice A k c) (.int .i64 f.1) (.int .i64 f.2) (.int .i64 l.1) (.int .i64 l.2) (.int .i64 r) T
  have b1 : Below w.heap.size w (w.alloc (.cells #[.slice A k c, .int .i64 f.1, .int .i64 f.2, .int .i64 l.1, .int .i64 l.2, .int .i64 r] T)) := (Below.refl _ _).alloc (Nat.le_refl _) _
  have hs : (w.alloc (.cells #[.slice A k c, .int .i64 f.1, .int .i64 f.2, .int .i64 l.1, .int .i64 l.2, .int .i64 r] T)).heap.size = w.heap.size + 1 := by simp
  generalize w.alloc (.cells #[.slice A k c, .int .i64 f.1, .int .i64 f.2, .int .i64 l.1, .int .i64 l.2, .int .i64 r] T) = w1 at *
  have h2 := RBox.new w1 A k c f l r T
  have z2 := RFree.new w1 (.slice A k c) (.int .i64 f.1) (.int .i64 f.2) (.int .i64 l.1) (.int .i64 l.2) (.int .i64 r) T
  have b2 : Below w1.heap.size w1 (w1.alloc (.cells #[.slice A k c, .int .i64 f.1, .int .i64 f.2, .int .i64 l.1, .int .i64 l.2, .int .i64 r] T)) := (Below.refl _ _).alloc (Nat.le_refl _) _
  rw [hs] at h2 z2
  exact ⟨rbox_draw (h1.below b2 h1.sz), rbox_draw h2, z1.below b2.drew h1.sz, ⟨z2.z2, z2.z4⟩, (b1.trans (b2.mono (by omega))).drew⟩
theorem cell_setCell_far {W : World} {n m j i : Nat} {u : Value} (h : m ≠ n) : (W.setCell ⟨m, j, none⟩ u).cell? ⟨n, i, none⟩ = W.cell? ⟨n, i, none⟩ := World.cell?_setCell_other _ _ _ _ (by intro e; injection e with e; exact h e)
theorem cell_setCell_off {W : World} {n j i : Nat} {u : Value} (h : j ≠ i) : (W.setCell ⟨n, j, none⟩ u).cell? ⟨n, i, none⟩ = W.cell? ⟨n, i, none⟩ := World.cell?_setCell_other _ _ _ _ (by intro e; injection e with _ e; exact h e)
theorem cell_setCell_at {W : World} {n j : Nat} {u v : Value} (h : W.cell? ⟨n, j, none⟩ = some v) : (W.setCell ⟨n, j, none⟩ u).cell? ⟨n, j, none⟩ = some u := World.cell?_setCell_same _ _ _ h
theorem RFree.set {W : World} {n m j : Nat} {u : Value} (h : RFree W n) : RFree (W.setCell ⟨m, j, none⟩ u) n := ⟨by simp [go_sem, h.z2], by simp [go_sem, h.z4]⟩
theorem RBox.far {W : World} {n m j : Nat} {A : Option Addr} {k c : Nat} {f l : Int × Int} {r : Int} {u : Value} (h : RBox W n A k c f l r) (hm : m ≠ n) : RBox (W.setCell ⟨m, j, none⟩ u) n A k c f l r :=
  ⟨(cell_setCell_far hm).trans h.q0, (cell_setCell_far hm).trans h.q1, (cell_setCell_far hm).trans h.q2, (cell_setCell_far hm).trans h.q3, (cell_setCell_far hm).trans h.q4, (cell_setCell_far hm).trans h.q5, by simpa using h.sz⟩
theorem RBox.set2 {W : World} {n : Nat} {A : Option Addr} {k c : Nat} {f l : Int × Int} {r y : Int} (h : RBox W n A k c f l r) : RBox (W.setCell ⟨n, 2, none⟩ (.int .i64 y)) n A k c (f.1, y) l r :=
  ⟨(cell_setCell_off (by omega)).trans h.q0, (cell_setCell_off (by omega)).trans h.q1, cell_setCell_at h.q2, (cell_setCell_off (by omega)).trans h.q3, (cell_setCell_off (by omega)).trans h.q4, (cell_setCell_off (by omega)).trans h.q5, by simpa using h.sz⟩
theorem RBox.set4 {W : World} {n : Nat} {A : Option Addr} {k c : Nat} {f l : Int × Int} {r y : Int} (h : RBox W n A k c f l r) : RBox (W.setCell ⟨n, 4, none⟩ (.int .i64 y)) n A k c f (l.1, y) r :=
  ⟨(cell_setCell_off (by omega)).trans h.q0, (cell_setCell_off (by omega)).trans h.q1, (cell_setCell_off (by omega)).trans h.q2, (cell_setCell_off (by omega)).trans h.q3, cell_setCell_at h.q4, (cell_setCell_off (by omega)).trans h.q5, by simpa using h.sz⟩
set_option maxRecDepth 100000 in
set_option maxHeartbeats 4000000 in
theorem wPlates (A : Option Addr) (c : Nat) (xs : List (Int × Int)) (f l : Int × Int) (r q : Int) (w : World) (h : Pairs w w.heap.size A xs) (hn : xs.length ≤ 9223372036854775807) (qa : 0 ≤ q) (qb : q ≤ 65535) :
    Calls Try.prog 10 #[.agg #[.slice A xs.length c, .int .i64 f.1, .int .i64 f.2, .int .i64 l.1, .int .i64 l.2, .int .i64 r], .int .u16 q] w fun x w' => x = .returned (.bool true) ∧ Below w.heap.size w w' := by
  have hF := RBox.new w A xs.length c f l r 56
  have hal : Below w.heap.size w (w.alloc (.cells #[.slice A xs.length c, .int .i64 f.1, .int .i64 f.2, .int .i64 l.1, .int .i64 l.2, .int .i64 r] 56)) := (Below.refl _ _).alloc (Nat.le_refl _) _
  generalize hW : w.alloc (.cells #[.slice A xs.length c, .int .i64 f.1, .int .i64 f.2, .int .i64 l.1, .int .i64 l.2, .int .i64 r] 56) = w0 at hF hal
  have HW := Lib.hid hW
  have hP : Pairs w0 w.heap.size A xs := h.below hal
  clear hW h
  obtain ⟨q0, q1, q2, q3, q4, q5, _⟩ := id hF
  by_cases h100 : xs.length ≤ 100
  · go_enter Try.func10, Try.ntmps10
    go_wp2_with fail
    rw [HW.out]
    refine (rCorrected _ _ w.heap.size _ _ _ _ _ hP hal.size (by omega)).mono ?_
    clear HW
    rintro e w1 hr
    obtain ⟨er, ys, A1, c1, h1, hy, rfl, hI, hb⟩ := corRes_is hr
    have H1 := Lib.hid h1
    replace hP := hP.below (hb.mono hal.size)
    replace hal := hal.trans (hb.mono hal.size)
    replace hF := hF.below hb hF.sz
    clear q0 q1 q2 q3 q4 q5
    obtain ⟨q0, q1, q2, q3, q4, q5, _⟩ := id hF
    clear hr h1 hb hI hy
    by_cases he : er = 0
    · have hok : CorOk xs f l r := by
        refine Classical.byContradiction fun h => ?_
        have := (H1.out.1 h).1
        omega
      have hfar : ¬ (farFrom f.2 r = true ∨ farFrom l.2 r = true) := by
        intro h
        have := (H1.out.2.1 hok h).1
        omega
      have HO := Lib.hid hok
      have HFAR := Lib.hid hfar
      subst he
      clear H1 hok hfar
      obtain ⟨⟨a0, ⟨a1, a2⟩, ⟨a3, a4⟩, ⟨a5, a6⟩, ⟨a7, a8⟩, a9, a10⟩, -⟩ := HO.out
      have hFz := hF.sz
      go_upto_region 6 with fail
      go_cut [7, 8] (fun t7 t8 wx => ∃ n7 n8 : Nat, t7 = .pointer (some ⟨n7, 0, none⟩) ∧ t8 = .pointer (some ⟨n8, 0, none⟩) ∧ n7 ≠ n8 ∧ w1.heap.size ≤ n7 ∧ w1.heap.size ≤ n8 ∧ RBox wx n7 A xs.length c f l r ∧ RBox wx n8 A xs.length c f l r ∧ RFree wx n7 ∧ RFree wx n8 ∧ Below w1.heap.size w1 wx)
      case first =>
        go_region
        all_goals (go_wp2_with fail; go_meet)
        all_goals
          obtain ⟨b1, b2, z1, z2, bb⟩ := two_rows w1 A xs.length c f l r 56 _ rfl
          first
            | exact ⟨_, _, rfl, rfl, by omega, by omega, by omega, b1, b2, z1, z2, bb⟩
            | exact ⟨_, _, rfl, rfl, by omega, by omega, by omega, b2, b1, z2, z1, bb⟩
      case rest =>
        obtain ⟨n7, n8, rfl, rfl, hne, hn7, hn8, hB7, hB8, hZ7, hZ8, hb6⟩ := hcut
        obtain ⟨z2, z4⟩ := id hZ7
        obtain ⟨p0, p1, p2, p3, p4, p5, p6⟩ := id hB7
        have e3 := (hb6.cell (p := ⟨w.heap.size, 5, none⟩) hFz).trans q5
        go_upto_region 7 with fail
        go_cut [] (fun wx => RBox wx n7 A xs.length c (f.1, r) (l.1, r) r ∧ RBox wx n8 A xs.length c f l r ∧ RFree wx n8 ∧ Below w1.heap.size w1 wx)
        case first =>
          go_region
          all_goals (go_wp2_with fail; go_meet)
          all_goals exact ⟨rbox_draw (RBox.set4 (RBox.set2 hB7)), rbox_draw ((hB8.far hne).far hne), ⟨(hZ8.set.set).z2, (hZ8.set.set).z4⟩, ((hb6.setCell hn7 _).setCell hn7 _).drew⟩
        case rest =>
          obtain ⟨hB7', hB8', hZ8', hb7⟩ := hcut
          clear hB7 hB8 hZ7 hZ8 hb6 z2 z4 p0 p1 p2 p3 p4 p5 p6 e3
          obtain ⟨z2, z4⟩ := id hZ8'
          obtain ⟨p0, p1, p2, p3, p4, p5, p6⟩ := id hB8'
          have e4 := (hb7.cell (p := ⟨w.heap.size, 4, none⟩) hFz).trans q4
          have d0 : (l.2 / 20 + 1 == 0) = false := by simp; omega
          have d1 : l.2 / 20 + 1 ≠ 0 := by omega
          have m0 : 0 ≤ q % (l.2 / 20 + 1) := Int.emod_nonneg _ d1
          have m1 : q % (l.2 / 20 + 1) < l.2 / 20 + 1 := Int.emod_lt_of_pos _ (by omega)
          have HK := Lib.hid (by rfl : lowK l.2 q = max 1 (l.2 - q % (l.2 / 20 + 1)))
          obtain ⟨kb0, kb1⟩ := lowK_bd (q := q) a5
          go_upto_region 8 with fail
          go_cut [] (fun wx => RBox wx n7 A xs.length c (f.1, r) (l.1, r) r ∧ RBox wx n8 A xs.length c f (l.1, lowK l.2 q) r ∧ Below w1.heap.size w1 wx)
          case first =>
            go_region
            all_goals (go_wp2_with fail; go_meet)
            all_goals exact ⟨rbox_draw (hB7'.far hne.symm), by rw [HK.out]; exact rbox_draw (RBox.set4 hB8'), (hb7.setCell hn8 _).drew⟩
          case rest =>
            obtain ⟨hB7, hB8, hb8⟩ := hcut
            clear hB7' hB8' hZ8' hb7 p0 p1 p2 p3 p4 p5 p6 z2 z4 e4 d0 d1 m0 m1
            obtain ⟨w8, rfl⟩ : ∃ w8 : World, w8 = wc := ⟨_, rfl⟩
            have hPc := hP.below (hb8.mono hal.size)
            have hb9 : Below w.heap.size w w8 := hal.trans (hb8.mono hal.size)
            have hFc := hF.below hb8 hFz
            obtain ⟨p0, p1, p2, p3, p4, p5, p6⟩ := id hB7
            clear q0 q1 q2 q3 q4 q5 hP hal hF hFz hn7 hn8 hb8
            go_wp2_with fail
            refine (lCor_good _ _ w.heap.size _ _ _ _ _ hPc hb9.size (by omega) (cor_same HO.out) (by simp [far_same a1])).mono ?_
            rintro e w9 ⟨A1', c1', rfl, hI1, hb⟩
            replace hPc := hPc.below (hb.mono hb9.size)
            replace hb9 := hb9.trans (hb.mono hb9.size)
            replace hFc := hFc.below hb hFc.sz
            replace hB8 := hB8.below hb hB8.sz
            clear p0 p1 p2 p3 p4 p5 p6 hB7 hb
            obtain ⟨q0, q1, q2, q3, q4, q5, _⟩ := id hFc
            go_wp2_with fail
            refine (lCor_good _ _ w.heap.size _ _ _ _ _ hPc hb9.size (by omega) HO.out HFAR.out).mono ?_
            rintro e w10 ⟨A2', c2', rfl, hI2, hb⟩
            replace hPc := hPc.below (hb.mono hb9.size)
            replace hb9 := hb9.trans (hb.mono hb9.size)
            replace hFc := hFc.below hb hFc.sz
            replace hB8 := hB8.below hb hB8.sz
            replace hI1 := hI1.below hb
            have hs910 := hb.size
            clear q0 q1 q2 q3 q4 q5 hb
            obtain ⟨p0, p1, p2, p3, p4, p5, p6⟩ := id hB8
            go_wp2_with fail
            by_cases hfk : farFrom f.2 r = true ∨ farFrom (lowK l.2 q) r = true
            · refine (lCor_far _ _ w.heap.size _ _ _ _ _ hPc hb9.size (by omega) (cor_low HO.out kb0 kb1) hfk).mono ?_
              rintro e w11 ⟨rfl, hb⟩
              replace hPc := hPc.below (hb.mono hb9.size)
              replace hb9 := hb9.trans (hb.mono hb9.size)
              replace hFc := hFc.below hb hFc.sz
              replace hI1 := hI1.below (hb.mono hs910)
              replace hI2 := hI2.below hb
              clear p0 p1 p2 p3 p4 p5 p6 hb hB8
              obtain ⟨s0, s1, s2, s3, s4, s5, _⟩ := id hFc
              go_upto_region 15 with fail
              go_loopw [15] (fun i wr => ∃ k : Nat, k ≤ xs.length ∧ i = .int .i64 k ∧ Drew w11 wr) (fun i _ => xs.length - (intOf i).toNat)
              case atStart => exact ⟨0, Nat.zero_le _, rfl, Drew.refl _⟩
              case round =>
                obtain ⟨k, hk, rfl, hd⟩ := hrel
                by_cases hlt : k < xs.length
                · obtain ⟨b, o, rfl, _, hc⟩ := (hPc.keep fun p _ => hd.cell p).at_ hlt
                  obtain ⟨x1, x2⟩ := hc k hlt
                  obtain ⟨b1, o1, hA1, _, hc1⟩ := (hd.ints hI1).at_ (k := k) (by rw [corTo_length]; exact hlt)
                  have y1 := hc1 k (by rw [corTo_length]; exact hlt)
                  rw [corTo_at _ _ _ _ hlt, corAt_same HO.out.1] at y1
                  obtain ⟨b2, o2, hA2, _, hc2⟩ := (hd.ints hI2).at_ (k := k) (by rw [corTo_length]; exact hlt)
                  have y2 := hc2 k (by rw [corTo_length]; exact hlt)
                  rw [corTo_at _ _ _ _ hlt] at y2
                  subst hA1 hA2
                  have bx := (hd.cell _).trans s0
                  have hle := corAt_low HO.out.1 (HO.out.2 k hlt) kb0 kb1
                  skip
                  have hne1 : ((atp xs k).2 != (atp xs k).2) = false := by simp
                  clear hc hc1 hc2
                  go_wp2_with fail
                  go_quiet (fail)
                  go_wp2
                  exact ⟨⟨k + 1, by omega, by go_num, hd.drewN nq⟩, by simp [intOf]; omega⟩
                · go_wp2_with fail
                  refine (lfirst _).mono ?_
                  rintro x w5 ⟨rfl, hb5⟩
                  go_wp2
                  go_ret
                  have hbd := hb9.trans (hd.below _)
                  exact ⟨rfl, hbd.trans (hb5.mono hbd.size)⟩
            · refine (lCor_good _ _ w.heap.size _ _ _ _ _ hPc hb9.size (by omega) (cor_low HO.out kb0 kb1) hfk).mono ?_
              rintro e w11 ⟨A3', c3', rfl, hI3, hb⟩
              replace hPc := hPc.below (hb.mono hb9.size)
              replace hb9 := hb9.trans (hb.mono hb9.size)
              replace hFc := hFc.below hb hFc.sz
              replace hI1 := hI1.below (hb.mono hs910)
              replace hI2 := hI2.below hb
              clear p0 p1 p2 p3 p4 p5 p6 hb hB8
              obtain ⟨s0, s1, s2, s3, s4, s5, _⟩ := id hFc
              go_upto_region 15 with fail
              go_loopw [15] (fun i wr => ∃ k : Nat, k ≤ xs.length ∧ i = .int .i64 k ∧ Drew w11 wr) (fun i _ => xs.length - (intOf i).toNat)
              case atStart => exact ⟨0, Nat.zero_le _, rfl, Drew.refl _⟩
              case round =>
                obtain ⟨k, hk, rfl, hd⟩ := hrel
                by_cases hlt : k < xs.length
                · obtain ⟨b, o, rfl, _, hc⟩ := (hPc.keep fun p _ => hd.cell p).at_ hlt
                  obtain ⟨x1, x2⟩ := hc k hlt
                  obtain ⟨b1, o1, hA1, _, hc1⟩ := (hd.ints hI1).at_ (k := k) (by rw [corTo_length]; exact hlt)
                  have y1 := hc1 k (by rw [corTo_length]; exact hlt)
                  rw [corTo_at _ _ _ _ hlt, corAt_same HO.out.1] at y1
                  obtain ⟨b2, o2, hA2, _, hc2⟩ := (hd.ints hI2).at_ (k := k) (by rw [corTo_length]; exact hlt)
                  have y2 := hc2 k (by rw [corTo_length]; exact hlt)
                  rw [corTo_at _ _ _ _ hlt] at y2
                  subst hA1 hA2
                  have bx := (hd.cell _).trans s0
                  have hle := corAt_low HO.out.1 (HO.out.2 k hlt) kb0 kb1
                  obtain ⟨b3, o3, hA3, _, hc3⟩ := (hd.ints hI3).at_ (k := k) (by rw [corTo_length]; exact hlt)
                  have y3 := hc3 k (by rw [corTo_length]; exact hlt)
                  rw [corTo_at _ _ _ _ hlt] at y3
                  subst hA3
                  clear hc3
                  generalize corAt f l r (atp xs k) = v2 at *
                  generalize corAt f (l.1, lowK l.2 q) r (atp xs k) = v3 at *
                  have hne1 : ((atp xs k).2 != (atp xs k).2) = false := by simp
                  clear hc hc1 hc2
                  go_wp2_with fail
                  go_quiet (fail)
                  go_wp2
                  exact ⟨⟨k + 1, by omega, by go_num, hd.drewN nq⟩, by simp [intOf]; omega⟩
                · go_wp2_with fail
                  refine (lfirst _).mono ?_
                  rintro x w5 ⟨rfl, hb5⟩
                  go_wp2
                  go_ret
                  have hbd := hb9.trans (hd.below _)
                  exact ⟨rfl, hbd.trans (hb5.mono hbd.size)⟩
    · have heb : (er != 0) = true := by rw [bne_iff_ne]; exact he
      go_wp2_with fail
      refine (lfirst _).mono ?_
      rintro x w5 ⟨rfl, hb5⟩
      go_wp2
      go_ret
      exact ⟨rfl, hal.trans (hb5.mono hal.size)⟩
  · go_enter Try.func10, Try.ntmps10
    go_wp2_with fail
    rw [HW.out]
    refine (lfirst _).mono ?_
    rintro x w5 ⟨rfl, hb5⟩
    go_wp2
    go_ret
    exact ⟨rfl, hal.trans (hb5.mono hal.size)⟩
namespace LawPlates
open Go.ChangeShapes Go.WideShapes Go.ChangeAt Go.RowKit
set_option maxRecDepth 100000 in
theorem lifted (os : Os) (started : os.Started) (H : Type) (enc : TypeId × Value → H) :
    ReturnsInHanded {} Try.checked os 10 .any (Rows.lightPlatesSpec.pre6 enc Try.prog Try.f10 Rows.lightPlatesRow.domain false) (Rows.lightPlatesSpec.post enc Try.prog Try.f10 false true false false) := by
  refine returnsInHanded_of_change (C := Try.checked) own started (by kernel_rfl) Try.func10
    (ChangeSpec.witness6 (enc := enc) (C := Try.checked) false ⟨#[], #[.agg #[.slice none 0 0, .int .i64 0, .int .i64 0, .int .i64 0, .int .i64 0, .int .i64 0], .int .u16 0], []⟩ 8 (by kernel_rfl) (by kernel_rfl) (by kernel_rfl) (by kernel_rfl)) ?_
  intro W base args ds gs before hval hW hcnd _
  refine law_contract rfl rfl (by simp; decide +kernel) (fun ds hds => ?_) W base args ds gs before hW fun p hA => ?_
  · match ds, hds with
    | [d1, d2], _ => rfl
  · obtain ⟨v0, v1, d0, d1, p0, p1, rfl, rfl, rfl, h0, h1⟩ := trodAll_two hA
    obtain ⟨A, c, xs, f, l, rf, rfl, hP, hn⟩ := row_arg (hval 0 56 _ rfl rfl) h0
    obtain ⟨q, rfl, rfl, rfl, wq⟩ := open_int Try.underlying61 (hval 1 61 _ rfl rfl) h1
    obtain ⟨qa, qb⟩ := bounds_u16 wq
    exact wPlates A c xs f l rf q W hP hn qa (by omega)
theorem proved : Rows.LightPlatesSaid :=
  OpenClaim.holds_of_wide 10 Try.f10 rfl rfl rfl rfl rfl rfl rfl ⟨rfl, rfl, rfl, rfl, rfl⟩ rfl rfl rfl rfl rfl (by kernel_rfl) Try.func10 (by kernel_rfl)
    (of_decide_eq_true (by kernel_rfl)) (by unfold Func.isWrapper; rw [if_neg (of_decide_eq_false (by kernel_rfl))]; exact ⟨rfl, rfl⟩)
    (fun os started H enc _ => lifted os started H enc)
end LawPlates
end Go.Proofs.Ytihhfelhdgmceaa
