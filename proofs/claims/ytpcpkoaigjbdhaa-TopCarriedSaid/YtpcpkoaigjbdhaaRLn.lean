/- Contract of the reference's lengths. -/
import Derived.Test.YtpcpkoaigjbdhaaAhd
import Derived.Test.YtpcpkoaigjbdhaaMov
import Derived.Deep.RegionLawGrows
namespace Go.Proofs.Ytpcpkoaigjbdhaa
open Go.RowKit
set_option maxRecDepth 100000 in
set_option maxHeartbeats 4000000 in
theorem rLengths (A : Option Addr) (c B : Nat) (num L : Int) (cs : List Chg) (w : World) (h : Chs w B A cs) (hB : B ≤ w.heap.size) (hn : cs.length ≤ 9223372036854775807) :
    Calls Try.prog 14 #[.agg #[.int .i64 num, .int .i64 L, .slice A cs.length c]] w (LenRes num L cs w) := by
  have hT := RdBox.new (c := c) (num := num) (L := L) (T := 24) h hB
  have hal : Below w.heap.size w (w.alloc (.cells #[.int .i64 num, .int .i64 L, .slice A cs.length c] 24)) := (Below.refl _ _).alloc (Nat.le_refl _) _
  generalize hW : w.alloc (.cells #[.int .i64 num, .int .i64 L, .slice A cs.length c] 24) = w0 at hT hal
  have HW := Lib.hid hW
  clear hW
  obtain ⟨-, q0, q1, q2, -, _⟩ := id hT
  by_cases g1 : 1 ≤ num ∧ num ≤ 1000000
  rotate_left
  · have i1 := inB_f g1
    go_enter Try.func14, Try.ntmps14
    go_upto_region 1 with fail
    rw [HW.out]
    go_wp2_with (go_at_call 24; refine (rfrom _ _ _ _).mono ?_; rintro e w' ⟨rfl, rfl⟩)
    go_ret2
    exact ⟨fun _ => rfl, fun hh => absurd hh.1 g1, hal⟩
  have i1 := inB_t g1.1 g1.2
  by_cases g2 : 0 ≤ L ∧ L ≤ 10000000
  rotate_left
  · have i2 := inB_f g2
    go_enter Try.func14, Try.ntmps14
    go_upto_region 1 with fail
    rw [HW.out]
    go_wp2_with (go_at_call 24; refine (rfrom _ _ _ _).mono ?_; rintro e w' ⟨rfl, rfl⟩)
    go_ret2
    exact ⟨fun _ => rfl, fun hh => absurd hh.2.1 g2, hal⟩
  have i2 := inB_t g2.1 g2.2
  by_cases g3 : cs.length ≤ 40
  rotate_left
  · skip
    go_enter Try.func14, Try.ntmps14
    go_upto_region 1 with fail
    rw [HW.out]
    go_wp2_with (go_at_call 24; refine (rfrom _ _ _ _).mono ?_; rintro e w' ⟨rfl, rfl⟩)
    go_ret2
    exact ⟨fun _ => rfl, fun hh => absurd hh.2.2.1 g3, hal⟩
  obtain ⟨L0, L1⟩ := g2
  have G1 := Lib.hid g1
  clear g1
  go_enter Try.func14, Try.ntmps14
  go_upto_region 1 with fail
  rw [HW.out]
  go_wp2_with (go_at_call 24; refine (rfrom _ _ _ _).mono ?_; rintro e w' ⟨rfl, rfl⟩)
  clear HW i1 i2
  obtain ⟨w2, rfl⟩ : ∃ w2 : World, w2 = w0 := ⟨_, rfl⟩
  have hTz := hT.sz
  have hTl := hT.lt
  obtain ⟨i0, hi, hz0, hz2, hz3⟩ := info_parts info3
  go_loopw [4, 5, 6] (fun out day i wr => ∃ k : Nat, k ≤ cs.length ∧ i = .int .i64 k ∧ day = .int .i64 (dayAt cs k) ∧ wr.ownsRow w2.heap.size 3 1 out (k + 1) ((lens L cs k).map (.int .i64)) ∧ Hid (∀ j, j < k → chOk L cs j) ∧ Below w2.heap.size w2 wr) (fun _ _ i _ => cs.length - (intOf i).toNat)
  case atStart => exact ⟨0, Nat.zero_le _, rfl, rfl, by simpa [lens, lenAt] using World.ownsRow_lit (base := w2.heap.size) (e := 3) (size := 1) w2 #[.int .i64 L] 1 (Nat.le_refl _) (by decide) rfl, hid_none, (Below.refl _ _).alloc (Nat.le_refl _) _⟩
  case round =>
    obtain ⟨k, hk, rfl, rfl, hown, ha, hb⟩ := hrel
    have hT' := hT.below hb hTz
    clear q0 q1 q2
    obtain ⟨-, q0, q1, q2, -, _⟩ := id hT'
    have hb' := hb.size
    by_cases hlt : k < cs.length
    · obtain ⟨b, off, hA, hbb, u0, u1, u2, u3⟩ := hT'.ch.at_ hlt
      subst hA
      obtain ⟨g, cc, hv, hg1, hg2⟩ := hown.form (by omega)
      subst hv
      have e1 := hown.cellAt k (by omega)
      have e2 : ((lens L cs k).map (Value.int .i64))[k]? = some (.int .i64 (lenAt L cs k)) := by simp [lens]
      rw [e2] at e1
      obtain ⟨n0, n1⟩ := lenAt_bd L0 L1 k ha.out
      obtain ⟨m0, m1⟩ := dayAt_bd k ha.out
      have hbw : b < wr.heap.size := by omega
      clear e2
      go_upto_region 8 with fail
      go_cut [7, 8] (fun t7 t8 wx => t7 = .pointer (some ⟨wr.heap.size, 0, none⟩) ∧ t8 = .int .i64 (lenAt L cs k) ∧ (wx.cell? ⟨wr.heap.size, 0, none⟩ = some (.int .i64 (chAt cs k).day) ∧ wx.cell? ⟨wr.heap.size, 1, none⟩ = some (.int .i64 (chAt cs k).fr) ∧ wx.cell? ⟨wr.heap.size, 2, none⟩ = some (.int .i64 (chAt cs k).to) ∧ wx.cell? ⟨wr.heap.size, 3, none⟩ = some (.int .i64 (chAt cs k).new)) ∧ Below wr.heap.size wr wx ∧ wr.heap.size < wx.heap.size)
      case first =>
        go_region
        all_goals (go_wp2_with fail; go_meet)
        all_goals exact ⟨rfl, rfl, ⟨by simp [go_sem], by simp [go_sem], by simp [go_sem], by simp [go_sem]⟩, (by first | exact (Below.refl _ _).drew.alloc (Nat.le_refl _) _ | exact ((Below.refl _ _).alloc (Nat.le_refl _) _).drew | exact (Below.refl _ _).alloc (Nat.le_refl _) _), by simp⟩
      case rest =>
        obtain ⟨rfl, rfl, ⟨x0, x1, x2, x3⟩, hbx, hxz⟩ := hcut
        obtain ⟨w3, rfl⟩ : ∃ w3 : World, w3 = wc := ⟨_, rfl⟩
        replace hown := owns_keep hown hbx
        have hb4 := hb.trans (hbx.mono hb.size)
        have hT4 := hT.below hb4 hTz
        clear q0 q1 q2 u0 u1 u2 u3
        obtain ⟨-, q0, q1, q2, -, _⟩ := id hT4
        by_cases d3 : 0 ≤ (chAt cs k).fr
        rotate_left
        · have HN : Hid (¬ chOk L cs k) := fun h => d3 h.2.1.1
          go_wp2_with (go_at_call 24; refine (rfrom _ _ _ _).mono ?_; rintro e w' ⟨rfl, rfl⟩)
          go_ret2
          exact ⟨fun _ => rfl, fun hh => absurd (hh.2.2.2 k hlt) HN.out, hal.trans (hb4.mono hal.size)⟩
        by_cases d4 : (chAt cs k).fr ≤ (chAt cs k).to
        rotate_left
        · have HN : Hid (¬ chOk L cs k) := fun h => d4 h.2.1.2.1
          go_wp2_with (go_at_call 24; refine (rfrom _ _ _ _).mono ?_; rintro e w' ⟨rfl, rfl⟩)
          go_ret2
          exact ⟨fun _ => rfl, fun hh => absurd (hh.2.2.2 k hlt) HN.out, hal.trans (hb4.mono hal.size)⟩
        by_cases d5 : (chAt cs k).to ≤ lenAt L cs k
        rotate_left
        · have HN : Hid (¬ chOk L cs k) := fun h => d5 h.2.1.2.2
          go_wp2_with (go_at_call 24; refine (rfrom _ _ _ _).mono ?_; rintro e w' ⟨rfl, rfl⟩)
          go_ret2
          exact ⟨fun _ => rfl, fun hh => absurd (hh.2.2.2 k hlt) HN.out, hal.trans (hb4.mono hal.size)⟩
        by_cases d6 : 0 ≤ (chAt cs k).new ∧ (chAt cs k).new ≤ 10000000
        rotate_left
        · have HN : Hid (¬ chOk L cs k) := fun h => d6 h.2.2.1
          have j6 := inB_f d6
          go_wp2_with (go_at_call 24; refine (rfrom _ _ _ _).mono ?_; rintro e w' ⟨rfl, rfl⟩)
          go_ret2
          exact ⟨fun _ => rfl, fun hh => absurd (hh.2.2.2 k hlt) HN.out, hal.trans (hb4.mono hal.size)⟩
        have j6 := inB_t d6.1 d6.2
        obtain ⟨d60, d61⟩ := d6
        by_cases d1 : dayAt cs k ≤ (chAt cs k).day ∧ (chAt cs k).day ≤ 100000
        rotate_left
        · have HN : Hid (¬ chOk L cs k) := fun h => d1 h.1
          have j1 := inB_f d1
          go_wp2_with (go_at_call 24; refine (rfrom _ _ _ _).mono ?_; rintro e w' ⟨rfl, rfl⟩)
          go_ret2
          exact ⟨fun _ => rfl, fun hh => absurd (hh.2.2.2 k hlt) HN.out, hal.trans (hb4.mono hal.size)⟩
        have j1 := inB_t d1.1 d1.2
        obtain ⟨d10, d11⟩ := d1
        by_cases d7 : lenAt L cs k + ((chAt cs k).new - ((chAt cs k).to - (chAt cs k).fr)) ≤ 10000000
        rotate_left
        · have HN : Hid (¬ chOk L cs k) := fun h => d7 h.2.2.2
          go_wp2_with (go_at_call 24; refine (rfrom _ _ _ _).mono ?_; rintro e w' ⟨rfl, rfl⟩)
          go_ret2
          exact ⟨fun _ => rfl, fun hh => absurd (hh.2.2.2 k hlt) HN.out, hal.trans (hb4.mono hal.size)⟩
        have HOKK : Hid (chOk L cs k) := ⟨⟨d10, d11⟩, ⟨d3, d4, d5⟩, ⟨d60, d61⟩, d7⟩
        go_upto_region 14 with (go_at_call 24; refine (rfrom _ _ _ _).mono ?_; rintro e w' ⟨rfl, rfl⟩)
        go_region_law (refine step_append_lies _ ?_ (.tmp 85) (.tmp 87) 44 ?_ w2.heap.size 3 i0 (.int .i64 0) 1 8 Try.underlying44 hi hz0 hz2 hz3 ?_ ?_ (.slice (some ⟨g, 0, none⟩) (k + 1) cc) (k + 1) ((lens L cs k).map (.int .i64)) ?_ ?_ ⟨w3.heap.size, 0, none⟩ 1 1 [.int .i64 (lenAt L cs k + ((chAt cs k).new - ((chAt cs k).to - (chAt cs k).fr)))] ?_ ?_ ?_ ?_ ?_ ?_ ?_ ?_ (w3.heap.size + 1) ?_ ?_; (solve | (rfl)); (solve | (rfl)); (solve | (rfl)); (solve | (decide)); (solve | (rfl)); (solve | (exact owns_new (t := 3) (cs := #[_]) hown (by first | exact .inl rfl | exact .inr (.inl rfl) | exact .inr (.inr rfl)))); (solve | (rfl)); (solve | (rfl)); (solve | (exact one_newH (t := 3) (w := w3) (by first | exact .inl rfl | exact .inr (.inl rfl) | exact .inr (.inr rfl)) rfl)); (solve | ((intro u hu; simp only [List.mem_singleton] at hu; subst hu; rfl))); (solve | (omega)); (solve | ((unfold maxLen; omega))); (solve | (omega)); (solve | ((have := hb4.size; simp; omega))); (solve | ((simp; done))); (intro g' cap w6 hown3 hgrow hat hg3; have x7 := (hgrow.cell_far ⟨wr.heap.size, 0, none⟩ (by simp; omega) (by intro e; have e' : some wr.heap.size = some g := e; injection e' with e'; omega)).trans (((new_below (t := 3) (cs := #[.int .i64 (lenAt L cs k + ((chAt cs k).new - ((chAt cs k).to - (chAt cs k).fr)))]) (by first | exact .inl rfl | exact .inr (.inl rfl) | exact .inr (.inr rfl)) (Below.refl w3.heap.size w3) (Nat.le_refl _)).cell (p := ⟨wr.heap.size, 0, none⟩) hxz).trans x0)))
        all_goals
          go_wp2_with fail
          have hls : (lens L cs k).map (Value.int .i64) ++ [.int .i64 (lenAt L cs k + ((chAt cs k).new - ((chAt cs k).to - (chAt cs k).fr)))] = (lens L cs (k + 1)).map (.int .i64) := by rw [lens_succ, List.map_append]; rfl
          rw [hls] at hown3
          have hb3 : Below w2.heap.size w2 w6 := app_below (w := w3) (t := 3) (cs := #[_]) (by first | exact .inl rfl | exact .inr (.inl rfl) | exact .inr (.inr rfl)) hb4 hb4.size hown hgrow
          exact ⟨⟨k + 1, by omega, by go_num, rfl, hown3, hid_more ha HOKK.out, hb3⟩, by simp [intOf]; omega⟩
    · obtain rfl : k = cs.length := by omega
      have HR : Hid (RoadOk num L cs) := ⟨G1.out, ⟨L0, L1⟩, g3, ha.out⟩
      obtain ⟨A', c', rfl, hI⟩ := owns_ints hown (lens_length ..)
      go_wp2
      go_ret2
      exact ⟨fun hh => absurd HR.out hh, fun _ => ⟨A', c', rfl, hI⟩, hal.trans (hb.mono hal.size)⟩
end Go.Proofs.Ytpcpkoaigjbdhaa

