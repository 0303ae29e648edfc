/- Contract of the reference's lengths. -/
import Derived.Test.YtdmmcdbojmalfaaGreatLen
import Derived.Test.YtdmmcdbojmalfaaGreatChk
import Derived.Deep.RegionLawGrows
import Derived.Test.YtdmmcdbojmalfaaGreatCry
import Derived.Laws.ResultCell
import Derived.Deep.DeepCutAuto
namespace Go.Proofs.YtdmmcdbojmalfaaGreat
open Go.RowKit
set_option maxRecDepth 100000 in
set_option maxHeartbeats 4000000 in
theorem rLengths (A : Option Addr) (c B : Nat) (num L : Int) (cs : List Chg) (w : World) (h : Chs w B A cs) (hB : B ≤ w.heap.size) (hn : cs.length ≤ 9223372036854775807) :
    Calls Tryz.prog 15 #[.agg #[.int .i64 num, .int .i64 L, .slice A cs.length c]] w (LenRes num L cs w) := by
  have hT := RdBox.new (c := c) (num := num) (L := L) (T := 24) h hB
  have hal : Below w.heap.size w (w.alloc (.cells #[.int .i64 num, .int .i64 L, .slice A cs.length c] 24)) := (Below.refl _ _).alloc (Nat.le_refl _) _
  generalize hW : w.alloc (.cells #[.int .i64 num, .int .i64 L, .slice A cs.length c] 24) = w0 at hT hal
  have HW := Lib.hid hW
  clear hW
  obtain ⟨-, q0, q1, q2, -, _⟩ := id hT
  by_cases g1 : 1 ≤ num ∧ num ≤ 1000000
  rotate_left
  · have i1 := inB_f g1
    go_enter Tryz.func15, Tryz.ntmps15
    go_upto_region 1 with fail
    rw [HW.out]
    go_wp2_with (go_at_call 38; refine (rfrom _ _ _ _).mono ?_; rintro e w' ⟨rfl, rfl⟩)
    go_ret2
    exact ⟨fun _ => rfl, fun hh => absurd hh.1 g1, hal⟩
  have i1 := inB_t g1.1 g1.2
  by_cases g2 : 0 ≤ L ∧ L ≤ 10000000
  rotate_left
  · have i2 := inB_f g2
    go_enter Tryz.func15, Tryz.ntmps15
    go_upto_region 1 with fail
    rw [HW.out]
    go_wp2_with (go_at_call 38; refine (rfrom _ _ _ _).mono ?_; rintro e w' ⟨rfl, rfl⟩)
    go_ret2
    exact ⟨fun _ => rfl, fun hh => absurd hh.2.1 g2, hal⟩
  have i2 := inB_t g2.1 g2.2
  by_cases g3 : cs.length ≤ 40
  rotate_left
  · skip
    go_enter Tryz.func15, Tryz.ntmps15
    go_upto_region 1 with fail
    rw [HW.out]
    go_wp2_with (go_at_call 38; refine (rfrom _ _ _ _).mono ?_; rintro e w' ⟨rfl, rfl⟩)
    go_ret2
    exact ⟨fun _ => rfl, fun hh => absurd hh.2.2.1 g3, hal⟩
  obtain ⟨L0, L1⟩ := g2
  have G1 := Lib.hid g1
  clear g1
  go_enter Tryz.func15, Tryz.ntmps15
  go_upto_region 1 with fail
  rw [HW.out]
  go_wp2_with (go_at_call 38; refine (rfrom _ _ _ _).mono ?_; rintro e w' ⟨rfl, rfl⟩)
  clear HW i1 i2
  obtain ⟨w2, rfl⟩ : ∃ w2 : World, w2 = w0 := ⟨_, rfl⟩
  have hTz := hT.sz
  have hTl := hT.lt
  obtain ⟨i0, hi, hz0, hz2, hz3⟩ := info_parts info3
  go_loopw [4, 5, 6] (fun out day i wr => ∃ k : Nat, k ≤ cs.length ∧ i = .int .i64 k ∧ day = .int .i64 (dayAt cs k) ∧ wr.ownsRow w2.heap.size 3 1 out (k + 1) ((lens L cs k).map (.int .i64)) ∧ Hid (∀ j, j < k → chOk L cs j) ∧ Below w2.heap.size w2 wr) (fun _ _ i _ => cs.length - (intOf i).toNat)
  case atStart => exact ⟨0, Nat.zero_le _, rfl, rfl, by simpa [lens, lenAt] using World.ownsRow_lit (base := w2.heap.size) (e := 3) (size := 1) w2 #[.int .i64 L] 1 (Nat.le_refl _) (by decide) rfl, hid_none, (Below.refl _ _).alloc (Nat.le_refl _) _⟩
  case round =>
    obtain ⟨k, hk, rfl, rfl, hown, ha, hb⟩ := hrel
    have hT' := hT.below hb hTz
    clear q0 q1 q2
    obtain ⟨-, q0, q1, q2, -, _⟩ := id hT'
    have hb' := hb.size
    by_cases hlt : k < cs.length
    · obtain ⟨b, off, hA, hbb, u0, u1, u2, u3⟩ := hT'.ch.at_ hlt
      subst hA
      obtain ⟨g, cc, hv, hg1, hg2⟩ := hown.form (by omega)
      subst hv
      have e1 := hown.cellAt k (by omega)
      have e2 : ((lens L cs k).map (Value.int .i64))[k]? = some (.int .i64 (lenAt L cs k)) := by simp [lens]
      rw [e2] at e1
      obtain ⟨n0, n1⟩ := lenAt_bd L0 L1 k ha.out
      obtain ⟨m0, m1⟩ := dayAt_bd k ha.out
      have hbw : b < wr.heap.size := by omega
      clear e2
      go_upto_region 8 with fail
      go_cut [7, 8] (fun t7 t8 wx => t7 = .pointer (some ⟨wr.heap.size, 0, none⟩) ∧ t8 = .int .i64 (lenAt L cs k) ∧ (wx.cell? ⟨wr.heap.size, 0, none⟩ = some (.int .i64 (chAt cs k).day) ∧ wx.cell? ⟨wr.heap.size, 1, none⟩ = some (.int .i64 (chAt cs k).fr) ∧ wx.cell? ⟨wr.heap.size, 2, none⟩ = some (.int .i64 (chAt cs k).to) ∧ wx.cell? ⟨wr.heap.size, 3, none⟩ = some (.int .i64 (chAt cs k).new)) ∧ Below wr.heap.size wr wx ∧ wr.heap.size < wx.heap.size)
      case first =>
        go_region
        all_goals (go_wp2_with fail; go_meet)
        all_goals exact ⟨rfl, rfl, ⟨by simp [go_sem], by simp [go_sem], by simp [go_sem], by simp [go_sem]⟩, (by first | exact (Below.refl _ _).drew.alloc (Nat.le_refl _) _ | exact ((Below.refl _ _).alloc (Nat.le_refl _) _).drew | exact (Below.refl _ _).alloc (Nat.le_refl _) _), by simp⟩
      case rest =>
        obtain ⟨rfl, rfl, ⟨x0, x1, x2, x3⟩, hbx, hxz⟩ := hcut
        obtain ⟨w3, rfl⟩ : ∃ w3 : World, w3 = wc := ⟨_, rfl⟩
        replace hown := owns_keep hown hbx
        have hb4 := hb.trans (hbx.mono hb.size)
        have hT4 := hT.below hb4 hTz
        clear q0 q1 q2 u0 u1 u2 u3
        obtain ⟨-, q0, q1, q2, -, _⟩ := id hT4
        by_cases d3 : 0 ≤ (chAt cs k).fr
        rotate_left
        · have HN : Hid (¬ chOk L cs k) := fun h => d3 h.2.1.1
          go_wp2_with (go_at_call 38; refine (rfrom _ _ _ _).mono ?_; rintro e w' ⟨rfl, rfl⟩)
          go_ret2
          exact ⟨fun _ => rfl, fun hh => absurd (hh.2.2.2 k hlt) HN.out, hal.trans (hb4.mono hal.size)⟩
        by_cases d4 : (chAt cs k).fr ≤ (chAt cs k).to
        rotate_left
        · have HN : Hid (¬ chOk L cs k) := fun h => d4 h.2.1.2.1
          go_wp2_with (go_at_call 38; refine (rfrom _ _ _ _).mono ?_; rintro e w' ⟨rfl, rfl⟩)
          go_ret2
          exact ⟨fun _ => rfl, fun hh => absurd (hh.2.2.2 k hlt) HN.out, hal.trans (hb4.mono hal.size)⟩
        by_cases d5 : (chAt cs k).to ≤ lenAt L cs k
        rotate_left
        · have HN : Hid (¬ chOk L cs k) := fun h => d5 h.2.1.2.2
          go_wp2_with (go_at_call 38; refine (rfrom _ _ _ _).mono ?_; rintro e w' ⟨rfl, rfl⟩)
          go_ret2
          exact ⟨fun _ => rfl, fun hh => absurd (hh.2.2.2 k hlt) HN.out, hal.trans (hb4.mono hal.size)⟩
        by_cases d6 : 0 ≤ (chAt cs k).new ∧ (chAt cs k).new ≤ 10000000
        rotate_left
        · have HN : Hid (¬ chOk L cs k) := fun h => d6 h.2.2.1
          have j6 := inB_f d6
          go_wp2_with (go_at_call 38; refine (rfrom _ _ _ _).mono ?_; rintro e w' ⟨rfl, rfl⟩)
          go_ret2
          exact ⟨fun _ => rfl, fun hh => absurd (hh.2.2.2 k hlt) HN.out, hal.trans (hb4.mono hal.size)⟩
        have j6 := inB_t d6.1 d6.2
        obtain ⟨d60, d61⟩ := d6
        by_cases d1 : dayAt cs k ≤ (chAt cs k).day ∧ (chAt cs k).day ≤ 100000
        rotate_left
        · have HN : Hid (¬ chOk L cs k) := fun h => d1 h.1
          have j1 := inB_f d1
          go_wp2_with (go_at_call 38; refine (rfrom _ _ _ _).mono ?_; rintro e w' ⟨rfl, rfl⟩)
          go_ret2
          exact ⟨fun _ => rfl, fun hh => absurd (hh.2.2.2 k hlt) HN.out, hal.trans (hb4.mono hal.size)⟩
        have j1 := inB_t d1.1 d1.2
        obtain ⟨d10, d11⟩ := d1
        by_cases d7 : lenAt L cs k + ((chAt cs k).new - ((chAt cs k).to - (chAt cs k).fr)) ≤ 10000000
        rotate_left
        · have HN : Hid (¬ chOk L cs k) := fun h => d7 h.2.2.2
          go_wp2_with (go_at_call 38; refine (rfrom _ _ _ _).mono ?_; rintro e w' ⟨rfl, rfl⟩)
          go_ret2
          exact ⟨fun _ => rfl, fun hh => absurd (hh.2.2.2 k hlt) HN.out, hal.trans (hb4.mono hal.size)⟩
        have HOKK : Hid (chOk L cs k) := ⟨⟨d10, d11⟩, ⟨d3, d4, d5⟩, ⟨d60, d61⟩, d7⟩
        go_upto_region 14 with (go_at_call 38; refine (rfrom _ _ _ _).mono ?_; rintro e w' ⟨rfl, rfl⟩)
        go_region_law (refine step_append_lies _ ?_ (.tmp 85) (.tmp 87) 25 ?_ w2.heap.size 3 i0 (.int .i64 0) 1 8 Tryz.underlying25 hi hz0 hz2 hz3 ?_ ?_ (.slice (some ⟨g, 0, none⟩) (k + 1) cc) (k + 1) ((lens L cs k).map (.int .i64)) ?_ ?_ ⟨w3.heap.size, 0, none⟩ 1 1 [.int .i64 (lenAt L cs k + ((chAt cs k).new - ((chAt cs k).to - (chAt cs k).fr)))] ?_ ?_ ?_ ?_ ?_ ?_ ?_ ?_ (w3.heap.size + 1) ?_ ?_; (solve | (rfl)); (solve | (rfl)); (solve | (rfl)); (solve | (decide)); (solve | (rfl)); (solve | (exact owns_new (t := 3) (cs := #[_]) hown (by first | exact .inl rfl | exact .inr (.inl rfl) | exact .inr (.inr rfl)))); (solve | (rfl)); (solve | (rfl)); (solve | (exact one_newH (t := 3) (w := w3) (by first | exact .inl rfl | exact .inr (.inl rfl) | exact .inr (.inr rfl)) rfl)); (solve | ((intro u hu; simp only [List.mem_singleton] at hu; subst hu; rfl))); (solve | (omega)); (solve | ((unfold maxLen; omega))); (solve | (omega)); (solve | ((have := hb4.size; simp; omega))); (solve | ((simp; done))); (intro g' cap w6 hown3 hgrow hat hg3; have x7 := (hgrow.cell_far ⟨wr.heap.size, 0, none⟩ (by simp; omega) (by intro e; have e' : some wr.heap.size = some g := e; injection e' with e'; omega)).trans (((new_below (t := 3) (cs := #[.int .i64 (lenAt L cs k + ((chAt cs k).new - ((chAt cs k).to - (chAt cs k).fr)))]) (by first | exact .inl rfl | exact .inr (.inl rfl) | exact .inr (.inr rfl)) (Below.refl w3.heap.size w3) (Nat.le_refl _)).cell (p := ⟨wr.heap.size, 0, none⟩) hxz).trans x0)))
        all_goals
          go_wp2_with fail
          have hls : (lens L cs k).map (Value.int .i64) ++ [.int .i64 (lenAt L cs k + ((chAt cs k).new - ((chAt cs k).to - (chAt cs k).fr)))] = (lens L cs (k + 1)).map (.int .i64) := by rw [lens_succ, List.map_append]; rfl
          rw [hls] at hown3
          have hb3 : Below w2.heap.size w2 w6 := app_below (w := w3) (t := 3) (cs := #[_]) (by first | exact .inl rfl | exact .inr (.inl rfl) | exact .inr (.inr rfl)) hb4 hb4.size hown hgrow
          exact ⟨⟨k + 1, by omega, by go_num, rfl, hown3, hid_more ha HOKK.out, hb3⟩, by simp [intOf]; omega⟩
    · obtain rfl : k = cs.length := by omega
      have HR : Hid (RoadOk num L cs) := ⟨G1.out, ⟨L0, L1⟩, g3, ha.out⟩
      obtain ⟨A', c', rfl, hI⟩ := owns_ints hown (lens_length ..)
      go_wp2
      go_ret2
      exact ⟨fun hh => absurd HR.out hh, fun _ => ⟨A', c', rfl, hI⟩, hal.trans (hb.mono hal.size)⟩
end Go.Proofs.YtdmmcdbojmalfaaGreat
/- Contracts of the reference's versions, toward, step and moved. -/
namespace Go.Proofs.YtdmmcdbojmalfaaGreat
open Go.RowKit
/-- What versions returns. -/
def VerRes (num L : Int) (cs : List Chg) (f t : Int) (w : World) (e : Ending) (w' : World) : Prop :=
  (¬ RoadOk num L cs → e = .returned (.tuple #[.slice none 0 0, .int .i64 60])) ∧ (RoadOk num L cs → ¬ VersOk cs f t → e = .returned (.tuple #[.slice none 0 0, .int .i64 61])) ∧
  (RoadOk num L cs → VersOk cs f t → ∃ (A : Option Addr) (c : Nat), e = .returned (.tuple #[.slice A (cs.length + 1) c, .int .i64 0]) ∧ Ints w' w'.heap.size A (lens L cs cs.length)) ∧ Below w.heap.size w w'
set_option maxRecDepth 100000 in
set_option maxHeartbeats 2000000 in
theorem rVersions (A : Option Addr) (cp B : Nat) (num L : Int) (cs : List Chg) (f t : Int) (w : World) (h : Chs w B A cs) (hB : B ≤ w.heap.size) (hn : cs.length ≤ 9223372036854775807) :
    Calls Tryz.prog 19 #[.agg #[.int .i64 num, .int .i64 L, .slice A cs.length cp], .int .i64 f, .int .i64 t] w (VerRes num L cs f t w) := by
  have hT := RdBox.new (c := cp) (num := num) (L := L) (T := 24) h hB
  have hal : Below w.heap.size w (w.alloc (.cells #[.int .i64 num, .int .i64 L, .slice A cs.length cp] 24)) := (Below.refl _ _).alloc (Nat.le_refl _) _
  generalize hW : w.alloc (.cells #[.int .i64 num, .int .i64 L, .slice A cs.length cp] 24) = w0 at hT hal
  have HW := Lib.hid hW
  clear hW h
  obtain ⟨-, q0, q1, q2, -, hz⟩ := id hT
  go_enter Tryz.func19, Tryz.ntmps19
  go_upto_region 1 with fail
  rw [HW.out]
  go_wp2_with fail
  refine (rLengths A cp B num L cs w0 hT.ch (by have := hT.lt; omega) hn).mono ?_
  rintro e w1 ⟨r1, r2, hb⟩
  have hal2 := hal.trans (hb.mono hal.size)
  clear q0 q1 q2 HW hT
  by_cases ho : RoadOk num L cs
  · obtain ⟨A', c', rfl, hI⟩ := r2 ho
    have HO := Lib.hid ho
    have h40 := ho.2.2.1
    clear r1 r2 ho
    by_cases v0 : 0 ≤ f
    rotate_left
    · have HV : Hid (¬ VersOk cs f t) := fun hh => v0 hh.1.1
      go_wp2
      go_ret2
      exact ⟨fun hh => absurd HO.out hh, fun _ _ => rfl, fun _ hh => absurd hh HV.out, hal2⟩
    by_cases v1 : f ≤ cs.length
    rotate_left
    · have HV : Hid (¬ VersOk cs f t) := fun hh => v1 hh.1.2
      go_wp2
      go_ret2
      exact ⟨fun hh => absurd HO.out hh, fun _ _ => rfl, fun _ hh => absurd hh HV.out, hal2⟩
    by_cases v2 : 0 ≤ t
    rotate_left
    · have HV : Hid (¬ VersOk cs f t) := fun hh => v2 hh.2.1
      go_wp2
      go_ret2
      exact ⟨fun hh => absurd HO.out hh, fun _ _ => rfl, fun _ hh => absurd hh HV.out, hal2⟩
    by_cases v3 : t ≤ cs.length
    rotate_left
    · have HV : Hid (¬ VersOk cs f t) := fun hh => v3 hh.2.2
      go_wp2
      go_ret2
      exact ⟨fun hh => absurd HO.out hh, fun _ _ => rfl, fun _ hh => absurd hh HV.out, hal2⟩
    have HV : Hid (VersOk cs f t) := ⟨⟨v0, v1⟩, v2, v3⟩
    go_wp2
    go_ret2
    exact ⟨fun hh => absurd HO.out hh, fun _ hh => absurd HV.out hh, fun _ _ => ⟨A', c', rfl, hI⟩, hal2⟩
  · rw [r1 ho]
    have HO := Lib.hid ho
    clear r1 r2 ho
    go_wp2
    go_ret2
    exact ⟨fun _ => rfl, fun hh => absurd hh HO.out, fun hh => absurd hh HO.out, hal2⟩
theorem results_one {fn : Func} {p : Tmp} {ty : TypeId} (h : fn.results = #[.cell p ty]) (tmps : Array Value) (P : Program) (w : World) :
    (results fn tmps).run P w = ((asAddr (tmps.getD p undef)).run P w).andThen fun a w₁ => (loadVar ty a).run P w₁ := by
  simp only [results, h]
  simp [Sem.run_bind, Result.andThen]
theorem set3c {w : World} {n : Nat} {a b c x y z : Value} {o : Obj} (hz : n < w.heap.size) (h0 : w.cell? ⟨n, 0, none⟩ = some x) (h1 : w.cell? ⟨n, 1, none⟩ = some y) (h2 : w.cell? ⟨n, 2, none⟩ = some z) :
    ((((w.setCell ⟨n, 0, none⟩ a).setCell ⟨n, 1, none⟩ b).setCell ⟨n, 2, none⟩ c).alloc o).cell? ⟨n, 0, none⟩ = some a ∧ ((((w.setCell ⟨n, 0, none⟩ a).setCell ⟨n, 1, none⟩ b).setCell ⟨n, 2, none⟩ c).alloc o).cell? ⟨n, 1, none⟩ = some b ∧
      ((((w.setCell ⟨n, 0, none⟩ a).setCell ⟨n, 1, none⟩ b).setCell ⟨n, 2, none⟩ c).alloc o).cell? ⟨n, 2, none⟩ = some c := by
  have ne : ∀ (w : World) (i j : Nat) (u : Value), i ≠ j → (w.setCell ⟨n, j, none⟩ u).cell? ⟨n, i, none⟩ = w.cell? ⟨n, i, none⟩ := fun w i j u hij => World.cell?_setCell_other _ _ _ _ (by intro e; injection e with _ e; exact hij (by omega))
  have hk := (Below.refl (((w.setCell ⟨n, 0, none⟩ a).setCell ⟨n, 1, none⟩ b).setCell ⟨n, 2, none⟩ c).heap.size (((w.setCell ⟨n, 0, none⟩ a).setCell ⟨n, 1, none⟩ b).setCell ⟨n, 2, none⟩ c)).alloc (Nat.le_refl _) o
  have hn : n < (((w.setCell ⟨n, 0, none⟩ a).setCell ⟨n, 1, none⟩ b).setCell ⟨n, 2, none⟩ c).heap.size := by simpa [World.setCell] using hz
  refine ⟨(hk.cell (p := ⟨n, 0, none⟩) hn).trans ?_, (hk.cell (p := ⟨n, 1, none⟩) hn).trans ?_, (hk.cell (p := ⟨n, 2, none⟩) hn).trans ?_⟩
  · rw [ne _ 0 2 _ (by decide), ne _ 0 1 _ (by decide)]; exact World.cell?_setCell_same _ _ _ h0
  · rw [ne _ 1 2 _ (by decide)]; exact World.cell?_setCell_same _ _ _ ((ne _ 1 0 _ (by decide)).trans h1)
  · exact World.cell?_setCell_same _ _ _ ((ne _ 2 1 _ (by decide)).trans ((ne _ 2 0 _ (by decide)).trans h2))
end Go.Proofs.YtdmmcdbojmalfaaGreat
/- Contracts of the reference's carry and Carry. -/
namespace Go.Proofs.YtdmmcdbojmalfaaGreat
open Go.RowKit
theorem mv_up (cs : List Chg) {f t k : Nat} (h : f ≤ t) (hk : k < t - f) : mvAt (movesF cs f t) k = upM cs (f + k) := by
  have hz : f - t = 0 := by omega
  simp [movesF, ups, downs, hz, mvAt, hk]
theorem mv_down (cs : List Chg) {f t k : Nat} (h : t ≤ f) (hk : k < f - t) : mvAt (movesF cs f t) k = downM cs (f - 1 - k) := by
  have hz : t - f = 0 := by omega
  simp [movesF, ups, downs, hz, mvAt, hk]
theorem part_up (cs : List Chg) (v : Nat) : (⟨(chAt cs v).fr, (chAt cs v).fr + ((chAt cs v).to - (chAt cs v).fr), (chAt cs v).new - ((chAt cs v).to - (chAt cs v).fr)⟩ : Mov) = upM cs v := by
  simp only [upM, Mov.mk.injEq, true_and, and_true]; omega
theorem part_down (cs : List Chg) (v : Nat) : (⟨(chAt cs v).fr, (chAt cs v).fr + (chAt cs v).new, ((chAt cs v).to - (chAt cs v).fr) - (chAt cs v).new⟩ : Mov) = downM cs v := by
  simp only [downM]
theorem ch_bd {num L : Int} {cs : List Chg} (h : RoadOk num L cs) {k : Nat} (hk : k < cs.length) : (0 ≤ (chAt cs k).fr ∧ (chAt cs k).fr ≤ (chAt cs k).to) ∧ (chAt cs k).to ≤ 10000000 ∧ 0 ≤ (chAt cs k).new ∧ (chAt cs k).new ≤ 10000000 := by
  obtain ⟨_, ⟨d2, d3, d4⟩, ⟨d5, d6⟩, d7⟩ := h.2.2.2 k hk
  have := lenAt_bd h.2.1.1 h.2.1.2 k (fun j hj => h.2.2.2 j (by omega))
  omega
theorem carry_any (num L : Int) (cs : List Chg) (c f t : Int) : ∃ v er : Int, CarryIs num L cs c f t v er ∧ ∀ v' er', CarryIs num L cs c f t v' er' → v' = v ∧ er' = er := by
  by_cases ho : RoadOk num L cs
  · by_cases hv : VersOk cs f t
    · by_cases hin : 0 ≤ c ∧ c ≤ lenAt L cs f.toNat
      · cases hr : carryTo (movesF cs f.toNat t.toNat) c (movesF cs f.toNat t.toNat).length with
        | some d => exact ⟨d, 0, ⟨fun h => absurd ho h, fun _ h => absurd hv h, fun _ _ h => absurd hin h, fun _ _ _ => ⟨fun d' hd => ⟨by (have := hr.symm.trans hd; cases this; rfl), rfl⟩, fun hd => by (have := hr.symm.trans hd; cases this)⟩⟩, fun v' er' h => (h.2.2.2 ho hv hin).1 d hr⟩
        | none => exact ⟨0, 62, ⟨fun h => absurd ho h, fun _ h => absurd hv h, fun _ _ h => absurd hin h, fun _ _ _ => ⟨fun d' hd => by (have := hr.symm.trans hd; cases this), fun _ => ⟨rfl, rfl⟩⟩⟩, fun v' er' h => (h.2.2.2 ho hv hin).2 hr⟩
      · exact ⟨0, 2, ⟨fun h => absurd ho h, fun _ h => absurd hv h, fun _ _ _ => ⟨rfl, rfl⟩, fun _ _ h => absurd h hin⟩, fun v' er' h => h.2.2.1 ho hv hin⟩
    · exact ⟨0, 61, ⟨fun h => absurd ho h, fun _ _ => ⟨rfl, rfl⟩, fun _ h => absurd h hv, fun _ h => absurd h hv⟩, fun v' er' h => h.2.1 ho hv⟩
  · exact ⟨0, 60, ⟨fun _ => ⟨rfl, rfl⟩, fun h => absurd h ho, fun h => absurd h ho, fun h => absurd h ho⟩, fun v' er' h => h.1 ho⟩
end Go.Proofs.YtdmmcdbojmalfaaGreat
