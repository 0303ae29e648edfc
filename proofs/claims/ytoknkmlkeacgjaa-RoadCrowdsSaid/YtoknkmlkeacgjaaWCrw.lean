/- Contract of the reference's Crowded, and the walk of RoadCrowds. -/
import Derived.Test.YtoknkmlkeacgjaaCrw
namespace Go.Proofs.Ytoknkmlkeacgjaa
open Go.RowKit
set_option maxRecDepth 100000 in
set_option maxHeartbeats 4000000 in
theorem rCrowded (A : Option Addr) (c B : Nat) (ps : List Pst) (gap : Int) (w : World) (h : Posts w B A ps) (hB : B ≤ w.heap.size) (hn : ps.length ≤ 9223372036854775807) :
    Calls Try.prog 32 #[.slice A ps.length c, .int .i64 gap] w (CrRes ps gap w) := by
  by_cases hl : ps.length ≤ 200
  rotate_left
  · go_enter Try.func32, Try.ntmps32
    go_wp2_with (go_at_call 55; refine (rfrom _ _ _ _).mono ?_; rintro e w' ⟨rfl, rfl⟩)
    go_ret2
    exact ⟨fun _ => rfl, fun hh => absurd hh.1 hl, Below.refl _ _⟩
  by_cases hg : 0 ≤ gap ∧ gap ≤ 10000
  rotate_left
  · have j1 := inB_f hg
    go_enter Try.func32, Try.ntmps32
    go_wp2_with (go_at_call 55; refine (rfrom _ _ _ _).mono ?_; rintro e w' ⟨rfl, rfl⟩)
    go_ret2
    exact ⟨fun _ => rfl, fun hh => absurd hh.2.1 hg, Below.refl _ _⟩
  have j1 := inB_t hg.1 hg.2
  obtain ⟨g0, g1⟩ := hg
  obtain ⟨w1, rfl⟩ : ∃ w1 : World, w1 = w := ⟨_, rfl⟩
  go_enter Try.func32, Try.ntmps32
  go_wp2_with (go_at_call 55; refine (rfrom _ _ _ _).mono ?_; rintro e w' ⟨rfl, rfl⟩)
  clear j1
  go_loopw [6] (fun iv wr => ∃ k : Nat, k ≤ ps.length ∧ iv = .int .i64 k ∧ Hid (∀ j, j < k → PostOk (psAt ps j)) ∧ Below w1.heap.size w1 wr) (fun iv _ => ps.length - (intOf iv).toNat)
  case atStart => exact ⟨0, Nat.zero_le _, rfl, hid_none, Below.refl _ _⟩
  case round =>
    obtain ⟨k, hk, rfl, ha, hb⟩ := hrel
    have hbs := hb.size
    by_cases hlt : k < ps.length
    · obtain ⟨b, o, rfl, hbl, hc⟩ := (h.below (hb.mono hB)).at_ hlt
      obtain ⟨u0, u1, u2, u3⟩ := hc k hlt
      clear hc
      go_wp2_with fail
      refine (rpost (psAt ps k) _).mono ?_
      rintro e w3 ⟨r1, r2, hb3⟩
      have hb4 := hb.trans (hb3.mono hb.size)
      by_cases hp : PostOk (psAt ps k)
      · rw [r1 hp]
        have HP := Lib.hid hp
        clear r1 r2 hp
        go_wp2_with fail
        exact ⟨⟨k + 1, by omega, by go_num, hid_more ha HP.out, hb4⟩, by simp [intOf]; omega⟩
      · rw [r2 hp]
        have HP := Lib.hid hp
        clear r1 r2 hp
        go_wp2_with fail
        go_ret2
        exact ⟨fun _ => rfl, fun hh => absurd (hh.2.2 k hlt) HP.out, hb4⟩
    · obtain rfl : k = ps.length := by omega
      have HALL : Hid (CrOk ps gap) := ⟨hl, ⟨g0, g1⟩, ha.out⟩
      obtain ⟨w2, rfl⟩ : ∃ w2 : World, w2 = wr := ⟨_, rfl⟩
      have h2 := h.below (hb.mono hB)
      have hB2 : B ≤ w2.heap.size := by omega
      clear ha hk hlt
      obtain ⟨i0, hi, hz0, hz2, hz3⟩ := info_parts info91
      go_wp2_with fail
      go_loopw [7, 8] (fun out iv wr => ∃ i : Nat, i ≤ ps.length ∧ iv = .int .i64 i ∧ wr.ownsRow w2.heap.size 91 2 out (crTo ps gap i).length (pcells (crTo ps gap i)) ∧ Below w2.heap.size w2 wr) (fun _ iv _ => ps.length - (intOf iv).toNat)
      case atStart => exact ⟨0, Nat.zero_le _, rfl, World.ownsRow_nil _ _ _ _, Below.refl _ _⟩
      case round =>
        obtain ⟨i, hil, rfl, hown, hbw⟩ := hrel
        have hcl := crTo_length ps gap hl i
        by_cases hlt : i < ps.length
        · have hpi := HALL.out.2.2 i hlt
          obtain ⟨⟨a0, a1⟩, _, _, _⟩ := hpi
          have hstart : crTo ps gap i = crTo ps gap i ++ rowTo ps gap i 0 := by simp [rowTo]
          rw [hstart] at hown
          obtain ⟨wo, rfl⟩ : ∃ wo : World, wo = wr := ⟨_, rfl⟩
          have HST : Hid ((wo.ownsRow w2.heap.size 91 2 u7 (crTo ps gap i ++ rowTo ps gap i 0).length (pcells (crTo ps gap i ++ rowTo ps gap i 0))) ∧ Below w2.heap.size w2 wo) := ⟨hown, hbw⟩
          clear hstart hown hbw
          go_wp2_with fail
          go_loopw [7, 9] (fun out kv wr => ∃ j : Nat, j ≤ ps.length - (i + 1) ∧ kv = .int .i64 ((i : Int) + 1 + j) ∧ wr.ownsRow w2.heap.size 91 2 out (crTo ps gap i ++ rowTo ps gap i j).length (pcells (crTo ps gap i ++ rowTo ps gap i j)) ∧ Below w2.heap.size w2 wr) (fun _ kv _ => ps.length - (intOf kv).toNat)
          case atStart => exact ⟨0, Nat.zero_le _, by simp, HST.out.1, HST.out.2⟩
          case round =>
            clear HST
            obtain ⟨j, hj, rfl, hown, hbw⟩ := hrel
            have hbws := hbw.size
            have hrl := rowTo_length ps gap i j
            have hll : (crTo ps gap i ++ rowTo ps gap i j).length ≤ 100000 := by rw [List.length_append]; omega
            by_cases hlt2 : i + 1 + j < ps.length
            · obtain ⟨b, o, rfl, hbl', hc⟩ := (h2.below (hbw.mono hB2)).at_ hlt2
              obtain ⟨y0, y1, y2, y3⟩ := hc (i + 1 + j) hlt2
              obtain ⟨q0, q1, q2, q3⟩ := hc i hlt
              clear hc
              have hpk := HALL.out.2.2 (i + 1 + j) hlt2
              obtain ⟨⟨k0, k1⟩, _, _, _⟩ := hpk
              have hbb : b < wr.heap.size := by omega
              generalize hpp : psAt ps (i + 1 + j) = q at *
              have HQ := Lib.hid hpp
              clear hpp
              generalize hpi : psAt ps i = p at *
              have HPI := Lib.hid hpi
              clear hpi
              have v1 : (i : Int) + 1 + (j : Int) < (ps.length : Int) := by omega
              generalize hpix : i + 1 + j = pk at *
              have v2 : (i : Int) + 1 + (j : Int) = (pk : Int) := by omega
              rw [v2]
              rw [v2] at v1
              have V2 := Lib.hid v2
              have HPIX := Lib.hid hpix
              have hmeas : j + 1 ≤ ps.length - (i + 1) := by omega
              have v3 : (i : Int) < (ps.length : Int) := by omega
              have v4 : (0 : Int) ≤ (i : Int) := by omega
              have v5 : (0 : Int) ≤ (pk : Int) := by omega
              have s1 : IntKind.i64.wrap (p.chain - q.chain) = p.chain - q.chain := IntWalk.i64_in _ (by omega)
              have s2 : IntKind.i64.wrap (q.chain - p.chain) = q.chain - p.chain := IntWalk.i64_in _ (by omega)
              clear v2 hpix
              go_wp2_with fail
              by_cases t1 : p.dir = q.dir
              · have t1b : (p.dir == q.dir) = true := by simp [t1]
                have T1 := Lib.hid t1
                clear t1
                by_cases t2 : p.side = q.side
                · have t2b : (p.side == q.side) = true := by simp [t2]
                  have T2 := Lib.hid t2
                  clear t2
                  by_cases t3 : p.chain - q.chain < gap ∧ q.chain - p.chain < gap
                  · have HR : Hid (crTo ps gap i ++ rowTo ps gap i (j + 1) = (crTo ps gap i ++ rowTo ps gap i j) ++ [((i : Int), (pk : Int))]) := by
                      refine Lib.hid ?_
                      simp only [rowTo]
                      rw [HPIX.out, HQ.out, HPI.out, if_pos ⟨⟨T1.out, T2.out⟩, t3⟩, List.append_assoc]
                    obtain ⟨t4, t5⟩ := t3
                    by_cases t6 : p.chain - q.chain ≤ q.chain - p.chain
                    · go_quiet (fail)
                      have hown1 := owns_keep hown (below_drewN (Below.refl _ _) nq)
                      have hba := below_drewN hbw nq
                      go_wp2_with (first
                        | (at_builtin; refine wpList_append_lies _ ?_ (.tmp 95) (.tmp 99) 50 ?_ w2.heap.size 91 i0 (.agg #[.int .i64 0, .int .i64 0]) 2 16 Try.underlying50 hi hz0 hz2 hz3 ?_ ?_ u7 (crTo ps gap i ++ rowTo ps gap i j).length (pcells (crTo ps gap i ++ rowTo ps gap i j)) ?_ ?_ ⟨wr.heap.size, 0, none⟩ 1 1 [.int .i64 (i : Int), .int .i64 (pk)] ?_ ?_ ?_ ?_ ?_ ?_ ?_ ?_ (wr.heap.size + 1) ?_ ?_; (solve | (rfl)); (solve | (rfl)); (solve | (rfl)); (solve | (decide)); (solve | (rfl)); (solve | (exact owns_new (t := 91) (cs := #[_, _]) hown1 (by first | exact .inl rfl | exact .inr (.inl rfl) | exact .inr (.inr rfl)))); (solve | (rfl)); (solve | (rfl)); (solve | (exact newH (t := 91) (cs := #[_, _]) (w := wr.drewN nq) (by first | exact .inl rfl | exact .inr (.inl rfl) | exact .inr (.inr rfl)) (by simp))); (solve | ((intro u hu; simp only [List.mem_cons, List.not_mem_nil, or_false] at hu; rcases hu with rfl | rfl <;> rfl))); (solve | (omega)); (solve | ((unfold maxLen; omega))); (solve | (omega)); (solve | ((simp; omega))); (solve | ((simp; done))); (intro g3 cap3 w6 hown3 hgrow hat hg3))
                        | fail)
                      all_goals first | (exfalso; omega) | skip
                      all_goals
                        have hfin : w6.ownsRow w2.heap.size 91 2 (.slice (some ⟨g3, 0, none⟩) ((crTo ps gap i ++ rowTo ps gap i j).length + 1) cap3) (crTo ps gap i ++ rowTo ps gap i (j + 1)).length (pcells (crTo ps gap i ++ rowTo ps gap i (j + 1))) := by
                          rw [HR.out, pcells_append _ [_], List.length_append (bs := [_])]
                          exact hown3
                        have hle : (crTo ps gap i ++ rowTo ps gap i j).length = (crTo ps gap i).length + (rowTo ps gap i j).length := List.length_append
                        rw [hle] at hfin
                        have hb6 : Below w2.heap.size w2 w6 := app_below (w := wr.drewN nq) (t := 91) (cs := #[_, _]) (.inl rfl) hba (by have := hbws; exact this) hown1 hgrow
                        exact ⟨⟨j + 1, hmeas, by have := V2.out; congr 1; push_cast; omega, hfin, hb6⟩, by have := V2.out; simp [intOf]; omega⟩
                    · go_quiet (fail)
                      have hown1 := owns_keep hown (below_drewN (Below.refl _ _) nq)
                      have hba := below_drewN hbw nq
                      go_wp2_with (first
                        | (at_builtin; refine wpList_append_lies _ ?_ (.tmp 95) (.tmp 99) 50 ?_ w2.heap.size 91 i0 (.agg #[.int .i64 0, .int .i64 0]) 2 16 Try.underlying50 hi hz0 hz2 hz3 ?_ ?_ u7 (crTo ps gap i ++ rowTo ps gap i j).length (pcells (crTo ps gap i ++ rowTo ps gap i j)) ?_ ?_ ⟨wr.heap.size, 0, none⟩ 1 1 [.int .i64 (i : Int), .int .i64 (pk)] ?_ ?_ ?_ ?_ ?_ ?_ ?_ ?_ (wr.heap.size + 1) ?_ ?_; (solve | (rfl)); (solve | (rfl)); (solve | (rfl)); (solve | (decide)); (solve | (rfl)); (solve | (exact owns_new (t := 91) (cs := #[_, _]) hown1 (by first | exact .inl rfl | exact .inr (.inl rfl) | exact .inr (.inr rfl)))); (solve | (rfl)); (solve | (rfl)); (solve | (exact newH (t := 91) (cs := #[_, _]) (w := wr.drewN nq) (by first | exact .inl rfl | exact .inr (.inl rfl) | exact .inr (.inr rfl)) (by simp))); (solve | ((intro u hu; simp only [List.mem_cons, List.not_mem_nil, or_false] at hu; rcases hu with rfl | rfl <;> rfl))); (solve | (omega)); (solve | ((unfold maxLen; omega))); (solve | (omega)); (solve | ((simp; omega))); (solve | ((simp; done))); (intro g3 cap3 w6 hown3 hgrow hat hg3))
                        | fail)
                      all_goals first | (exfalso; omega) | skip
                      all_goals
                        have hfin : w6.ownsRow w2.heap.size 91 2 (.slice (some ⟨g3, 0, none⟩) ((crTo ps gap i ++ rowTo ps gap i j).length + 1) cap3) (crTo ps gap i ++ rowTo ps gap i (j + 1)).length (pcells (crTo ps gap i ++ rowTo ps gap i (j + 1))) := by
                          rw [HR.out, pcells_append _ [_], List.length_append (bs := [_])]
                          exact hown3
                        have hle : (crTo ps gap i ++ rowTo ps gap i j).length = (crTo ps gap i).length + (rowTo ps gap i j).length := List.length_append
                        rw [hle] at hfin
                        have hb6 : Below w2.heap.size w2 w6 := app_below (w := wr.drewN nq) (t := 91) (cs := #[_, _]) (.inl rfl) hba (by have := hbws; exact this) hown1 hgrow
                        exact ⟨⟨j + 1, hmeas, by have := V2.out; congr 1; push_cast; omega, hfin, hb6⟩, by have := V2.out; simp [intOf]; omega⟩
                  · have HR : Hid (crTo ps gap i ++ rowTo ps gap i (j + 1) = crTo ps gap i ++ rowTo ps gap i j) := by
                      refine Lib.hid ?_
                      simp only [rowTo]
                      rw [HPIX.out, HQ.out, HPI.out, if_neg (fun h => t3 h.2)]
                    go_quiet (fail)
                    have hown1 := owns_keep hown (below_drewN (Below.refl _ _) nq)
                    have hba := below_drewN hbw nq
                    go_wp2_with fail
                    all_goals first | (exfalso; omega) | skip
                    all_goals exact ⟨⟨j + 1, hmeas, by have := V2.out; congr 1; push_cast; omega, by rw [HR.out]; exact hown1, hba⟩, by have := V2.out; simp [intOf]; omega⟩
                · have t2b : (p.side == q.side) = false := by simp [t2]
                  have HR : Hid (crTo ps gap i ++ rowTo ps gap i (j + 1) = crTo ps gap i ++ rowTo ps gap i j) := by
                    refine Lib.hid ?_
                    simp only [rowTo]
                    rw [HPIX.out, HQ.out, HPI.out, if_neg (fun h => t2 h.1.2)]
                  clear t2
                  go_quiet (fail)
                  have hown1 := owns_keep hown (below_drewN (Below.refl _ _) nq)
                  have hba := below_drewN hbw nq
                  go_wp2_with fail
                  all_goals first | (exfalso; omega) | skip
                  all_goals exact ⟨⟨j + 1, hmeas, by have := V2.out; congr 1; push_cast; omega, by rw [HR.out]; exact hown1, hba⟩, by have := V2.out; simp [intOf]; omega⟩
              · have t1b : (p.dir == q.dir) = false := by simp [t1]
                have HR : Hid (crTo ps gap i ++ rowTo ps gap i (j + 1) = crTo ps gap i ++ rowTo ps gap i j) := by
                  refine Lib.hid ?_
                  simp only [rowTo]
                  rw [HPIX.out, HQ.out, HPI.out, if_neg (fun h => t1 h.1.1)]
                clear t1
                go_quiet (fail)
                have hown1 := owns_keep hown (below_drewN (Below.refl _ _) nq)
                have hba := below_drewN hbw nq
                go_wp2_with fail
                all_goals first | (exfalso; omega) | skip
                all_goals exact ⟨⟨j + 1, hmeas, by have := V2.out; congr 1; push_cast; omega, by rw [HR.out]; exact hown1, hba⟩, by have := V2.out; simp [intOf]; omega⟩
            · have hje : j = ps.length - (i + 1) := by omega
              have HJ : Hid (crTo ps gap (i + 1) = crTo ps gap i ++ rowTo ps gap i j) := by refine Lib.hid ?_; rw [hje]; rfl
              have hge : ¬ ((i : Int) + 1 + (j : Int) < (ps.length : Int)) := by omega
              clear hje
              go_wp2_with fail
              exact ⟨⟨i + 1, by omega, by go_num, by rw [HJ.out]; exact hown, hbw⟩, by simp [intOf]; omega⟩
        · obtain rfl : i = ps.length := by omega
          obtain ⟨_, A', c', rfl, hPp⟩ := owns_pairs hown
          go_wp2
          go_ret2
          exact ⟨fun hh => absurd HALL.out hh, fun _ => ⟨A', c', rfl, hPp⟩, hb.trans (hbw.mono hb.size)⟩
set_option maxRecDepth 100000 in
set_option maxHeartbeats 2000000 in
theorem wCrowds (A : Option Addr) (c B : Nat) (ps : List Pst) (gap : Int) (w : World) (h : Posts w B A ps) (hB : B ≤ w.heap.size) (hn : ps.length ≤ 9223372036854775807) :
    Calls Try.prog 9 #[.slice A ps.length c, .int .i64 gap] w fun e w' => e = .returned (.bool true) ∧ Below w.heap.size w w' := by
  by_cases hl : 60 < ps.length
  · go_enter Try.func9, Try.ntmps9
    go_wp2_with fail
    refine (lAwake _).mono ?_
    rintro e w9 ⟨rfl, hb9⟩
    go_wp2
    go_ret
    exact ⟨rfl, hb9⟩
  have hcl := crTo_length ps gap (by omega) ps.length
  have hcl2 : (crTo ps gap ps.length).length ≤ 100000 := by omega
  clear hcl
  go_enter Try.func9, Try.ntmps9
  go_wp2_with fail
  refine (lCrowded A c B ps gap w h hB hn).mono ?_
  rintro e w2 ⟨r1, r2, hb2⟩
  have h2 := h.below (hb2.mono hB)
  have hB2 : B ≤ w2.heap.size := Nat.le_trans hB hb2.size
  by_cases ho : CrOk ps gap
  · obtain ⟨A1, c1, rfl, hP1⟩ := r2 ho
    have HO := Lib.hid ho
    clear r1 r2 ho
    go_wp2_with fail
    refine (rCrowded A c B ps gap w2 h2 hB2 hn).mono ?_
    rintro e w3 ⟨_, r2, hb3⟩
    obtain ⟨A2, c2, rfl, hP2⟩ := r2 HO.out
    have hb4 := hb2.trans (hb3.mono hb2.size)
    have hP1b := hP1.below hb3
    clear r2
    go_wp2_with fail
    refine (lsamePairs A1 A2 c1 c2 w2.heap.size w3.heap.size (crTo ps gap ps.length) w3 hP1b hP2 hcl2).mono ?_
    rintro e w5 ⟨rfl, hd⟩
    have hb5 := hb4.trans (hd.below _)
    go_wp2_with fail
    refine (lAwake _).mono ?_
    rintro e w9 ⟨rfl, hb9⟩
    go_wp2
    go_ret
    exact ⟨rfl, hb5.trans (hb9.mono hb5.size)⟩
  · rw [r1 ho]
    have HO := Lib.hid ho
    clear r1 r2 ho
    go_wp2_with fail
    refine (rCrowded A c B ps gap w2 h2 hB2 hn).mono ?_
    rintro e w3 ⟨r1, _, hb3⟩
    rw [r1 HO.out]
    have hb4 := hb2.trans (hb3.mono hb2.size)
    clear r1
    go_wp2_with fail
    refine (lsamePairs none none 0 0 0 0 [] w3 (.inl rfl) (.inl rfl) (by simp)).mono ?_
    rintro e w5 ⟨rfl, hd⟩
    have hb5 := hb4.trans (hd.below _)
    go_wp2_with fail
    refine (lAwake _).mono ?_
    rintro e w9 ⟨rfl, hb9⟩
    go_wp2
    go_ret
    exact ⟨rfl, hb5.trans (hb9.mono hb5.size)⟩
end Go.Proofs.Ytoknkmlkeacgjaa
