/- The walk of RoadStands. -/
import Derived.Test.YtoknkmlkeacgjaaWrn
import Derived.Test.YtoknkmlkeacgjaaAwk
namespace Go.Proofs.Ytoknkmlkeacgjaa
open Go.RowKit
theorem least_ge (speed : Int) : 50 ≤ leastF speed := by
  unfold leastF
  split
  · decide
  · split <;> decide
theorem warn_any (danger dir speed : Int) : ∃ (a b er : Int), ∀ (w1 w2 : World) (e : Ending), WarnRes danger dir speed w1 e w2 → e = .returned (.tuple #[.agg #[.int .i64 a, .int .i64 b], .int .i64 er]) ∧ Below w1.heap.size w1 w2 := by
  by_cases h : WarnOk danger dir speed
  · exact ⟨_, _, _, fun w1 w2 e hh => ⟨hh.1 h, hh.2.2⟩⟩
  · exact ⟨_, _, _, fun w1 w2 e hh => ⟨hh.2.1 h, hh.2.2⟩⟩
set_option maxRecDepth 100000 in
set_option maxHeartbeats 8000000 in
theorem wStands (danger dir speed : Int) (m : Nat) (hm : m < 65536) (w : World) : Calls Try.prog 13 #[.agg #[.int .i64 danger, .int .i64 dir, .int .i64 speed, .int .u16 m]] w fun e w' => e = .returned (.bool true) ∧ Below w.heap.size w w' := by
  have hal : Below w.heap.size w (w.alloc (.cells #[.int .i64 danger, .int .i64 dir, .int .i64 speed, .int .u16 m] 67)) := (Below.refl _ _).alloc (Nat.le_refl _) _
  have q0 : (w.alloc (.cells #[.int .i64 danger, .int .i64 dir, .int .i64 speed, .int .u16 m] 67)).cell? ⟨w.heap.size, 0, none⟩ = some (.int .i64 danger) := by simp [go_sem]
  have q1 : (w.alloc (.cells #[.int .i64 danger, .int .i64 dir, .int .i64 speed, .int .u16 m] 67)).cell? ⟨w.heap.size, 1, none⟩ = some (.int .i64 dir) := by simp [go_sem]
  have q2 : (w.alloc (.cells #[.int .i64 danger, .int .i64 dir, .int .i64 speed, .int .u16 m] 67)).cell? ⟨w.heap.size, 2, none⟩ = some (.int .i64 speed) := by simp [go_sem]
  have q3 : (w.alloc (.cells #[.int .i64 danger, .int .i64 dir, .int .i64 speed, .int .u16 m] 67)).cell? ⟨w.heap.size, 3, none⟩ = some (.int .u16 m) := by simp [go_sem]
  generalize hW : w.alloc (.cells #[.int .i64 danger, .int .i64 dir, .int .i64 speed, .int .u16 m] 67) = w0 at *
  have HW := Lib.hid hW
  clear hW
  by_cases hd : (dir = 1 ∨ dir = -1) ∧ (0 ≤ danger ∧ danger ≤ 10000000)
  · obtain ⟨hd1, g0, g1⟩ := hd
    have hdd := hd1
    rcases hd1 with rfl | rfl
    · go_enter Try.func13, Try.ntmps13
      go_upto_region 1 with fail
      rw [HW.out]
      go_quiet (fail)
      have hr : 0 ≤ (m : Int) % 600 ∧ (m : Int) % 600 < 600 := by omega
      obtain ⟨r0, r1⟩ := hr
      clear hdd
      go_wp2_with fail
      generalize (m : Int) % 600 = r at *
      generalize hc : danger - r + 100 = c at *
      have HC := Lib.hid hc
      have hal2 := below_drewN hal nq
      clear hc hal
      refine (lAhead (1) c danger _).mono ?_
      rintro e w1 ⟨h1, h2, rfl⟩
      by_cases ho : AheadOk (1) c danger
      · rw [h1 ho]
        have c0 := ho.2.1.1
        have c1 := ho.2.1.2
        clear h1 h2 ho
        have hde : (1) * (danger - c) = danger - c := by omega
        rw [hde]
        clear hde
        have HD : Hid (-600 ≤ danger - c ∧ danger - c ≤ 600) := by refine Lib.hid ?_; have := HC.out; omega
        generalize hd : danger - c = d at *
        have HDD := Lib.hid hd
        obtain ⟨d0, d1⟩ := HD.out
        clear hd HD
        by_cases hs : 10 ≤ speed ∧ speed ≤ 200
        · have hok : WarnOk danger (1) speed := ⟨by omega, ⟨g0, g1⟩, hs⟩
          have HOK := Lib.hid hok
          clear hok
          go_wp2_with fail
          refine (lWarn danger (1) speed _).mono ?_
          rintro e w2 ⟨h1, _, hb2⟩
          rw [h1 HOK.out]
          clear h1
          have hkey : ((warnV danger (1) speed).1 ≤ c ∧ c < (warnV danger (1) speed).2) ↔ (leastF speed ≤ d ∧ d ≤ leastF speed + 100) := by
            have e1 := HC.out
            have e2 := HDD.out
            have hl : 50 ≤ leastF speed := least_ge speed
            rw [warn_p1 rfl, warn_p2 rfl]
            generalize leastF speed = l at *
            omega
          generalize (warnV danger (1) speed).1 = a at *
          generalize (warnV danger (1) speed).2 = b at *
          have hb3 := (hal2.trans (hb2.mono hal2.size))
          replace hb3 := hb3.alloc hb3.size (.cells #[.int .i64 a, .int .i64 b] 33)
          clear hal2 hb2
          by_cases s2 : speed ≤ 50
          · have hL : leastF speed = 50 := by simp [leastF, s2]
            rw [hL] at hkey
            clear hL
            have HKEY := Lib.hid hkey
            clear hkey
            go_upto_region 12 with fail
            by_cases t1 : a ≤ c
            · by_cases t2 : c < b
              · obtain ⟨t3, t4⟩ := HKEY.out.1 ⟨t1, t2⟩
                go_wp2_with fail
                refine (lAwake _).mono ?_
                rintro e w5 ⟨rfl, hb5⟩
                go_wp2
                go_ret
                exact ⟨rfl, hb3.trans (hb5.mono hb3.size)⟩
              · by_cases t3 : 50 ≤ d
                · have t4 : ¬ d ≤ 150 := fun h => t2 (HKEY.out.2 ⟨t3, by omega⟩).2
                  go_wp2_with fail
                  refine (lAwake _).mono ?_
                  rintro e w5 ⟨rfl, hb5⟩
                  go_wp2
                  go_ret
                  exact ⟨rfl, hb3.trans (hb5.mono hb3.size)⟩
                · skip
                  go_wp2_with fail
                  refine (lAwake _).mono ?_
                  rintro e w5 ⟨rfl, hb5⟩
                  go_wp2
                  go_ret
                  exact ⟨rfl, hb3.trans (hb5.mono hb3.size)⟩
            · by_cases t3 : 50 ≤ d
              · have t4 : ¬ d ≤ 150 := fun h => t1 (HKEY.out.2 ⟨t3, by omega⟩).1
                go_wp2_with fail
                refine (lAwake _).mono ?_
                rintro e w5 ⟨rfl, hb5⟩
                go_wp2
                go_ret
                exact ⟨rfl, hb3.trans (hb5.mono hb3.size)⟩
              · skip
                go_wp2_with fail
                refine (lAwake _).mono ?_
                rintro e w5 ⟨rfl, hb5⟩
                go_wp2
                go_ret
                exact ⟨rfl, hb3.trans (hb5.mono hb3.size)⟩
          by_cases s3 : speed ≤ 100
          · have hL : leastF speed = 150 := by simp [leastF, s2, s3]
            rw [hL] at hkey
            clear hL
            have HKEY := Lib.hid hkey
            clear hkey
            go_upto_region 12 with fail
            by_cases t1 : a ≤ c
            · by_cases t2 : c < b
              · obtain ⟨t3, t4⟩ := HKEY.out.1 ⟨t1, t2⟩
                go_wp2_with fail
                refine (lAwake _).mono ?_
                rintro e w5 ⟨rfl, hb5⟩
                go_wp2
                go_ret
                exact ⟨rfl, hb3.trans (hb5.mono hb3.size)⟩
              · by_cases t3 : 150 ≤ d
                · have t4 : ¬ d ≤ 250 := fun h => t2 (HKEY.out.2 ⟨t3, by omega⟩).2
                  go_wp2_with fail
                  refine (lAwake _).mono ?_
                  rintro e w5 ⟨rfl, hb5⟩
                  go_wp2
                  go_ret
                  exact ⟨rfl, hb3.trans (hb5.mono hb3.size)⟩
                · skip
                  go_wp2_with fail
                  refine (lAwake _).mono ?_
                  rintro e w5 ⟨rfl, hb5⟩
                  go_wp2
                  go_ret
                  exact ⟨rfl, hb3.trans (hb5.mono hb3.size)⟩
            · by_cases t3 : 150 ≤ d
              · have t4 : ¬ d ≤ 250 := fun h => t1 (HKEY.out.2 ⟨t3, by omega⟩).1
                go_wp2_with fail
                refine (lAwake _).mono ?_
                rintro e w5 ⟨rfl, hb5⟩
                go_wp2
                go_ret
                exact ⟨rfl, hb3.trans (hb5.mono hb3.size)⟩
              · skip
                go_wp2_with fail
                refine (lAwake _).mono ?_
                rintro e w5 ⟨rfl, hb5⟩
                go_wp2
                go_ret
                exact ⟨rfl, hb3.trans (hb5.mono hb3.size)⟩
          · have hL : leastF speed = 250 := by simp [leastF, s2, s3]
            rw [hL] at hkey
            clear hL
            have HKEY := Lib.hid hkey
            clear hkey
            go_upto_region 12 with fail
            by_cases t1 : a ≤ c
            · by_cases t2 : c < b
              · obtain ⟨t3, t4⟩ := HKEY.out.1 ⟨t1, t2⟩
                go_wp2_with fail
                refine (lAwake _).mono ?_
                rintro e w5 ⟨rfl, hb5⟩
                go_wp2
                go_ret
                exact ⟨rfl, hb3.trans (hb5.mono hb3.size)⟩
              · by_cases t3 : 250 ≤ d
                · have t4 : ¬ d ≤ 350 := fun h => t2 (HKEY.out.2 ⟨t3, by omega⟩).2
                  go_wp2_with fail
                  refine (lAwake _).mono ?_
                  rintro e w5 ⟨rfl, hb5⟩
                  go_wp2
                  go_ret
                  exact ⟨rfl, hb3.trans (hb5.mono hb3.size)⟩
                · skip
                  go_wp2_with fail
                  refine (lAwake _).mono ?_
                  rintro e w5 ⟨rfl, hb5⟩
                  go_wp2
                  go_ret
                  exact ⟨rfl, hb3.trans (hb5.mono hb3.size)⟩
            · by_cases t3 : 250 ≤ d
              · have t4 : ¬ d ≤ 350 := fun h => t1 (HKEY.out.2 ⟨t3, by omega⟩).1
                go_wp2_with fail
                refine (lAwake _).mono ?_
                rintro e w5 ⟨rfl, hb5⟩
                go_wp2
                go_ret
                exact ⟨rfl, hb3.trans (hb5.mono hb3.size)⟩
              · skip
                go_wp2_with fail
                refine (lAwake _).mono ?_
                rintro e w5 ⟨rfl, hb5⟩
                go_wp2
                go_ret
                exact ⟨rfl, hb3.trans (hb5.mono hb3.size)⟩
        · have hsp : ¬ WarnOk danger (1) speed := fun hh => hs hh.2.2
          have HSP := Lib.hid hsp
          clear hsp hs
          go_wp2_with fail
          refine (lWarn danger (1) speed _).mono ?_
          rintro e w2 ⟨_, h1, hb2⟩
          rw [h1 HSP.out]
          have hb3 := (hal2.trans (hb2.mono hal2.size))
          replace hb3 := hb3.alloc hb3.size (.cells #[.int .i64 0, .int .i64 0] 33)
          clear h1 hal2 hb2
          go_wp2_with fail
          refine (lAwake _).mono ?_
          rintro e w5 ⟨rfl, hb5⟩
          go_wp2
          go_ret
          exact ⟨rfl, hb3.trans (hb5.mono hb3.size)⟩
      · rw [h2 ho]
        clear h1 h2 ho
        obtain ⟨a, b, er, key⟩ := warn_any danger (1) speed
        have HK := Lib.hid key
        clear key
        go_wp2_with fail
        refine (lWarn danger (1) speed _).mono ?_
        intro e w2 hh
        obtain ⟨rfl, hb2⟩ := HK.out _ _ _ hh
        clear hh
        have hb3 := (hal2.trans (hb2.mono hal2.size))
        replace hb3 := hb3.alloc hb3.size (.cells #[.int .i64 a, .int .i64 b] 33)
        clear hal2 hb2
        go_wp2_with fail
        refine (lAwake _).mono ?_
        rintro e w5 ⟨rfl, hb5⟩
        go_wp2
        go_ret
        exact ⟨rfl, hb3.trans (hb5.mono hb3.size)⟩
    · go_enter Try.func13, Try.ntmps13
      go_upto_region 1 with fail
      rw [HW.out]
      go_quiet (fail)
      have hr : 0 ≤ (m : Int) % 600 ∧ (m : Int) % 600 < 600 := by omega
      obtain ⟨r0, r1⟩ := hr
      clear hdd
      go_wp2_with fail
      generalize (m : Int) % 600 = r at *
      generalize hc : danger + r + -100 = c at *
      have HC := Lib.hid hc
      have hal2 := below_drewN hal nq
      clear hc hal
      refine (lAhead (-1) c danger _).mono ?_
      rintro e w1 ⟨h1, h2, rfl⟩
      by_cases ho : AheadOk (-1) c danger
      · rw [h1 ho]
        have c0 := ho.2.1.1
        have c1 := ho.2.1.2
        clear h1 h2 ho
        have hde : (-1) * (danger - c) = c - danger := by omega
        rw [hde]
        clear hde
        have HD : Hid (-600 ≤ c - danger ∧ c - danger ≤ 600) := by refine Lib.hid ?_; have := HC.out; omega
        generalize hd : c - danger = d at *
        have HDD := Lib.hid hd
        obtain ⟨d0, d1⟩ := HD.out
        clear hd HD
        by_cases hs : 10 ≤ speed ∧ speed ≤ 200
        · have hok : WarnOk danger (-1) speed := ⟨by omega, ⟨g0, g1⟩, hs⟩
          have HOK := Lib.hid hok
          clear hok
          go_wp2_with fail
          refine (lWarn danger (-1) speed _).mono ?_
          rintro e w2 ⟨h1, _, hb2⟩
          rw [h1 HOK.out]
          clear h1
          have hkey : ((warnV danger (-1) speed).1 ≤ c ∧ c < (warnV danger (-1) speed).2) ↔ (leastF speed ≤ d ∧ d ≤ leastF speed + 100) := by
            have e1 := HC.out
            have e2 := HDD.out
            have hl : 50 ≤ leastF speed := least_ge speed
            rw [warn_m1 rfl, warn_m2 rfl]
            generalize leastF speed = l at *
            omega
          generalize (warnV danger (-1) speed).1 = a at *
          generalize (warnV danger (-1) speed).2 = b at *
          have hb3 := (hal2.trans (hb2.mono hal2.size))
          replace hb3 := hb3.alloc hb3.size (.cells #[.int .i64 a, .int .i64 b] 33)
          clear hal2 hb2
          by_cases s2 : speed ≤ 50
          · have hL : leastF speed = 50 := by simp [leastF, s2]
            rw [hL] at hkey
            clear hL
            have HKEY := Lib.hid hkey
            clear hkey
            go_upto_region 12 with fail
            by_cases t1 : a ≤ c
            · by_cases t2 : c < b
              · obtain ⟨t3, t4⟩ := HKEY.out.1 ⟨t1, t2⟩
                go_wp2_with fail
                refine (lAwake _).mono ?_
                rintro e w5 ⟨rfl, hb5⟩
                go_wp2
                go_ret
                exact ⟨rfl, hb3.trans (hb5.mono hb3.size)⟩
              · by_cases t3 : 50 ≤ d
                · have t4 : ¬ d ≤ 150 := fun h => t2 (HKEY.out.2 ⟨t3, by omega⟩).2
                  go_wp2_with fail
                  refine (lAwake _).mono ?_
                  rintro e w5 ⟨rfl, hb5⟩
                  go_wp2
                  go_ret
                  exact ⟨rfl, hb3.trans (hb5.mono hb3.size)⟩
                · skip
                  go_wp2_with fail
                  refine (lAwake _).mono ?_
                  rintro e w5 ⟨rfl, hb5⟩
                  go_wp2
                  go_ret
                  exact ⟨rfl, hb3.trans (hb5.mono hb3.size)⟩
            · by_cases t3 : 50 ≤ d
              · have t4 : ¬ d ≤ 150 := fun h => t1 (HKEY.out.2 ⟨t3, by omega⟩).1
                go_wp2_with fail
                refine (lAwake _).mono ?_
                rintro e w5 ⟨rfl, hb5⟩
                go_wp2
                go_ret
                exact ⟨rfl, hb3.trans (hb5.mono hb3.size)⟩
              · skip
                go_wp2_with fail
                refine (lAwake _).mono ?_
                rintro e w5 ⟨rfl, hb5⟩
                go_wp2
                go_ret
                exact ⟨rfl, hb3.trans (hb5.mono hb3.size)⟩
          by_cases s3 : speed ≤ 100
          · have hL : leastF speed = 150 := by simp [leastF, s2, s3]
            rw [hL] at hkey
            clear hL
            have HKEY := Lib.hid hkey
            clear hkey
            go_upto_region 12 with fail
            by_cases t1 : a ≤ c
            · by_cases t2 : c < b
              · obtain ⟨t3, t4⟩ := HKEY.out.1 ⟨t1, t2⟩
                go_wp2_with fail
                refine (lAwake _).mono ?_
                rintro e w5 ⟨rfl, hb5⟩
                go_wp2
                go_ret
                exact ⟨rfl, hb3.trans (hb5.mono hb3.size)⟩
              · by_cases t3 : 150 ≤ d
                · have t4 : ¬ d ≤ 250 := fun h => t2 (HKEY.out.2 ⟨t3, by omega⟩).2
                  go_wp2_with fail
                  refine (lAwake _).mono ?_
                  rintro e w5 ⟨rfl, hb5⟩
                  go_wp2
                  go_ret
                  exact ⟨rfl, hb3.trans (hb5.mono hb3.size)⟩
                · skip
                  go_wp2_with fail
                  refine (lAwake _).mono ?_
                  rintro e w5 ⟨rfl, hb5⟩
                  go_wp2
                  go_ret
                  exact ⟨rfl, hb3.trans (hb5.mono hb3.size)⟩
            · by_cases t3 : 150 ≤ d
              · have t4 : ¬ d ≤ 250 := fun h => t1 (HKEY.out.2 ⟨t3, by omega⟩).1
                go_wp2_with fail
                refine (lAwake _).mono ?_
                rintro e w5 ⟨rfl, hb5⟩
                go_wp2
                go_ret
                exact ⟨rfl, hb3.trans (hb5.mono hb3.size)⟩
              · skip
                go_wp2_with fail
                refine (lAwake _).mono ?_
                rintro e w5 ⟨rfl, hb5⟩
                go_wp2
                go_ret
                exact ⟨rfl, hb3.trans (hb5.mono hb3.size)⟩
          · have hL : leastF speed = 250 := by simp [leastF, s2, s3]
            rw [hL] at hkey
            clear hL
            have HKEY := Lib.hid hkey
            clear hkey
            go_upto_region 12 with fail
            by_cases t1 : a ≤ c
            · by_cases t2 : c < b
              · obtain ⟨t3, t4⟩ := HKEY.out.1 ⟨t1, t2⟩
                go_wp2_with fail
                refine (lAwake _).mono ?_
                rintro e w5 ⟨rfl, hb5⟩
                go_wp2
                go_ret
                exact ⟨rfl, hb3.trans (hb5.mono hb3.size)⟩
              · by_cases t3 : 250 ≤ d
                · have t4 : ¬ d ≤ 350 := fun h => t2 (HKEY.out.2 ⟨t3, by omega⟩).2
                  go_wp2_with fail
                  refine (lAwake _).mono ?_
                  rintro e w5 ⟨rfl, hb5⟩
                  go_wp2
                  go_ret
                  exact ⟨rfl, hb3.trans (hb5.mono hb3.size)⟩
                · skip
                  go_wp2_with fail
                  refine (lAwake _).mono ?_
                  rintro e w5 ⟨rfl, hb5⟩
                  go_wp2
                  go_ret
                  exact ⟨rfl, hb3.trans (hb5.mono hb3.size)⟩
            · by_cases t3 : 250 ≤ d
              · have t4 : ¬ d ≤ 350 := fun h => t1 (HKEY.out.2 ⟨t3, by omega⟩).1
                go_wp2_with fail
                refine (lAwake _).mono ?_
                rintro e w5 ⟨rfl, hb5⟩
                go_wp2
                go_ret
                exact ⟨rfl, hb3.trans (hb5.mono hb3.size)⟩
              · skip
                go_wp2_with fail
                refine (lAwake _).mono ?_
                rintro e w5 ⟨rfl, hb5⟩
                go_wp2
                go_ret
                exact ⟨rfl, hb3.trans (hb5.mono hb3.size)⟩
        · have hsp : ¬ WarnOk danger (-1) speed := fun hh => hs hh.2.2
          have HSP := Lib.hid hsp
          clear hsp hs
          go_wp2_with fail
          refine (lWarn danger (-1) speed _).mono ?_
          rintro e w2 ⟨_, h1, hb2⟩
          rw [h1 HSP.out]
          have hb3 := (hal2.trans (hb2.mono hal2.size))
          replace hb3 := hb3.alloc hb3.size (.cells #[.int .i64 0, .int .i64 0] 33)
          clear h1 hal2 hb2
          go_wp2_with fail
          refine (lAwake _).mono ?_
          rintro e w5 ⟨rfl, hb5⟩
          go_wp2
          go_ret
          exact ⟨rfl, hb3.trans (hb5.mono hb3.size)⟩
      · rw [h2 ho]
        clear h1 h2 ho
        obtain ⟨a, b, er, key⟩ := warn_any danger (-1) speed
        have HK := Lib.hid key
        clear key
        go_wp2_with fail
        refine (lWarn danger (-1) speed _).mono ?_
        intro e w2 hh
        obtain ⟨rfl, hb2⟩ := HK.out _ _ _ hh
        clear hh
        have hb3 := (hal2.trans (hb2.mono hal2.size))
        replace hb3 := hb3.alloc hb3.size (.cells #[.int .i64 a, .int .i64 b] 33)
        clear hal2 hb2
        go_wp2_with fail
        refine (lAwake _).mono ?_
        rintro e w5 ⟨rfl, hb5⟩
        go_wp2
        go_ret
        exact ⟨rfl, hb3.trans (hb5.mono hb3.size)⟩
  · go_enter Try.func13, Try.ntmps13
    go_upto_region 1 with fail
    rw [HW.out]
    go_quiet (fail)
    go_wp2_with fail
    have hal2 := below_drewN hal nq
    generalize wrap64 (wrap64 (danger - wrap64 (dir * (↑m % 600))) + wrap64 (100 * dir)) = c at *
    refine (lAhead dir c danger _).mono ?_
    rintro e w1 ⟨_, h2, rfl⟩
    rw [h2 (fun hh => hd ⟨hh.1, hh.2.2⟩)]
    clear h2
    obtain ⟨a, b, er, key⟩ := warn_any danger dir speed
    have HK := Lib.hid key
    clear key
    go_wp2_with fail
    refine (lWarn danger dir speed _).mono ?_
    intro e w2 hh
    obtain ⟨rfl, hb2⟩ := HK.out _ _ _ hh
    clear hh
    have hb3 := (hal2.trans (hb2.mono hal2.size))
    replace hb3 := hb3.alloc hb3.size (.cells #[.int .i64 a, .int .i64 b] 33)
    clear hal2 hb2
    go_wp2_with fail
    refine (lAwake _).mono ?_
    rintro e w5 ⟨rfl, hb5⟩
    go_wp2
    go_ret
    exact ⟨rfl, hb3.trans (hb5.mono hb3.size)⟩
end Go.Proofs.Ytoknkmlkeacgjaa
