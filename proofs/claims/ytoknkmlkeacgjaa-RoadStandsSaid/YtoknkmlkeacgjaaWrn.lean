/- Contracts of Warn (both texts). -/
import Derived.Test.YtoknkmlkeacgjaaAhd
import Derived.Laws.ResultCell
import Derived.Deep.DeepCutAuto
namespace Go.Proofs.Ytoknkmlkeacgjaa
open Go.RowKit
theorem res_span {fn : Func} {tmps : Array Value} {w : World} {n : Nat} {v0 v1 : Value} (hr : fn.results = #[.cell 6 33, .tmp 7]) (hp : tmps.getD 6 undef = .pointer (some ⟨n, 0, none⟩))
    (h0 : w.cell? ⟨n, 0, none⟩ = some v0) (h1 : w.cell? ⟨n, 1, none⟩ = some v1) : (results fn tmps).run Try.prog w = .ok (.tuple #[.agg #[v0, v1], tmps.getD 7 undef]) w := by
  rw [results_cell_tmp hr, hp]
  simp [go_sem, h0, h1]
theorem set2 {w : World} {n : Nat} {a b x y : Value} (h0 : w.cell? ⟨n, 0, none⟩ = some x) (h1 : w.cell? ⟨n, 1, none⟩ = some y) :
    ((w.setCell ⟨n, 0, none⟩ a).setCell ⟨n, 1, none⟩ b).cell? ⟨n, 0, none⟩ = some a ∧ ((w.setCell ⟨n, 0, none⟩ a).setCell ⟨n, 1, none⟩ b).cell? ⟨n, 1, none⟩ = some b := by
  refine ⟨?_, ?_⟩
  · rw [World.cell?_setCell_other _ _ _ _ (by intro e; injection e with _ e; cases e), World.cell?_setCell_same _ _ _ h0]
  · exact World.cell?_setCell_same _ _ _ ((World.cell?_setCell_other _ _ _ _ (by intro e; injection e with _ e; cases e)).trans h1)
theorem set3 {w : World} {n : Nat} {a b x y : Value} {o : Obj} (hz : n < w.heap.size) (h0 : w.cell? ⟨n, 0, none⟩ = some x) (h1 : w.cell? ⟨n, 1, none⟩ = some y) :
    (((w.setCell ⟨n, 0, none⟩ a).setCell ⟨n, 1, none⟩ b).alloc o).cell? ⟨n, 0, none⟩ = some a ∧ (((w.setCell ⟨n, 0, none⟩ a).setCell ⟨n, 1, none⟩ b).alloc o).cell? ⟨n, 1, none⟩ = some b := by
  have hk := (Below.refl ((w.setCell ⟨n, 0, none⟩ a).setCell ⟨n, 1, none⟩ b).heap.size ((w.setCell ⟨n, 0, none⟩ a).setCell ⟨n, 1, none⟩ b)).alloc (Nat.le_refl _) o
  have hn : n < ((w.setCell ⟨n, 0, none⟩ a).setCell ⟨n, 1, none⟩ b).heap.size := by simpa [World.setCell] using hz
  obtain ⟨x0, x1⟩ := set2 (a := a) (b := b) h0 h1
  exact ⟨(hk.cell (p := ⟨n, 0, none⟩) hn).trans x0, (hk.cell (p := ⟨n, 1, none⟩) hn).trans x1⟩
def leastF (speed : Int) : Int := if speed ≤ 50 then 50 else if speed ≤ 100 then 150 else 250
def warnV (danger dir speed : Int) : Int × Int :=
  if dir = -1 then (danger + leastF speed, danger + leastF speed + 101) else
    if danger - leastF speed + 1 ≤ max 0 (danger - leastF speed - 100) then (0, 0) else (max 0 (danger - leastF speed - 100), danger - leastF speed + 1)
theorem warn_m1 {danger speed l : Int} (h : leastF speed = l) : (warnV danger (-1) speed).1 = danger + l := by simp [warnV, h]
theorem warn_m2 {danger speed l : Int} (h : leastF speed = l) : (warnV danger (-1) speed).2 = danger + l + 101 := by simp [warnV, h]
theorem warn_p1 {danger speed l : Int} (h : leastF speed = l) : (warnV danger 1 speed).1 = if danger - l + 1 ≤ max 0 (danger - l - 100) then 0 else max 0 (danger - l - 100) := by
  simp only [warnV, h]
  rw [if_neg (by decide)]
  split <;> rfl
theorem warn_p2 {danger speed l : Int} (h : leastF speed = l) : (warnV danger 1 speed).2 = if danger - l + 1 ≤ max 0 (danger - l - 100) then 0 else danger - l + 1 := by
  simp only [warnV, h]
  rw [if_neg (by decide)]
  split <;> rfl
def WarnOk (danger dir speed : Int) : Prop := (dir = 1 ∨ dir = -1) ∧ (0 ≤ danger ∧ danger ≤ 10000000) ∧ (10 ≤ speed ∧ speed ≤ 200)
/-- What Warn returns. -/
def WarnRes (danger dir speed : Int) (w : World) (e : Ending) (w' : World) : Prop :=
  (WarnOk danger dir speed → e = .returned (.tuple #[.agg #[.int .i64 (warnV danger dir speed).1, .int .i64 (warnV danger dir speed).2], .int .i64 0])) ∧
  (¬ WarnOk danger dir speed → e = .returned (.tuple #[.agg #[.int .i64 0, .int .i64 0], .int .i64 2])) ∧ Below w.heap.size w w'
theorem agg_eq {a b c d : Int} {x : Value} (h1 : a = c) (h2 : b = d) : Ending.returned (.tuple #[.agg #[.int .i64 a, .int .i64 b], x]) = .returned (.tuple #[.agg #[.int .i64 c, .int .i64 d], x]) := by rw [h1, h2]
set_option maxRecDepth 100000 in
set_option maxHeartbeats 8000000 in
theorem lWarn (danger dir speed : Int) (w : World) : Calls Try.prog 29 #[.int .i64 danger, .int .i64 dir, .int .i64 speed] w (WarnRes danger dir speed w) := by
  have z0 : (w.alloc (.cells #[.int .i64 0, .int .i64 0] 33)).frozen? ⟨w.heap.size, 0, none⟩ = false := by simp [go_sem]
  have z1 : (w.alloc (.cells #[.int .i64 0, .int .i64 0] 33)).frozen? ⟨w.heap.size, 1, none⟩ = false := by simp [go_sem]
  have y0 : (w.alloc (.cells #[.int .i64 0, .int .i64 0] 33)).cell? ⟨w.heap.size, 0, none⟩ = some (.int .i64 0) := by simp [go_sem]
  have y1 : (w.alloc (.cells #[.int .i64 0, .int .i64 0] 33)).cell? ⟨w.heap.size, 1, none⟩ = some (.int .i64 0) := by simp [go_sem]
  have hal : Below w.heap.size w (w.alloc (.cells #[.int .i64 0, .int .i64 0] 33)) := (Below.refl _ _).alloc (Nat.le_refl _) _
  have hz : w.heap.size < (w.alloc (.cells #[.int .i64 0, .int .i64 0] 33)).heap.size := by simp
  generalize hW : w.alloc (.cells #[.int .i64 0, .int .i64 0] 33) = w0 at z0 z1 y0 y1 hal hz
  have HW := Lib.hid hW
  clear hW
  by_cases h1 : dir = 1 ∨ dir = -1
  · have i1 := dirB_iff.2 h1
    by_cases h2 : 0 ≤ danger ∧ danger ≤ 10000000
    · have i2 := inB_t h2.1 h2.2
      by_cases h3 : 10 ≤ speed ∧ speed ≤ 200
      · have i3 := inB_t h3.1 h3.2
        have HO : Hid (WarnOk danger dir speed) := ⟨h1, h2, h3⟩
        obtain ⟨d0, d1⟩ := h2
        obtain ⟨s0, s1⟩ := h3
        rcases h1 with rfl | rfl
        · by_cases s2 : speed ≤ 50
          · have HL : Hid (leastF speed = 50) := Lib.hid (by simp [leastF, s2])
            go_enter Try.func29, Try.ntmps29
            go_upto_region 1 with fail
            rw [HW.out]
            go_wp2_with (first | (go_at_call 58; refine (lisDir _ _).mono ?_; rintro e w' ⟨rfl, rfl⟩) | (go_at_call 59; refine (lisChain _ _).mono ?_; rintro e w' ⟨rfl, rfl⟩) | (go_at_call 51; refine (lwithin _ _ _ _).mono ?_; rintro e w' ⟨rfl, rfl⟩))
            all_goals first | (exfalso; omega) | skip
            all_goals (try simp only [Exit.inBlock, Exit.then])
            all_goals first | (refine bodyPost_ret (res_span rfl rfl (set3 hz y0 y1).1 (set3 hz y0 y1).2) rfl ⟨fun _ => agg_eq ?_ ?_, fun h => absurd HO.out h, (let hq := (hal.setCell (Nat.le_refl _) _).setCell (Nat.le_refl _) _; hq.alloc hq.size _)⟩) | (refine bodyPost_ret (res_span rfl rfl (set2 y0 y1).1 (set2 y0 y1).2) rfl ⟨fun _ => agg_eq ?_ ?_, fun h => absurd HO.out h, (hal.setCell (Nat.le_refl _) _).setCell (Nat.le_refl _) _⟩)
            all_goals first | (rw [warn_p1 HL.out]; done) | (rw [warn_p2 HL.out]; done) | (rw [warn_p1 HL.out]; omega) | (rw [warn_p2 HL.out]; omega)
          · by_cases s3 : speed ≤ 100
            · have HL : Hid (leastF speed = 150) := Lib.hid (by simp [leastF, s2, s3])
              go_enter Try.func29, Try.ntmps29
              go_upto_region 1 with fail
              rw [HW.out]
              go_wp2_with (first | (go_at_call 58; refine (lisDir _ _).mono ?_; rintro e w' ⟨rfl, rfl⟩) | (go_at_call 59; refine (lisChain _ _).mono ?_; rintro e w' ⟨rfl, rfl⟩) | (go_at_call 51; refine (lwithin _ _ _ _).mono ?_; rintro e w' ⟨rfl, rfl⟩))
              all_goals first | (exfalso; omega) | skip
              all_goals (try simp only [Exit.inBlock, Exit.then])
              all_goals first | (refine bodyPost_ret (res_span rfl rfl (set3 hz y0 y1).1 (set3 hz y0 y1).2) rfl ⟨fun _ => agg_eq ?_ ?_, fun h => absurd HO.out h, (let hq := (hal.setCell (Nat.le_refl _) _).setCell (Nat.le_refl _) _; hq.alloc hq.size _)⟩) | (refine bodyPost_ret (res_span rfl rfl (set2 y0 y1).1 (set2 y0 y1).2) rfl ⟨fun _ => agg_eq ?_ ?_, fun h => absurd HO.out h, (hal.setCell (Nat.le_refl _) _).setCell (Nat.le_refl _) _⟩)
              all_goals first | (rw [warn_p1 HL.out]; done) | (rw [warn_p2 HL.out]; done) | (rw [warn_p1 HL.out]; omega) | (rw [warn_p2 HL.out]; omega)
            · have HL : Hid (leastF speed = 250) := Lib.hid (by simp [leastF, s2, s3])
              go_enter Try.func29, Try.ntmps29
              go_upto_region 1 with fail
              rw [HW.out]
              go_wp2_with (first | (go_at_call 58; refine (lisDir _ _).mono ?_; rintro e w' ⟨rfl, rfl⟩) | (go_at_call 59; refine (lisChain _ _).mono ?_; rintro e w' ⟨rfl, rfl⟩) | (go_at_call 51; refine (lwithin _ _ _ _).mono ?_; rintro e w' ⟨rfl, rfl⟩))
              all_goals first | (exfalso; omega) | skip
              all_goals (try simp only [Exit.inBlock, Exit.then])
              all_goals first | (refine bodyPost_ret (res_span rfl rfl (set3 hz y0 y1).1 (set3 hz y0 y1).2) rfl ⟨fun _ => agg_eq ?_ ?_, fun h => absurd HO.out h, (let hq := (hal.setCell (Nat.le_refl _) _).setCell (Nat.le_refl _) _; hq.alloc hq.size _)⟩) | (refine bodyPost_ret (res_span rfl rfl (set2 y0 y1).1 (set2 y0 y1).2) rfl ⟨fun _ => agg_eq ?_ ?_, fun h => absurd HO.out h, (hal.setCell (Nat.le_refl _) _).setCell (Nat.le_refl _) _⟩)
              all_goals first | (rw [warn_p1 HL.out]; done) | (rw [warn_p2 HL.out]; done) | (rw [warn_p1 HL.out]; omega) | (rw [warn_p2 HL.out]; omega)
        · by_cases s2 : speed ≤ 50
          · have HL : Hid (leastF speed = 50) := Lib.hid (by simp [leastF, s2])
            go_enter Try.func29, Try.ntmps29
            go_upto_region 1 with fail
            rw [HW.out]
            go_wp2_with (first | (go_at_call 58; refine (lisDir _ _).mono ?_; rintro e w' ⟨rfl, rfl⟩) | (go_at_call 59; refine (lisChain _ _).mono ?_; rintro e w' ⟨rfl, rfl⟩) | (go_at_call 51; refine (lwithin _ _ _ _).mono ?_; rintro e w' ⟨rfl, rfl⟩))
            all_goals first | (exfalso; omega) | skip
            all_goals (try simp only [Exit.inBlock, Exit.then])
            all_goals first | (refine bodyPost_ret (res_span rfl rfl (set3 hz y0 y1).1 (set3 hz y0 y1).2) rfl ⟨fun _ => agg_eq ?_ ?_, fun h => absurd HO.out h, (let hq := (hal.setCell (Nat.le_refl _) _).setCell (Nat.le_refl _) _; hq.alloc hq.size _)⟩) | (refine bodyPost_ret (res_span rfl rfl (set2 y0 y1).1 (set2 y0 y1).2) rfl ⟨fun _ => agg_eq ?_ ?_, fun h => absurd HO.out h, (hal.setCell (Nat.le_refl _) _).setCell (Nat.le_refl _) _⟩)
            all_goals first | (rw [warn_m1 HL.out]; done) | (rw [warn_m2 HL.out]; done) | (rw [warn_m1 HL.out]; omega) | (rw [warn_m2 HL.out]; omega)
          · by_cases s3 : speed ≤ 100
            · have HL : Hid (leastF speed = 150) := Lib.hid (by simp [leastF, s2, s3])
              go_enter Try.func29, Try.ntmps29
              go_upto_region 1 with fail
              rw [HW.out]
              go_wp2_with (first | (go_at_call 58; refine (lisDir _ _).mono ?_; rintro e w' ⟨rfl, rfl⟩) | (go_at_call 59; refine (lisChain _ _).mono ?_; rintro e w' ⟨rfl, rfl⟩) | (go_at_call 51; refine (lwithin _ _ _ _).mono ?_; rintro e w' ⟨rfl, rfl⟩))
              all_goals first | (exfalso; omega) | skip
              all_goals (try simp only [Exit.inBlock, Exit.then])
              all_goals first | (refine bodyPost_ret (res_span rfl rfl (set3 hz y0 y1).1 (set3 hz y0 y1).2) rfl ⟨fun _ => agg_eq ?_ ?_, fun h => absurd HO.out h, (let hq := (hal.setCell (Nat.le_refl _) _).setCell (Nat.le_refl _) _; hq.alloc hq.size _)⟩) | (refine bodyPost_ret (res_span rfl rfl (set2 y0 y1).1 (set2 y0 y1).2) rfl ⟨fun _ => agg_eq ?_ ?_, fun h => absurd HO.out h, (hal.setCell (Nat.le_refl _) _).setCell (Nat.le_refl _) _⟩)
              all_goals first | (rw [warn_m1 HL.out]; done) | (rw [warn_m2 HL.out]; done) | (rw [warn_m1 HL.out]; omega) | (rw [warn_m2 HL.out]; omega)
            · have HL : Hid (leastF speed = 250) := Lib.hid (by simp [leastF, s2, s3])
              go_enter Try.func29, Try.ntmps29
              go_upto_region 1 with fail
              rw [HW.out]
              go_wp2_with (first | (go_at_call 58; refine (lisDir _ _).mono ?_; rintro e w' ⟨rfl, rfl⟩) | (go_at_call 59; refine (lisChain _ _).mono ?_; rintro e w' ⟨rfl, rfl⟩) | (go_at_call 51; refine (lwithin _ _ _ _).mono ?_; rintro e w' ⟨rfl, rfl⟩))
              all_goals first | (exfalso; omega) | skip
              all_goals (try simp only [Exit.inBlock, Exit.then])
              all_goals first | (refine bodyPost_ret (res_span rfl rfl (set3 hz y0 y1).1 (set3 hz y0 y1).2) rfl ⟨fun _ => agg_eq ?_ ?_, fun h => absurd HO.out h, (let hq := (hal.setCell (Nat.le_refl _) _).setCell (Nat.le_refl _) _; hq.alloc hq.size _)⟩) | (refine bodyPost_ret (res_span rfl rfl (set2 y0 y1).1 (set2 y0 y1).2) rfl ⟨fun _ => agg_eq ?_ ?_, fun h => absurd HO.out h, (hal.setCell (Nat.le_refl _) _).setCell (Nat.le_refl _) _⟩)
              all_goals first | (rw [warn_m1 HL.out]; done) | (rw [warn_m2 HL.out]; done) | (rw [warn_m1 HL.out]; omega) | (rw [warn_m2 HL.out]; omega)
      · have i3 := inB_f h3
        clear h1
        go_enter Try.func29, Try.ntmps29
        go_upto_region 1 with fail
        rw [HW.out]
        go_wp2_with (first | (go_at_call 58; refine (lisDir _ _).mono ?_; rintro e w' ⟨rfl, rfl⟩) | (go_at_call 59; refine (lisChain _ _).mono ?_; rintro e w' ⟨rfl, rfl⟩) | (go_at_call 51; refine (lwithin _ _ _ _).mono ?_; rintro e w' ⟨rfl, rfl⟩))
        (try simp only [Exit.inBlock, Exit.then])
        obtain ⟨x0, x1⟩ := set2 (a := .int .i64 0) (b := .int .i64 0) y0 y1
        refine bodyPost_ret (res_span rfl rfl x0 x1) rfl ?_
        exact ⟨fun h => absurd h.2.2 h3, fun _ => rfl, (hal.setCell (Nat.le_refl _) _).setCell (Nat.le_refl _) _⟩
    · have i2 := inB_f h2
      clear h1
      go_enter Try.func29, Try.ntmps29
      go_upto_region 1 with fail
      rw [HW.out]
      go_wp2_with (first | (go_at_call 58; refine (lisDir _ _).mono ?_; rintro e w' ⟨rfl, rfl⟩) | (go_at_call 59; refine (lisChain _ _).mono ?_; rintro e w' ⟨rfl, rfl⟩) | (go_at_call 51; refine (lwithin _ _ _ _).mono ?_; rintro e w' ⟨rfl, rfl⟩))
      (try simp only [Exit.inBlock, Exit.then])
      obtain ⟨x0, x1⟩ := set2 (a := .int .i64 0) (b := .int .i64 0) y0 y1
      refine bodyPost_ret (res_span rfl rfl x0 x1) rfl ?_
      exact ⟨fun h => absurd h.2.1 h2, fun _ => rfl, (hal.setCell (Nat.le_refl _) _).setCell (Nat.le_refl _) _⟩
  · have i1 := dirB_f h1
    go_enter Try.func29, Try.ntmps29
    go_upto_region 1 with fail
    rw [HW.out]
    go_wp2_with (first | (go_at_call 58; refine (lisDir _ _).mono ?_; rintro e w' ⟨rfl, rfl⟩) | (go_at_call 59; refine (lisChain _ _).mono ?_; rintro e w' ⟨rfl, rfl⟩) | (go_at_call 51; refine (lwithin _ _ _ _).mono ?_; rintro e w' ⟨rfl, rfl⟩))
    (try simp only [Exit.inBlock, Exit.then])
    obtain ⟨x0, x1⟩ := set2 (a := .int .i64 0) (b := .int .i64 0) y0 y1
    refine bodyPost_ret (res_span rfl rfl x0 x1) rfl ?_
    exact ⟨fun h => absurd h.1 h1, fun _ => rfl, (hal.setCell (Nat.le_refl _) _).setCell (Nat.le_refl _) _⟩
set_option maxRecDepth 100000 in
set_option maxHeartbeats 8000000 in
theorem rWarn (danger dir speed : Int) (w : World) : Calls Try.prog 30 #[.int .i64 danger, .int .i64 dir, .int .i64 speed] w (WarnRes danger dir speed w) := by
  have z0 : (w.alloc (.cells #[.int .i64 0, .int .i64 0] 33)).frozen? ⟨w.heap.size, 0, none⟩ = false := by simp [go_sem]
  have z1 : (w.alloc (.cells #[.int .i64 0, .int .i64 0] 33)).frozen? ⟨w.heap.size, 1, none⟩ = false := by simp [go_sem]
  have y0 : (w.alloc (.cells #[.int .i64 0, .int .i64 0] 33)).cell? ⟨w.heap.size, 0, none⟩ = some (.int .i64 0) := by simp [go_sem]
  have y1 : (w.alloc (.cells #[.int .i64 0, .int .i64 0] 33)).cell? ⟨w.heap.size, 1, none⟩ = some (.int .i64 0) := by simp [go_sem]
  have hal : Below w.heap.size w (w.alloc (.cells #[.int .i64 0, .int .i64 0] 33)) := (Below.refl _ _).alloc (Nat.le_refl _) _
  have hz : w.heap.size < (w.alloc (.cells #[.int .i64 0, .int .i64 0] 33)).heap.size := by simp
  generalize hW : w.alloc (.cells #[.int .i64 0, .int .i64 0] 33) = w0 at z0 z1 y0 y1 hal hz
  have HW := Lib.hid hW
  clear hW
  by_cases h1 : dir = 1 ∨ dir = -1
  · have i1 := dirB_iff.2 h1
    by_cases h2 : 0 ≤ danger ∧ danger ≤ 10000000
    · have i2 := inB_t h2.1 h2.2
      by_cases h3 : 10 ≤ speed ∧ speed ≤ 200
      · have i3 := inB_t h3.1 h3.2
        have HO : Hid (WarnOk danger dir speed) := ⟨h1, h2, h3⟩
        obtain ⟨d0, d1⟩ := h2
        obtain ⟨s0, s1⟩ := h3
        rcases h1 with rfl | rfl
        · by_cases s2 : speed ≤ 50
          · have HL : Hid (leastF speed = 50) := Lib.hid (by simp [leastF, s2])
            go_enter Try.func30, Try.ntmps30
            go_upto_region 1 with fail
            rw [HW.out]
            go_wp2_with (first | (go_at_call 60; refine (rdirection _ _).mono ?_; rintro e w' ⟨rfl, rfl⟩) | (go_at_call 55; refine (rfrom _ _ _ _).mono ?_; rintro e w' ⟨rfl, rfl⟩))
            all_goals first | (exfalso; omega) | skip
            all_goals (try simp only [Exit.inBlock, Exit.then])
            all_goals first | (refine bodyPost_ret (res_span rfl rfl (set3 hz y0 y1).1 (set3 hz y0 y1).2) rfl ⟨fun _ => agg_eq ?_ ?_, fun h => absurd HO.out h, (let hq := (hal.setCell (Nat.le_refl _) _).setCell (Nat.le_refl _) _; hq.alloc hq.size _)⟩) | (refine bodyPost_ret (res_span rfl rfl (set2 y0 y1).1 (set2 y0 y1).2) rfl ⟨fun _ => agg_eq ?_ ?_, fun h => absurd HO.out h, (hal.setCell (Nat.le_refl _) _).setCell (Nat.le_refl _) _⟩)
            all_goals first | (rw [warn_p1 HL.out]; done) | (rw [warn_p2 HL.out]; done) | (rw [warn_p1 HL.out]; omega) | (rw [warn_p2 HL.out]; omega)
          · by_cases s3 : speed ≤ 100
            · have HL : Hid (leastF speed = 150) := Lib.hid (by simp [leastF, s2, s3])
              go_enter Try.func30, Try.ntmps30
              go_upto_region 1 with fail
              rw [HW.out]
              go_wp2_with (first | (go_at_call 60; refine (rdirection _ _).mono ?_; rintro e w' ⟨rfl, rfl⟩) | (go_at_call 55; refine (rfrom _ _ _ _).mono ?_; rintro e w' ⟨rfl, rfl⟩))
              all_goals first | (exfalso; omega) | skip
              all_goals (try simp only [Exit.inBlock, Exit.then])
              all_goals first | (refine bodyPost_ret (res_span rfl rfl (set3 hz y0 y1).1 (set3 hz y0 y1).2) rfl ⟨fun _ => agg_eq ?_ ?_, fun h => absurd HO.out h, (let hq := (hal.setCell (Nat.le_refl _) _).setCell (Nat.le_refl _) _; hq.alloc hq.size _)⟩) | (refine bodyPost_ret (res_span rfl rfl (set2 y0 y1).1 (set2 y0 y1).2) rfl ⟨fun _ => agg_eq ?_ ?_, fun h => absurd HO.out h, (hal.setCell (Nat.le_refl _) _).setCell (Nat.le_refl _) _⟩)
              all_goals first | (rw [warn_p1 HL.out]; done) | (rw [warn_p2 HL.out]; done) | (rw [warn_p1 HL.out]; omega) | (rw [warn_p2 HL.out]; omega)
            · have HL : Hid (leastF speed = 250) := Lib.hid (by simp [leastF, s2, s3])
              go_enter Try.func30, Try.ntmps30
              go_upto_region 1 with fail
              rw [HW.out]
              go_wp2_with (first | (go_at_call 60; refine (rdirection _ _).mono ?_; rintro e w' ⟨rfl, rfl⟩) | (go_at_call 55; refine (rfrom _ _ _ _).mono ?_; rintro e w' ⟨rfl, rfl⟩))
              all_goals first | (exfalso; omega) | skip
              all_goals (try simp only [Exit.inBlock, Exit.then])
              all_goals first | (refine bodyPost_ret (res_span rfl rfl (set3 hz y0 y1).1 (set3 hz y0 y1).2) rfl ⟨fun _ => agg_eq ?_ ?_, fun h => absurd HO.out h, (let hq := (hal.setCell (Nat.le_refl _) _).setCell (Nat.le_refl _) _; hq.alloc hq.size _)⟩) | (refine bodyPost_ret (res_span rfl rfl (set2 y0 y1).1 (set2 y0 y1).2) rfl ⟨fun _ => agg_eq ?_ ?_, fun h => absurd HO.out h, (hal.setCell (Nat.le_refl _) _).setCell (Nat.le_refl _) _⟩)
              all_goals first | (rw [warn_p1 HL.out]; done) | (rw [warn_p2 HL.out]; done) | (rw [warn_p1 HL.out]; omega) | (rw [warn_p2 HL.out]; omega)
        · by_cases s2 : speed ≤ 50
          · have HL : Hid (leastF speed = 50) := Lib.hid (by simp [leastF, s2])
            go_enter Try.func30, Try.ntmps30
            go_upto_region 1 with fail
            rw [HW.out]
            go_wp2_with (first | (go_at_call 60; refine (rdirection _ _).mono ?_; rintro e w' ⟨rfl, rfl⟩) | (go_at_call 55; refine (rfrom _ _ _ _).mono ?_; rintro e w' ⟨rfl, rfl⟩))
            all_goals first | (exfalso; omega) | skip
            all_goals (try simp only [Exit.inBlock, Exit.then])
            all_goals first | (refine bodyPost_ret (res_span rfl rfl (set3 hz y0 y1).1 (set3 hz y0 y1).2) rfl ⟨fun _ => agg_eq ?_ ?_, fun h => absurd HO.out h, (let hq := (hal.setCell (Nat.le_refl _) _).setCell (Nat.le_refl _) _; hq.alloc hq.size _)⟩) | (refine bodyPost_ret (res_span rfl rfl (set2 y0 y1).1 (set2 y0 y1).2) rfl ⟨fun _ => agg_eq ?_ ?_, fun h => absurd HO.out h, (hal.setCell (Nat.le_refl _) _).setCell (Nat.le_refl _) _⟩)
            all_goals first | (rw [warn_m1 HL.out]; done) | (rw [warn_m2 HL.out]; done) | (rw [warn_m1 HL.out]; omega) | (rw [warn_m2 HL.out]; omega)
          · by_cases s3 : speed ≤ 100
            · have HL : Hid (leastF speed = 150) := Lib.hid (by simp [leastF, s2, s3])
              go_enter Try.func30, Try.ntmps30
              go_upto_region 1 with fail
              rw [HW.out]
              go_wp2_with (first | (go_at_call 60; refine (rdirection _ _).mono ?_; rintro e w' ⟨rfl, rfl⟩) | (go_at_call 55; refine (rfrom _ _ _ _).mono ?_; rintro e w' ⟨rfl, rfl⟩))
              all_goals first | (exfalso; omega) | skip
              all_goals (try simp only [Exit.inBlock, Exit.then])
              all_goals first | (refine bodyPost_ret (res_span rfl rfl (set3 hz y0 y1).1 (set3 hz y0 y1).2) rfl ⟨fun _ => agg_eq ?_ ?_, fun h => absurd HO.out h, (let hq := (hal.setCell (Nat.le_refl _) _).setCell (Nat.le_refl _) _; hq.alloc hq.size _)⟩) | (refine bodyPost_ret (res_span rfl rfl (set2 y0 y1).1 (set2 y0 y1).2) rfl ⟨fun _ => agg_eq ?_ ?_, fun h => absurd HO.out h, (hal.setCell (Nat.le_refl _) _).setCell (Nat.le_refl _) _⟩)
              all_goals first | (rw [warn_m1 HL.out]; done) | (rw [warn_m2 HL.out]; done) | (rw [warn_m1 HL.out]; omega) | (rw [warn_m2 HL.out]; omega)
            · have HL : Hid (leastF speed = 250) := Lib.hid (by simp [leastF, s2, s3])
              go_enter Try.func30, Try.ntmps30
              go_upto_region 1 with fail
              rw [HW.out]
              go_wp2_with (first | (go_at_call 60; refine (rdirection _ _).mono ?_; rintro e w' ⟨rfl, rfl⟩) | (go_at_call 55; refine (rfrom _ _ _ _).mono ?_; rintro e w' ⟨rfl, rfl⟩))
              all_goals first | (exfalso; omega) | skip
              all_goals (try simp only [Exit.inBlock, Exit.then])
              all_goals first | (refine bodyPost_ret (res_span rfl rfl (set3 hz y0 y1).1 (set3 hz y0 y1).2) rfl ⟨fun _ => agg_eq ?_ ?_, fun h => absurd HO.out h, (let hq := (hal.setCell (Nat.le_refl _) _).setCell (Nat.le_refl _) _; hq.alloc hq.size _)⟩) | (refine bodyPost_ret (res_span rfl rfl (set2 y0 y1).1 (set2 y0 y1).2) rfl ⟨fun _ => agg_eq ?_ ?_, fun h => absurd HO.out h, (hal.setCell (Nat.le_refl _) _).setCell (Nat.le_refl _) _⟩)
              all_goals first | (rw [warn_m1 HL.out]; done) | (rw [warn_m2 HL.out]; done) | (rw [warn_m1 HL.out]; omega) | (rw [warn_m2 HL.out]; omega)
      · have i3 := inB_f h3
        clear h1
        go_enter Try.func30, Try.ntmps30
        go_upto_region 1 with fail
        rw [HW.out]
        go_wp2_with (first | (go_at_call 60; refine (rdirection _ _).mono ?_; rintro e w' ⟨rfl, rfl⟩) | (go_at_call 55; refine (rfrom _ _ _ _).mono ?_; rintro e w' ⟨rfl, rfl⟩))
        (try simp only [Exit.inBlock, Exit.then])
        obtain ⟨x0, x1⟩ := set2 (a := .int .i64 0) (b := .int .i64 0) y0 y1
        refine bodyPost_ret (res_span rfl rfl x0 x1) rfl ?_
        exact ⟨fun h => absurd h.2.2 h3, fun _ => rfl, (hal.setCell (Nat.le_refl _) _).setCell (Nat.le_refl _) _⟩
    · have i2 := inB_f h2
      clear h1
      go_enter Try.func30, Try.ntmps30
      go_upto_region 1 with fail
      rw [HW.out]
      go_wp2_with (first | (go_at_call 60; refine (rdirection _ _).mono ?_; rintro e w' ⟨rfl, rfl⟩) | (go_at_call 55; refine (rfrom _ _ _ _).mono ?_; rintro e w' ⟨rfl, rfl⟩))
      (try simp only [Exit.inBlock, Exit.then])
      obtain ⟨x0, x1⟩ := set2 (a := .int .i64 0) (b := .int .i64 0) y0 y1
      refine bodyPost_ret (res_span rfl rfl x0 x1) rfl ?_
      exact ⟨fun h => absurd h.2.1 h2, fun _ => rfl, (hal.setCell (Nat.le_refl _) _).setCell (Nat.le_refl _) _⟩
  · have i1 := dirB_f h1
    go_enter Try.func30, Try.ntmps30
    go_upto_region 1 with fail
    rw [HW.out]
    go_wp2_with (first | (go_at_call 60; refine (rdirection _ _).mono ?_; rintro e w' ⟨rfl, rfl⟩) | (go_at_call 55; refine (rfrom _ _ _ _).mono ?_; rintro e w' ⟨rfl, rfl⟩))
    (try simp only [Exit.inBlock, Exit.then])
    obtain ⟨x0, x1⟩ := set2 (a := .int .i64 0) (b := .int .i64 0) y0 y1
    refine bodyPost_ret (res_span rfl rfl x0 x1) rfl ?_
    exact ⟨fun h => absurd h.1 h1, fun _ => rfl, (hal.setCell (Nat.le_refl _) _).setCell (Nat.le_refl _) _⟩
end Go.Proofs.Ytoknkmlkeacgjaa
