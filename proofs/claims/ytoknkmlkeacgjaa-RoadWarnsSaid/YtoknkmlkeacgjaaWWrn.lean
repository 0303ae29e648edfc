/- The walk of RoadWarns. -/
import Derived.Test.YtoknkmlkeacgjaaWrn
import Derived.Test.YtoknkmlkeacgjaaAwk
namespace Go.Proofs.Ytoknkmlkeacgjaa
open Go.RowKit
set_option maxRecDepth 100000 in
set_option maxHeartbeats 2000000 in
theorem wWarns (danger dir speed : Int) (w : World) : Calls Try.prog 8 #[.int .i64 danger, .int .i64 dir, .int .i64 speed] w fun e w' => e = .returned (.bool true) ∧ Below w.heap.size w w' := by
  have key : ∃ (a b er : Int), ∀ (w1 w2 : World) (e : Ending), WarnRes danger dir speed w1 e w2 → e = .returned (.tuple #[.agg #[.int .i64 a, .int .i64 b], .int .i64 er]) ∧ Below w1.heap.size w1 w2 := by
    by_cases h : WarnOk danger dir speed
    · exact ⟨_, _, _, fun w1 w2 e hh => ⟨hh.1 h, hh.2.2⟩⟩
    · exact ⟨_, _, _, fun w1 w2 e hh => ⟨hh.2.1 h, hh.2.2⟩⟩
  obtain ⟨a, b, er, key⟩ := key
  have HK := Lib.hid key
  clear key
  go_enter Try.func8, Try.ntmps8
  go_wp2_with fail
  refine (lWarn danger dir speed _).mono ?_
  intro e w1 hh
  obtain ⟨rfl, hb1⟩ := HK.out _ _ _ hh
  clear hh
  have hb1a := hb1.alloc hb1.size (.cells #[.int .i64 a, .int .i64 b] 33)
  go_wp2_with fail
  have x0 : (w1.alloc (.cells #[.int .i64 a, .int .i64 b] 33)).cell? ⟨w1.heap.size, 0, none⟩ = some (.int .i64 a) := by simp [go_sem]
  have x1 : (w1.alloc (.cells #[.int .i64 a, .int .i64 b] 33)).cell? ⟨w1.heap.size, 1, none⟩ = some (.int .i64 b) := by simp [go_sem]
  have hz : w1.heap.size < (w1.alloc (.cells #[.int .i64 a, .int .i64 b] 33)).heap.size := by simp
  refine (rWarn danger dir speed _).mono ?_
  intro e w2 hh
  obtain ⟨rfl, hb2⟩ := HK.out _ _ _ hh
  clear hh
  replace x0 := (hb2.cell (p := ⟨w1.heap.size, 0, none⟩) hz).trans x0
  replace x1 := (hb2.cell (p := ⟨w1.heap.size, 1, none⟩) hz).trans x1
  have hz2 := Nat.lt_of_lt_of_le hz hb2.size
  have hb3 := hb1a.trans (hb2.mono hb1a.size)
  have hb4 := hb3.alloc hb3.size (.cells #[.int .i64 a, .int .i64 b] 33)
  clear hz hb1 hb1a hb2
  go_wp2_with fail
  refine (lAwake _).mono ?_
  rintro e w5 ⟨rfl, hb5⟩
  go_wp2
  go_ret
  exact ⟨rfl, hb4.trans (hb5.mono hb4.size)⟩
end Go.Proofs.Ytoknkmlkeacgjaa
