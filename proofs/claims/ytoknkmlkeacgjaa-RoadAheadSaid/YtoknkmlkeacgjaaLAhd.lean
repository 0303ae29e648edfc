/- The walk of RoadAhead, from Awake's contract. -/
import Derived.Test.YtoknkmlkeacgjaaAhd
import Derived.Deep.DeepCutAuto
namespace Go.Proofs.Ytoknkmlkeacgjaa
open Go.RowKit
theorem ahead_bd {d a b : Int} (h : AheadOk d a b) : -10000000 ≤ d * (b - a) ∧ d * (b - a) ≤ 10000000 := by
  obtain ⟨h1, h2, h3⟩ := h
  rcases h1 with rfl | rfl <;> omega
set_option maxRecDepth 100000 in
set_option maxHeartbeats 2000000 in
theorem wAhead (hAw : ∀ w : World, Calls Try.prog 17 #[] w fun e w' => e = .returned (.bool true) ∧ Below w.heap.size w w') (d a b : Int) (w : World) :
    Calls Try.prog 5 #[.int .i64 d, .int .i64 a, .int .i64 b] w fun e w' => e = .returned (.bool true) ∧ Below w.heap.size w w' := by
  have HA := Lib.hid hAw
  clear hAw
  by_cases ho : AheadOk d a b
  · have HO := Lib.hid ho
    have ho2 : AheadOk d b a := ⟨ho.1, ho.2.2, ho.2.1⟩
    have ho3 : AheadOk (-d) a b := ⟨by rcases ho.1 with h | h <;> omega, ho.2.1, ho.2.2⟩
    obtain ⟨b0, b1⟩ := ahead_bd ho
    have hd : -1 ≤ d ∧ d ≤ 1 := by rcases ho.1 with h | h <;> omega
    obtain ⟨hd0, hd1⟩ := hd
    have e2 : d * (a - b) = -(d * (b - a)) := by rw [← Int.mul_neg]; congr 1; omega
    have e3 : -d * (b - a) = -(d * (b - a)) := Int.neg_mul ..
    have E2 := Lib.hid e2
    have E3 := Lib.hid e3
    have HO2 := Lib.hid ho2
    have HO3 := Lib.hid ho3
    clear ho ho2 ho3 e2 e3
    go_enter Try.func5, Try.ntmps5
    go_wp2_with fail
    refine (lAhead d a b w).mono ?_
    rintro e w1 ⟨h1, _, rfl⟩
    rw [h1 HO.out]
    clear h1
    go_wp2_with fail
    refine (rAhead d a b w).mono ?_
    rintro e w1 ⟨h1, _, rfl⟩
    rw [h1 HO.out]
    clear h1
    go_wp2_with fail
    refine (lAhead d b a w).mono ?_
    rintro e w1 ⟨h1, _, rfl⟩
    rw [h1 HO2.out, E2.out]
    clear h1
    go_wp2_with fail
    refine (lAhead (-d) a b w).mono ?_
    rintro e w1 ⟨h1, _, rfl⟩
    rw [h1 HO3.out, E3.out]
    clear h1
    generalize d * (b - a) = v at *
    go_wp2_with fail
    refine (HA.out w).mono ?_
    rintro e w5 ⟨rfl, hb⟩
    go_wp2
    go_ret
    exact ⟨rfl, hb⟩
  · have HO := Lib.hid ho
    clear ho
    go_enter Try.func5, Try.ntmps5
    go_wp2_with fail
    refine (lAhead d a b w).mono ?_
    rintro e w1 ⟨_, h1, rfl⟩
    rw [h1 HO.out]
    clear h1
    go_wp2_with fail
    refine (rAhead d a b w).mono ?_
    rintro e w1 ⟨_, h1, rfl⟩
    rw [h1 HO.out]
    clear h1
    go_wp2_with fail
    refine (HA.out w).mono ?_
    rintro e w5 ⟨rfl, hb⟩
    go_wp2
    go_ret
    exact ⟨rfl, hb⟩
end Go.Proofs.Ytoknkmlkeacgjaa
