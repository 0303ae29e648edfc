/- TopEdicts: each. -/
import Derived.Test.YtdmmcdbojmalfaaGreatEdH
namespace Go.Proofs.YtdmmcdbojmalfaaGreat
open Go.RowKit
theorem idx0 (a b : Int) (w : World) : Sem.run Tryz.prog (Instr.index 96 (.agg #[.int .i64 a, .int .i64 b]) (.int .i64 0)) w = .ok (.int .i64 a) w := by kernel_rfl
theorem idx1 (a b : Int) (w : World) : Sem.run Tryz.prog (Instr.index 96 (.agg #[.int .i64 a, .int .i64 b]) (.int .i64 1)) w = .ok (.int .i64 b) w := by kernel_rfl
set_option maxRecDepth 100000 in
set_option maxHeartbeats 4000000 in
theorem lEachP (c0 c1 c2 c3 : Value) (R : Nat → World → Prop) (w : World) (h0 : R 0 w)
    (hs : ∀ (t d : Int) (k : Nat) (w : World), (t = 1 ∧ d = 1 ∧ k = 0) ∨ (t = 1 ∧ d = -1 ∧ k = 1) ∨ (t = 2 ∧ d = 1 ∧ k = 2) ∨ (t = 2 ∧ d = -1 ∧ k = 3) → R k w → Calls Tryz.prog 27 #[.int .i64 t, .int .i64 d, c0, c1, c2, c3] w fun e w' => e = .returned (.tuple #[]) ∧ R (k + 1) w') :
    Calls Tryz.prog 26 #[.func (.func 27) #[] #[c0, c1, c2, c3]] w fun e w' => e = .returned (.tuple #[]) ∧ R 4 w' := by
  have i1 := fun (w : World) => idx0 1 2 w
  have i2 := fun (w : World) => idx1 1 2 w
  have i3 := fun (w : World) => idx0 1 (-1) w
  have i4 := fun (w : World) => idx1 1 (-1) w
  have H0 := Lib.hid h0
  have HS := Lib.hid hs
  clear h0 hs
  go_enter Tryz.func26, Tryz.ntmps26
  go_wp2_with fail
  refine wp_loop_rounds 3 ?_
  rw [rounds_succ]
  go_wp2_with fail
  refine wp_loop_rounds 3 ?_
  rw [rounds_succ]
  go_wp2_with fail
  refine (HS.out 1 1 0 w (.inl ⟨rfl, rfl, rfl⟩) H0.out).mono ?_
  rintro e w1 ⟨rfl, hr1⟩
  have H1 := Lib.hid hr1
  clear hr1
  go_wp2_with fail
  rw [rounds_succ]
  go_wp2_with fail
  refine (HS.out 1 (-1) 1 w1 (.inr (.inl ⟨rfl, rfl, rfl⟩)) H1.out).mono ?_
  rintro e w2 ⟨rfl, hr2⟩
  have H2 := Lib.hid hr2
  clear hr2
  go_wp2_with fail
  rw [rounds_succ]
  go_wp2_with fail
  rw [rounds_succ]
  go_wp2_with fail
  refine wp_loop_rounds 3 ?_
  rw [rounds_succ]
  go_wp2_with fail
  refine (HS.out 2 1 2 w2 (.inr (.inr (.inl ⟨rfl, rfl, rfl⟩))) H2.out).mono ?_
  rintro e w3 ⟨rfl, hr3⟩
  have H3 := Lib.hid hr3
  clear hr3
  go_wp2_with fail
  rw [rounds_succ]
  go_wp2_with fail
  refine (HS.out 2 (-1) 3 w3 (.inr (.inr (.inr ⟨rfl, rfl, rfl⟩))) H3.out).mono ?_
  rintro e w4 ⟨rfl, hr4⟩
  have H4 := Lib.hid hr4
  clear hr4
  go_wp2_with fail
  rw [rounds_succ]
  go_wp2_with fail
  rw [rounds_succ]
  go_wp2_with fail
  go_end0
  exact ⟨rfl, H4.out⟩
set_option maxRecDepth 100000 in
set_option maxHeartbeats 4000000 in
theorem lEachC (c0 c1 c2 c3 c4 : Value) (R : Nat → World → Prop) (w : World) (h0 : R 0 w)
    (hs : ∀ (t d : Int) (k : Nat) (w : World), (t = 1 ∧ d = 1 ∧ k = 0) ∨ (t = 1 ∧ d = -1 ∧ k = 1) ∨ (t = 2 ∧ d = 1 ∧ k = 2) ∨ (t = 2 ∧ d = -1 ∧ k = 3) → R k w → Calls Tryz.prog 36 #[.int .i64 t, .int .i64 d, c0, c1, c2, c3, c4] w fun e w' => e = .returned (.tuple #[]) ∧ R (k + 1) w') :
    Calls Tryz.prog 26 #[.func (.func 36) #[] #[c0, c1, c2, c3, c4]] w fun e w' => e = .returned (.tuple #[]) ∧ R 4 w' := by
  have i1 := fun (w : World) => idx0 1 2 w
  have i2 := fun (w : World) => idx1 1 2 w
  have i3 := fun (w : World) => idx0 1 (-1) w
  have i4 := fun (w : World) => idx1 1 (-1) w
  have H0 := Lib.hid h0
  have HS := Lib.hid hs
  clear h0 hs
  go_enter Tryz.func26, Tryz.ntmps26
  go_wp2_with fail
  refine wp_loop_rounds 3 ?_
  rw [rounds_succ]
  go_wp2_with fail
  refine wp_loop_rounds 3 ?_
  rw [rounds_succ]
  go_wp2_with fail
  refine (HS.out 1 1 0 w (.inl ⟨rfl, rfl, rfl⟩) H0.out).mono ?_
  rintro e w1 ⟨rfl, hr1⟩
  have H1 := Lib.hid hr1
  clear hr1
  go_wp2_with fail
  rw [rounds_succ]
  go_wp2_with fail
  refine (HS.out 1 (-1) 1 w1 (.inr (.inl ⟨rfl, rfl, rfl⟩)) H1.out).mono ?_
  rintro e w2 ⟨rfl, hr2⟩
  have H2 := Lib.hid hr2
  clear hr2
  go_wp2_with fail
  rw [rounds_succ]
  go_wp2_with fail
  rw [rounds_succ]
  go_wp2_with fail
  refine wp_loop_rounds 3 ?_
  rw [rounds_succ]
  go_wp2_with fail
  refine (HS.out 2 1 2 w2 (.inr (.inr (.inl ⟨rfl, rfl, rfl⟩))) H2.out).mono ?_
  rintro e w3 ⟨rfl, hr3⟩
  have H3 := Lib.hid hr3
  clear hr3
  go_wp2_with fail
  rw [rounds_succ]
  go_wp2_with fail
  refine (HS.out 2 (-1) 3 w3 (.inr (.inr (.inr ⟨rfl, rfl, rfl⟩))) H3.out).mono ?_
  rintro e w4 ⟨rfl, hr4⟩
  have H4 := Lib.hid hr4
  clear hr4
  go_wp2_with fail
  rw [rounds_succ]
  go_wp2_with fail
  rw [rounds_succ]
  go_wp2_with fail
  go_end0
  exact ⟨rfl, H4.out⟩
end Go.Proofs.YtdmmcdbojmalfaaGreat
