/- Contracts of Ahead (both texts), and the walk of RoadAhead from Awake's contract. -/
import Derived.Test.YtoknkmlkeacgjaaLen
namespace Go.Proofs.Ytoknkmlkeacgjaa
open Go.RowKit
def dirB (d : Int) : Bool := decide (d = 1) || decide (d = -1)
theorem dirB_iff {d : Int} : dirB d = true ↔ d = 1 ∨ d = -1 := by simp [dirB]
theorem dirB_f {d : Int} (h : ¬ (d = 1 ∨ d = -1)) : dirB d = false := by
  rw [Bool.eq_false_iff]
  exact fun hh => h (dirB_iff.1 hh)
theorem lisDir (d : Int) (w : World) : Calls Try.prog 58 #[.int .i64 d] w fun e w' => e = .returned (.bool (dirB d)) ∧ w = w' := by
  unfold dirB
  by_cases h1 : d = 1
  · subst h1
    go_enter Try.func58, Try.ntmps58
    go_wp2
    go_ret
    exact ⟨rfl, rfl⟩
  · have b1 : (d == 1) = false := by simp [h1]
    by_cases h2 : d = -1
    · subst h2
      go_enter Try.func58, Try.ntmps58
      go_wp2
      go_ret
      exact ⟨rfl, rfl⟩
    · have b2 : (d == -1) = false := by simp [h2]
      go_enter Try.func58, Try.ntmps58
      go_wp2
      go_ret
      exact ⟨by simp [h1, h2], rfl⟩
theorem rdirection (d : Int) (w : World) : Calls Try.prog 60 #[.int .i64 d] w fun e w' => e = .returned (.bool (dirB d)) ∧ w = w' := by
  unfold dirB
  by_cases h1 : d = 1
  · subst h1
    go_enter Try.func60, Try.ntmps60
    go_wp2
    go_ret
    exact ⟨rfl, rfl⟩
  · have b1 : (d == 1) = false := by simp [h1]
    by_cases h2 : d = -1
    · subst h2
      go_enter Try.func60, Try.ntmps60
      go_wp2
      go_ret
      exact ⟨rfl, rfl⟩
    · have b2 : (d == -1) = false := by simp [h2]
      go_enter Try.func60, Try.ntmps60
      go_wp2
      go_ret
      exact ⟨by simp [h1, h2], rfl⟩
theorem rfrom (lo n hi : Int) (w : World) : Calls Try.prog 55 #[.int .i64 lo, .int .i64 n, .int .i64 hi] w fun e w' => e = .returned (.bool (inB lo n hi)) ∧ w = w' := by
  unfold inB
  by_cases h1 : lo ≤ n <;> by_cases h2 : n ≤ hi
  all_goals
    go_enter Try.func55, Try.ntmps55
    go_wp2
    go_ret
    exact ⟨by simp [h1, h2], rfl⟩
theorem lisChain (n : Int) (w : World) : Calls Try.prog 59 #[.int .i64 n] w fun e w' => e = .returned (.bool (inB 0 n 10000000)) ∧ w = w' := by
  go_enter Try.func59, Try.ntmps59
  go_wp2_with (go_at_call 51; refine (lwithin _ _ _ _).mono ?_; rintro e w' ⟨rfl, rfl⟩)
  go_ret
  exact ⟨rfl, rfl⟩
def AheadOk (d a b : Int) : Prop := (d = 1 ∨ d = -1) ∧ (0 ≤ a ∧ a ≤ 10000000) ∧ (0 ≤ b ∧ b ≤ 10000000)
/-- What Ahead returns. -/
def AheadRes (d a b : Int) (w : World) (e : Ending) (w' : World) : Prop :=
  (AheadOk d a b → e = .returned (.tuple #[.int .i64 (d * (b - a)), .int .i64 0])) ∧ (¬ AheadOk d a b → e = .returned (.tuple #[.int .i64 0, .int .i64 2])) ∧ w = w'
theorem lAhead (d a b : Int) (w : World) : Calls Try.prog 21 #[.int .i64 d, .int .i64 a, .int .i64 b] w (AheadRes d a b w) := by
  by_cases h1 : d = 1 ∨ d = -1
  · have i1 := dirB_iff.2 h1
    by_cases h2 : 0 ≤ a ∧ a ≤ 10000000
    · have i2 := inB_t h2.1 h2.2
      by_cases h3 : 0 ≤ b ∧ b ≤ 10000000
      · have i3 := inB_t h3.1 h3.2
        have HO : Hid (AheadOk d a b) := ⟨h1, h2, h3⟩
        rcases h1 with rfl | rfl
        · go_enter Try.func21, Try.ntmps21
          go_wp2_with (first | (go_at_call 58; refine (lisDir _ _).mono ?_; rintro e w' ⟨rfl, rfl⟩) | (go_at_call 59; refine (lisChain _ _).mono ?_; rintro e w' ⟨rfl, rfl⟩))
          go_ret2
          exact ⟨fun _ => by simp, fun h => absurd HO.out h, rfl⟩
        · go_enter Try.func21, Try.ntmps21
          go_wp2_with (first | (go_at_call 58; refine (lisDir _ _).mono ?_; rintro e w' ⟨rfl, rfl⟩) | (go_at_call 59; refine (lisChain _ _).mono ?_; rintro e w' ⟨rfl, rfl⟩))
          go_ret2
          exact ⟨fun _ => by simp, fun h => absurd HO.out h, rfl⟩
      · have i3 := inB_f h3
        clear h1
        go_enter Try.func21, Try.ntmps21
        go_wp2_with (first | (go_at_call 58; refine (lisDir _ _).mono ?_; rintro e w' ⟨rfl, rfl⟩) | (go_at_call 59; refine (lisChain _ _).mono ?_; rintro e w' ⟨rfl, rfl⟩))
        go_ret2
        exact ⟨fun h => absurd h.2.2 h3, fun _ => rfl, rfl⟩
    · have i2 := inB_f h2
      clear h1
      go_enter Try.func21, Try.ntmps21
      go_wp2_with (first | (go_at_call 58; refine (lisDir _ _).mono ?_; rintro e w' ⟨rfl, rfl⟩) | (go_at_call 59; refine (lisChain _ _).mono ?_; rintro e w' ⟨rfl, rfl⟩))
      go_ret2
      exact ⟨fun h => absurd h.2.1 h2, fun _ => rfl, rfl⟩
  · have i1 := dirB_f h1
    go_enter Try.func21, Try.ntmps21
    go_wp2_with (first | (go_at_call 58; refine (lisDir _ _).mono ?_; rintro e w' ⟨rfl, rfl⟩) | (go_at_call 59; refine (lisChain _ _).mono ?_; rintro e w' ⟨rfl, rfl⟩))
    go_ret2
    exact ⟨fun h => absurd h.1 h1, fun _ => rfl, rfl⟩
theorem rAhead (d a b : Int) (w : World) : Calls Try.prog 22 #[.int .i64 d, .int .i64 a, .int .i64 b] w (AheadRes d a b w) := by
  by_cases h1 : d = 1 ∨ d = -1
  · have i1 := dirB_iff.2 h1
    by_cases h2 : 0 ≤ a ∧ a ≤ 10000000
    · have i2 := inB_t h2.1 h2.2
      by_cases h3 : 0 ≤ b ∧ b ≤ 10000000
      · have i3 := inB_t h3.1 h3.2
        have HO : Hid (AheadOk d a b) := ⟨h1, h2, h3⟩
        rcases h1 with rfl | rfl
        · go_enter Try.func22, Try.ntmps22
          go_wp2_with (first | (go_at_call 60; refine (rdirection _ _).mono ?_; rintro e w' ⟨rfl, rfl⟩) | (go_at_call 55; refine (rfrom _ _ _ _).mono ?_; rintro e w' ⟨rfl, rfl⟩))
          go_ret2
          exact ⟨fun _ => by simp, fun h => absurd HO.out h, rfl⟩
        · go_enter Try.func22, Try.ntmps22
          go_wp2_with (first | (go_at_call 60; refine (rdirection _ _).mono ?_; rintro e w' ⟨rfl, rfl⟩) | (go_at_call 55; refine (rfrom _ _ _ _).mono ?_; rintro e w' ⟨rfl, rfl⟩))
          go_ret2
          exact ⟨fun _ => by simp, fun h => absurd HO.out h, rfl⟩
      · have i3 := inB_f h3
        clear h1
        go_enter Try.func22, Try.ntmps22
        go_wp2_with (first | (go_at_call 60; refine (rdirection _ _).mono ?_; rintro e w' ⟨rfl, rfl⟩) | (go_at_call 55; refine (rfrom _ _ _ _).mono ?_; rintro e w' ⟨rfl, rfl⟩))
        go_ret2
        exact ⟨fun h => absurd h.2.2 h3, fun _ => rfl, rfl⟩
    · have i2 := inB_f h2
      clear h1
      go_enter Try.func22, Try.ntmps22
      go_wp2_with (first | (go_at_call 60; refine (rdirection _ _).mono ?_; rintro e w' ⟨rfl, rfl⟩) | (go_at_call 55; refine (rfrom _ _ _ _).mono ?_; rintro e w' ⟨rfl, rfl⟩))
      go_ret2
      exact ⟨fun h => absurd h.2.1 h2, fun _ => rfl, rfl⟩
  · have i1 := dirB_f h1
    go_enter Try.func22, Try.ntmps22
    go_wp2_with (first | (go_at_call 60; refine (rdirection _ _).mono ?_; rintro e w' ⟨rfl, rfl⟩) | (go_at_call 55; refine (rfrom _ _ _ _).mono ?_; rintro e w' ⟨rfl, rfl⟩))
    go_ret2
    exact ⟨fun h => absurd h.1 h1, fun _ => rfl, rfl⟩
end Go.Proofs.Ytoknkmlkeacgjaa
