/- Contracts of Ahead (both texts), and the walk of RoadAhead from Awake's contract. -/
import Derived.Test.YtpcpkoaigjbdhaaLen
namespace Go.Proofs.Ytpcpkoaigjbdhaa
open Go.RowKit
def dirB (d : Int) : Bool := decide (d = 1) || decide (d = -1)
theorem dirB_iff {d : Int} : dirB d = true ↔ d = 1 ∨ d = -1 := by simp [dirB]
theorem dirB_f {d : Int} (h : ¬ (d = 1 ∨ d = -1)) : dirB d = false := by
  rw [Bool.eq_false_iff]
  exact fun hh => h (dirB_iff.1 hh)
theorem rfrom (lo n hi : Int) (w : World) : Calls Try.prog 24 #[.int .i64 lo, .int .i64 n, .int .i64 hi] w fun e w' => e = .returned (.bool (inB lo n hi)) ∧ w = w' := by
  unfold inB
  by_cases h1 : lo ≤ n <;> by_cases h2 : n ≤ hi
  all_goals
    go_enter Try.func24, Try.ntmps24
    go_wp2
    go_ret
    exact ⟨by simp [h1, h2], rfl⟩
def AheadOk (d a b : Int) : Prop := (d = 1 ∨ d = -1) ∧ (0 ≤ a ∧ a ≤ 10000000) ∧ (0 ≤ b ∧ b ≤ 10000000)
/-- What Ahead returns. -/
def AheadRes (d a b : Int) (w : World) (e : Ending) (w' : World) : Prop :=
  (AheadOk d a b → e = .returned (.tuple #[.int .i64 (d * (b - a)), .int .i64 0])) ∧ (¬ AheadOk d a b → e = .returned (.tuple #[.int .i64 0, .int .i64 2])) ∧ w = w'
end Go.Proofs.Ytpcpkoaigjbdhaa

