/- What Corrected computes, and the contracts of read and drifted. -/
import Derived.Test.YtihhfelhdgmceaaRead
import Derived.Test.YtihhfelhdgmceaaSlopes
namespace Go.Proofs.Ytihhfelhdgmceaa
open Go.RowKit
def farFrom (c r : Int) : Bool := decide (r < 20 * max (c - r) (r - c))
def readOk (f l x : Int × Int) : Prop := (0 ≤ x.2 ∧ x.2 ≤ 100000) ∧ f.1 ≤ x.1 ∧ x.1 ≤ l.1
def CorArg (xs : List (Int × Int)) (f l : Int × Int) (r : Int) : Prop :=
  xs.length ≤ 100 ∧ (1 ≤ r ∧ r ≤ 100000) ∧ (1 ≤ f.2 ∧ f.2 ≤ 100000) ∧ (1 ≤ l.2 ∧ l.2 ≤ 100000) ∧ (0 ≤ f.1 ∧ f.1 ≤ 1000000) ∧ (f.1 + 1 ≤ l.1 ∧ l.1 ≤ 1000000)
def CorOk (xs : List (Int × Int)) (f l : Int × Int) (r : Int) : Prop := CorArg xs f l r ∧ ∀ j, j < xs.length → readOk f l (atp xs j)
def plateAt (f l x : Int × Int) : Int := f.2 * (l.1 - x.1) + l.2 * (x.1 - f.1)
def corAt (f l : Int × Int) (r : Int) (x : Int × Int) : Int := x.2 * r * (l.1 - f.1) / plateAt f l x
/-- The corrected readings of the first k. -/
def corTo (xs : List (Int × Int)) (f l : Int × Int) (r : Int) (k : Nat) : List Int := (List.range k).map fun j => corAt f l r (atp xs j)
theorem corTo_length (xs : List (Int × Int)) (f l : Int × Int) (r : Int) (k : Nat) : (corTo xs f l r k).length = k := by simp [corTo]
theorem corTo_succ (xs : List (Int × Int)) (f l : Int × Int) (r : Int) (k : Nat) : corTo xs f l r (k + 1) = corTo xs f l r k ++ [corAt f l r (atp xs k)] := by simp [corTo, List.range_succ]
theorem corTo_at (xs : List (Int × Int)) (f l : Int × Int) (r : Int) {k j : Nat} (h : j < k) : at0 (corTo xs f l r k) j = corAt f l r (atp xs j) := by simp [corTo, at0, h]
theorem mulb {a b A B : Int} (a0 : 0 ≤ a) (a1 : a ≤ A) (b0 : 0 ≤ b) (b1 : b ≤ B) : 0 ≤ a * b ∧ a * b ≤ A * B := ⟨Int.mul_nonneg a0 b0, Int.mul_le_mul a1 b1 b0 (Int.le_trans a0 a1)⟩
/-- The bounds of all products of a right reading. -/
theorem cor_bd {xs : List (Int × Int)} {f l : Int × Int} {r : Int} (h : CorArg xs f l r) {x : Int × Int} (hx : readOk f l x) :
    (0 ≤ f.2 * (l.1 - x.1) ∧ f.2 * (l.1 - x.1) ≤ 100000000000) ∧ (0 ≤ l.2 * (x.1 - f.1) ∧ l.2 * (x.1 - f.1) ≤ 100000000000) ∧ (1 ≤ plateAt f l x ∧ plateAt f l x ≤ 200000000000) ∧
    (0 ≤ x.2 * r ∧ x.2 * r ≤ 10000000000) ∧ (0 ≤ x.2 * r * (l.1 - f.1) ∧ x.2 * r * (l.1 - f.1) ≤ 10000000000000000) := by
  obtain ⟨_, ⟨r0, r1⟩, ⟨f0, f1⟩, ⟨l0, l1⟩, ⟨m0, m1⟩, n0, n1⟩ := h
  obtain ⟨⟨x0, x1⟩, y0, y1⟩ := hx
  have a := mulb (a := f.2) (b := l.1 - x.1) (A := 100000) (B := 1000000) (by omega) f1 (by omega) (by omega)
  have b := mulb (a := l.2) (b := x.1 - f.1) (A := 100000) (B := 1000000) (by omega) l1 (by omega) (by omega)
  have c := mulb (a := x.2) (b := r) (A := 100000) (B := 100000) x0 x1 (by omega) r1
  have d := mulb (a := x.2 * r) (b := l.1 - f.1) (A := 10000000000) (B := 1000000) c.1 (by omega) (by omega) (by omega)
  refine ⟨by omega, by omega, ?_, by omega, by omega⟩
  unfold plateAt
  have e1 : l.1 - x.1 ≤ f.2 * (l.1 - x.1) := by have := Int.mul_le_mul_of_nonneg_right f0 (show 0 ≤ l.1 - x.1 by omega); omega
  have e2 : x.1 - f.1 ≤ l.2 * (x.1 - f.1) := by have := Int.mul_le_mul_of_nonneg_right l0 (show 0 ≤ x.1 - f.1 by omega); omega
  omega
theorem lread (x : Int × Int) (w : World) : Calls Try.prog 65 #[.agg #[.int .i64 x.1, .int .i64 x.2]] w fun e w' => e = .returned (.bool (inB 1 x.2 100000)) ∧ Below w.heap.size w w' := by
  have hal : Below w.heap.size w (w.alloc (.cells #[.int .i64 x.1, .int .i64 x.2] 54)) := (Below.refl _ _).alloc (Nat.le_refl _) _
  go_enter Try.func65, Try.ntmps65
  go_wp2_with (go_at_call 58; refine (lwithin _ _ _ _).mono ?_; rintro e w' ⟨rfl, rfl⟩)
  go_ret
  exact ⟨rfl, hal⟩
theorem rdrifted (c r : Int) (w : World) (c0 : 0 ≤ c) (c1 : c ≤ 100000) (r0 : 0 ≤ r) (r1 : r ≤ 100000) : Calls Try.prog 66 #[.int .i64 c, .int .i64 r] w fun e w' => e = .returned (.bool (farFrom c r)) ∧ w = w' := by
  go_enter Try.func66, Try.ntmps66
  go_wp2
  all_goals
    go_ret
    refine ⟨ret_bool ?_, rfl⟩
    unfold farFrom
    rw [decide_eq_decide]
    omega
end Go.Proofs.Ytihhfelhdgmceaa
