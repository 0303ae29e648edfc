/- Contracts of turn and place (both texts). -/
import Derived.Test.YtihhfelhdgmceaaSlopes
namespace Go.Proofs.Ytihhfelhdgmceaa
open Go.RowKit
/-- A place whose coordinates are right. -/
def placed (p : Int × Int) : Prop := (0 ≤ p.1 ∧ p.1 ≤ 10000) ∧ (0 ≤ p.2 ∧ p.2 ≤ 10000)
def placeB (p : Int × Int) : Bool := inB 0 p.1 10000 && inB 0 p.2 10000
theorem placeB_iff {p : Int × Int} : placeB p = true ↔ placed p := by simp [placeB, placed, inB]
def turnF (a b c : Int × Int) : Int := (b.1 - a.1) * (c.2 - b.2) - (b.2 - a.2) * (c.1 - b.1)
theorem mulc_bd {x y : Int} (x0 : -10000 ≤ x) (x1 : x ≤ 10000) (y0 : -10000 ≤ y) (y1 : y ≤ 10000) : -100000000 ≤ x * y ∧ x * y ≤ 100000000 := by
  have h1 : 0 ≤ (x + 10000) * (y + 10000) := Int.mul_nonneg (by omega) (by omega)
  have h2 : 0 ≤ (10000 - x) * (10000 - y) := Int.mul_nonneg (by omega) (by omega)
  have h3 : 0 ≤ (x + 10000) * (10000 - y) := Int.mul_nonneg (by omega) (by omega)
  have h4 : 0 ≤ (10000 - x) * (y + 10000) := Int.mul_nonneg (by omega) (by omega)
  simp only [Int.add_mul, Int.mul_add, Int.sub_mul, Int.mul_sub] at h1 h2 h3 h4
  generalize x * y = z at *
  omega
theorem lturn (a b c : Int × Int) (w : World) (ha : placed a) (hb : placed b) (hc : placed c) :
    Calls Try.prog 62 #[.agg #[.int .i64 a.1, .int .i64 a.2], .agg #[.int .i64 b.1, .int .i64 b.2], .agg #[.int .i64 c.1, .int .i64 c.2]] w fun e w' => e = .returned (.int .i64 (turnF a b c)) ∧ Below w.heap.size w w' := by
  obtain ⟨a1, a2⟩ := a
  obtain ⟨b1, b2⟩ := b
  obtain ⟨c1, c2⟩ := c
  obtain ⟨⟨p1, p2⟩, p3, p4⟩ := ha
  obtain ⟨⟨q1, q2⟩, q3, q4⟩ := hb
  obtain ⟨⟨r1, r2⟩, r3, r4⟩ := hc
  dsimp only at *
  obtain ⟨m1, m2⟩ := mulc_bd (x := b1 - a1) (y := c2 - b2) (by omega) (by omega) (by omega) (by omega)
  obtain ⟨m3, m4⟩ := mulc_bd (x := b2 - a2) (y := c1 - b1) (by omega) (by omega) (by omega) (by omega)
  go_enter Try.func62, Try.ntmps62
  go_wp2
  go_ret
  exact ⟨rfl, (((Below.refl _ _).alloc (Nat.le_refl _) _).alloc (by simp) _).alloc (by simp; omega) _⟩
theorem rturn (a b c : Int × Int) (w : World) (ha : placed a) (hb : placed b) (hc : placed c) :
    Calls Try.prog 64 #[.agg #[.int .i64 a.1, .int .i64 a.2], .agg #[.int .i64 b.1, .int .i64 b.2], .agg #[.int .i64 c.1, .int .i64 c.2]] w fun e w' => e = .returned (.int .i64 (turnF a b c)) ∧ Below w.heap.size w w' := by
  obtain ⟨a1, a2⟩ := a
  obtain ⟨b1, b2⟩ := b
  obtain ⟨c1, c2⟩ := c
  obtain ⟨⟨p1, p2⟩, p3, p4⟩ := ha
  obtain ⟨⟨q1, q2⟩, q3, q4⟩ := hb
  obtain ⟨⟨r1, r2⟩, r3, r4⟩ := hc
  dsimp only at *
  obtain ⟨m1, m2⟩ := mulc_bd (x := b1 - a1) (y := c2 - b2) (by omega) (by omega) (by omega) (by omega)
  obtain ⟨m3, m4⟩ := mulc_bd (x := b2 - a2) (y := c1 - b1) (by omega) (by omega) (by omega) (by omega)
  go_enter Try.func64, Try.ntmps64
  go_wp2
  go_ret
  exact ⟨rfl, (((Below.refl _ _).alloc (Nat.le_refl _) _).alloc (by simp) _).alloc (by simp; omega) _⟩
theorem rplace (a : Int × Int) (w : World) : Calls Try.prog 63 #[.agg #[.int .i64 a.1, .int .i64 a.2]] w fun e w' => e = .returned (.bool (placeB a)) ∧ Below w.heap.size w w' := by
  unfold placeB
  cases h1 : inB 0 a.1 10000 <;> cases h2 : inB 0 a.2 10000
  all_goals
    go_enter Try.func63, Try.ntmps63
    go_wp2_with (go_at_call 56; refine (rwithin _ _ _ _).mono ?_; rintro e w' ⟨rfl, rfl⟩)
    go_ret
    exact ⟨rfl, (Below.refl _ _).alloc (Nat.le_refl _) _⟩
end Go.Proofs.Ytihhfelhdgmceaa
