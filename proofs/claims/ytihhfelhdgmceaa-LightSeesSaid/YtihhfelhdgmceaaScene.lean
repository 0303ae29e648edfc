/- Contracts of ValidScene (both texts), and a scene in a box. -/
import Derived.Test.YtihhfelhdgmceaaSlopes
namespace Go.Proofs.Ytihhfelhdgmceaa
open Go.RowKit
structure Sc where
  rise : Int
  side : Int
  turn : Int
  power : Int
def SceneOk (s : Sc) : Prop := (0 ≤ s.rise ∧ s.rise ≤ 5000) ∧ (0 ≤ s.side ∧ s.side ≤ 50000) ∧ (0 ≤ s.turn ∧ s.turn ≤ 1000000) ∧ (0 ≤ s.power ∧ s.power ≤ 100000)
def sceneB (s : Sc) : Bool := inB 0 s.rise 5000 && inB 0 s.side 50000 && inB 0 s.turn 1000000 && inB 0 s.power 100000
theorem sceneB_iff {s : Sc} : sceneB s = true ↔ SceneOk s := by simp [sceneB, SceneOk, inB, and_assoc]
theorem lValidScene (s : Sc) (w : World) : Calls Try.prog 27 #[.agg #[.int .i64 s.rise, .int .i64 s.side, .int .i64 s.turn, .int .i64 s.power]] w fun e w' => e = .returned (.bool (sceneB s)) ∧ Below w.heap.size w w' := by
  unfold sceneB
  cases h1 : inB 0 s.rise 5000 <;> cases h2 : inB 0 s.side 50000 <;> cases h3 : inB 0 s.turn 1000000 <;> cases h4 : inB 0 s.power 100000
  all_goals
    go_enter Try.func27, Try.ntmps27
    go_wp2_with (go_at_call 58; refine (lwithin _ _ _ _).mono ?_; rintro e w' ⟨rfl, rfl⟩)
    go_ret
    exact ⟨rfl, (Below.refl _ _).alloc (Nat.le_refl _) _⟩
theorem rValidScene (s : Sc) (w : World) : Calls Try.prog 28 #[.agg #[.int .i64 s.rise, .int .i64 s.side, .int .i64 s.turn, .int .i64 s.power]] w fun e w' => e = .returned (.bool (sceneB s)) ∧ Below w.heap.size w w' := by
  unfold sceneB
  cases h1 : inB 0 s.rise 5000 <;> cases h2 : inB 0 s.side 50000 <;> cases h3 : inB 0 s.turn 1000000 <;> cases h4 : inB 0 s.power 100000
  all_goals
    go_enter Try.func28, Try.ntmps28
    go_wp2_with (go_at_call 56; refine (rwithin _ _ _ _).mono ?_; rintro e w' ⟨rfl, rfl⟩)
    go_ret
    exact ⟨rfl, (Below.refl _ _).alloc (Nat.le_refl _) _⟩
/-- A scene in the box n. -/
structure ScBox (W : World) (n : Nat) (s : Sc) : Prop where
  q0 : W.cell? ⟨n, 0, none⟩ = some (.int .i64 s.rise)
  q1 : W.cell? ⟨n, 1, none⟩ = some (.int .i64 s.side)
  q2 : W.cell? ⟨n, 2, none⟩ = some (.int .i64 s.turn)
  q3 : W.cell? ⟨n, 3, none⟩ = some (.int .i64 s.power)
  sz : n < W.heap.size
theorem ScBox.below {W W' : World} {n C : Nat} {s : Sc} (h : ScBox W n s) (hb : Below C W W') (hC : n < C) : ScBox W' n s :=
  ⟨(hb.cell hC).trans h.q0, (hb.cell hC).trans h.q1, (hb.cell hC).trans h.q2, (hb.cell hC).trans h.q3, Nat.lt_of_lt_of_le h.sz hb.size⟩
theorem ScBox.new (w : World) (s : Sc) (T : TypeId) : ScBox (w.alloc (.cells #[.int .i64 s.rise, .int .i64 s.side, .int .i64 s.turn, .int .i64 s.power] T)) w.heap.size s :=
  ⟨by simp [go_sem], by simp [go_sem], by simp [go_sem], by simp [go_sem], by simp⟩
end Go.Proofs.Ytihhfelhdgmceaa
