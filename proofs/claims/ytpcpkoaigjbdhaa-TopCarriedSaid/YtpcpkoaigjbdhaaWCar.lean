/- The walk of RoadCarries. -/
import Derived.Test.YtpcpkoaigjbdhaaRCr
import Derived.Test.YtpcpkoaigjbdhaaAwk
namespace Go.Proofs.Ytpcpkoaigjbdhaa
open Go.RowKit
/-- Two ints in a box. -/
structure WyBox (W : World) (n : Nat) (f t : Int) : Prop where
  p0 : W.cell? ⟨n, 0, none⟩ = some (.int .i64 f)
  p1 : W.cell? ⟨n, 1, none⟩ = some (.int .i64 t)
  pz : n < W.heap.size
theorem WyBox.below {W W' : World} {n C : Nat} {f t : Int} (h : WyBox W n f t) (hb : Below C W W') (hC : n < C) : WyBox W' n f t :=
  ⟨(hb.cell (p := ⟨n, 0, none⟩) hC).trans h.p0, (hb.cell (p := ⟨n, 1, none⟩) hC).trans h.p1, Nat.lt_of_lt_of_le h.pz hb.size⟩
theorem WyBox.new (w : World) (f t : Int) (T : TypeId) {n : Nat} (hn : w.heap.size = n) : WyBox (w.alloc (.cells #[.int .i64 f, .int .i64 t] T)) n f t := by
  subst hn
  exact ⟨by simp [go_sem], by simp [go_sem], by simp⟩
end Go.Proofs.Ytpcpkoaigjbdhaa

