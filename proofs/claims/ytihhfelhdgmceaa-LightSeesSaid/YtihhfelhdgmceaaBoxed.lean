/- A table in a box, and how what is known of it is kept. -/
import Derived.Test.YtihhfelhdgmceaaVt
namespace Go.Proofs.Ytihhfelhdgmceaa
open Go.RowKit
/-- The facts on a boxed table, carried over whatever keeps the blocks below a bound that lies above the box. -/
structure Boxed (W : World) (n B : Nat) (A0 A1 A2 : Option Addr) (c0 c1 c2 : Nat) (t : Tb) : Prop where
  tab : Tab W B A0 A1 A2 t
  q0 : W.cell? ⟨n, 0, none⟩ = some (.slice A0 t.obs.length c0)
  q1 : W.cell? ⟨n, 1, none⟩ = some (.slice A1 t.ent.length c1)
  q2 : W.cell? ⟨n, 2, none⟩ = some (.slice A2 t.r.length c2)
  lt : B ≤ n
  sz : n < W.heap.size
theorem Boxed.below {W W' : World} {n B C : Nat} {A0 A1 A2 : Option Addr} {c0 c1 c2 : Nat} {t : Tb} (h : Boxed W n B A0 A1 A2 c0 c1 c2 t) (hb : Below C W W') (hC : n < C) : Boxed W' n B A0 A1 A2 c0 c1 c2 t :=
  ⟨h.tab.keep fun p hp => hb.cell (by have := h.lt; omega), (hb.cell hC).trans h.q0, (hb.cell hC).trans h.q1, (hb.cell hC).trans h.q2, h.lt, Nat.lt_of_lt_of_le h.sz hb.size⟩
theorem Boxed.new {w : World} {B : Nat} {A0 A1 A2 : Option Addr} {c0 c1 c2 : Nat} {t : Tb} (h : Tab w B A0 A1 A2 t) (hB : B ≤ w.heap.size) :
    Boxed (w.alloc (.cells #[.slice A0 t.obs.length c0, .slice A1 t.ent.length c1, .slice A2 t.r.length c2] 25)) w.heap.size B A0 A1 A2 c0 c1 c2 t :=
  ⟨h.box hB _, (box3 _ _ _ _ _).1, (box3 _ _ _ _ _).2.1, (box3 _ _ _ _ _).2.2, hB, by simp⟩
theorem boxed_world {w : World} {v : Array Value} : Below w.heap.size w (w.alloc (.cells v 25)) := (Below.refl _ _).alloc (Nat.le_refl _) _
end Go.Proofs.Ytihhfelhdgmceaa
