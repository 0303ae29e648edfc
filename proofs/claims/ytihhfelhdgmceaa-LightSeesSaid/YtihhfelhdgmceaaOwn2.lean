/- An append of one own cell: what the walk needs beside the kit's law. -/
import Derived.Test.YtihhfelhdgmceaaOwn
namespace Go.Proofs.Ytihhfelhdgmceaa
open Go.RowKit
theorem info3 : (Try.prog.info? 3).map (fun i => (i.zero, i.size, i.bytes)) = some (some (.int .i64 0), 1, 8) := by kernel_rfl
/-- A world in which one object has just been made, a draw before or behind it or none. -/
def NewOf (w : World) (cs : Array Value) (t : TypeId) (w' : World) : Prop :=
  w' = w.alloc (.cells cs t) ∨ w' = (w.alloc (.cells cs t)).drew ∨ w' = (w.drew.alloc (.cells cs t))
theorem new_at {w : World} {cs : Array Value} {t : TypeId} : ∃ fr, (w.alloc (.cells cs t)).heap[w.heap.size]? = some (.cells cs t fr) := ⟨_, by simp only [World.alloc, Array.getElem?_push_size]; rfl⟩
theorem new_cells {w w' : World} {cs : Array Value} {t : TypeId} (h : NewOf w cs t w') : ∀ j u, cs.toList[j]? = some u → w'.cell? ((⟨w.heap.size, 0, none⟩ : Addr).add j) = some u := by
  rcases h with rfl | rfl | rfl
  · obtain ⟨fr, h⟩ := @new_at w cs t; exact World.news_of_block h
  · obtain ⟨fr, h⟩ := @new_at w cs t; exact World.news_of_block (w := (w.alloc (.cells cs t)).drew) h
  · obtain ⟨fr, h⟩ := @new_at w.drew cs t; exact World.news_of_block h
theorem one_new {w w' : World} {x : Value} {t : TypeId} (h : NewOf w #[x] t w') : ∀ j u, [x][j]? = some u → w'.cell? ((⟨w.heap.size, 0, none⟩ : Addr).add j) = some u := new_cells (cs := #[x]) h
theorem new_size {w w' : World} {cs : Array Value} {t : TypeId} (h : NewOf w cs t w') : w'.heap.size = w.heap.size + 1 := by
  rcases h with rfl | rfl | rfl <;> simp
theorem new_below {B : Nat} {a w w' : World} {cs : Array Value} {t : TypeId} (h : NewOf w cs t w') (hb : Below B a w) (hB : B ≤ w.heap.size) : Below B a w' := by
  rcases h with rfl | rfl | rfl
  · exact hb.alloc hB _
  · exact (hb.alloc hB _).drew
  · exact hb.drew.alloc hB _
theorem owns_new {w w' : World} {cs : Array Value} {t : TypeId} {base : Nat} {e : TypeId} {size : Nat} {v : Value} {n : Nat} {xs : List Value} (h : w.ownsRow base e size v n xs) (hn : NewOf w cs t w') : w'.ownsRow base e size v n xs := by
  rcases hn with rfl | rfl | rfl
  · exact h.alloc _
  · exact World.ownsRow.drew (h.alloc _)
  · exact (World.ownsRow.drew h).alloc _
/-- Behind an append to an own row all below its base is as it was. -/
theorem app_below {B : Nat} {a w w' w3 : World} {cs : Array Value} {t : TypeId} {e : TypeId} {size : Nat} {v : Value} {n : Nat} {xs : List Value}
    (hn : NewOf w cs t w') (hb : Below B a w) (hB : B ≤ w.heap.size) (hown : w.ownsRow B e size v n xs) (hg : w'.grownBy w3 v.ownBlock) : Below B a w3 :=
  (new_below hn hb hB).grown hg (by rw [new_size hn]; omega) fun k hk => (hown.lt k hk).1
end Go.Proofs.Ytihhfelhdgmceaa
