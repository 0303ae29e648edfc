/- Rows that a call builds itself: of ints, of pairs; appends. -/
import Derived.Test.YtikfeoghmpoigaaBase
import Derived.Deep.AppendLies
import Derived.Laws.OwnMore
namespace Go.Proofs.Ytikfeoghmpoigaa
open Go.RowKit
theorem owns_ints {w : World} {base : Nat} {v : Value} {k : Nat} {ys : List Int} (h : w.ownsRow base 3 1 v k (ys.map (.int .i64))) (hl : ys.length = k) : ∃ (A : Option Addr) (c : Nat), v = .slice A k c ∧ Ints w w.heap.size A ys := by
  by_cases h0 : v.ownBlock = none
  · rcases h.2 with ⟨rfl, hk⟩ | ⟨g, cap, cur, rfl, _⟩
    · subst hk
      exact ⟨none, 0, rfl, .inl (List.eq_nil_of_length_eq_zero hl)⟩
    · simp [Value.ownBlock] at h0
  · rcases h.2 with ⟨rfl, hk⟩ | ⟨g, cap, cur, rfl, _, _⟩
    · simp [Value.ownBlock] at h0
    · refine ⟨_, cap, rfl, .inr ⟨g, 0, rfl, (h.lt g rfl).2, fun j hj => ?_⟩⟩
      have := h.cells (g := g) rfl j (.int .i64 (at0 ys j)) (by simp [at0, hj])
      rwa [Go.WideShapes.add_plain] at this
theorem info3 : (Try.prog.info? 3).map (fun i => (i.zero, i.size, i.bytes)) = some (some (.int .i64 0), 1, 8) := by kernel_rfl
/-- A world in which one object has just been made, a draw before or behind it or none. -/
def NewOf (w : World) (cs : Array Value) (t : TypeId) (w' : World) : Prop :=
  w' = w.alloc (.cells cs t) ∨ w' = (w.alloc (.cells cs t)).drew ∨ w' = (w.drew.alloc (.cells cs t))
theorem new_at {w : World} {cs : Array Value} {t : TypeId} : ∃ fr, (w.alloc (.cells cs t)).heap[w.heap.size]? = some (.cells cs t fr) := ⟨_, by simp only [World.alloc, Array.getElem?_push_size]; rfl⟩
theorem new_cells {w w' : World} {cs : Array Value} {t : TypeId} (h : NewOf w cs t w') : ∀ j u, cs.toList[j]? = some u → w'.cell? ((⟨w.heap.size, 0, none⟩ : Addr).add j) = some u := by
  rcases h with rfl | rfl | rfl
  · obtain ⟨fr, h⟩ := @new_at w cs t; exact World.news_of_block h
  · obtain ⟨fr, h⟩ := @new_at w cs t; exact World.news_of_block (w := (w.alloc (.cells cs t)).drew) h
  · obtain ⟨fr, h⟩ := @new_at w.drew cs t; exact World.news_of_block h
theorem one_new {w w' : World} {x : Value} {t : TypeId} (h : NewOf w #[x] t w') : ∀ j u, [x][j]? = some u → w'.cell? ((⟨w.heap.size, 0, none⟩ : Addr).add j) = some u := new_cells (cs := #[x]) h
theorem new_size {w w' : World} {cs : Array Value} {t : TypeId} (h : NewOf w cs t w') : w'.heap.size = w.heap.size + 1 := by
  rcases h with rfl | rfl | rfl <;> simp
theorem new_below {B : Nat} {a w w' : World} {cs : Array Value} {t : TypeId} (h : NewOf w cs t w') (hb : Below B a w) (hB : B ≤ w.heap.size) : Below B a w' := by
  rcases h with rfl | rfl | rfl
  · exact hb.alloc hB _
  · exact (hb.alloc hB _).drew
  · exact hb.drew.alloc hB _
theorem owns_new {w w' : World} {cs : Array Value} {t : TypeId} {base : Nat} {e : TypeId} {size : Nat} {v : Value} {n : Nat} {xs : List Value} (h : w.ownsRow base e size v n xs) (hn : NewOf w cs t w') : w'.ownsRow base e size v n xs := by
  rcases hn with rfl | rfl | rfl
  · exact h.alloc _
  · exact World.ownsRow.drew (h.alloc _)
  · exact (World.ownsRow.drew h).alloc _
/-- Behind an append to an own row all below its base is as it was. -/
theorem app_below {B : Nat} {a w w' w3 : World} {cs : Array Value} {t : TypeId} {e : TypeId} {size : Nat} {v : Value} {n : Nat} {xs : List Value}
    (hn : NewOf w cs t w') (hb : Below B a w) (hB : B ≤ w.heap.size) (hown : w.ownsRow B e size v n xs) (hg : w'.grownBy w3 v.ownBlock) : Below B a w3 :=
  (new_below hn hb hB).grown hg (by rw [new_size hn]; omega) fun k hk => (hown.lt k hk).1
def pcells : List (Int × Int) → List Value
  | [] => []
  | p :: ps => .int .i64 p.1 :: .int .i64 p.2 :: pcells ps
theorem pcells_length : ∀ ps, (pcells ps).length = ps.length * 2
  | [] => rfl
  | p :: ps => by simp only [pcells, List.length_cons, pcells_length ps]; omega
theorem pcells_append : ∀ ps qs, pcells (ps ++ qs) = pcells ps ++ pcells qs
  | [], _ => rfl
  | p :: ps, qs => by simp only [pcells, List.cons_append, pcells_append ps qs]
theorem pcells_one (a b : Int) : pcells [(a, b)] = [.int .i64 a, .int .i64 b] := rfl
theorem pcells_at : ∀ (ps : List (Int × Int)) (j : Nat), j < ps.length → (pcells ps)[j * 2]? = some (.int .i64 (atp ps j).1) ∧ (pcells ps)[j * 2 + 1]? = some (.int .i64 (atp ps j).2)
  | [], j, h => by simp at h
  | p :: ps, 0, _ => by simp [pcells, atp]
  | p :: ps, j + 1, h => by
    have := pcells_at ps j (by simpa using h)
    have e1 : (j + 1) * 2 = j * 2 + 1 + 1 := by omega
    rw [e1]
    simp only [pcells, List.getElem?_cons_succ]
    simpa [atp] using this
theorem pcells_set : ∀ (ps : List (Int × Int)) (j : Nat) (y : Int), j < ps.length → (pcells ps).set (j * 2 + 1) (.int .i64 y) = pcells (ps.set j ((atp ps j).1, y))
  | [], j, y, h => by simp at h
  | p :: ps, 0, y, _ => by simp [pcells, atp]
  | p :: ps, j + 1, y, h => by
    have := pcells_set ps j y (by simpa using h)
    have e1 : (j + 1) * 2 + 1 = j * 2 + 1 + 1 + 1 := by omega
    rw [e1]
    simp only [pcells, List.set_cons_succ, this]
    simp [atp]
theorem owns_pairs {w : World} {base : Nat} {e : TypeId} {v : Value} {k : Nat} {ps : List (Int × Int)} (h : w.ownsRow base e 2 v k (pcells ps)) :
    ps.length = k ∧ ∃ (A : Option Addr) (c : Nat), v = .slice A k c ∧ Pairs w w.heap.size A ps := by
  have hl : ps.length = k := by have := h.1; rw [pcells_length] at this; omega
  refine ⟨hl, ?_⟩
  rcases Nat.eq_zero_or_pos k with h0 | h0
  · rcases h.2 with ⟨rfl, hk⟩ | ⟨g, cap, cur, rfl, _⟩
    · exact ⟨none, 0, by rw [h0], .inl (List.eq_nil_of_length_eq_zero (by omega))⟩
    · exact ⟨_, cap, rfl, .inl (List.eq_nil_of_length_eq_zero (by omega))⟩
  · obtain ⟨g, cap, rfl, _, hg⟩ := h.form h0
    refine ⟨_, cap, rfl, .inr ⟨g, 0, rfl, hg, fun j hj => ?_⟩⟩
    have e1 := h.cellAt (j * 2) (by omega)
    have e2 := h.cellAt (j * 2 + 1) (by omega)
    rw [(pcells_at ps j hj).1] at e1
    rw [(pcells_at ps j hj).2] at e2
    simpa using ⟨e1, e2⟩
/-- An own row stands as it was where everything below the heap's end stands. -/
theorem owns_keep {w w' : World} {base : Nat} {e : TypeId} {size : Nat} {v : Value} {n : Nat} {xs : List Value} (h : w.ownsRow base e size v n xs) (hb : Below w.heap.size w w') : w'.ownsRow base e size v n xs :=
  h.kept (row := none) ⟨hb.os, hb.tape, hb.output, hb.size, fun k hk _ => hb.block k hk⟩ (by cases hv : v.ownBlock with | none => exact .inl rfl | some g => exact .inr (by simp))
end Go.Proofs.Ytikfeoghmpoigaa

