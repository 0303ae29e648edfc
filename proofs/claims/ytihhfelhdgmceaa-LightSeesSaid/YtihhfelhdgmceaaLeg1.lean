/- Lists of spans that a call builds itself: own rows of pairs, and what Legible lists. -/
import Derived.Test.YtihhfelhdgmceaaOwn2
import Derived.Test.YtihhfelhdgmceaaRead
import Derived.Laws.OwnMore
namespace Go.Proofs.Ytihhfelhdgmceaa
open Go.RowKit
def pcells : List (Int × Int) → List Value
  | [] => []
  | p :: ps => .int .i64 p.1 :: .int .i64 p.2 :: pcells ps
theorem pcells_length : ∀ ps, (pcells ps).length = ps.length * 2
  | [] => rfl
  | p :: ps => by simp only [pcells, List.length_cons, pcells_length ps]; omega
theorem pcells_append : ∀ ps qs, pcells (ps ++ qs) = pcells ps ++ pcells qs
  | [], _ => rfl
  | p :: ps, qs => by simp only [pcells, List.cons_append, pcells_append ps qs]
theorem pcells_one (a b : Int) : pcells [(a, b)] = [.int .i64 a, .int .i64 b] := rfl
theorem pcells_at : ∀ (ps : List (Int × Int)) (j : Nat), j < ps.length → (pcells ps)[j * 2]? = some (.int .i64 (atp ps j).1) ∧ (pcells ps)[j * 2 + 1]? = some (.int .i64 (atp ps j).2)
  | [], j, h => by simp at h
  | p :: ps, 0, _ => by simp [pcells, atp]
  | p :: ps, j + 1, h => by
    have := pcells_at ps j (by simpa using h)
    have e1 : (j + 1) * 2 = j * 2 + 1 + 1 := by omega
    rw [e1]
    simp only [pcells, List.getElem?_cons_succ]
    simpa [atp] using this
theorem pcells_set : ∀ (ps : List (Int × Int)) (j : Nat) (y : Int), j < ps.length → (pcells ps).set (j * 2 + 1) (.int .i64 y) = pcells (ps.set j ((atp ps j).1, y))
  | [], j, y, h => by simp at h
  | p :: ps, 0, y, _ => by simp [pcells, atp]
  | p :: ps, j + 1, y, h => by
    have := pcells_set ps j y (by simpa using h)
    have e1 : (j + 1) * 2 + 1 = j * 2 + 1 + 1 + 1 := by omega
    rw [e1]
    simp only [pcells, List.set_cons_succ, this]
    simp [atp]
theorem owns_pairs {w : World} {base : Nat} {e : TypeId} {v : Value} {k : Nat} {ps : List (Int × Int)} (h : w.ownsRow base e 2 v k (pcells ps)) :
    ps.length = k ∧ ∃ (A : Option Addr) (c : Nat), v = .slice A k c ∧ Pairs w w.heap.size A ps := by
  have hl : ps.length = k := by have := h.1; rw [pcells_length] at this; omega
  refine ⟨hl, ?_⟩
  rcases Nat.eq_zero_or_pos k with h0 | h0
  · rcases h.2 with ⟨rfl, hk⟩ | ⟨g, cap, cur, rfl, _⟩
    · exact ⟨none, 0, by rw [h0], .inl (List.eq_nil_of_length_eq_zero (by omega))⟩
    · exact ⟨_, cap, rfl, .inl (List.eq_nil_of_length_eq_zero (by omega))⟩
  · obtain ⟨g, cap, rfl, _, hg⟩ := h.form h0
    refine ⟨_, cap, rfl, .inr ⟨g, 0, rfl, hg, fun j hj => ?_⟩⟩
    have e1 := h.cellAt (j * 2) (by omega)
    have e2 := h.cellAt (j * 2 + 1) (by omega)
    rw [(pcells_at ps j hj).1] at e1
    rw [(pcells_at ps j hj).2] at e2
    simpa using ⟨e1, e2⟩
/-- An own row stands as it was where everything below the heap's end stands. -/
theorem owns_keep {w w' : World} {base : Nat} {e : TypeId} {size : Nat} {v : Value} {n : Nat} {xs : List Value} (h : w.ownsRow base e size v n xs) (hb : Below w.heap.size w w') : w'.ownsRow base e size v n xs :=
  h.kept (row := none) ⟨hb.os, hb.tape, hb.output, hb.size, fun k hk _ => hb.block k hk⟩ (by cases hv : v.ownBlock with | none => exact .inl rfl | some g => exact .inr (by simp))
/-- One more metre. -/
def stepSpan (ps : List (Int × Int)) (d : Int) : List (Int × Int) :=
  if 0 < ps.length ∧ (atp ps (ps.length - 1)).2 = d then ps.set (ps.length - 1) ((atp ps (ps.length - 1)).1, d + 1) else ps ++ [(d, d + 1)]
/-- The spans of the metres 1 to n that are legible. -/
def spansTo (ok : Nat → Bool) : Nat → List (Int × Int)
  | 0 => []
  | n + 1 => if ok (n + 1) then stepSpan (spansTo ok n) ((n + 1 : Nat) : Int) else spansTo ok n
theorem spansTo_length (ok : Nat → Bool) : ∀ n, (spansTo ok n).length ≤ n
  | 0 => by simp [spansTo]
  | n + 1 => by
    have := spansTo_length ok n
    simp only [spansTo]
    split
    · unfold stepSpan
      split
      · simp; omega
      · simp; omega
    · omega
theorem step_set {ps : List (Int × Int)} {d : Int} {m : Nat} (h : ps.length = m + 1) (ht : (atp ps m).2 = d) : stepSpan ps d = ps.set m ((atp ps m).1, d + 1) := by
  unfold stepSpan
  rw [h]
  simp [ht]
theorem step_app {ps : List (Int × Int)} {d : Int} (h : ps.length = 0 ∨ (atp ps (ps.length - 1)).2 ≠ d) : stepSpan ps d = ps ++ [(d, d + 1)] := by
  unfold stepSpan
  rw [if_neg]
  rintro ⟨h1, h2⟩
  rcases h with h | h
  · omega
  · exact h h2
end Go.Proofs.Ytihhfelhdgmceaa
