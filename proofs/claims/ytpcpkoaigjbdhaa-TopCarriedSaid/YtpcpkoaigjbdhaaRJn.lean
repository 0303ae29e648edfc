/- Contract of the reference's Joined (71), as a plain function. -/
import Derived.Test.YtpcpkoaigjbdhaaNrm
import Derived.OneCell
namespace Go.Proofs.Ytpcpkoaigjbdhaa
open Go.RowKit
/-- The state of the inner loop: the stretch, the next list, and whether it has been placed. -/
structure JSt where
  x : Int × Int
  nx : List (Int × Int)
  pl : Bool
def stepI (st : JSt) (y : Int × Int) : JSt :=
  if y.2 < st.x.1 then ⟨st.x, st.nx ++ [y], st.pl⟩ else if st.x.2 < y.1 then ⟨st.x, (if st.pl = true then st.nx else st.nx ++ [st.x]) ++ [y], true⟩ else ⟨(min st.x.1 y.1, max st.x.2 y.2), st.nx, st.pl⟩
def insTo (o : List (Int × Int)) (x : Int × Int) : Nat → JSt
  | 0 => ⟨x, [], false⟩
  | j + 1 => stepI (insTo o x j) (atp o j)
def finJ (st : JSt) : List (Int × Int) := if st.pl = true then st.nx else st.nx ++ [st.x]
def jnTo (xs : List (Int × Int)) : Nat → List (Int × Int)
  | 0 => []
  | k + 1 => finJ (insTo (jnTo xs k) (atp xs k) (jnTo xs k).length)
theorem insTo_length (o : List (Int × Int)) (x : Int × Int) : ∀ j, (insTo o x j).nx.length + (if (insTo o x j).pl = true then 0 else 1) ≤ j + 1
  | 0 => by simp [insTo]
  | j + 1 => by
    have ih := insTo_length o x j
    have hs : insTo o x (j + 1) = stepI (insTo o x j) (atp o j) := rfl
    rw [hs]
    generalize insTo o x j = st at ih ⊢
    generalize atp o j = y
    obtain ⟨x', nx, pl⟩ := st
    unfold stepI
    by_cases h1 : y.2 < x'.1
    · cases pl <;> simp [h1] at ih ⊢ <;> omega
    · by_cases h2 : x'.2 < y.1
      · cases pl <;> simp [h1, h2] at ih ⊢ <;> omega
      · cases pl <;> simp [h1, h2] at ih ⊢ <;> omega
theorem jnTo_length (xs : List (Int × Int)) : ∀ k, (jnTo xs k).length ≤ k
  | 0 => Nat.le_refl _
  | k + 1 => by
    have ih := jnTo_length xs k
    have h := insTo_length (jnTo xs k) (atp xs k) (jnTo xs k).length
    simp only [jnTo, finJ]
    generalize insTo (jnTo xs k) (atp xs k) (jnTo xs k).length = st at *
    obtain ⟨x', nx, pl⟩ := st
    cases pl <;> simp at h ⊢ <;> omega
def JnRes (xs : List (Int × Int)) (w : World) (e : Ending) (w' : World) : Prop :=
  ∃ (A' : Option Addr) (c' : Nat), e = .returned (.slice A' (jnTo xs xs.length).length c') ∧ Pairs w' w'.heap.size A' (jnTo xs xs.length) ∧ Below w.heap.size w w'
/-- The two cells of a stretch that may be written. -/
structure XBox (W : World) (n : Nat) (x : Int × Int) : Prop where
  p0 : W.cell? ⟨n, 0, none⟩ = some (.int .i64 x.1)
  p1 : W.cell? ⟨n, 1, none⟩ = some (.int .i64 x.2)
  z0 : W.frozen? ⟨n, 0, none⟩ = false
  z1 : W.frozen? ⟨n, 1, none⟩ = false
  pz : n < W.heap.size
theorem XBox.below {W W' : World} {n C : Nat} {x : Int × Int} (h : XBox W n x) (hb : Below C W W') (hC : n < C) : XBox W' n x :=
  ⟨(hb.cell (p := ⟨n, 0, none⟩) hC).trans h.p0, (hb.cell (p := ⟨n, 1, none⟩) hC).trans h.p1, (hb.frozen (p := ⟨n, 0, none⟩) hC).trans h.z0, (hb.frozen (p := ⟨n, 1, none⟩) hC).trans h.z1, Nat.lt_of_lt_of_le h.pz hb.size⟩
theorem XBox.new (w : World) (x : Int × Int) (T : TypeId) : XBox (w.alloc (.cells #[.int .i64 x.1, .int .i64 x.2] T)) w.heap.size x :=
  ⟨by simp [go_sem], by simp [go_sem], by simp [go_sem], by simp [go_sem], by simp⟩
theorem XBox.grown {W W' : World} {n : Nat} {x : Int × Int} {row : Option Nat} (h : XBox W n x) (hg : W.grownBy W' row) (hne : some n ≠ row) : XBox W' n x :=
  ⟨(hg.cell_far ⟨n, 0, none⟩ h.pz hne).trans h.p0, (hg.cell_far ⟨n, 1, none⟩ h.pz hne).trans h.p1, (hg.frozen_far ⟨n, 0, none⟩ h.pz hne).trans h.z0, (hg.frozen_far ⟨n, 1, none⟩ h.pz hne).trans h.z1, Nat.lt_of_lt_of_le h.pz hg.size⟩
theorem XBox.put {W : World} {n : Nat} {x : Int × Int} (h : XBox W n x) (y : Int × Int) (o : Obj) : XBox (((W.setCell ⟨n, 0, none⟩ (.int .i64 y.1)).setCell ⟨n, 1, none⟩ (.int .i64 y.2)).alloc o) n y := by
  have h1 : XBox ((W.setCell ⟨n, 0, none⟩ (.int .i64 y.1)).setCell ⟨n, 1, none⟩ (.int .i64 y.2)) n y := by
    refine ⟨?_, ?_, ?_, ?_, ?_⟩
    · rw [World.cell?_setCell_other _ _ _ _ (by intro e; injection e with _ e; cases e)]
      exact World.cell?_setCell_same _ _ _ h.p0
    · exact World.cell?_setCell_same _ _ _ ((World.cell?_setCell_other _ _ _ _ (by intro e; injection e with _ e; cases e)).trans h.p1)
    · rw [World.frozen?_setCell, World.frozen?_setCell]; exact h.z0
    · rw [World.frozen?_setCell, World.frozen?_setCell]; exact h.z1
    · simpa [World.setCell] using h.pz
  exact h1.below ((Below.refl _ _).alloc (Nat.le_refl _) o) h1.pz
end Go.Proofs.Ytpcpkoaigjbdhaa

