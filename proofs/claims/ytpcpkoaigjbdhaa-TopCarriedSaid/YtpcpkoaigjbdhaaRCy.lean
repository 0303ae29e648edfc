/- Contracts of the reference's versions, toward, step and moved. -/
import Derived.Test.YtpcpkoaigjbdhaaRLn
import Derived.Test.YtpcpkoaigjbdhaaCry
import Derived.Laws.ResultCell
namespace Go.Proofs.Ytpcpkoaigjbdhaa
open Go.RowKit
/-- What versions returns. -/
def VerRes (num L : Int) (cs : List Chg) (f t : Int) (w : World) (e : Ending) (w' : World) : Prop :=
  (¬ RoadOk num L cs → e = .returned (.tuple #[.slice none 0 0, .int .i64 60])) ∧ (RoadOk num L cs → ¬ VersOk cs f t → e = .returned (.tuple #[.slice none 0 0, .int .i64 61])) ∧
  (RoadOk num L cs → VersOk cs f t → ∃ (A : Option Addr) (c : Nat), e = .returned (.tuple #[.slice A (cs.length + 1) c, .int .i64 0]) ∧ Ints w' w'.heap.size A (lens L cs cs.length)) ∧ Below w.heap.size w w'
theorem results_one {fn : Func} {p : Tmp} {ty : TypeId} (h : fn.results = #[.cell p ty]) (tmps : Array Value) (P : Program) (w : World) :
    (results fn tmps).run P w = ((asAddr (tmps.getD p undef)).run P w).andThen fun a w₁ => (loadVar ty a).run P w₁ := by
  simp only [results, h]
  simp [Sem.run_bind, Result.andThen]
theorem set3c {w : World} {n : Nat} {a b c x y z : Value} {o : Obj} (hz : n < w.heap.size) (h0 : w.cell? ⟨n, 0, none⟩ = some x) (h1 : w.cell? ⟨n, 1, none⟩ = some y) (h2 : w.cell? ⟨n, 2, none⟩ = some z) :
    ((((w.setCell ⟨n, 0, none⟩ a).setCell ⟨n, 1, none⟩ b).setCell ⟨n, 2, none⟩ c).alloc o).cell? ⟨n, 0, none⟩ = some a ∧ ((((w.setCell ⟨n, 0, none⟩ a).setCell ⟨n, 1, none⟩ b).setCell ⟨n, 2, none⟩ c).alloc o).cell? ⟨n, 1, none⟩ = some b ∧
      ((((w.setCell ⟨n, 0, none⟩ a).setCell ⟨n, 1, none⟩ b).setCell ⟨n, 2, none⟩ c).alloc o).cell? ⟨n, 2, none⟩ = some c := by
  have ne : ∀ (w : World) (i j : Nat) (u : Value), i ≠ j → (w.setCell ⟨n, j, none⟩ u).cell? ⟨n, i, none⟩ = w.cell? ⟨n, i, none⟩ := fun w i j u hij => World.cell?_setCell_other _ _ _ _ (by intro e; injection e with _ e; exact hij (by omega))
  have hk := (Below.refl (((w.setCell ⟨n, 0, none⟩ a).setCell ⟨n, 1, none⟩ b).setCell ⟨n, 2, none⟩ c).heap.size (((w.setCell ⟨n, 0, none⟩ a).setCell ⟨n, 1, none⟩ b).setCell ⟨n, 2, none⟩ c)).alloc (Nat.le_refl _) o
  have hn : n < (((w.setCell ⟨n, 0, none⟩ a).setCell ⟨n, 1, none⟩ b).setCell ⟨n, 2, none⟩ c).heap.size := by simpa [World.setCell] using hz
  refine ⟨(hk.cell (p := ⟨n, 0, none⟩) hn).trans ?_, (hk.cell (p := ⟨n, 1, none⟩) hn).trans ?_, (hk.cell (p := ⟨n, 2, none⟩) hn).trans ?_⟩
  · rw [ne _ 0 2 _ (by decide), ne _ 0 1 _ (by decide)]; exact World.cell?_setCell_same _ _ _ h0
  · rw [ne _ 1 2 _ (by decide)]; exact World.cell?_setCell_same _ _ _ ((ne _ 1 0 _ (by decide)).trans h1)
  · exact World.cell?_setCell_same _ _ _ ((ne _ 2 1 _ (by decide)).trans ((ne _ 2 0 _ (by decide)).trans h2))
end Go.Proofs.Ytpcpkoaigjbdhaa

