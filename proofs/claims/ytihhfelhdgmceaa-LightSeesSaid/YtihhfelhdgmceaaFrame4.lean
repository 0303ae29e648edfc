/- How slices of structs of two ints come in. -/
import Derived.Test.YtihhfelhdgmceaaFrame2
import Derived.Test.YtihhfelhdgmceaaRead
import Derived.Deep.Slices
import Derived.Deep.Fields
import Derived.ChangeSame
namespace Go.Proofs.Ytihhfelhdgmceaa
open Go.ChangeShapes Go.WideShapes Go.ChangeAt Go.RowKit Go.Joins Go.Deep
section
variable {H : Type} {enc : TypeId × Value → H} {P : Program} {w : World} {base : Nat} {spare : Nat → Bool} {held : Bool}
theorem open_slice_fields {t e : TypeId} {fs : Array Field} {fuel : Nat} {cs : List Value} {x : DataW H × List MemPlace} (ht : P.underlying t = some (.slice e)) (he : P.underlying e = some (.struct fs))
    (hone : oneCellFields P fs = true) (hC : P.cellsOf e = fs.size) (h : DataW.trod enc P w base spare held fuel t cs = some x) :
    (cs = [.slice none 0 0] ∧ x = (.nil, [])) ∨
    ∃ (a : Addr) (len cap m : Nat) (D : Nat → DataW H) (Pl : Nat → List MemPlace), cs = [.slice (some a) len cap] ∧ base ≤ a.block ∧ len ≤ cap ∧ cap ≤ maxLen ∧ m = (if spare a.block then cap else len) ∧
      x = (.slice ((List.range len).map D) ((List.range (m - len)).map fun j => D (len + j)), MemPlace.row a (m * fs.size) ++ (List.range m).flatMap Pl) ∧
      ∀ i, i < m → ∃ (ys : List (DataW H × List MemPlace)) (n : Nat), D i = .agg (ys.map (·.1)) ∧ Pl i = ys.flatMap (·.2) ∧ ys.length = fs.size ∧
        ∀ (j : Nat) (f : Field), fs[j]? = some f → ∃ (v : Value) (y : DataW H × List MemPlace), w.cell? (a.add (i * fs.size + j)) = some v ∧ ys[j]? = some y ∧ DataW.trod enc P w base spare held n f.type [v] = some y := by
  rcases open_slice ht h with h0 | ⟨a, len, cap, m, n, D, Pl, hcs, hb, hl, hm, hmm, hx, hi⟩
  · exact .inl h0
  · refine .inr ⟨a, len, cap, m, D, Pl, hcs, hb, hl, hm, hmm, by rw [hC] at hx; exact hx, fun i him => ?_⟩
    obtain ⟨cs', hc, ht'⟩ := hi i him
    rw [hC] at hc
    obtain ⟨ys, n', hn', hy, hlen, hyl, hf⟩ := DataW.trod_struct he ht'
    obtain ⟨_, hcl, hat⟩ := World.cells?_some hc
    simp only [Prod.mk.injEq] at hy
    refine ⟨ys, n', hy.1, hy.2, hyl, fun j f hj => ?_⟩
    obtain ⟨ho, hk⟩ := hone_of hone j f hj
    have hjl : j < fs.size := (Array.getElem?_eq_some_iff.1 hj).1
    have hcell := hat j hjl
    have hv : cs'[j]? = some (cs'[j]'(by omega)) := List.getElem?_eq_getElem (by omega)
    have h1 := hf j f hj
    rw [ho, hk] at h1
    have hone' : (cs'.drop j).take 1 = [cs'[j]'(by omega)] := by
      rw [List.drop_eq_getElem_cons (by omega)]
      rfl
    rw [hone'] at h1
    have hys : ys[j]? = some (ys[j]'(by omega)) := List.getElem?_eq_getElem (by omega)
    refine ⟨_, _, ?_, hys, h1.trans hys⟩
    rw [← Go.Deep.add_add, hcell, hv]
end
/-- Both numbers of each pair fit an int. -/
def wfPairs (xs : List (Int × Int)) : Prop := ∀ j, j < xs.length → (Lit.int .i64 (atp xs j).1).wf = true ∧ (Lit.int .i64 (atp xs j).2).wf = true
section
variable {H : Type} {enc : TypeId × Value → H} {P : Program} {W : World} {base : Nat} {held : Bool}
theorem slice_pairs {t e : TypeId} {f0 f1 : Field} {v : Value} {n : Nat} {y : DataW H × List MemPlace} (ht : P.underlying t = some (.slice e)) (he : P.underlying e = some (.struct #[f0, f1]))
    (h0 : P.underlying f0.type = some (.int .i64)) (h1 : P.underlying f1.type = some (.int .i64)) (hone : oneCellFields P #[f0, f1] = true) (hC : P.cellsOf e = 2)
    (h : DataW.trod enc P W base (fun _ => true) held n t [v] = some y) :
    ∃ (A : Option Addr) (c : Nat) (xs : List (Int × Int)), v = .slice A xs.length c ∧ Pairs W W.heap.size A xs ∧ xs.length ≤ 9223372036854775807 ∧ wfPairs xs := by
  rcases open_slice_fields ht he hone hC h with ⟨hcs, _⟩ | ⟨a, len, cap, m, D, Pl, hcs, _, hl, hm, hmm, _, hi⟩
  · injection hcs with hcs
    exact ⟨none, 0, [], hcs, .inl rfl, by simp, fun j hj => by simp at hj⟩
  · injection hcs with hcs
    simp only [if_true] at hmm
    have hmm' := hmm.symm
    subst hmm'
    unfold maxLen at hm
    have key : ∀ i, i < cap → ∃ q : Int × Int, W.cell? (a.add (i * 2)) = some (.int .i64 q.1) ∧ W.cell? (a.add (i * 2 + 1)) = some (.int .i64 q.2) ∧ (Lit.int .i64 q.1).wf = true ∧ (Lit.int .i64 q.2).wf = true := by
      intro i hic
      obtain ⟨ys, n', _, _, _, hf⟩ := hi i hic
      obtain ⟨v0, y0, c0, _, t0⟩ := hf 0 f0 rfl
      obtain ⟨v1, y1, c1, _, t1⟩ := hf 1 f1 rfl
      obtain ⟨p, hp, _, wp⟩ := DataW.trod_int h0 t0
      obtain ⟨q, hq, _, wq⟩ := DataW.trod_int h1 t1
      simp at hp hq
      subst hp
      subst hq
      exact ⟨(p, q), c0, c1, wp, wq⟩
    have ex : ∃ f : Nat → Int × Int, ∀ i, i < cap → W.cell? (a.add (i * 2)) = some (.int .i64 (f i).1) ∧ W.cell? (a.add (i * 2 + 1)) = some (.int .i64 (f i).2) ∧ (Lit.int .i64 (f i).1).wf = true ∧ (Lit.int .i64 (f i).2).wf = true :=
      ⟨fun i => if hic : i < cap then Classical.choose (key i hic) else (0, 0), fun i hic => by simp only [hic, dif_pos]; exact Classical.choose_spec (key i hic)⟩
    obtain ⟨f, hf⟩ := ex
    have hat : ∀ j, j < len → atp ((List.range len).map f) j = f j := fun j hj => by simp [atp, hj]
    refine ⟨some a, cap, (List.range len).map f, by simpa using hcs, ?_, by simp; omega, fun j hj => ?_⟩
    · by_cases hz : len = 0
      · left; subst hz; simp
      · have hc0 := (hf 0 (by omega)).1
        obtain ⟨b, off, spot⟩ := a
        have hspot : spot = none := by simpa [Addr.add] using World.cell?_spot hc0
        subst hspot
        refine .inr ⟨b, off, rfl, World.block_lt_of_cell? W ⟨b, off, none⟩ (by simpa [Addr.add] using hc0), fun j hj => ?_⟩
        simp only [List.length_map, List.length_range] at hj
        rw [hat j hj]
        obtain ⟨g0, g1, _, _⟩ := hf j (by omega)
        rw [Go.WideShapes.add_plain] at g0 g1
        exact ⟨g0, by rw [Nat.add_assoc]; exact g1⟩
    · simp only [List.length_map, List.length_range] at hj
      rw [hat j hj]
      exact (hf j (by omega)).2.2
end
theorem cells106 : Try.prog.cellsOf 106 = 2 := by kernel_rfl
section
variable {H : Type} {enc : TypeId × Value → H} {W : World} {base b0 : Nat} {held : Bool} {r : Reach} {v : Value} {d : DataW H} {p : List MemPlace}
set_option maxRecDepth 100000 in
theorem spans_arg (hv : Value.okWide Try.prog W r b0 43 v) (h : DataW.Trod enc Try.prog W base (fun _ => true) held 43 v d p) :
    ∃ (A : Option Addr) (c : Nat) (xs : List (Int × Int)), v = .slice A xs.length c ∧ Pairs W W.heap.size A xs ∧ xs.length ≤ 9223372036854775807 ∧ wfPairs xs := by
  obtain ⟨a0, len, cap, rfl⟩ := okWide_slice Try.underlying43 hv
  obtain ⟨fuel, hf⟩ := h
  exact slice_pairs Try.underlying43 Try.underlying106 Try.underlying3 Try.underlying3 (by kernel_rfl) cells106 hf
end
end Go.Proofs.Ytihhfelhdgmceaa
