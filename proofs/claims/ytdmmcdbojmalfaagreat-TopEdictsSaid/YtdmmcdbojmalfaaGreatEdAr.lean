/- TopEdicts: how its argument comes in. -/
import Derived.Test.YtdmmcdbojmalfaaGreatArg
import Derived.Test.YtdmmcdbojmalfaaGreatEdW
import Derived.Lib.SmallJoins
namespace Go.Proofs.YtdmmcdbojmalfaaGreat
open Go.ChangeShapes Go.WideShapes Go.ChangeAt Go.RowKit Go.Joins Go.Deep
theorem cells28 : Tryz.prog.cellsOf 28 = 6 := by kernel_rfl
theorem cells25 : Tryz.prog.cellsOf 25 = 1 := by kernel_rfl
theorem cells26e : Tryz.prog.cellsOf 26 = 1 := by kernel_rfl
theorem cells65 : Tryz.prog.cellsOf 65 = 8 := by kernel_rfl
theorem cells22c : Tryz.prog.cellsOf 22 = 1 := by kernel_rfl
theorem cells3i : Tryz.prog.cellsOf 3 = 1 := by kernel_rfl
section
variable {H : Type} {enc : TypeId × Value → H} {W : World} {base b0 : Nat} {held : Bool} {r : Reach} {v : Value} {d : DataW H} {p : List MemPlace}
theorem at0_takeE {zs : List Int} {n j : Nat} (h : j < n) : at0 (zs.take n) j = zs.getD j 0 := by
  simp [at0, h]
theorem slice_jints {n : Nat} {y : DataW H × List MemPlace} (h : DataW.trod enc Tryz.prog W base (fun _ => true) held n 25 [v] = some y) :
    ∃ (A : Option Addr) (c : Nat) (xs : List Int), v = .slice A xs.length c ∧ Ints W W.heap.size A xs ∧ xs.length ≤ 9223372036854775807 := by
  rcases open_ints Tryz.underlying25 Tryz.underlying3 cells3i h with ⟨hcs, _⟩ | ⟨a, len, cap, zs, hcs, _, hl, hm, hz, _, hc, hw⟩
  · injection hcs with hcs
    exact ⟨none, 0, [], hcs, .inl rfl, by simp⟩
  · injection hcs with hcs
    simp only [if_true] at hz
    have hlen : (zs.take len).length = len := by rw [List.length_take]; omega
    unfold maxLen at hm
    refine ⟨some a, cap, zs.take len, by rw [hlen]; exact hcs, ?_, by omega⟩
    by_cases h0 : len = 0
    · left; subst h0; simp
    · obtain ⟨b, off, rfl, hcc⟩ := ints_at hc (by omega)
      exact .inr ⟨b, off, rfl, World.block_lt_of_cell? W _ (hcc 0 (by omega)), fun j hj => by rw [at0_takeE (by omega)]; exact hcc j (by omega)⟩
set_option maxRecDepth 100000 in
theorem slice_edcs {n : Nat} {y : DataW H × List MemPlace} (h : DataW.trod enc Tryz.prog W base (fun _ => true) held n 26 [v] = some y) :
    ∃ (A : Option Addr) (c : Nat) (xs : List Edc), v = .slice A xs.length c ∧ RowsK W W.heap.size A 8 encE xs ∧ xs.length ≤ 9223372036854775807 ∧ ∀ x ∈ xs, (Lit.int .i64 x.num).wf = true := by
  obtain ⟨A, c, len, F, rfl, hl, hc, hw⟩ := slice_intK (k := 8) Tryz.underlying26 Tryz.underlying65 (by simp) (by omega) (fun j f hf => by
    have hj : j < 8 := by have := (Array.getElem?_eq_some_iff.1 hf).1; simpa using this
    obtain rfl | rfl | rfl | rfl | rfl | rfl | rfl | rfl : j = 0 ∨ j = 1 ∨ j = 2 ∨ j = 3 ∨ j = 4 ∨ j = 5 ∨ j = 6 ∨ j = 7 := by omega
    all_goals (simp at hf; subst hf; exact Tryz.underlying3)) (by kernel_rfl) cells65 h
  refine ⟨A, c, (List.range len).map fun i => (⟨F i 0, F i 1, F i 2, F i 3, F i 4, F i 5, F i 6, F i 7⟩ : Edc), by simp, ?_, by simpa using hl, fun x hx => ?_⟩
  · rcases hc with h0 | ⟨b, off, hA, hb, hc⟩
    · exact .inl (by subst h0; rfl)
    · refine .inr ⟨b, off, hA, hb, fun j hj i u hu => ?_⟩
      have hj : j < len := by simpa using hj
      simp only [List.getElem_map, List.getElem_range] at hu
      have hi : i < 8 := by
        rcases Nat.lt_or_ge i 8 with h1 | h1
        · exact h1
        · rw [List.getElem?_eq_none (by simpa [encE] using h1)] at hu; cases hu
      have := hc j hj i hi
      rw [← Nat.add_assoc] at this
      rw [this, ← hu]
      obtain rfl | rfl | rfl | rfl | rfl | rfl | rfl | rfl : i = 0 ∨ i = 1 ∨ i = 2 ∨ i = 3 ∨ i = 4 ∨ i = 5 ∨ i = 6 ∨ i = 7 := by omega
      all_goals simp [encE]
  · obtain ⟨j, hj, rfl⟩ := List.mem_map.1 hx
    exact hw j 0 (by simpa using hj) (by omega)
set_option maxRecDepth 100000 in
theorem law_arg (hv : Value.okWide Tryz.prog W r b0 28 v) (h : DataW.Trod enc Tryz.prog W base (fun _ => true) held 28 v d p) :
    ∃ (num L hour : Int) (AC AJ A : Option Addr) (cC cJ c : Nat) (cs : List Chg) (J : List Int) (es : List Edc), v = .agg #[.int .i64 num, .int .i64 L, .slice AC cs.length cC, .slice AJ J.length cJ, .slice A es.length c, .int .i64 hour] ∧
      Chs W W.heap.size AC cs ∧ Ints W W.heap.size AJ J ∧ RowsK W W.heap.size A 8 encE es ∧ cs.length ≤ 9223372036854775807 ∧ J.length ≤ 9223372036854775807 ∧ es.length ≤ 9223372036854775807 ∧ (∀ x ∈ es, (Lit.int .i64 x.num).wf = true) := by
  obtain ⟨cs0, rfl, hsz⟩ := okWide_struct Tryz.underlying28 hv
  rw [cells28] at hsz
  obtain ⟨l⟩ := cs0
  match l, hsz with
  | [c0, c1, c2, c3, c4, c5], _ =>
    obtain ⟨fuel, hf⟩ := h
    obtain ⟨y0, y1, y2, y3, n, _, _, k0, k1, k2, k3⟩ := trod_struct4 Tryz.underlying28 hf
    simp only [cells24, cells25, cells26e, cells3i] at k0 k1 k2 k3
    have k0' : DataW.trod enc Tryz.prog W base (fun _ => true) held n 24 [c0, c1, c2] = some y0 := k0
    have k1' : DataW.trod enc Tryz.prog W base (fun _ => true) held n 25 [c3] = some y1 := k1
    have k2' : DataW.trod enc Tryz.prog W base (fun _ => true) held n 26 [c4] = some y2 := k2
    have k3' : DataW.trod enc Tryz.prog W base (fun _ => true) held n 3 [c5] = some y3 := k3
    obtain ⟨_, _, _, n2, _, _, j0, j1, j2⟩ := trod_struct3 Tryz.underlying24 k0'
    simp only [cells3i, cells22c] at j0 j1 j2
    obtain ⟨x0, e0, _, _⟩ := DataW.trod_int Tryz.underlying3 j0
    obtain ⟨x1, e1, _, _⟩ := DataW.trod_int Tryz.underlying3 j1
    obtain ⟨AC, cC, xs, rfl, hP, hn, _⟩ := slice_chgs j2
    obtain ⟨AJ, cJ, J, rfl, hJ, hJn⟩ := slice_jints k1'
    obtain ⟨A, c, es, rfl, hE, hEn, hwf⟩ := slice_edcs k2'
    obtain ⟨x5, e5, _, _⟩ := DataW.trod_int Tryz.underlying3 k3'
    simp at e0 e1 e5
    exact ⟨x0, x1, x5, AC, AJ, A, cC, cJ, c, xs, J, es, by rw [e0, e1, e5], hP, hJ, hE, hn, hJn, hEn, hwf⟩
end
end Go.Proofs.YtdmmcdbojmalfaaGreat
