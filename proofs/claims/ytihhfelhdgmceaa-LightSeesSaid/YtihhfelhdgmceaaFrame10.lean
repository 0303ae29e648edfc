/- How two views come in. -/
import Derived.Test.YtihhfelhdgmceaaFrame9
namespace Go.Proofs.Ytihhfelhdgmceaa
open Go.ChangeShapes Go.WideShapes Go.ChangeAt Go.RowKit Go.Joins Go.Deep
theorem thirteen_of {α : Type} {l : List α} (h : l.length = 13) : ∃ a b c d e f g i j k m n o, l = [a, b, c, d, e, f, g, i, j, k, m, n, o] := by
  match l, h with
  | [a, b, c, d, e, f, g, i, j, k, m, n, o], _ => exact ⟨a, b, c, d, e, f, g, i, j, k, m, n, o, rfl⟩
theorem cells94 : Try.prog.cellsOf 94 = 13 := by kernel_rfl
theorem cells61 : Try.prog.cellsOf 61 = 1 := by kernel_rfl
section
variable {H : Type} {enc : TypeId × Value → H} {W : World} {base b0 : Nat} {held : Bool} {r : Reach} {v : Value} {d : DataW H} {p : List MemPlace}
set_option maxRecDepth 100000 in
theorem two_arg (hv : Value.okWide Try.prog W r b0 94 v) (h : DataW.Trod enc Try.prog W base (fun _ => true) held 94 v d p) :
    ∃ (A0 A1 A2 : Option Addr) (c0 c1 c2 : Nat) (t : Tb) (s : Sc) (need letter less P L N : Int), v = .agg #[.slice A0 t.obs.length c0, .slice A1 t.ent.length c1, .slice A2 t.r.length c2, .int .i64 s.rise, .int .i64 s.side, .int .i64 s.turn, .int .i64 s.power, .int .i64 need, .int .i64 letter, .int .i64 less, .int .u16 P, .int .u16 L, .int .u16 N] ∧
      Tab W W.heap.size A0 A1 A2 t ∧ Fits t ∧ (Lit.int .i64 less).wf = true ∧ (Lit.int .u16 P).wf = true ∧ (Lit.int .u16 L).wf = true ∧ (Lit.int .u16 N).wf = true := by
  obtain ⟨⟨l⟩, rfl, hsz⟩ := okWide_str Try.underlying94 hv
  obtain ⟨fuel, hf⟩ := h
  simp only [Value.cells] at hf
  obtain ⟨ys, m, _, _, hcl, hlen, hx⟩ := DataW.trod_struct Try.underlying94 hf
  rw [cells94] at hcl
  obtain ⟨a0, a1, a2, a3, a4, a5, a6, a7, a8, a9, a10, a11, a12, rfl⟩ := thirteen_of hcl
  have e0 := hx 0 _ rfl
  have e1 := hx 1 _ rfl
  have e2 := hx 2 _ rfl
  have e3 := hx 3 _ rfl
  have e4 := hx 4 _ rfl
  rw [List.getElem?_eq_getElem (by rw [hlen]; simp)] at e0 e1 e2 e3 e4
  simp [cells74] at e0
  simp [cells3] at e1
  simp [cells61] at e2
  simp [cells61] at e3
  simp [cells61] at e4
  clear hx
  obtain ⟨ws, m0, _, _, _, wl, wx⟩ := DataW.trod_struct Try.underlying74 e0
  have d0 := wx 0 _ rfl
  have d1 := wx 1 _ rfl
  have d2 := wx 2 _ rfl
  have d3 := wx 3 _ rfl
  rw [List.getElem?_eq_getElem (by rw [wl]; simp)] at d0 d1 d2 d3
  simp [cells25] at d0
  simp [cells40] at d1
  simp [cells3] at d2
  simp [cells3] at d3
  obtain ⟨zs, m1, _, _, _, gl, gx⟩ := DataW.trod_struct Try.underlying25 d0
  have g0 := gx 0 _ rfl
  have g1 := gx 1 _ rfl
  have g2 := gx 2 _ rfl
  rw [List.getElem?_eq_getElem (by rw [gl]; simp)] at g0 g1 g2
  simp [cells22] at g0 g1
  simp [cells23] at g2
  obtain ⟨zs', m2, _, _, _, gl', gx'⟩ := DataW.trod_struct Try.underlying40 d1
  have f0 := gx' 0 _ rfl
  have f1 := gx' 1 _ rfl
  have f2 := gx' 2 _ rfl
  have f3 := gx' 3 _ rfl
  rw [List.getElem?_eq_getElem (by rw [gl']; simp)] at f0 f1 f2 f3
  simp [cells3] at f0 f1 f2 f3
  obtain ⟨A0, c0, xs, rfl, i0, l0, _⟩ := slice_ints g0
  obtain ⟨A1, c1, ys', rfl, i1, l1, _⟩ := slice_ints g1
  obtain ⟨A2, c2, R, rfl, i2, l2, l3⟩ := slice_rows g2
  obtain ⟨k0, q0, _⟩ := DataW.trod_int Try.underlying3 f0
  obtain ⟨k1, q1, _⟩ := DataW.trod_int Try.underlying3 f1
  obtain ⟨k2, q2, _⟩ := DataW.trod_int Try.underlying3 f2
  obtain ⟨k3, q3, _⟩ := DataW.trod_int Try.underlying3 f3
  obtain ⟨nd, q4, _⟩ := DataW.trod_int Try.underlying3 d2
  obtain ⟨le, q5, _⟩ := DataW.trod_int Try.underlying3 d3
  obtain ⟨ls, q6, _, w6⟩ := DataW.trod_int Try.underlying3 e1
  obtain ⟨P, q7, _, w7⟩ := DataW.trod_int Try.underlying61 e2
  obtain ⟨L, q8, _, w8⟩ := DataW.trod_int Try.underlying61 e3
  obtain ⟨N, q9, _, w9⟩ := DataW.trod_int Try.underlying61 e4
  simp at q0 q1 q2 q3 q4 q5 q6 q7 q8 q9
  have hf : Fits ⟨xs, ys', R⟩ := by
    unfold Fits
    exact And.intro l0 (And.intro l1 (And.intro l2 l3))
  exact ⟨A0, A1, A2, c0, c1, c2, ⟨xs, ys', R⟩, ⟨k0, k1, k2, k3⟩, nd, le, ls, P, L, N, by rw [q0, q1, q2, q3, q4, q5, q6, q7, q8, q9], ⟨i0, i1, i2⟩, hf, w6, w7, w8, w9⟩
end
end Go.Proofs.Ytihhfelhdgmceaa
