/- How a view comes in. -/
import Derived.Test.YtihhfelhdgmceaaFrame7
import Derived.Test.YtihhfelhdgmceaaFrame3
namespace Go.Proofs.Ytihhfelhdgmceaa
open Go.ChangeShapes Go.WideShapes Go.ChangeAt Go.RowKit Go.Joins Go.Deep
theorem nine_of {α : Type} {l : List α} (h : l.length = 9) : ∃ a b c d e f g i j, l = [a, b, c, d, e, f, g, i, j] := by
  match l, h with
  | [a, b, c, d, e, f, g, i, j], _ => exact ⟨a, b, c, d, e, f, g, i, j, rfl⟩
theorem cells74 : Try.prog.cellsOf 74 = 9 := by kernel_rfl
theorem cells23 : Try.prog.cellsOf 23 = 1 := by kernel_rfl
section
variable {H : Type} {enc : TypeId × Value → H} {W : World} {base b0 : Nat} {held : Bool} {r : Reach} {v : Value} {d : DataW H} {p : List MemPlace}
set_option maxRecDepth 100000 in
theorem view_arg (hv : Value.okWide Try.prog W r b0 74 v) (h : DataW.Trod enc Try.prog W base (fun _ => true) held 74 v d p) :
    ∃ (A0 A1 A2 : Option Addr) (c0 c1 c2 : Nat) (t : Tb) (s : Sc) (need letter : Int), v = .agg #[.slice A0 t.obs.length c0, .slice A1 t.ent.length c1, .slice A2 t.r.length c2, .int .i64 s.rise, .int .i64 s.side, .int .i64 s.turn, .int .i64 s.power, .int .i64 need, .int .i64 letter] ∧
      Tab W W.heap.size A0 A1 A2 t ∧ Fits t := by
  obtain ⟨⟨l⟩, rfl, hsz⟩ := okWide_str Try.underlying74 hv
  obtain ⟨fuel, hf⟩ := h
  simp only [Value.cells] at hf
  obtain ⟨ys, m, _, _, hcl, hlen, hx⟩ := DataW.trod_struct Try.underlying74 hf
  rw [cells74] at hcl
  obtain ⟨a0, a1, a2, a3, a4, a5, a6, a7, a8, rfl⟩ := nine_of hcl
  have e0 := hx 0 _ rfl
  have e1 := hx 1 _ rfl
  have e2 := hx 2 _ rfl
  have e3 := hx 3 _ rfl
  rw [List.getElem?_eq_getElem (by rw [hlen]; simp)] at e0 e1 e2 e3
  simp [cells25] at e0
  simp [cells40] at e1
  simp [cells3] at e2
  simp [cells3] at e3
  clear hx
  obtain ⟨zs, m1, _, _, _, gl, gx⟩ := DataW.trod_struct Try.underlying25 e0
  have g0 := gx 0 _ rfl
  have g1 := gx 1 _ rfl
  have g2 := gx 2 _ rfl
  rw [List.getElem?_eq_getElem (by rw [gl]; simp)] at g0 g1 g2
  simp [cells22] at g0 g1
  simp [cells23] at g2
  obtain ⟨zs', m2, _, _, _, gl', gx'⟩ := DataW.trod_struct Try.underlying40 e1
  have f0 := gx' 0 _ rfl
  have f1 := gx' 1 _ rfl
  have f2 := gx' 2 _ rfl
  have f3 := gx' 3 _ rfl
  rw [List.getElem?_eq_getElem (by rw [gl']; simp)] at f0 f1 f2 f3
  simp [cells3] at f0 f1 f2 f3
  obtain ⟨A0, c0, xs, rfl, i0, l0, _⟩ := slice_ints g0
  obtain ⟨A1, c1, ys', rfl, i1, l1, _⟩ := slice_ints g1
  obtain ⟨A2, c2, R, rfl, i2, l2, l3⟩ := slice_rows g2
  obtain ⟨k0, q0, _⟩ := DataW.trod_int Try.underlying3 f0
  obtain ⟨k1, q1, _⟩ := DataW.trod_int Try.underlying3 f1
  obtain ⟨k2, q2, _⟩ := DataW.trod_int Try.underlying3 f2
  obtain ⟨k3, q3, _⟩ := DataW.trod_int Try.underlying3 f3
  obtain ⟨nd, q4, _⟩ := DataW.trod_int Try.underlying3 e2
  obtain ⟨le, q5, _⟩ := DataW.trod_int Try.underlying3 e3
  simp at q0 q1 q2 q3 q4 q5
  have hf : Fits ⟨xs, ys', R⟩ := by
    unfold Fits
    exact And.intro l0 (And.intro l1 (And.intro l2 l3))
  exact ⟨A0, A1, A2, c0, c1, c2, ⟨xs, ys', R⟩, ⟨k0, k1, k2, k3⟩, nd, le, by rw [q0, q1, q2, q3, q4, q5], ⟨i0, i1, i2⟩, hf⟩
end
end Go.Proofs.Ytihhfelhdgmceaa
