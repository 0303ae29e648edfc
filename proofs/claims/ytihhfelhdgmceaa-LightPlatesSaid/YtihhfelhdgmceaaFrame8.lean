/- How a row of readings comes in. -/
import Derived.Test.YtihhfelhdgmceaaFrame7
namespace Go.Proofs.Ytihhfelhdgmceaa
open Go.ChangeShapes Go.WideShapes Go.ChangeAt Go.RowKit Go.Joins Go.Deep
theorem six_of {α : Type} {l : List α} (h : l.length = 6) : ∃ a b c d e f, l = [a, b, c, d, e, f] := by
  match l, h with
  | [a, b, c, d, e, f], _ => exact ⟨a, b, c, d, e, f, rfl⟩
theorem cells56 : Try.prog.cellsOf 56 = 6 := by kernel_rfl
theorem cells54' : Try.prog.cellsOf 54 = 2 := by kernel_rfl
theorem cells52 : Try.prog.cellsOf 52 = 1 := by kernel_rfl
section
variable {H : Type} {enc : TypeId × Value → H} {W : World} {base b0 : Nat} {held : Bool} {r : Reach} {v : Value} {d : DataW H} {p : List MemPlace}
set_option maxRecDepth 100000 in
theorem row_arg (hv : Value.okWide Try.prog W r b0 56 v) (h : DataW.Trod enc Try.prog W base (fun _ => true) held 56 v d p) :
    ∃ (A : Option Addr) (c : Nat) (xs : List (Int × Int)) (f l : Int × Int) (rf : Int), v = .agg #[.slice A xs.length c, .int .i64 f.1, .int .i64 f.2, .int .i64 l.1, .int .i64 l.2, .int .i64 rf] ∧
      Pairs W W.heap.size A xs ∧ xs.length ≤ 9223372036854775807 := by
  obtain ⟨⟨l⟩, rfl, hsz⟩ := okWide_str Try.underlying56 hv
  obtain ⟨fuel, hf⟩ := h
  simp only [Value.cells] at hf
  obtain ⟨ys, m, _, _, hcl, hlen, hx⟩ := DataW.trod_struct Try.underlying56 hf
  rw [cells56] at hcl
  obtain ⟨a0, a1, a2, a3, a4, a5, rfl⟩ := six_of hcl
  have e0 := hx 0 _ rfl
  have e1 := hx 1 _ rfl
  have e2 := hx 2 _ rfl
  have e3 := hx 3 _ rfl
  rw [List.getElem?_eq_getElem (by rw [hlen]; simp)] at e0 e1 e2 e3
  simp [cells52] at e0
  simp [cells54'] at e1
  simp [cells54'] at e2
  simp [cells3] at e3
  clear hx
  obtain ⟨zs, m1, _, _, _, gl, gx⟩ := DataW.trod_struct Try.underlying54 e1
  have g0 := gx 0 _ rfl
  have g1 := gx 1 _ rfl
  rw [List.getElem?_eq_getElem (by rw [gl]; simp)] at g0 g1
  simp [cells3] at g0 g1
  obtain ⟨zs', m2, _, _, _, gl', gx'⟩ := DataW.trod_struct Try.underlying54 e2
  have g2 := gx' 0 _ rfl
  have g3 := gx' 1 _ rfl
  rw [List.getElem?_eq_getElem (by rw [gl']; simp)] at g2 g3
  simp [cells3] at g2 g3
  obtain ⟨k0, q0, _⟩ := DataW.trod_int Try.underlying3 g0
  obtain ⟨k1, q1, _⟩ := DataW.trod_int Try.underlying3 g1
  obtain ⟨k2, q2, _⟩ := DataW.trod_int Try.underlying3 g2
  obtain ⟨k3, q3, _⟩ := DataW.trod_int Try.underlying3 g3
  obtain ⟨k4, q4, _⟩ := DataW.trod_int Try.underlying3 e3
  obtain ⟨A, c, xs, rfl, hP, hn, _⟩ := slice_pairs Try.underlying52 Try.underlying54 Try.underlying3 Try.underlying3 (by kernel_rfl) cells54' e0
  simp at q0 q1 q2 q3 q4
  exact ⟨A, c, xs, (k0, k1), (k2, k3), k4, by rw [q0, q1, q2, q3, q4], hP, hn⟩
end
end Go.Proofs.Ytihhfelhdgmceaa
