/- How a face comes in. -/
import Derived.Test.YtihhfelhdgmceaaFrame4
import Derived.Test.YtihhfelhdgmceaaVal1
namespace Go.Proofs.Ytihhfelhdgmceaa
open Go.ChangeShapes Go.WideShapes Go.ChangeAt Go.RowKit Go.Joins Go.Deep
theorem eight_of {α : Type} {l : List α} (h : l.length = 8) : ∃ a b c d e f g i, l = [a, b, c, d, e, f, g, i] := by
  match l, h with
  | [a, b, c, d, e, f, g, i], _ => exact ⟨a, b, c, d, e, f, g, i, rfl⟩
theorem okWide_str {P : Program} {W : World} {r : Reach} {b0 : Nat} {t : TypeId} {fs : Array Field} {v : Value} (ht : P.underlying t = some (.struct fs)) (h : Value.okWide P W r b0 t v) : ∃ cs, v = .agg cs ∧ cs.size = P.cellsOf t := by
  simp only [Value.okWide, ht] at h
  obtain ⟨cs, h1, h2, _⟩ := h
  exact ⟨cs, h1, h2⟩
theorem cells84 : Try.prog.cellsOf 84 = 8 := by kernel_rfl
theorem cells81 : Try.prog.cellsOf 81 = 4 := by kernel_rfl
theorem cells79 : Try.prog.cellsOf 79 = 4 := by kernel_rfl
theorem cells82 : Try.prog.cellsOf 82 = 1 := by kernel_rfl
theorem cells91 : Try.prog.cellsOf 91 = 2 := by kernel_rfl
section
variable {H : Type} {enc : TypeId × Value → H} {W : World} {base b0 : Nat} {held : Bool} {r : Reach} {v : Value} {d : DataW H} {p : List MemPlace}
set_option maxRecDepth 100000 in
theorem face_arg (hv : Value.okWide Try.prog W r b0 84 v) (h : DataW.Trod enc Try.prog W base (fun _ => true) held 84 v d p) :
    ∃ (s : Sc) (side : Int) (A : Option Addr) (c : Nat) (xs : List (Int × Int)) (day least : Int), v = .agg #[.int .i64 s.rise, .int .i64 s.side, .int .i64 s.turn, .int .i64 s.power, .int .i64 side, .slice A xs.length c, .int .i64 day, .int .i64 least] ∧
      Pairs W W.heap.size A xs ∧ xs.length ≤ 9223372036854775807 := by
  obtain ⟨⟨l⟩, rfl, hsz⟩ := okWide_str Try.underlying84 hv
  obtain ⟨fuel, hf⟩ := h
  simp only [Value.cells] at hf
  obtain ⟨ys, m, _, _, hcl, hlen, hx⟩ := DataW.trod_struct Try.underlying84 hf
  rw [cells84] at hcl
  obtain ⟨a0, a1, a2, a3, a4, a5, a6, a7, rfl⟩ := eight_of hcl
  have e0 := hx 0 _ rfl
  have e1 := hx 1 _ rfl
  have e2 := hx 2 _ rfl
  have e3 := hx 3 _ rfl
  have e4 := hx 4 _ rfl
  rw [List.getElem?_eq_getElem (by rw [hlen]; simp)] at e0 e1 e2 e3 e4
  simp [cells81] at e0
  simp [cells3] at e1
  simp [cells82] at e2
  simp [cells3] at e3
  simp [cells3] at e4
  clear hx
  obtain ⟨y0, m1, _, _, g0⟩ := trod_struct1 Try.underlying81 e0
  simp [cells79] at g0
  obtain ⟨zs, m2, _, _, _, _, gx⟩ := DataW.trod_array Try.underlying79 g0
  have g0 := gx 0 (by omega)
  have g1 := gx 1 (by omega)
  have g2 := gx 2 (by omega)
  have g3 := gx 3 (by omega)
  rw [List.getElem?_eq_getElem (by omega)] at g0 g1 g2 g3
  simp [cells3] at g0 g1 g2 g3
  obtain ⟨k0, q0, _⟩ := DataW.trod_int Try.underlying3 g0
  obtain ⟨k1, q1, _⟩ := DataW.trod_int Try.underlying3 g1
  obtain ⟨k2, q2, _⟩ := DataW.trod_int Try.underlying3 g2
  obtain ⟨k3, q3, _⟩ := DataW.trod_int Try.underlying3 g3
  obtain ⟨sd, q4, _⟩ := DataW.trod_int Try.underlying3 e1
  obtain ⟨dy, q5, _⟩ := DataW.trod_int Try.underlying3 e3
  obtain ⟨ls, q6, _⟩ := DataW.trod_int Try.underlying3 e4
  obtain ⟨A, c, xs, rfl, hP, hn, _⟩ := slice_pairs Try.underlying82 Try.underlying91 Try.underlying3 Try.underlying3 (by kernel_rfl) cells91 e2
  simp at q0 q1 q2 q3 q4 q5 q6
  exact ⟨⟨k0, k1, k2, k3⟩, sd, A, c, xs, dy, ls, by rw [q0, q1, q2, q3, q4, q5, q6], hP, hn⟩
end
end Go.Proofs.Ytihhfelhdgmceaa
