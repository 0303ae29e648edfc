/- How boxes come in. -/
import Derived.Test.YtihhfelhdgmceaaFrame2
import Derived.Test.YtihhfelhdgmceaaBoxm
namespace Go.Proofs.Ytihhfelhdgmceaa
open Go.ChangeShapes Go.WideShapes Go.ChangeAt Go.RowKit Go.Joins Go.Deep
theorem four_of {α : Type} {l : List α} (h : l.length = 4) : ∃ a b c d, l = [a, b, c, d] := by
  match l, h with
  | [a, b, c, d], _ => exact ⟨a, b, c, d, rfl⟩
theorem five_of {α : Type} {l : List α} (h : l.length = 5) : ∃ a b c d e, l = [a, b, c, d, e] := by
  match l, h with
  | [a, b, c, d, e], _ => exact ⟨a, b, c, d, e, rfl⟩
theorem cells48 : Try.prog.cellsOf 48 = 4 * 2 := by kernel_rfl
theorem cells70 : Try.prog.cellsOf 70 = 5 * 2 := by kernel_rfl
section
variable {H : Type} {enc : TypeId × Value → H} {W : World} {base b0 : Nat} {sp : Nat → Bool} {held : Bool} {r : Reach} {v : Value} {d : DataW H} {p : List MemPlace}
set_option maxRecDepth 100000 in
theorem box_arg (hv : Value.okWide Try.prog W r b0 48 v) (h : DataW.Trod enc Try.prog W base sp held 48 v d p) :
    ∃ x : Bx, v = .agg #[.int .i64 x.a.1, .int .i64 x.a.2, .int .i64 x.b.1, .int .i64 x.b.2, .int .i64 x.c.1, .int .i64 x.c.2, .int .i64 x.d.1, .int .i64 x.d.2] := by
  obtain ⟨zs, hz, hl, _⟩ := xy_array Try.underlying48 cells48 hv h
  obtain ⟨a, b, c, d, rfl⟩ := four_of hl
  exact ⟨⟨a, b, c, d⟩, hz⟩
set_option maxRecDepth 100000 in
theorem box5_arg (hv : Value.okWide Try.prog W r b0 70 v) (h : DataW.Trod enc Try.prog W base sp held 70 v d p) :
    ∃ (x : Bx) (q : Int × Int), v = .agg #[.int .i64 x.a.1, .int .i64 x.a.2, .int .i64 x.b.1, .int .i64 x.b.2, .int .i64 x.c.1, .int .i64 x.c.2, .int .i64 x.d.1, .int .i64 x.d.2, .int .i64 q.1, .int .i64 q.2] := by
  obtain ⟨zs, hz, hl, _⟩ := xy_array Try.underlying70 cells70 hv h
  obtain ⟨a, b, c, d, e, rfl⟩ := five_of hl
  exact ⟨⟨a, b, c, d⟩, e, hz⟩
end
end Go.Proofs.Ytihhfelhdgmceaa
