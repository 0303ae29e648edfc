/- Statement RoadUnions: for all two lists of stretches the law returns true: Union, Minus and Total answer as the reference does. No condition. -/
import Derived.Test.YtoknkmlkeacgjaaWUnn
import Derived.Test.YtoknkmlkeacgjaaArg
namespace Go.Proofs.Ytoknkmlkeacgjaa
namespace LawUnions
open Go.ChangeShapes Go.WideShapes Go.ChangeAt Go.RowKit
set_option maxRecDepth 100000 in
theorem lifted (os : Os) (started : os.Started) (H : Type) (enc : TypeId × Value → H) :
    ReturnsInHanded {} Try.checked os 14 .any (Rows.roadUnionsSpec.pre6 enc Try.prog Try.f14 Rows.roadUnionsRow.domain false) (Rows.roadUnionsSpec.post enc Try.prog Try.f14 false true false false) := by
  refine returnsInHanded_of_change (C := Try.checked) own started (by kernel_rfl) Try.func14
    (ChangeSpec.witness6 (enc := enc) (C := Try.checked) false ⟨#[], #[.slice none 0 0, .slice none 0 0], []⟩ 8 (by kernel_rfl) (by kernel_rfl) (by kernel_rfl) (by kernel_rfl)) ?_
  intro W base args ds gs before hval hW hcnd _
  refine law_contract rfl rfl (by simp; decide +kernel) (fun ds hds => ?_) W base args ds gs before hW fun p hA => ?_
  · match ds, hds with
    | [d1, d2], _ => rfl
  · obtain ⟨v0, v1, d0, d1, p0, p1, rfl, rfl, rfl, h0, h1⟩ := trodAll_two hA
    obtain ⟨A, c, xs, rfl, hP, hn, _⟩ := spans_arg (hval 0 34 _ rfl rfl) h0
    obtain ⟨A2, c2, ys, rfl, hP2, hn2, _⟩ := spans_arg (hval 1 34 _ rfl rfl) h1
    exact wUnions A A2 c c2 _ _ xs ys W hP (Nat.le_refl _) hn hP2 (Nat.le_refl _) hn2
theorem proved : Rows.RoadUnionsSaid :=
  OpenClaim.holds_of_wide 14 Try.f14 rfl rfl rfl rfl rfl rfl rfl ⟨rfl, rfl, rfl, rfl, rfl⟩ rfl rfl rfl rfl rfl (by kernel_rfl) Try.func14 (by kernel_rfl)
    (of_decide_eq_true (by kernel_rfl)) (by unfold Func.isWrapper; rw [if_neg (of_decide_eq_false (by kernel_rfl))]; exact ⟨rfl, rfl⟩)
    (fun os started H enc _ => lifted os started H enc)
end LawUnions
end Go.Proofs.Ytoknkmlkeacgjaa
