/- Statement RoadWarns: for every danger, direction and speed the law returns true: Warn answers as the reference does. No condition. -/
import Derived.Test.YtoknkmlkeacgjaaWWrn
import Derived.Test.YtoknkmlkeacgjaaFrame
namespace Go.Proofs.Ytoknkmlkeacgjaa
namespace LawWarns
open Go.ChangeShapes Go.WideShapes Go.ChangeAt Go.RowKit
set_option maxRecDepth 100000 in
theorem lifted (os : Os) (started : os.Started) (H : Type) (enc : TypeId × Value → H) :
    ReturnsInHanded {} Try.checked os 8 .any (Rows.roadWarnsSpec.pre6 enc Try.prog Try.f8 Rows.roadWarnsRow.domain false) (Rows.roadWarnsSpec.post enc Try.prog Try.f8 false true false false) := by
  refine returnsInHanded_of_change (C := Try.checked) own started (by kernel_rfl) Try.func8
    (ChangeSpec.witness6 (enc := enc) (C := Try.checked) false ⟨#[], #[.int .i64 0, .int .i64 0, .int .i64 0], []⟩ 8 (by kernel_rfl) (by kernel_rfl) (by kernel_rfl) (by kernel_rfl)) ?_
  intro W base args ds gs before hval hW hcnd _
  refine law_contract rfl rfl (by simp; decide +kernel) (fun ds hds => ?_) W base args ds gs before hW fun p hA => ?_
  · match ds, hds with
    | [d1, d2, d3], _ => rfl
  · obtain ⟨v0, v1, v2, d0, d1, d2, p0, p1, p2, rfl, rfl, rfl, h0, h1, h2⟩ := trodAll_three hA
    obtain ⟨x, rfl, rfl, rfl, wx⟩ := open_int Try.underlying3 (hval 0 3 _ rfl rfl) h0
    obtain ⟨y, rfl, rfl, rfl, wy⟩ := open_int Try.underlying3 (hval 1 3 _ rfl rfl) h1
    obtain ⟨z, rfl, rfl, rfl, wz⟩ := open_int Try.underlying3 (hval 2 3 _ rfl rfl) h2
    exact wWarns x y z W
theorem proved : Rows.RoadWarnsSaid :=
  OpenClaim.holds_of_wide 8 Try.f8 rfl rfl rfl rfl rfl rfl rfl ⟨rfl, rfl, rfl, rfl, rfl⟩ rfl rfl rfl rfl rfl (by kernel_rfl) Try.func8 (by kernel_rfl)
    (of_decide_eq_true (by kernel_rfl)) (by unfold Func.isWrapper; rw [if_neg (of_decide_eq_false (by kernel_rfl))]; exact ⟨rfl, rfl⟩)
    (fun os started H enc _ => lifted os started H enc)
end LawWarns
end Go.Proofs.Ytoknkmlkeacgjaa
