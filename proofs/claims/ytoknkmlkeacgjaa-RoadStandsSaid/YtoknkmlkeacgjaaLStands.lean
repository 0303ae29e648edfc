/- Statement RoadStands: for every warning the law returns true: a sign may stand exactly where Ahead of it to the danger is from the least distance to 100 metres more. No condition. -/
import Derived.Test.YtoknkmlkeacgjaaWStd
import Derived.Test.YtoknkmlkeacgjaaArg
namespace Go.Proofs.Ytoknkmlkeacgjaa
namespace LawStands
open Go.ChangeShapes Go.WideShapes Go.ChangeAt Go.RowKit
set_option maxRecDepth 100000 in
theorem lifted (os : Os) (started : os.Started) (H : Type) (enc : TypeId × Value → H) :
    ReturnsInHanded {} Try.checked os 13 .any (Rows.roadStandsSpec.pre6 enc Try.prog Try.f13 Rows.roadStandsRow.domain false) (Rows.roadStandsSpec.post enc Try.prog Try.f13 false true false false) := by
  refine returnsInHanded_of_change (C := Try.checked) own started (by kernel_rfl) Try.func13
    (ChangeSpec.witness6 (enc := enc) (C := Try.checked) false ⟨#[], #[.agg #[.int .i64 0, .int .i64 0, .int .i64 0, .int .u16 0]], []⟩ 8 (by kernel_rfl) (by kernel_rfl) (by kernel_rfl) (by kernel_rfl)) ?_
  intro W base args ds gs before hval hW hcnd _
  refine law_contract rfl rfl (by simp; decide +kernel) (fun ds hds => ?_) W base args ds gs before hW fun p hA => ?_
  · match ds, hds with
    | [d1], _ => rfl
  · obtain ⟨v0, d0, rfl, rfl, h0⟩ := trodAll_one hA
    obtain ⟨a, b, c, d, rfl, _, _, _, wd⟩ := warning_arg (hval 0 67 _ rfl rfl) h0
    have hd := bounds_u16 wd
    obtain ⟨m, rfl⟩ := Int.eq_ofNat_of_zero_le hd.1
    exact wStands a b c m (by omega) W
theorem proved : Rows.RoadStandsSaid :=
  OpenClaim.holds_of_wide 13 Try.f13 rfl rfl rfl rfl rfl rfl rfl ⟨rfl, rfl, rfl, rfl, rfl⟩ rfl rfl rfl rfl rfl (by kernel_rfl) Try.func13 (by kernel_rfl)
    (of_decide_eq_true (by kernel_rfl)) (by unfold Func.isWrapper; rw [if_neg (of_decide_eq_false (by kernel_rfl))]; exact ⟨rfl, rfl⟩)
    (fun os started H enc _ => lifted os started H enc)
end LawStands
end Go.Proofs.Ytoknkmlkeacgjaa
