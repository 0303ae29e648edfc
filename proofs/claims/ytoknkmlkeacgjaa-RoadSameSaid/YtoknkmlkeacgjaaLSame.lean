/- Statement RoadSame: for every road and pair of places the law returns true: Same answers as the reference does, and it does not matter which place is asked first. No condition. -/
import Derived.Test.YtoknkmlkeacgjaaWSam
import Derived.Test.YtoknkmlkeacgjaaArg
namespace Go.Proofs.Ytoknkmlkeacgjaa
namespace LawSame
open Go.ChangeShapes Go.WideShapes Go.ChangeAt Go.RowKit
set_option maxRecDepth 100000 in
theorem lifted (os : Os) (started : os.Started) (H : Type) (enc : TypeId × Value → H) :
    ReturnsInHanded {} Try.checked os 7 .any (Rows.roadSameSpec.pre6 enc Try.prog Try.f7 Rows.roadSameRow.domain false) (Rows.roadSameSpec.post enc Try.prog Try.f7 false true false false) := by
  refine returnsInHanded_of_change (C := Try.checked) own started (by kernel_rfl) Try.func7
    (ChangeSpec.witness6 (enc := enc) (C := Try.checked) false ⟨#[], #[.agg #[.int .i64 0, .int .i64 0, .slice none 0 0], .agg #[.int .i64 0, .int .i64 0, .int .i64 0, .int .i64 0]], []⟩ 8 (by kernel_rfl) (by kernel_rfl) (by kernel_rfl) (by kernel_rfl)) ?_
  intro W base args ds gs before hval hW hcnd _
  refine law_contract rfl rfl (by simp; decide +kernel) (fun ds hds => ?_) W base args ds gs before hW fun p hA => ?_
  · match ds, hds with
    | [d1, d2], _ => rfl
  · obtain ⟨v0, v1, d0, d1, p0, p1, rfl, rfl, rfl, h0, h1⟩ := trodAll_two hA
    obtain ⟨num, L, A, cp, cs, rfl, hC, hn⟩ := road_arg (hval 0 24 _ rfl rfl) h0
    obtain ⟨a, b, c, d, rfl, _, _, _, _⟩ := pair_arg (hval 1 43 _ rfl rfl) h1
    exact wSame A cp W.heap.size num L cs a b c d W hC (Nat.le_refl _) hn
theorem proved : Rows.RoadSameSaid :=
  OpenClaim.holds_of_wide 7 Try.f7 rfl rfl rfl rfl rfl rfl rfl ⟨rfl, rfl, rfl, rfl, rfl⟩ rfl rfl rfl rfl rfl (by kernel_rfl) Try.func7 (by kernel_rfl)
    (of_decide_eq_true (by kernel_rfl)) (by unfold Func.isWrapper; rw [if_neg (of_decide_eq_false (by kernel_rfl))]; exact ⟨rfl, rfl⟩)
    (fun os started H enc _ => lifted os started H enc)
end LawSame
end Go.Proofs.Ytoknkmlkeacgjaa
