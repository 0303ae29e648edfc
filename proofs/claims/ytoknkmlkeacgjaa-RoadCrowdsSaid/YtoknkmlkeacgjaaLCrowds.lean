/- Statement RoadCrowds: for every list of posts and every gap the law returns true: Crowded answers as the reference does. No condition. -/
import Derived.Test.YtoknkmlkeacgjaaWCrw
import Derived.Test.YtoknkmlkeacgjaaArg
namespace Go.Proofs.Ytoknkmlkeacgjaa
namespace LawCrowds
open Go.ChangeShapes Go.WideShapes Go.ChangeAt Go.RowKit
set_option maxRecDepth 100000 in
theorem lifted (os : Os) (started : os.Started) (H : Type) (enc : TypeId × Value → H) :
    ReturnsInHanded {} Try.checked os 9 .any (Rows.roadCrowdsSpec.pre6 enc Try.prog Try.f9 Rows.roadCrowdsRow.domain false) (Rows.roadCrowdsSpec.post enc Try.prog Try.f9 false true false false) := by
  refine returnsInHanded_of_change (C := Try.checked) own started (by kernel_rfl) Try.func9
    (ChangeSpec.witness6 (enc := enc) (C := Try.checked) false ⟨#[], #[.slice none 0 0, .int .i64 0], []⟩ 8 (by kernel_rfl) (by kernel_rfl) (by kernel_rfl) (by kernel_rfl)) ?_
  intro W base args ds gs before hval hW hcnd _
  refine law_contract rfl rfl (by simp; decide +kernel) (fun ds hds => ?_) W base args ds gs before hW fun p hA => ?_
  · match ds, hds with
    | [d1, d2], _ => rfl
  · obtain ⟨v0, v1, d0, d1, p0, p1, rfl, rfl, rfl, h0, h1⟩ := trodAll_two hA
    obtain ⟨A, c, ps, rfl, hC, hn, _⟩ := posts_arg (hval 0 49 _ rfl rfl) h0
    obtain ⟨g, rfl, rfl, rfl, wg⟩ := open_int Try.underlying3 (hval 1 3 _ rfl rfl) h1
    exact wCrowds A c W.heap.size ps g W hC (Nat.le_refl _) hn
theorem proved : Rows.RoadCrowdsSaid :=
  OpenClaim.holds_of_wide 9 Try.f9 rfl rfl rfl rfl rfl rfl rfl ⟨rfl, rfl, rfl, rfl, rfl⟩ rfl rfl rfl rfl rfl (by kernel_rfl) Try.func9 (by kernel_rfl)
    (of_decide_eq_true (by kernel_rfl)) (by unfold Func.isWrapper; rw [if_neg (of_decide_eq_false (by kernel_rfl))]; exact ⟨rfl, rfl⟩)
    (fun os started H enc _ => lifted os started H enc)
end LawCrowds
end Go.Proofs.Ytoknkmlkeacgjaa
