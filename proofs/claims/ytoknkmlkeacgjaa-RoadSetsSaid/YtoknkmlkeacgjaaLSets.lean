/- Statement RoadSets: for all two lists of stretches and every place the law returns true: Union and Minus are those of the sets of metres, their stretches ascend and do not touch, and the totals add up. No condition. -/
import Derived.Test.YtoknkmlkeacgjaaWSet
import Derived.Test.YtoknkmlkeacgjaaArg
namespace Go.Proofs.Ytoknkmlkeacgjaa
namespace LawSets
open Go.ChangeShapes Go.WideShapes Go.ChangeAt Go.RowKit
set_option maxRecDepth 100000 in
theorem lifted (os : Os) (started : os.Started) (H : Type) (enc : TypeId × Value → H) :
    ReturnsInHanded {} Try.checked os 15 .any (Rows.roadSetsSpec.pre6 enc Try.prog Try.f15 Rows.roadSetsRow.domain false) (Rows.roadSetsSpec.post enc Try.prog Try.f15 false true false false) := by
  refine returnsInHanded_of_change (C := Try.checked) own started (by kernel_rfl) Try.func15
    (ChangeSpec.witness6 (enc := enc) (C := Try.checked) false ⟨#[], #[.slice none 0 0, .slice none 0 0, .int .i64 0], []⟩ 8 (by kernel_rfl) (by kernel_rfl) (by kernel_rfl) (by kernel_rfl)) ?_
  intro W base args ds gs before hval hW hcnd _
  refine law_contract rfl rfl (by simp; decide +kernel) (fun ds hds => ?_) W base args ds gs before hW fun p hA => ?_
  · match ds, hds with
    | [d1, d2, d3], _ => rfl
  · obtain ⟨v0, v1, v2, d0, d1, d2, p0, p1, p2, rfl, rfl, rfl, h0, h1, h2⟩ := trodAll_three hA
    have q0 := fun A n c (e : v0 = .slice A n c) => spans_nil (A := A) (n := n) (c := c) (e ▸ h0)
    have q1 := fun A n c (e : v1 = .slice A n c) => spans_nil (A := A) (n := n) (c := c) (e ▸ h1)
    obtain ⟨A, c, xs, e0, hP, hn, _⟩ := spans_arg (hval 0 34 _ rfl rfl) h0
    obtain ⟨A2, c2, ys, e1, hP2, hn2, _⟩ := spans_arg (hval 1 34 _ rfl rfl) h1
    obtain ⟨x, rfl, rfl, rfl, wx⟩ := open_int Try.underlying3 (hval 2 3 _ rfl rfl) h2
    have hA0 := q0 _ _ _ e0
    have hA1 := q1 _ _ _ e1
    subst e0 e1
    exact wSets A A2 c c2 _ _ xs ys x W hP (Nat.le_refl _) hn hA0 hP2 (Nat.le_refl _) hn2 hA1
theorem proved : Rows.RoadSetsSaid :=
  OpenClaim.holds_of_wide 15 Try.f15 rfl rfl rfl rfl rfl rfl rfl ⟨rfl, rfl, rfl, rfl, rfl⟩ rfl rfl rfl rfl rfl (by kernel_rfl) Try.func15 (by kernel_rfl)
    (of_decide_eq_true (by kernel_rfl)) (by unfold Func.isWrapper; rw [if_neg (of_decide_eq_false (by kernel_rfl))]; exact ⟨rfl, rfl⟩)
    (fun os started H enc _ => lifted os started H enc)
end LawSets
end Go.Proofs.Ytoknkmlkeacgjaa
