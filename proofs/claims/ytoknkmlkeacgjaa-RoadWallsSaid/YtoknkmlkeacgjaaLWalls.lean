/- Statement RoadWalls: for every post, walls and distance the law returns true: one more wall never lets the post be seen from farther away, and with no wall in the way it is seen from far or from the beginning of the road. No condition. -/
import Derived.Test.YtoknkmlkeacgjaaWWal
import Derived.Test.YtoknkmlkeacgjaaArg
namespace Go.Proofs.Ytoknkmlkeacgjaa
namespace LawWalls
open Go.ChangeShapes Go.WideShapes Go.ChangeAt Go.RowKit
set_option maxRecDepth 100000 in
theorem lifted (os : Os) (started : os.Started) (H : Type) (enc : TypeId × Value → H) :
    ReturnsInHanded {} Try.checked os 11 .any (Rows.roadWallsSpec.pre6 enc Try.prog Try.f11 Rows.roadWallsRow.domain false) (Rows.roadWallsSpec.post enc Try.prog Try.f11 false true false false) := by
  refine returnsInHanded_of_change (C := Try.checked) own started (by kernel_rfl) Try.func11
    (ChangeSpec.witness6 (enc := enc) (C := Try.checked) false ⟨#[], #[.agg #[.int .i64 0, .int .i64 0, .int .i64 0, .int .i64 0], .slice none 0 0, .int .u16 0], []⟩ 8 (by kernel_rfl) (by kernel_rfl) (by kernel_rfl) (by kernel_rfl)) ?_
  intro W base args ds gs before hval hW hcnd _
  refine law_contract rfl rfl (by simp; decide +kernel) (fun ds hds => ?_) W base args ds gs before hW fun p hA => ?_
  · match ds, hds with
    | [d1, d2, d3], _ => rfl
  · obtain ⟨v0, v1, v2, d0, d1, d2, p0, p1, p2, rfl, rfl, rfl, h0, h1, h2⟩ := trodAll_three hA
    obtain ⟨p0, p1, p2, p3, rfl, _, _, _, _⟩ := post_arg (hval 0 56 _ rfl rfl) h0
    obtain ⟨A, c, ws, rfl, hC, hn, _⟩ := walls_arg (hval 1 57 _ rfl rfl) h1
    obtain ⟨d, rfl, rfl, rfl, wd⟩ := open_int Try.underlying60 (hval 2 60 _ rfl rfl) h2
    have hd := bounds_u16 wd
    obtain ⟨m, rfl⟩ := Int.eq_ofNat_of_zero_le hd.1
    exact wWalls A c W.heap.size ⟨p0, p1, p2, p3⟩ ws m (by omega) W hC (Nat.le_refl _) hn (walls_cap h1)
theorem proved : Rows.RoadWallsSaid :=
  OpenClaim.holds_of_wide 11 Try.f11 rfl rfl rfl rfl rfl rfl rfl ⟨rfl, rfl, rfl, rfl, rfl⟩ rfl rfl rfl rfl rfl (by kernel_rfl) Try.func11 (by kernel_rfl)
    (of_decide_eq_true (by kernel_rfl)) (by unfold Func.isWrapper; rw [if_neg (of_decide_eq_false (by kernel_rfl))]; exact ⟨rfl, rfl⟩)
    (fun os started H enc _ => lifted os started H enc)
end LawWalls
end Go.Proofs.Ytoknkmlkeacgjaa
