/- Statement TopEdicts: for every law the law returns true: edicts that are carried along the realignments of a road say the same on every metre that is left, and nothing on new ones, and the signs that Propose puts on the new road make hold what must hold, without gaps. No condition. -/
import Derived.Test.YtdmmcdbojmalfaaGreatEdTp
import Derived.Test.YtdmmcdbojmalfaaGreatEdAr
namespace Go.Proofs.YtdmmcdbojmalfaaGreat
namespace LawEdicts
open Go.ChangeShapes Go.WideShapes Go.ChangeAt Go.RowKit
set_option maxRecDepth 100000 in
theorem lifted (os : Os) (started : os.Started) (H : Type) (enc : TypeId × Value → H) :
    ReturnsInHanded {} Tryz.checked os 3 .any (Rows.topEdictsSpec.pre6 enc Tryz.prog Tryz.f3 Rows.topEdictsRow.domain false) (Rows.topEdictsSpec.post enc Tryz.prog Tryz.f3 false true false false) := by
  refine returnsInHanded_of_change (C := Tryz.checked) own started (by kernel_rfl) Tryz.func3
    (ChangeSpec.witness6 (enc := enc) (C := Tryz.checked) false ⟨#[], #[.agg #[.int .i64 0, .int .i64 0, .slice none 0 0, .slice none 0 0, .slice none 0 0, .int .i64 0]], []⟩ 8 (by kernel_rfl) (by kernel_rfl) (by kernel_rfl) (by kernel_rfl)) ?_
  intro W base args ds gs before hval hW hcnd _
  refine law_contract rfl rfl (by simp; decide +kernel) (fun ds hds => ?_) W base args ds gs before hW fun p hA => ?_
  · match ds, hds with
    | [d1], _ => rfl
  · obtain ⟨v0, d0, rfl, rfl, h0⟩ := trodAll_one hA
    obtain ⟨num, L, hour, AC, AJ, A, cC, cJ, c, cs, J, es, rfl, hC, hJ, hE, hcn, hJn, hen, hwf⟩ := law_arg (hval 0 28 _ rfl rfl) h0
    exact wEdicts AC AJ A cC cJ c num L hour cs J es W.heap.size W hC hJ hE (Nat.le_refl _) hcn hJn hen hwf
theorem proved : Rows.TopEdictsSaid :=
  OpenClaim.holds_of_wide 3 Tryz.f3 rfl rfl rfl rfl rfl rfl rfl ⟨rfl, rfl, rfl, rfl, rfl⟩ rfl rfl rfl rfl rfl (by kernel_rfl) Tryz.func3 (by kernel_rfl)
    (of_decide_eq_true (by kernel_rfl)) (by unfold Func.isWrapper; rw [if_neg (of_decide_eq_false (by kernel_rfl))]; exact ⟨rfl, rfl⟩)
    (fun os started H enc _ => lifted os started H enc)
end LawEdicts
end Go.Proofs.YtdmmcdbojmalfaaGreat
