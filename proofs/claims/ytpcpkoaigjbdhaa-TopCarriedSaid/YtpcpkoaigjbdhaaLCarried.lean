/- Statement TopCarried: for every journey the law returns true: a stretch that is carried at once is what is carried by way of a version between, it comes back without what was lost, lengths add up, and places are carried by steps as at once. No condition. -/
import Derived.Test.YtpcpkoaigjbdhaaTcM
import Derived.Test.YtpcpkoaigjbdhaaArg
namespace Go.Proofs.Ytpcpkoaigjbdhaa
namespace LawCarried
open Go.ChangeShapes Go.WideShapes Go.ChangeAt Go.RowKit
set_option maxRecDepth 100000 in
theorem lifted (os : Os) (started : os.Started) (H : Type) (enc : TypeId × Value → H) :
    ReturnsInHanded {} Try.checked os 3 .any (Rows.topCarriedSpec.pre6 enc Try.prog Try.f3 Rows.topCarriedRow.domain false) (Rows.topCarriedSpec.post enc Try.prog Try.f3 false true false false) := by
  refine returnsInHanded_of_change (C := Try.checked) own started (by kernel_rfl) Try.func3
    (ChangeSpec.witness6 (enc := enc) (C := Try.checked) false ⟨#[], #[.agg #[.int .i64 0, .int .i64 0, .slice none 0 0, .int .i64 0, .int .i64 0, .int .u8 0, .int .u8 0, .int .u8 0]], []⟩ 8 (by kernel_rfl) (by kernel_rfl) (by kernel_rfl) (by kernel_rfl)) ?_
  intro W base args ds gs before hval hW hcnd _
  refine law_contract rfl rfl (by simp; decide +kernel) (fun ds hds => ?_) W base args ds gs before hW fun p hA => ?_
  · match ds, hds with
    | [d1], _ => rfl
  · obtain ⟨v0, d0, rfl, rfl, h0⟩ := trodAll_one hA
    obtain ⟨num, L, a, b, A, cp, cs, m0, m1, m2, rfl, hC, hn, hm0, hm1, hm2⟩ := journey_arg (hval 0 29 _ rfl rfl) h0
    exact wCarried A cp W.heap.size num L a b cs m0 m1 m2 W hC (Nat.le_refl _) hn hm0 hm1 hm2
theorem proved : Rows.TopCarriedSaid :=
  OpenClaim.holds_of_wide 3 Try.f3 rfl rfl rfl rfl rfl rfl rfl ⟨rfl, rfl, rfl, rfl, rfl⟩ rfl rfl rfl rfl rfl (by kernel_rfl) Try.func3 (by kernel_rfl)
    (of_decide_eq_true (by kernel_rfl)) (by unfold Func.isWrapper; rw [if_neg (of_decide_eq_false (by kernel_rfl))]; exact ⟨rfl, rfl⟩)
    (fun os started H enc _ => lifted os started H enc)
end LawCarried
end Go.Proofs.Ytpcpkoaigjbdhaa
