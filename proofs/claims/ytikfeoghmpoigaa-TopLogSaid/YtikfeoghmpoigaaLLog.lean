/- Statement TopLog: for every script the law returns true: a log has, behind any losses of power, the entries of all Puts that returned OK, in order, and for each loss at most the one that was under way behind them. No condition. -/
import Derived.Test.YtikfeoghmpoigaaWLog
import Derived.Test.YtikfeoghmpoigaaLgA
namespace Go.Proofs.Ytikfeoghmpoigaa
namespace LawLog
open Go.ChangeShapes Go.WideShapes Go.ChangeAt Go.RowKit
set_option maxRecDepth 100000 in
theorem lifted (os : Os) (started : os.Started) (H : Type) (enc : TypeId × Value → H) :
    ReturnsInHanded {} Try.checked os 3 .any (Rows.topLogSpec.pre6 enc Try.prog Try.f3 Rows.topLogRow.domain false) (Rows.topLogSpec.post enc Try.prog Try.f3 false true false false) := by
  refine returnsInHanded_of_change (C := Try.checked) own started (by kernel_rfl) Try.func3
    (ChangeSpec.witness6 (enc := enc) (C := Try.checked) false ⟨#[], #[.slice none 0 0], []⟩ 8 (by kernel_rfl) (by kernel_rfl) (by kernel_rfl) (by kernel_rfl)) ?_
  intro W base args ds gs before hval hW hcnd _
  refine law_contract rfl rfl (by simp; decide +kernel) (fun ds hds => ?_) W base args ds gs before hW fun p hA => ?_
  · match ds, hds with
    | [d1], _ => rfl
  · obtain ⟨v0, d0, rfl, rfl, h0⟩ := trodAll_one hA
    obtain ⟨A, cp, xs, rfl, hS, hn, hel⟩ := log_arg (hval 0 22 _ rfl rfl) h0
    exact wLog A cp xs W hS hn hel
theorem proved : Rows.TopLogSaid :=
  OpenClaim.holds_of_wide 3 Try.f3 rfl rfl rfl rfl rfl rfl rfl ⟨rfl, rfl, rfl, rfl, rfl⟩ rfl rfl rfl rfl rfl (by kernel_rfl) Try.func3 (by kernel_rfl)
    (of_decide_eq_true (by kernel_rfl)) (by unfold Func.isWrapper; rw [if_neg (of_decide_eq_false (by kernel_rfl))]; exact ⟨rfl, rfl⟩)
    (fun os started H enc _ => lifted os started H enc)
end LawLog
end Go.Proofs.Ytikfeoghmpoigaa
