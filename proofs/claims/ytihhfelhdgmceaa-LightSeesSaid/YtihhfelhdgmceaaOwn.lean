/- An own row of ints, handed out. -/
import Derived.Test.YtihhfelhdgmceaaBase
import Derived.Deep.AppendLies
namespace Go.Proofs.Ytihhfelhdgmceaa
open Go.RowKit
theorem owns_ints {w : World} {base : Nat} {v : Value} {k : Nat} {ys : List Int} (h : w.ownsRow base 3 1 v k (ys.map (.int .i64))) (hl : ys.length = k) : ∃ (A : Option Addr) (c : Nat), v = .slice A k c ∧ Ints w w.heap.size A ys := by
  by_cases h0 : v.ownBlock = none
  · rcases h.2 with ⟨rfl, hk⟩ | ⟨g, cap, cur, rfl, _⟩
    · subst hk
      exact ⟨none, 0, rfl, .inl (List.eq_nil_of_length_eq_zero hl)⟩
    · simp [Value.ownBlock] at h0
  · rcases h.2 with ⟨rfl, hk⟩ | ⟨g, cap, cur, rfl, _, _⟩
    · simp [Value.ownBlock] at h0
    · refine ⟨_, cap, rfl, .inr ⟨g, 0, rfl, (h.lt g rfl).2, fun j hj => ?_⟩⟩
      have := h.cells (g := g) rfl j (.int .i64 (at0 ys j)) (by simp [at0, hj])
      rwa [Go.WideShapes.add_plain] at this
end Go.Proofs.Ytihhfelhdgmceaa
