/- The contract of the reference's Dimmed: what its drawn region wants. -/
import Derived.Test.YtihhfelhdgmceaaDim1
import Derived.Deep.RegionLawGrows
import Derived.Deep.RegionHeld3
namespace Go.Proofs.Ytihhfelhdgmceaa
open Go.RowKit
/-- 'append([]int{}, xs...)' as one step of a region that draws. -/
theorem step_copy {ops : Array Oper} {o : Oper} {a : Act} {w : World} {K : Act → World → Prop} {Q : Exit → Act → World → Prop} {E : Prop}
    (hg : o.guard = none) (s x : Operand) (hop : o.op = Op.call { callee := Callee.builtin Builtin.append, args := #[s, x], argTypes := #[22, 22] })
    (ao : Option Addr) (hs : a.eval s = .slice ao 0 0) (A : Option Addr) (c B : Nat) (xs : List Int) (hx : a.eval x = .slice A xs.length c) (hI : Ints w B A xs) (h0 : 0 < xs.length) (hn : xs.length ≤ 40)
    (hK : ∀ (A' : Option Addr) (c' : Nat) (w' : World), IntsN w' w.heap.size none A' xs → Below w.heap.size w w' → K (a.put o.dst (.slice A' xs.length c')) w') :
    if Region.wanted o (yielded ops a.tmps) = true then Oper.wp Try.prog o a w K Q else E := by
  obtain ⟨i0, hi, hz0, hz2, hz3⟩ := info_parts info3
  obtain ⟨b, off, rfl, _, hc⟩ := hI.at_ h0
  refine step_append_grows hg s x 22 hop 3 i0 (.int .i64 0) 1 8 Try.underlying22 hi hz0 hz2 hz3 rfl (by decide) ao 0 0 [] hs (fun _ => ⟨rfl, rfl⟩) (by simp) (fun _ _ j u h => by simp at h)
    ⟨b, off, none⟩ xs.length c (xs.map (.int .i64)) hx (by simp) (fun j u hu => ?_) (fun u hu => by obtain ⟨y, _, rfl⟩ := List.mem_map.1 hu; rfl) (by omega) (by unfold maxLen; omega) (by omega) (fun v' w' hown hgr => ?_)
  · rw [Addr.add_lit]
    obtain ⟨hj, _⟩ := List.getElem?_eq_some_iff.1 hu
    rw [List.length_map] at hj
    rw [hc j hj]
    have : (xs.map (Value.int .i64))[j]? = some (.int .i64 (at0 xs j)) := by simp [at0, hj]
    rw [this] at hu
    exact hu
  · rw [Nat.zero_add, List.nil_append] at hown
    obtain ⟨g, cap, hv, hg2, hg3⟩ := hown.form h0
    obtain ⟨A', c', rfl, hI'⟩ := owns_ints hown (by simp)
    cases hv
    exact hK _ _ _ (IntsN.of hI' (Nat.le_refl _) (fun a ha => by cases ha; exact ⟨hg2, by simp⟩)) ((Below.refl _ _).grown hgr (Nat.le_refl _) (by simp))
end Go.Proofs.Ytihhfelhdgmceaa
