/- The plain law of LightPlates. -/
import Derived.Test.YtihhfelhdgmceaaCor1
namespace Go.Proofs.Ytihhfelhdgmceaa
open Go.RowKit
/-- The lower reading. -/
def lowK (v q : Int) : Int := max 1 (v - q % (v / 20 + 1))
theorem lowK_bd {v q : Int} (v0 : 1 ≤ v) : 1 ≤ lowK v q ∧ lowK v q ≤ v := by
  have h : 0 ≤ q % (v / 20 + 1) := Int.emod_nonneg _ (by omega)
  unfold lowK
  omega
theorem cor_same {xs : List (Int × Int)} {f l : Int × Int} {r : Int} (h : CorOk xs f l r) : CorOk xs (f.1, r) (l.1, r) r := by
  obtain ⟨⟨a, b, c, d, e, g⟩, h2⟩ := h
  exact ⟨⟨a, b, b, b, e, g⟩, h2⟩
theorem far_same {r : Int} (h : 1 ≤ r) : farFrom r r = false := by
  unfold farFrom
  rw [decide_eq_false_iff_not]
  omega
theorem cor_low {xs : List (Int × Int)} {f l : Int × Int} {r K : Int} (h : CorOk xs f l r) (k0 : 1 ≤ K) (k1 : K ≤ l.2) : CorOk xs f (l.1, K) r := by
  obtain ⟨⟨a, b, c, d, e, g⟩, h2⟩ := h
  exact ⟨⟨a, b, c, ⟨k0, by have := d.2; omega⟩, e, g⟩, h2⟩
theorem corAt_same {xs : List (Int × Int)} {f l x : Int × Int} {r : Int} (h : CorArg xs f l r) : corAt (f.1, r) (l.1, r) r x = x.2 := by
  obtain ⟨a, ⟨r0, r1⟩, c, d, e, g0, g1⟩ := h
  unfold corAt plateAt
  simp only
  rw [← Int.mul_add, show l.1 - x.1 + (x.1 - f.1) = l.1 - f.1 by omega, Int.mul_assoc]
  exact Int.mul_ediv_cancel _ (by
    intro h
    rcases Int.mul_eq_zero.1 h with h | h <;> omega)
theorem corAt_low {xs : List (Int × Int)} {f l x : Int × Int} {r K : Int} (h : CorArg xs f l r) (hx : readOk f l x) (k0 : 1 ≤ K) (k1 : K ≤ l.2) : corAt f l r x ≤ corAt f (l.1, K) r x := by
  have hb := cor_bd h hx
  have h' : CorArg xs f (l.1, K) r := by
    obtain ⟨a, b, c, d, e, g⟩ := h
    exact ⟨a, b, c, ⟨k0, by have := d.2; omega⟩, e, g⟩
  have hb' := cor_bd (x := x) h' hx
  obtain ⟨_, _, ⟨p0, _⟩, _, n0, _⟩ := hb
  obtain ⟨_, _, ⟨p0', _⟩, _, _, _⟩ := hb'
  have hp : plateAt f (l.1, K) x ≤ plateAt f l x := by
    unfold plateAt
    have := Int.mul_le_mul_of_nonneg_right k1 (show 0 ≤ x.1 - f.1 by have := hx.2.1; omega)
    simp only
    omega
  unfold corAt
  simp only
  refine (Int.le_ediv_iff_mul_le (by omega)).2 ?_
  have h1 : x.2 * r * (l.1 - f.1) / plateAt f l x * plateAt f (l.1, K) x ≤ x.2 * r * (l.1 - f.1) / plateAt f l x * plateAt f l x :=
    Int.mul_le_mul_of_nonneg_left hp (Int.ediv_nonneg n0 (by omega))
  have h2 := Int.ediv_mul_le (x.2 * r * (l.1 - f.1)) (show plateAt f l x ≠ 0 by omega)
  omega
end Go.Proofs.Ytihhfelhdgmceaa
