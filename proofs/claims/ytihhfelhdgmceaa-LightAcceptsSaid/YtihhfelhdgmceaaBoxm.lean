/- Corners of a box and the places halfway between two of them lie inside. Plain mathematics. -/
import Derived.Test.YtihhfelhdgmceaaLins
namespace Go.Proofs.Ytihhfelhdgmceaa
theorem turnF_cyc (a b c : Int × Int) : turnF a b c = turnF c a b := by
  unfold turnF
  simp only [Int.sub_mul, Int.mul_sub]
  have h1 := Int.mul_comm a.1 b.2
  have h2 := Int.mul_comm a.1 c.2
  have h3 := Int.mul_comm b.1 c.2
  have h4 := Int.mul_comm a.2 b.1
  have h5 := Int.mul_comm a.2 c.1
  have h6 := Int.mul_comm b.2 c.1
  have h7 := Int.mul_comm a.1 a.2
  have h8 := Int.mul_comm b.1 b.2
  have h9 := Int.mul_comm c.1 c.2
  omega
theorem turnF_aab (a b : Int × Int) : turnF a b a = 0 := by
  unfold turnF
  simp only [Int.sub_mul, Int.mul_sub]
  have h1 := Int.mul_comm a.1 b.2
  have h4 := Int.mul_comm a.2 b.1
  have h7 := Int.mul_comm a.1 a.2
  have h8 := Int.mul_comm b.1 b.2
  omega
theorem turnF_abb (a b : Int × Int) : turnF a b b = 0 := by simp [turnF]
theorem corner_in {x : Bx} (h : ∀ j, j < 4 → cvx x j) (i : Nat) (hi : i < 4) : ∀ j, j < 4 → inn x (x.V i) j := by
  intro j hj
  unfold inn
  have c0 := h j hj
  have c3 := h ((j + 3) % 4) (by omega)
  unfold cvx at c0 c3
  have hm : i = j ∨ i = (j + 1) % 4 ∨ i = (j + 2) % 4 ∨ i = (j + 3) % 4 := by omega
  rcases hm with rfl | rfl | rfl | rfl
  · rw [turnF_aab]; exact Int.le_refl _
  · rw [V_mod (x := x) (i := (j + 1) % 4) (j := j + 1) (by omega), turnF_abb]; exact Int.le_refl _
  · rw [V_mod (x := x) (i := (j + 2) % 4) (j := j + 2) (by omega)]; omega
  · rw [V_mod (x := x) (i := (j + 3) % 4 + 1) (j := j) (by omega), V_mod (x := x) (i := (j + 3) % 4 + 2) (j := j + 1) (by omega)] at c3
    rw [turnF_cyc]; omega
theorem turnF_mid (u v a b m : Int × Int) (h1 : 2 * m.1 = a.1 + b.1) (h2 : 2 * m.2 = a.2 + b.2) : 2 * turnF u v m = turnF u v a + turnF u v b := by
  unfold turnF
  have e1 : 2 * ((v.1 - u.1) * (m.2 - v.2)) = (v.1 - u.1) * (2 * m.2 - 2 * v.2) := by rw [← Int.mul_assoc, Int.mul_comm 2, Int.mul_assoc, Int.mul_sub]
  have e2 : 2 * ((v.2 - u.2) * (m.1 - v.1)) = (v.2 - u.2) * (2 * m.1 - 2 * v.1) := by rw [← Int.mul_assoc, Int.mul_comm 2, Int.mul_assoc, Int.mul_sub]
  rw [Int.mul_sub, e1, e2, h1, h2]
  simp only [Int.sub_mul, Int.mul_sub, Int.mul_add]
  have g1 := Int.mul_comm v.1 (2 * v.2)
  have g2 := Int.mul_comm u.1 (2 * v.2)
  have g3 := Int.mul_comm v.2 (2 * v.1)
  have g4 := Int.mul_comm u.2 (2 * v.1)
  rw [Int.mul_assoc] at g1 g2 g3 g4
  have k1 := Int.mul_comm v.1 v.2
  have k2 := Int.mul_comm u.1 v.2
  have k3 := Int.mul_comm u.2 v.1
  omega
theorem mid_in {x : Bx} (h : ∀ j, j < 4 → cvx x j) {i k : Nat} (hi : i < 4) (hk : k < 4) {m : Int × Int} (h1 : 2 * m.1 = (x.V i).1 + (x.V k).1) (h2 : 2 * m.2 = (x.V i).2 + (x.V k).2) : ∀ j, j < 4 → inn x m j := by
  intro j hj
  have a := corner_in h i hi j hj
  have b := corner_in h k hk j hj
  unfold inn at *
  have := turnF_mid (x.V j) (x.V (j + 1)) _ _ m h1 h2
  omega
end Go.Proofs.Ytihhfelhdgmceaa
