/- Contract of first: the chapter's examples. -/
import Derived.Test.YtihhfelhdgmceaaCo3
import Derived.Test.YtihhfelhdgmceaaAge
namespace Go.Proofs.Ytihhfelhdgmceaa
open Go.RowKit
def tb0 : Tb := ⟨[3500, 17500], [90000, 580000], [[250, 110], [80, 10]]⟩
theorem tb0_ok : TabOk tb0 := by
  refine ⟨⟨by decide, by decide, ?_⟩, ⟨by decide, by decide, ?_⟩, rfl, ?_⟩
  · intro i hi
    have : i = 0 ∨ i = 1 := by simp [tb0] at hi; omega
    rcases this with rfl | rfl <;> (unfold slopeAt; decide)
  · intro i hi
    have : i = 0 ∨ i = 1 := by simp [tb0] at hi; omega
    rcases this with rfl | rfl <;> (unfold slopeAt; decide)
  · intro i hi
    have : i = 0 ∨ i = 1 := by simp [tb0] at hi; omega
    rcases this with rfl | rfl
    · refine ⟨rfl, fun k hk => ?_⟩
      have : k = 0 ∨ k = 1 := by simp [tb0] at hk; omega
      rcases this with rfl | rfl <;> (unfold coefAt; decide)
    · refine ⟨rfl, fun k hk => ?_⟩
      have : k = 0 ∨ k = 1 := by simp [tb0] at hk; omega
      rcases this with rfl | rfl <;> (unfold coefAt; decide)
theorem tb0_coef : coefF tb0 10500 90000 = 165 :=
  coefF_eq tb0_ok (.inr ⟨by decide, 0, 0, ⟨by decide, by decide, by decide⟩, ⟨by decide, by decide, by decide⟩, by decide⟩)
theorem tb0_small : Small tb0 := by
  refine ⟨by decide, by decide, by decide, fun i hi => ?_⟩
  have : i = 0 ∨ i = 1 := by simp [tb0] at hi; omega
  rcases this with rfl | rfl <;> decide
theorem two_ints {w : World} {B b : Nat} {x y : Int} (hb : b < B) (h0 : w.cell? ⟨b, 0, none⟩ = some (.int .i64 x)) (h1 : w.cell? ⟨b, 1, none⟩ = some (.int .i64 y)) : Ints w B (some ⟨b, 0, none⟩) [x, y] :=
  .inr ⟨b, 0, rfl, hb, fun j hj => by
    have : j = 0 ∨ j = 1 := by simp at hj; omega
    rcases this with rfl | rfl
    · exact h0
    · exact h1⟩
theorem tb0_tab {W : World} {n : Nat} (a0 : W.cell? ⟨n, 0, none⟩ = some (.int .i64 3500)) (a1 : W.cell? ⟨n, 1, none⟩ = some (.int .i64 17500))
    (b0 : W.cell? ⟨n + 1, 0, none⟩ = some (.int .i64 90000)) (b1 : W.cell? ⟨n + 1, 1, none⟩ = some (.int .i64 580000))
    (c0 : W.cell? ⟨n + 1 + 1, 0, none⟩ = some (.int .i64 250)) (c1 : W.cell? ⟨n + 1 + 1, 1, none⟩ = some (.int .i64 110))
    (d0 : W.cell? ⟨n + 1 + 1 + 1, 0, none⟩ = some (.int .i64 80)) (d1 : W.cell? ⟨n + 1 + 1 + 1, 1, none⟩ = some (.int .i64 10))
    (e0 : W.cell? ⟨n + 1 + 1 + 1 + 1, 0, none⟩ = some (.slice (some ⟨n + 1 + 1, 0, none⟩) 2 2)) (e1 : W.cell? ⟨n + 1 + 1 + 1 + 1, 1, none⟩ = some (.slice (some ⟨n + 1 + 1 + 1, 0, none⟩) 2 2)) :
    Tab W (n + 5) (some ⟨n, 0, none⟩) (some ⟨n + 1, 0, none⟩) (some ⟨n + 1 + 1 + 1 + 1, 0, none⟩) tb0 := by
  refine ⟨two_ints (by omega) a0 a1, two_ints (by omega) b0 b1, .inr ⟨n + 1 + 1 + 1 + 1, 0, fun j => if j = 0 then some ⟨n + 1 + 1, 0, none⟩ else some ⟨n + 1 + 1 + 1, 0, none⟩, fun _ => 2, rfl, by omega, fun j hj => ?_⟩⟩
  have : j = 0 ∨ j = 1 := by simp [tb0] at hj; omega
  rcases this with rfl | rfl
  · exact ⟨e0, two_ints (by omega) c0 c1⟩
  · exact ⟨e1, two_ints (by omega) d0 d1⟩
theorem lfirst (w : World) : Calls Try.prog 20 #[] w fun e w' => e = .returned (.bool true) ∧ Below w.heap.size w w' := by
  go_enter Try.func20, Try.ntmps20
  go_wp2_with fail
  refine (lCoefficient _ _ _ _ _ _ (w.heap.size + 5) tb0 10500 90000 _ (tb0_tab ?_ ?_ ?_ ?_ ?_ ?_ ?_ ?_ ?_ ?_) (by simp) tb0_small).mono ?_
  iterate 10 (simp [go_sem])
  rintro x w1 ⟨_, _, h3, hb⟩
  rw [h3 tb0_ok (by decide), tb0_coef]
  have hb1 : Below w.heap.size w w1 := ((((((Below.refl _ _).alloc (Nat.le_refl _) _).alloc (by simp) _).alloc (by simp; omega) _).alloc (by simp; omega) _).alloc (by simp; omega) _ |>.alloc (by simp; omega) _).trans (hb.mono (by simp; omega))
  clear hb h3
  simp only [pair]
  go_wp2_with fail
  refine (lAged _ _ _ _).mono ?_
  rintro x w2 ⟨h1, _, rfl⟩
  rw [h1 ⟨by decide, by decide, by decide⟩]
  clear h1
  rw [show agedF 900 (2 : Int).toNat 250 = 202 from by decide]
  go_wp2
  go_ret
  exact ⟨rfl, hb1⟩
end Go.Proofs.Ytihhfelhdgmceaa
