/- Contract of light.Coefficient. -/
import Derived.Test.YtihhfelhdgmceaaCo1
namespace Go.Proofs.Ytihhfelhdgmceaa
open Go.RowKit
def pair (a b : Int) : Ending := .returned (.tuple #[.int .i64 a, .int .i64 b])
def CoefRes (t : Tb) (o e : Int) (w : World) (x : Ending) (w' : World) : Prop :=
  (¬ TabOk t → x = pair 0 30) ∧ (TabOk t → (o < 0 ∨ e < 0) → x = pair 0 2) ∧ (TabOk t → ¬ (o < 0 ∨ e < 0) → x = pair (coefF t o e) 0) ∧ Below w.heap.size w w'
theorem lCoefficient (A0 A1 A2 : Option Addr) (c0 c1 c2 B : Nat) (t : Tb) (o e : Int) (w : World) (h : Tab w B A0 A1 A2 t) (hB : B ≤ w.heap.size) (hn : Small t) :
    Calls Try.prog 21 #[.agg #[.slice A0 t.obs.length c0, .slice A1 t.ent.length c1, .slice A2 t.r.length c2], .int .i64 o, .int .i64 e] w (CoefRes t o e w) := by
  have hT := h.box hB (.cells #[.slice A0 t.obs.length c0, .slice A1 t.ent.length c1, .slice A2 t.r.length c2] 25)
  obtain ⟨q0, q1, q2⟩ := box3 w (.slice A0 t.obs.length c0) (.slice A1 t.ent.length c1) (.slice A2 t.r.length c2) 25
  have hal : Below w.heap.size w (w.alloc (.cells #[.slice A0 t.obs.length c0, .slice A1 t.ent.length c1, .slice A2 t.r.length c2] 25)) := (Below.refl _ _).alloc (Nat.le_refl _) _
  have hsz : (w.alloc (.cells #[.slice A0 t.obs.length c0, .slice A1 t.ent.length c1, .slice A2 t.r.length c2] 25)).heap.size = w.heap.size + 1 := by simp
  clear h
  by_cases ht : TabOk t
  · have e1 := tabB_t ht
    by_cases h0 : o < 0 ∨ e < 0
    · have H0 := Lib.hid h0
      by_cases ho : o < 0
      · go_enter Try.func21, Try.ntmps21
        go_wp2_with fail
        refine (lValidTable _ _ _ _ _ _ _ _ _ hT (by simp; omega) hn).mono ?_
        rintro x w1 ⟨rfl, hb1⟩
        go_wp2
        go_ret2
        exact ⟨fun h => absurd ht h, fun _ _ => rfl, fun _ h => absurd H0.out h, hal.trans (hb1.mono (by simp))⟩
      · have he : e < 0 := by omega
        go_enter Try.func21, Try.ntmps21
        go_wp2_with fail
        refine (lValidTable _ _ _ _ _ _ _ _ _ hT (by simp; omega) hn).mono ?_
        rintro x w1 ⟨rfl, hb1⟩
        go_wp2
        go_ret2
        exact ⟨fun h => absurd ht h, fun _ _ => rfl, fun _ h => absurd H0.out h, hal.trans (hb1.mono (by simp))⟩
    · have ho : 0 ≤ o := by omega
      have he : 0 ≤ e := by omega
      go_enter Try.func21, Try.ntmps21
      go_wp2_with fail
      refine (lValidTable _ _ _ _ _ _ _ _ _ hT (by simp; omega) hn).mono ?_
      rintro x w1 ⟨rfl, hb1⟩
      have r0 := (hb1.cell (p := ⟨w.heap.size, 0, none⟩) (by simp)).trans q0
      have r1 := (hb1.cell (p := ⟨w.heap.size, 1, none⟩) (by simp)).trans q1
      have r2 := (hb1.cell (p := ⟨w.heap.size, 2, none⟩) (by simp)).trans q2
      have hz := hb1.size
      rw [hsz] at hz
      have hT1 := hT.keep fun p hp => hb1.cell (p := p) (by simp; omega)
      have hb2 := hal.trans (hb1.mono (by simp))
      clear hb1 q0 q1 q2 hT
      go_wp2_with fail
      refine (lcoefficient _ _ _ _ _ _ _ _ _ _ _ hT1 (by omega) ht).mono ?_
      rintro x w2 ⟨rfl, hb3⟩
      go_wp2
      go_ret2
      exact ⟨fun h => absurd ht h, fun _ h => absurd h (by omega), fun _ _ => rfl, hb2.trans (hb3.mono (by omega))⟩
  · have e1 := tabB_f ht
    go_enter Try.func21, Try.ntmps21
    go_wp2_with fail
    refine (lValidTable _ _ _ _ _ _ _ _ _ hT (by simp; omega) hn).mono ?_
    rintro x w1 ⟨rfl, hb1⟩
    go_wp2
    go_ret2
    exact ⟨fun _ => rfl, fun h => absurd h ht, fun h => absurd h ht, hal.trans (hb1.mono (by simp))⟩
end Go.Proofs.Ytihhfelhdgmceaa
