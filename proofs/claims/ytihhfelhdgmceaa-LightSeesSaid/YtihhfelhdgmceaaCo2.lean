/- Contract of the reference's Coefficient. -/
import Derived.Test.YtihhfelhdgmceaaCo1
namespace Go.Proofs.Ytihhfelhdgmceaa
open Go.RowKit
theorem rCoefficient (A0 A1 A2 : Option Addr) (c0 c1 c2 B : Nat) (t : Tb) (o e : Int) (w : World) (h : Tab w B A0 A1 A2 t) (hB : B ≤ w.heap.size) (ht : TabOk t) :
    Calls Try.prog 23 #[.agg #[.slice A0 t.obs.length c0, .slice A1 t.ent.length c1, .slice A2 t.r.length c2], .int .i64 o, .int .i64 e] w fun x w' => x = .returned (.int .i64 (coefF t o e)) ∧ Below w.heap.size w w' := by
  have hT := h.box hB (.cells #[.slice A0 t.obs.length c0, .slice A1 t.ent.length c1, .slice A2 t.r.length c2] 25)
  obtain ⟨q0, q1, q2⟩ := box3 w (.slice A0 t.obs.length c0) (.slice A1 t.ent.length c1) (.slice A2 t.r.length c2) 25
  have hal : Below w.heap.size w (w.alloc (.cells #[.slice A0 t.obs.length c0, .slice A1 t.ent.length c1, .slice A2 t.r.length c2] 25)) := (Below.refl _ _).alloc (Nat.le_refl _) _
  clear h
  generalize hW : w.alloc (.cells #[.slice A0 t.obs.length c0, .slice A1 t.ent.length c1, .slice A2 t.r.length c2] 25) = w0 at hT q0 q1 q2 hal
  have HW := Lib.hid hW
  clear hW
  have h2 := ht.1.1
  have k2 := ht.2.1.1
  obtain ⟨b0, f0, rfl, _, hc0⟩ := hT.o.at_ (k := 0) (by omega)
  have v0 : w0.cell? ⟨b0, f0, none⟩ = some (.int .i64 (at0 t.obs 0)) := hc0 0 (by omega)
  obtain ⟨b1, f1, rfl, _, hc1⟩ := hT.e.at_ (k := 0) (by omega)
  have u0 : w0.cell? ⟨b1, f1, none⟩ = some (.int .i64 (at0 t.ent 0)) := hc1 0 (by omega)
  clear hc0 hc1
  go_enter Try.func23, Try.ntmps23
  go_wp2_with fail
  rw [HW.out]
  go_quiet (fail)
  obtain ⟨w00, hw00⟩ : ∃ wx, wx = w0.drewN nq := ⟨_, rfl⟩
  rw [← hw00]
  have hd : Drew w0 w00 := hw00 ▸ (Drew.refl _).drewN nq
  clear hw00 v0 u0
  replace hT := hd.tab hT
  replace q0 := (hd.cell _).trans q0
  replace q1 := (hd.cell _).trans q1
  replace q2 := (hd.cell _).trans q2
  replace hal := hal.trans (hd.below _)
  clear hd
  go_wp2_with fail
  refine (rcell _ _ _ _ _ _ hT.o ht.1 (by omega)).mono ?_
  rintro x w1 ⟨i, ok, rfl, hno, hyes, rfl⟩
  have HNO := Lib.hid hno
  have HYES := Lib.hid hyes
  clear hno hyes
  go_wp2_with fail
  refine (rcell _ _ _ _ _ _ hT.e ht.2.1 (by omega)).mono ?_
  rintro x w2 ⟨k, ok2, rfl, hno, hyes, rfl⟩
  have HNO2 := Lib.hid hno
  have HYES2 := Lib.hid hyes
  clear hno hyes
  generalize hSg : max o (at0 t.obs 0) = S at HNO HYES ⊢
  generalize hEg : max e (at0 t.ent 0) = E at HNO2 HYES2 ⊢
  have HS : Hid (S = lift t.obs o) := hSg.symm
  have HE : Hid (E = lift t.ent e) := hEg.symm
  clear hSg hEg
  cases ok with
  | false =>
    have HV : Hid (coefF t o e = 0) := coefF_eq ht (.inl ⟨.inl (by
      have h1 := HNO.out.1 (by simp)
      have h3 := HS.out
      have h4 := slopes_lt ht.1 (t.obs.length - 1) 0 (by omega) (by omega)
      unfold lift at h3; unfold top at *; omega), rfl⟩)
    go_wp2
    go_ret
    exact ⟨ret_int HV.out.symm, hal⟩
  | true =>
    cases ok2 with
    | false =>
      have HV : Hid (coefF t o e = 0) := coefF_eq ht (.inl ⟨.inr (by
        have h1 := HNO2.out.1 (by simp)
        have h3 := HE.out
        have h4 := slopes_lt ht.2.1 (t.ent.length - 1) 0 (by omega) (by omega)
        unfold lift at h3; unfold top at *; omega), rfl⟩)
      go_wp2
      go_ret
      exact ⟨ret_int HV.out.symm, hal⟩
    | true =>
      have hbi := HYES.out rfl
      have hbk := HYES2.out rfl
      have HV : Hid (coefF t o e = interp t S E i k) := coefF_eq ht (.inr ⟨fun hh => hh.elim
        (fun h => by
          have h1 : ¬ (true = false) := by simp
          exact h1 (HNO.out.2 (by have h3 := HS.out; unfold lift at h3; omega)))
        (fun h => by
          have h1 : ¬ (true = false) := by simp
          exact h1 (HNO2.out.2 (by have h3 := HE.out; unfold lift at h3; omega))), i, k, by rw [← HS.out]; exact hbi, by rw [← HE.out]; exact hbk, by rw [← HS.out, ← HE.out]⟩)
      clear HYES HYES2 HNO HNO2 HS HE h2 k2
      obtain ⟨i1, i2, i3⟩ := hbi
      obtain ⟨k1, k2, k3⟩ := hbk
      have s0 := ht.1.2.2 i (by omega)
      have s1 := ht.1.2.2 (i + 1) i1
      have s01 := slopes_lt ht.1 (i + 1) i (by omega) i1
      have e0 := ht.2.1.2.2 k (by omega)
      have e1 := ht.2.1.2.2 (k + 1) k1
      have e01 := slopes_lt ht.2.1 (k + 1) k (by omega) k1
      have o6 := ht.1.2.1
      have n6 := ht.2.1.2.1
      have hrl := ht.2.2.1
      have ri := ht.2.2.2 i (by omega)
      have ri1 := ht.2.2.2 (i + 1) (by omega)
      obtain ⟨b0', f0', hAe, _, hc0⟩ := hT.o.at_ (k := 0) (by omega)
      obtain ⟨rfl, rfl⟩ : b0 = b0' ∧ f0 = f0' := by simpa using hAe
      clear hAe
      have v0 := hc0 i (by omega)
      have v1 := hc0 (i + 1) (by omega)
      obtain ⟨b1', f1', hAe, _, hc1⟩ := hT.e.at_ (k := 0) (by omega)
      obtain ⟨rfl, rfl⟩ : b1 = b1' ∧ f1 = f1' := by simpa using hAe
      clear hAe
      have u0 := hc1 k (by omega)
      have u1 := hc1 (k + 1) (by omega)
      obtain ⟨b2, f2, rfl, _, hrows⟩ := hT.r.form (by omega)
      obtain ⟨Ai, Ci, hri, hii⟩ := hrows i (by omega)
      obtain ⟨Aj, Cj, hrj, hij⟩ := hrows (i + 1) (by omega)
      have ll := ri.1
      have ll1 := ri1.1
      obtain ⟨b3, f3, rfl, _, hc3⟩ := hii.at_ (k := k) (by omega)
      obtain ⟨b4, f4, rfl, _, hc4⟩ := hij.at_ (k := k) (by omega)
      have g00 : w00.cell? ⟨b3, f3 + k, none⟩ = some (.int .i64 (cf t i k)) := hc3 k (by omega)
      have g01 : w00.cell? ⟨b3, f3 + (k + 1), none⟩ = some (.int .i64 (cf t i (k + 1))) := hc3 (k + 1) (by omega)
      have g10 : w00.cell? ⟨b4, f4 + k, none⟩ = some (.int .i64 (cf t (i + 1) k)) := hc4 k (by omega)
      have g11 : w00.cell? ⟨b4, f4 + (k + 1), none⟩ = some (.int .i64 (cf t (i + 1) (k + 1))) := hc4 (k + 1) (by omega)
      have p00 := ri.2 k (by omega)
      have p01 := ri.2 (k + 1) (by omega)
      have p10 := ri1.2 k (by omega)
      have p11 := ri1.2 (k + 1) (by omega)
      unfold coefAt at p00 p01 p10 p11
      unfold slopeAt at s0 s1 e0 e1
      have lr0 : i + 1 < t.r.length := by omega
      have lr1 : k + 1 < (at1 t.r i).length := by omega
      have lr2 : k + 1 < (at1 t.r (i + 1)).length := by omega
      have lr3 : (at1 t.r i).length ≤ 6 := by omega
      have lr4 : (at1 t.r (i + 1)).length ≤ 6 := by omega
      have lr5 : t.r.length ≤ 6 := by omega
      clear hc0 hc1 hc3 hc4 hrows hii hij ll ll1 ri ri1 hrl ht hT
      obtain ⟨a, ha⟩ : ∃ a, S - at0 t.obs i = a := ⟨_, rfl⟩
      obtain ⟨b, hb⟩ : ∃ b, at0 t.obs (i + 1) - S = b := ⟨_, rfl⟩
      obtain ⟨c, hc⟩ : ∃ c, E - at0 t.ent k = c := ⟨_, rfl⟩
      obtain ⟨d, hd⟩ : ∃ d, at0 t.ent (k + 1) - E = d := ⟨_, rfl⟩
      have HV2 : Hid (coefF t o e = mix (cf t i k) (cf t i (k + 1)) (cf t (i + 1) k) (cf t (i + 1) (k + 1)) a b c d) := by rw [← ha, ← hb, ← hc, ← hd]; exact HV.out
      have sS : 1 ≤ S ∧ S ≤ 1000000 := by omega
      have sE : 1 ≤ E ∧ E ≤ 1000000 := by omega
      obtain ⟨sS1, sS2⟩ := sS
      obtain ⟨sE1, sE2⟩ := sE
      have ka : 0 ≤ a ∧ a ≤ 1000000 ∧ 0 ≤ b ∧ b ≤ 1000000 ∧ 1 ≤ a + b := by omega
      have kc : 0 ≤ c ∧ c ≤ 1000000 ∧ 0 ≤ d ∧ d ≤ 1000000 ∧ 1 ≤ c + d := by omega
      obtain ⟨a0, a1, bb0, bb1, ab⟩ := ka
      obtain ⟨cc0, cc1, d0, d1, cd⟩ := kc
      obtain ⟨m1, m2, m3, m4⟩ := mul3_bd p00.1 p00.2.1 bb0 bb1 d0 d1
      obtain ⟨m5, m6, m7, m8⟩ := mul3_bd p01.1 p01.2.1 bb0 bb1 cc0 cc1
      obtain ⟨m9, m10, m11, m12⟩ := mul3_bd p10.1 p10.2.1 a0 a1 d0 d1
      obtain ⟨m13, m14, m15, m16⟩ := mul3_bd p11.1 p11.2.1 a0 a1 cc0 cc1
      obtain ⟨z1, z2⟩ := mul2_bd ab (by omega) cd (by omega)
      have z3 := s0.2.1
      have z4 := s0.1
      have z5 := s1.2.1
      have z6 := e0.1
      have z7 := e1.2.1
      clear s0 s1 e0 e1 p00 p01 p10 p11 HV
      go_wp2_with fail
      go_quiet (fail)
      go_wp2_with fail
      go_quiet (fail)
      go_wp2_with fail
      go_quiet (fail)
      go_wp2
      go_ret
      exact ⟨ret_int (by rw [HV2.out]; rfl), below_drewN hal _⟩
end Go.Proofs.Ytihhfelhdgmceaa
