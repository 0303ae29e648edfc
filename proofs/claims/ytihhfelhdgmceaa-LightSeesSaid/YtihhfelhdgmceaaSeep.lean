/- The plain law of LightSees. -/
import Derived.Test.YtihhfelhdgmceaaMono
import Derived.Test.YtihhfelhdgmceaaLeg2
import Derived.Test.YtihhfelhdgmceaaRead
namespace Go.Proofs.Ytihhfelhdgmceaa
open Go.RowKit
/-- The first k rows of the worse table. -/
def worTo (t : Tb) (less : Int) (k : Nat) : List (List Int) := (List.range k).map fun j => (at1 t.r j).map fun r => max 0 (r - less)
theorem worTo_length (t : Tb) (less : Int) (k : Nat) : (worTo t less k).length = k := by simp [worTo]
theorem worTo_succ (t : Tb) (less : Int) (k : Nat) : worTo t less (k + 1) = worTo t less k ++ [(at1 t.r k).map fun r => max 0 (r - less)] := by simp [worTo, List.range_succ]
def worT (t : Tb) (less : Int) : Tb := ⟨t.obs, t.ent, worTo t less t.r.length⟩
theorem wor_row (t : Tb) (less : Int) {i : Nat} (hi : i < t.r.length) : at1 (worT t less).r i = (at1 t.r i).map fun r => max 0 (r - less) := by simp [worT, worTo, at1, hi]
theorem wor_cf (t : Tb) (less : Int) {i k : Nat} (hi : i < t.r.length) (hk : k < (at1 t.r i).length) : cf (worT t less) i k = max 0 (cf t i k - less) := by
  unfold cf
  rw [wor_row t less hi]
  simp [at0, hk]
theorem wor_ok {t : Tb} {less : Int} (h : TabOk t) (hl : 0 ≤ less) : TabOk (worT t less) := by
  obtain ⟨h1, h2, h3, h4⟩ := h
  refine ⟨h1, h2, (worTo_length t less t.r.length).trans h3, fun i hi => ?_⟩
  have hi' : i < t.r.length := by rw [show (worT t less).r.length = t.r.length from worTo_length ..] at hi; exact hi
  obtain ⟨hr, hc⟩ := h4 i hi'
  refine ⟨by rw [wor_row t less hi', List.length_map]; exact hr, fun k hk => ?_⟩
  have hk : k < t.ent.length := hk
  obtain ⟨a, b, c, d⟩ := hc k hk
  unfold coefAt
  rw [wor_cf t less hi' (by omega)]
  refine ⟨by omega, by omega, fun hk0 => ?_, fun hi0 => ?_⟩
  · rw [wor_cf t less hi' (by omega)]
    have := c hk0
    omega
  · obtain ⟨hr', _⟩ := h4 (i - 1) (by omega)
    rw [wor_cf t less (i := i - 1) (by omega) (by omega)]
    have := d hi0
    omega
theorem wor_le {t : Tb} {less : Int} (h : TabOk t) (hl : 0 ≤ less) {i k : Nat} (hi : i < t.obs.length) (hk : k < t.ent.length) : cf (worT t less) i k ≤ cf t i k := by
  have hi' : i < t.r.length := by rw [h.2.2.1]; exact hi
  obtain ⟨hr, hc⟩ := h.2.2.2 i hi'
  rw [wor_cf t less hi' (by omega)]
  have := (hc k hk).1
  omega
theorem mix_le {r00 r01 r10 r11 s00 s01 s10 s11 a b c d : Int} (h0 : s00 ≤ r00) (h1 : s01 ≤ r01) (h2 : s10 ≤ r10) (h3 : s11 ≤ r11) (ha : 0 ≤ a) (hb : 0 ≤ b) (hc : 0 ≤ c) (hd : 0 ≤ d) (hab : 0 < a + b) (hcd : 0 < c + d) :
    mix s00 s01 s10 s11 a b c d ≤ mix r00 r01 r10 r11 a b c d := by
  unfold mix
  apply Int.ediv_le_ediv (Int.mul_pos hab hcd)
  have p0 := Int.mul_le_mul_of_nonneg_right (Int.mul_le_mul_of_nonneg_right h0 hb) hd
  have p1 := Int.mul_le_mul_of_nonneg_right (Int.mul_le_mul_of_nonneg_right h1 hb) hc
  have p2 := Int.mul_le_mul_of_nonneg_right (Int.mul_le_mul_of_nonneg_right h2 ha) hd
  have p3 := Int.mul_le_mul_of_nonneg_right (Int.mul_le_mul_of_nonneg_right h3 ha) hc
  omega
theorem wor_coef {t : Tb} {less : Int} (h : TabOk t) (hl : 0 ≤ less) (o e : Int) : coefF (worT t less) o e ≤ coefF t o e := by
  rcases coefF_is h o e with ⟨hh, hv⟩ | ⟨hh, i, k, hi, hk, hv⟩
  · have : CoefIs (worT t less) o e 0 := .inl ⟨hh, rfl⟩
    rw [coefF_eq (wor_ok h hl) this, hv]
    exact Int.le_refl _
  · have : CoefIs (worT t less) o e (interp (worT t less) (lift t.obs o) (lift t.ent e) i k) := .inr ⟨hh, i, k, hi, hk, rfl⟩
    rw [coefF_eq (wor_ok h hl) this, hv]
    obtain ⟨i1, i2, i3⟩ := hi
    obtain ⟨k1, k2, k3⟩ := hk
    have s1 := slopes_lt h.1 (i + 1) i (by omega) i1
    have s2 := slopes_lt h.2.1 (k + 1) k (by omega) k1
    exact mix_le (a := lift t.obs o - at0 t.obs i) (b := at0 t.obs (i + 1) - lift t.obs o) (c := lift t.ent e - at0 t.ent k) (d := at0 t.ent (k + 1) - lift t.ent e) (wor_le h hl (by omega) (by omega)) (wor_le h hl (by omega) (by omega)) (wor_le h hl (by omega) (by omega)) (wor_le h hl (by omega) (by omega)) (by omega) (by omega) (by omega) (by omega) (by omega) (by omega)
/-- A better view of a scene. -/
theorem wor_ok_leg {t : Tb} {s s' : Sc} {less need need' letter letter' : Int} (h : TabOk t) (hs : SceneOk s) (hl : 0 ≤ less) (h1 : s'.rise = s.rise) (h2 : s'.side = s.side) (h3 : s'.turn = s.turn) (h4 : s.power ≤ s'.power) (hn : need' ≤ need) (hle : letter ≤ letter') {d : Nat} (hd : 1 ≤ d)
    (hk : legOk (worT t less) s need letter d = true) : legOk t s' need' letter' d = true := by
  simp only [legOk, Bool.and_eq_true, decide_eq_true_eq] at hk ⊢
  obtain ⟨a, b⟩ := hk
  refine ⟨by omega, ?_⟩
  have hc0 := (coefF_bd (wor_ok h hl) (upF (s.rise * 1000) d) (upF (s.side * 1000) d + s.turn)).1
  have hc := wor_coef h hl (upF (s.rise * 1000) d) (upF (s.side * 1000) d + s.turn)
  have hp0 := hs.2.2.2.1
  have : brightF (worT t less) s d ≤ brightF t s' d := by
    unfold brightF
    rw [h1, h2, h3]
    have hdd : (0 : Int) < (d : Int) * d := Int.mul_pos (by omega) (by omega)
    exact Int.ediv_le_ediv hdd (Int.le_trans (Int.mul_le_mul_of_nonneg_left hc hp0) (Int.mul_le_mul_of_nonneg_right h4 (Int.le_trans hc0 hc)))
  omega
/-- A metre within spans. -/
def inS (ps : List (Int × Int)) (d : Nat) : Prop := ∃ j, j < ps.length ∧ (atp ps j).1 ≤ d ∧ (d : Int) < (atp ps j).2
theorem atp_app_l {ps qs : List (Int × Int)} {j : Nat} (h : j < ps.length) : atp (ps ++ qs) j = atp ps j := by simp [atp, List.getElem?_append_left h]
theorem atp_app_r {ps : List (Int × Int)} {q : Int × Int} : atp (ps ++ [q]) ps.length = q := by simp [atp]
theorem atp_set_eq {ps : List (Int × Int)} {j : Nat} {q : Int × Int} (h : j < ps.length) : atp (ps.set j q) j = q := by simp [atp, h]
theorem atp_set_ne {ps : List (Int × Int)} {i j : Nat} {q : Int × Int} (h : i ≠ j) : atp (ps.set i q) j = atp ps j := by simp [atp, List.getElem?_set_ne h]
/-- What the list of spans is after n metres: they ascend, end at n + 1 at the latest, and hold the legible metres. -/
structure SpanInv (ok : Nat → Bool) (n : Nat) (ps : List (Int × Int)) : Prop where
  at_ : ∀ k, k < ps.length → endTo ps k ≤ (atp ps k).1 ∧ (atp ps k).1 < (atp ps k).2 ∧ (atp ps k).2 ≤ (n : Int) + 1
  mem : ∀ d : Nat, inS ps d ↔ 1 ≤ d ∧ d ≤ n ∧ ok d = true
theorem endTo_app {ps qs : List (Int × Int)} : ∀ {k : Nat}, k ≤ ps.length → endTo (ps ++ qs) k = endTo ps k
  | 0, _ => rfl
  | k + 1, h => by simp only [endTo]; rw [atp_app_l (by omega)]
theorem endTo_set {ps : List (Int × Int)} {m : Nat} {q : Int × Int} : ∀ {k : Nat}, k ≤ m → endTo (ps.set m q) k = endTo ps k
  | 0, _ => rfl
  | k + 1, h => by simp only [endTo]; rw [atp_set_ne (by omega)]
theorem spanInv (ok : Nat → Bool) : ∀ n, SpanInv ok n (spansTo ok n)
  | 0 => ⟨fun k hk => by simp [spansTo] at hk, fun d => ⟨fun ⟨j, hj, _⟩ => by simp [spansTo] at hj, fun h => by omega⟩⟩
  | n + 1 => by
    have ih := spanInv ok n
    generalize hps : spansTo ok n = ps at ih
    cases hok : ok (n + 1) with
    | false =>
      rw [show spansTo ok (n + 1) = ps by simp [spansTo, hok, hps]]
      refine ⟨fun k hk => ?_, fun d => ?_⟩
      · obtain ⟨a, b, c⟩ := ih.at_ k hk
        exact ⟨a, b, by omega⟩
      · rw [ih.mem]
        constructor
        · rintro ⟨a, b, c⟩; exact ⟨a, by omega, c⟩
        · rintro ⟨a, b, c⟩
          by_cases e : d = n + 1
          · subst e; rw [hok] at c; cases c
          · exact ⟨a, by omega, c⟩
    | true =>
      rw [show spansTo ok (n + 1) = stepSpan ps ((n + 1 : Nat) : Int) by simp [spansTo, hok, hps]]
      by_cases hc : 0 < ps.length ∧ (atp ps (ps.length - 1)).2 = ((n + 1 : Nat) : Int)
      · obtain ⟨m, hm⟩ : ∃ m, ps.length = m + 1 := ⟨ps.length - 1, by omega⟩
        rw [hm, Nat.add_sub_cancel] at hc
        rw [step_set hm hc.2]
        have h2 := hc.2
        obtain ⟨a, b, c⟩ := ih.at_ m (by omega)
        refine ⟨fun k hk => ?_, fun d => ?_⟩
        · rw [List.length_set] at hk
          by_cases e : k = m
          · subst e
            rw [endTo_set (Nat.le_refl _), atp_set_eq hk]
            exact ⟨a, by simp only; omega, by simp only; omega⟩
          · rw [endTo_set (by omega), atp_set_ne (by omega)]
            obtain ⟨a', b', c'⟩ := ih.at_ k hk
            exact ⟨a', b', by omega⟩
        · have key : inS (ps.set m ((atp ps m).1, ((n + 1 : Nat) : Int) + 1)) d ↔ inS ps d ∨ d = n + 1 := by
            constructor
            · rintro ⟨j, hj, j1, j2⟩
              rw [List.length_set] at hj
              by_cases e : j = m
              · subst e
                rw [atp_set_eq hj] at j1 j2
                simp only at j1 j2
                by_cases e2 : d = n + 1
                · exact .inr e2
                · exact .inl ⟨j, hj, j1, by omega⟩
              · rw [atp_set_ne (by omega)] at j1 j2
                exact .inl ⟨j, hj, j1, j2⟩
            · rintro (⟨j, hj, j1, j2⟩ | rfl)
              · by_cases e : j = m
                · subst e
                  exact ⟨j, by rw [List.length_set]; exact hj, by rw [atp_set_eq hj]; exact j1, by rw [atp_set_eq hj]; simp only; omega⟩
                · exact ⟨j, by rw [List.length_set]; exact hj, by rw [atp_set_ne (by omega)]; exact j1, by rw [atp_set_ne (by omega)]; exact j2⟩
              · exact ⟨m, by rw [List.length_set]; omega, by rw [atp_set_eq (by omega)]; simp only; omega, by rw [atp_set_eq (by omega)]; simp only; omega⟩
          rw [key, ih.mem]
          constructor
          · rintro (⟨x, y, z⟩ | rfl)
            · exact ⟨x, by omega, z⟩
            · exact ⟨by omega, Nat.le_refl _, hok⟩
          · rintro ⟨x, y, z⟩
            by_cases e : d = n + 1
            · exact .inr e
            · exact .inl ⟨x, by omega, z⟩
      · rw [step_app (by
          by_cases h0 : ps.length = 0
          · exact .inl h0
          · exact .inr fun h => hc ⟨by omega, h⟩)]
        refine ⟨fun k hk => ?_, fun d => ?_⟩
        · rw [List.length_append] at hk
          simp only [List.length_singleton] at hk
          by_cases e : k = ps.length
          · subst e
            rw [endTo_app (Nat.le_refl _), atp_app_r]
            refine ⟨?_, by simp only; omega, by simp only; omega⟩
            rcases hm : ps.length with _ | m
            · simp only [endTo]; omega
            · obtain ⟨_, _, c⟩ := ih.at_ m (by omega)
              simp only [endTo]
              omega
          · rw [endTo_app (by omega), atp_app_l (by omega)]
            obtain ⟨a', b', c'⟩ := ih.at_ k (by omega)
            exact ⟨a', b', by omega⟩
        · have key : inS (ps ++ [(((n + 1 : Nat) : Int), ((n + 1 : Nat) : Int) + 1)]) d ↔ inS ps d ∨ d = n + 1 := by
            constructor
            · rintro ⟨j, hj, j1, j2⟩
              rw [List.length_append] at hj
              simp only [List.length_singleton] at hj
              by_cases e : j = ps.length
              · subst e
                rw [atp_app_r] at j1 j2
                simp only at j1 j2
                exact .inr (by omega)
              · rw [atp_app_l (by omega)] at j1 j2
                exact .inl ⟨j, by omega, j1, j2⟩
            · rintro (⟨j, hj, j1, j2⟩ | rfl)
              · exact ⟨j, by rw [List.length_append]; omega, by rw [atp_app_l hj]; exact j1, by rw [atp_app_l hj]; exact j2⟩
              · exact ⟨ps.length, by simp, by rw [atp_app_r]; simp only; omega, by rw [atp_app_r]; simp only; omega⟩
          rw [key, ih.mem]
          constructor
          · rintro (⟨x, y, z⟩ | rfl)
            · exact ⟨x, by omega, z⟩
            · exact ⟨by omega, Nat.le_refl _, hok⟩
          · rintro ⟨x, y, z⟩
            by_cases e : d = n + 1
            · exact .inr e
            · exact .inl ⟨x, by omega, z⟩
end Go.Proofs.Ytihhfelhdgmceaa
