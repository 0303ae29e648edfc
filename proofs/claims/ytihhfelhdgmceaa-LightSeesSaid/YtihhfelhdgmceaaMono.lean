/- A coefficient never grows with a slope, and at the slopes of a table it is the table's. Plain mathematics. -/
import Derived.Test.YtihhfelhdgmceaaBri1
namespace Go.Proofs.Ytihhfelhdgmceaa
theorem coefIs_ex {t : Tb} (ht : TabOk t) (o e : Int) : ∃ v, CoefIs t o e v := by
  by_cases h : top t.obs < o ∨ top t.ent < e
  · exact ⟨0, .inl ⟨h, rfl⟩⟩
  · exact ⟨_, .inr ⟨h, _, _, brk_of_count ht.1 (count_not_top ht.1 (by omega)), brk_of_count ht.2.1 (count_not_top ht.2.1 (by omega)), rfl⟩⟩
theorem coefF_is {t : Tb} (ht : TabOk t) (o e : Int) : CoefIs t o e (coefF t o e) := by
  obtain ⟨v, hv⟩ := coefIs_ex ht o e
  rw [coefF_eq ht hv]; exact hv
theorem mix_mono {r00 r01 r10 r11 a b a' b' c d : Int} (h1 : r10 ≤ r00) (h2 : r11 ≤ r01) (hc : 0 ≤ c) (hd : 0 ≤ d) (he : a + b = a' + b') (ha : a ≤ a') (hab : 0 < a + b) (hcd : 0 < c + d) :
    mix r00 r01 r10 r11 a' b' c d ≤ mix r00 r01 r10 r11 a b c d := by
  obtain ⟨z, hz⟩ : ∃ z, z = a' - a := ⟨_, rfl⟩
  obtain rfl : a' = a + z := by omega
  obtain rfl : b = b' + z := by omega
  have hz0 : 0 ≤ z := by omega
  unfold mix
  rw [show a + z + b' = a + (b' + z) from by omega]
  apply Int.ediv_le_ediv (Int.mul_pos hab hcd)
  have p1 := Int.mul_le_mul_of_nonneg_right h1 (Int.mul_nonneg hz0 hd)
  have p2 := Int.mul_le_mul_of_nonneg_right h2 (Int.mul_nonneg hz0 hc)
  rw [← Int.mul_assoc, ← Int.mul_assoc] at p1 p2
  simp only [Int.mul_add, Int.add_mul]
  omega
theorem cf_i {t : Tb} (ht : TabOk t) {i k : Nat} (hi : i + 1 < t.obs.length) (hk : k < t.ent.length) : cf t (i + 1) k ≤ cf t i k := by
  have := ((ht.2.2.2 (i + 1) (by have := ht.2.2.1; omega)).2 k hk).2.2.2 (by omega)
  simpa using this
theorem cf_k {t : Tb} (ht : TabOk t) {i k : Nat} (hi : i < t.obs.length) (hk : k + 1 < t.ent.length) : cf t i (k + 1) ≤ cf t i k := by
  have := ((ht.2.2.2 i (by have := ht.2.2.1; omega)).2 (k + 1) hk).2.2.1 (by omega)
  simpa using this
theorem interp_mono_o {t : Tb} (ht : TabOk t) {e : Int} {k : Nat} (hk : Brk t.ent e k) : ∀ (n i : Nat) (o o' : Int), Brk t.obs o i → Brk t.obs o' (i + n) → o ≤ o' → interp t o' e (i + n) k ≤ interp t o e i k := by
  intro n
  induction n with
  | zero =>
    intro i o o' hi hi' ho
    obtain ⟨i1, i2, i3⟩ := hi
    obtain ⟨j1, j2, j3⟩ := hi'
    obtain ⟨k1, k2, k3⟩ := hk
    have s1 := slopes_lt ht.1 (i + 1) i (by omega) i1
    have s2 := slopes_lt ht.2.1 (k + 1) k (by omega) k1
    simp only [Nat.add_zero] at j1 j2 j3 ⊢
    exact mix_mono (cf_i ht i1 (by omega)) (cf_i ht i1 k1) (by omega) (by omega) (by omega) (by omega) (by omega) (by omega)
  | succ n ih =>
    intro i o o' hi hi' ho
    obtain ⟨i1, i2, i3⟩ := id hi
    obtain ⟨j1, j2, j3⟩ := id hi'
    have s1 := slopes_lt ht.1 (i + 1) i (by omega) i1
    have s2 := slopes_lt ht.1 (i + 1 + 1) (i + 1) (by omega) (by omega)
    have h1 : Brk t.obs (at0 t.obs (i + 1)) i := ⟨i1, by omega, by omega⟩
    have h2 : Brk t.obs (at0 t.obs (i + 1)) (i + 1) := ⟨by omega, by omega, by omega⟩
    have hx : at0 t.obs (i + 1) ≤ o' := by
      by_cases h : n = 0
      · subst h; exact j2
      · have := slopes_lt ht.1 (i + (n + 1)) (i + 1) (by omega) (by omega); omega
    have g1 := mix_mono (a := o - at0 t.obs i) (b := at0 t.obs (i + 1) - o) (a' := at0 t.obs (i + 1) - at0 t.obs i) (b' := at0 t.obs (i + 1) - at0 t.obs (i + 1)) (c := e - at0 t.ent k) (d := at0 t.ent (k + 1) - e) (cf_i ht i1 (k := k) (by have := hk.1; omega)) (cf_i ht i1 hk.1) (by have := hk.2.1; omega) (by have := hk.2.2; omega) (by omega) (by omega) (by omega) (by have := slopes_lt ht.2.1 (k + 1) k (by omega) hk.1; omega)
    have g2 : interp t (at0 t.obs (i + 1)) e i k ≤ interp t o e i k := g1
    have g3 := interp_i (e := e) (k := k) ht h1 h2 rfl
    have g4 := ih (i + 1) _ _ h2 (by rw [show i + 1 + n = i + (n + 1) from by omega]; exact hi') hx
    rw [show i + 1 + n = i + (n + 1) from by omega] at g4
    omega
theorem interp_mono_e {t : Tb} (ht : TabOk t) {o : Int} {i : Nat} (hi : Brk t.obs o i) : ∀ (n k : Nat) (e e' : Int), Brk t.ent e k → Brk t.ent e' (k + n) → e ≤ e' → interp t o e' i (k + n) ≤ interp t o e i k := by
  have one : ∀ (k : Nat) (e e' : Int), Brk t.ent e k → Brk t.ent e' k → e ≤ e' → interp t o e' i k ≤ interp t o e i k := by
    intro k e e' hk hk' he
    obtain ⟨k1, k2, k3⟩ := hk
    obtain ⟨j1, j2, j3⟩ := hk'
    obtain ⟨i1, i2, i3⟩ := hi
    have s1 := slopes_lt ht.1 (i + 1) i (by omega) i1
    have s2 := slopes_lt ht.2.1 (k + 1) k (by omega) k1
    unfold interp
    rw [mix_swap, mix_swap _ _ _ _ (o - at0 t.obs i) (at0 t.obs (i + 1) - o) (e - at0 t.ent k)]
    exact mix_mono (cf_k ht (by omega) k1) (cf_k ht i1 k1) (by omega) (by omega) (by omega) (by omega) (by omega) (by omega)
  intro n
  induction n with
  | zero => intro k e e' hk hk' he; exact one k e e' hk hk' he
  | succ n ih =>
    intro k e e' hk hk' he
    obtain ⟨k1, k2, k3⟩ := id hk
    obtain ⟨j1, j2, j3⟩ := id hk'
    have s1 := slopes_lt ht.2.1 (k + 1) k (by omega) k1
    have s2 := slopes_lt ht.2.1 (k + 1 + 1) (k + 1) (by omega) (by omega)
    have h1 : Brk t.ent (at0 t.ent (k + 1)) k := ⟨k1, by omega, by omega⟩
    have h2 : Brk t.ent (at0 t.ent (k + 1)) (k + 1) := ⟨by omega, by omega, by omega⟩
    have hx : at0 t.ent (k + 1) ≤ e' := by
      by_cases h : n = 0
      · subst h; exact j2
      · have := slopes_lt ht.2.1 (k + (n + 1)) (k + 1) (by omega) (by omega); omega
    have g2 := one k e _ hk h1 k3
    have g3 := interp_k (o := o) (i := i) ht h1 h2 rfl
    have g4 := ih (k + 1) _ _ h2 (by rw [show k + 1 + n = k + (n + 1) from by omega]; exact hk') hx
    rw [show k + 1 + n = k + (n + 1) from by omega] at g4
    omega
theorem interp_mono {t : Tb} (ht : TabOk t) {o o' e e' : Int} {i i' k k' : Nat} (hi : Brk t.obs o i) (hi' : Brk t.obs o' i') (hk : Brk t.ent e k) (hk' : Brk t.ent e' k') (ho : o ≤ o') (he : e ≤ e') :
    interp t o' e' i' k' ≤ interp t o e i k := by
  have h1 : interp t o' e i' k ≤ interp t o e i k := by
    by_cases h : i ≤ i'
    · have := interp_mono_o ht hk (i' - i) i o o' hi (by rw [show i + (i' - i) = i' from by omega]; exact hi') ho
      rwa [show i + (i' - i) = i' from by omega] at this
    · have s := slopes_lt ht.1 i
      have s1 : at0 t.obs (i' + 1) ≤ at0 t.obs i := by
        by_cases h2 : i' + 1 = i
        · rw [h2]; exact Int.le_refl _
        · have := s (i' + 1) (by omega) (by have := hi.1; omega); omega
      obtain rfl : o = o' := by have := hi.2.1; have := hi'.2.2; omega
      rw [interp_same ht hi hi' hk hk]; exact Int.le_refl _
  have h2 : interp t o' e' i' k' ≤ interp t o' e i' k := by
    by_cases h : k ≤ k'
    · have := interp_mono_e ht hi' (k' - k) k e e' hk (by rw [show k + (k' - k) = k' from by omega]; exact hk') he
      rwa [show k + (k' - k) = k' from by omega] at this
    · have s := slopes_lt ht.2.1 k
      have s1 : at0 t.ent (k' + 1) ≤ at0 t.ent k := by
        by_cases h2 : k' + 1 = k
        · rw [h2]; exact Int.le_refl _
        · have := s (k' + 1) (by omega) (by have := hk.1; omega); omega
      obtain rfl : e = e' := by have := hk.2.1; have := hk'.2.2; omega
      rw [interp_same ht hi' hi' hk hk']; exact Int.le_refl _
  omega
theorem lift_le {xs : List Int} {s s' : Int} (h : s ≤ s') : lift xs s ≤ lift xs s' := by unfold lift; omega
theorem coefF_mono {t : Tb} (ht : TabOk t) {o o' e e' : Int} (ho : o ≤ o') (he : e ≤ e') : coefF t o' e' ≤ coefF t o e := by
  rcases coefF_is ht o' e' with ⟨_, h0⟩ | ⟨h, i', k', hi', hk', hv'⟩
  · rw [h0]; exact (coefF_bd ht o e).1
  · rcases coefF_is ht o e with ⟨h2, _⟩ | ⟨_, i, k, hi, hk, hv⟩
    · omega
    · rw [hv, hv']
      exact interp_mono ht hi hi' hk hk' (lift_le ho) (lift_le he)
theorem div_one {r d : Int} (hd : 0 < d) : (r * d + 0) / d = r := by rw [Int.add_zero]; exact Int.mul_ediv_cancel _ (by omega)
theorem brk_grid {xs : List Int} (hs : Slopes xs) {i : Nat} (hi : i < xs.length) : ∃ j, Brk xs (at0 xs i) j ∧ ((j = i) ∨ (j + 1 = i)) := by
  by_cases h : i + 1 < xs.length
  · have := slopes_lt hs (i + 1) i (by omega) h
    exact ⟨i, ⟨h, by omega, by omega⟩, .inl rfl⟩
  · have h2 := hs.1
    have := slopes_lt hs i (i - 1) (by omega) hi
    refine ⟨i - 1, ⟨by omega, by omega, ?_⟩, .inr (by omega)⟩
    rw [show i - 1 + 1 = i from by omega]; exact Int.le_refl _
theorem interp_grid {t : Tb} (ht : TabOk t) {i k j l : Nat} (hj : Brk t.obs (at0 t.obs i) j) (hl : Brk t.ent (at0 t.ent k) l) (h1 : j = i ∨ j + 1 = i) (h2 : l = k ∨ l + 1 = k) :
    interp t (at0 t.obs i) (at0 t.ent k) j l = cf t i k := by
  have s1 := slopes_lt ht.1 (j + 1) j (by omega) hj.1
  have s2 := slopes_lt ht.2.1 (l + 1) l (by omega) hl.1
  unfold interp
  rcases h1 with rfl | rfl <;> rcases h2 with rfl | rfl
  · rw [Int.sub_self, Int.sub_self, mix_a0 _ _ _ _ _ _ _ (by omega), Int.mul_zero, Int.zero_add]; exact div_one (by omega)
  · rw [Int.sub_self, Int.sub_self, mix_a0 _ _ _ _ _ _ _ (by omega), Int.mul_zero, Int.zero_add, Int.add_zero]; exact Int.mul_ediv_cancel _ (by omega)
  · rw [Int.sub_self, Int.sub_self, mix_b0 _ _ _ _ _ _ _ (by omega), Int.mul_zero, Int.zero_add]; exact div_one (by omega)
  · rw [Int.sub_self, Int.sub_self, mix_b0 _ _ _ _ _ _ _ (by omega), Int.mul_zero, Int.zero_add, Int.add_zero]; exact Int.mul_ediv_cancel _ (by omega)
theorem grid_top {xs : List Int} (hs : Slopes xs) {i : Nat} (hi : i < xs.length) : ¬ top xs < at0 xs i ∧ lift xs (at0 xs i) = at0 xs i := by
  unfold top lift
  have h1 : at0 xs i ≤ at0 xs (xs.length - 1) := by
    by_cases h : i = xs.length - 1
    · rw [h]; exact Int.le_refl _
    · have := slopes_lt hs (xs.length - 1) i (by omega) (by omega); omega
  have h2 : at0 xs 0 ≤ at0 xs i := by
    by_cases h : i = 0
    · rw [h]; exact Int.le_refl _
    · have := slopes_lt hs i 0 (by omega) (by omega); omega
  omega
theorem coefF_grid {t : Tb} (ht : TabOk t) {i k : Nat} (hi : i < t.obs.length) (hk : k < t.ent.length) : coefF t (at0 t.obs i) (at0 t.ent k) = cf t i k := by
  obtain ⟨a1, a2⟩ := grid_top ht.1 hi
  obtain ⟨b1, b2⟩ := grid_top ht.2.1 hk
  obtain ⟨j, hj, hj'⟩ := brk_grid ht.1 hi
  obtain ⟨l, hl, hl'⟩ := brk_grid ht.2.1 hk
  exact coefF_eq ht (.inr ⟨by omega, j, l, by rw [a2]; exact hj, by rw [b2]; exact hl, by rw [a2, b2, interp_grid ht hj hl hj' hl']⟩)
theorem coefF_le {t : Tb} (ht : TabOk t) (o e : Int) : coefF t o e ≤ cf t 0 0 := by
  have h0 := ht.1.1
  have h1 := ht.2.1.1
  rcases coefF_is ht o e with ⟨_, hv⟩ | ⟨_, i, k, hi, hk, hv⟩
  · rw [hv]; exact ((ht.2.2.2 0 (by have := ht.2.2.1; omega)).2 0 (by omega)).1
  · obtain ⟨j, hj, hj'⟩ := brk_grid ht.1 (i := 0) (by omega)
    obtain ⟨l, hl, hl'⟩ := brk_grid ht.2.1 (i := 0) (by omega)
    rw [hv, ← interp_grid ht hj hl hj' hl']
    exact interp_mono ht hj hi hl hk (by unfold lift; omega) (by unfold lift; omega)
end Go.Proofs.Ytihhfelhdgmceaa
