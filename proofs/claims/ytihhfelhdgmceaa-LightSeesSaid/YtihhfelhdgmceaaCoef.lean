/- Interpolation in a table: what the coefficient is, and that it does not matter which cell is taken. Plain mathematics. -/
import Derived.Test.YtihhfelhdgmceaaPlain
namespace Go.Proofs.Ytihhfelhdgmceaa
def Brk (xs : List Int) (s : Int) (i : Nat) : Prop := i + 1 < xs.length ∧ at0 xs i ≤ s ∧ s ≤ at0 xs (i + 1)
/-- The slope within the table. -/
def lift (xs : List Int) (s : Int) : Int := max s (at0 xs 0)
def top (xs : List Int) : Int := at0 xs (xs.length - 1)
theorem slopes_lt {xs : List Int} (h : Slopes xs) : ∀ j i, i < j → j < xs.length → at0 xs i < at0 xs j := by
  intro j
  induction j with
  | zero => intro i hi _; omega
  | succ j ih =>
    intro i hi hj
    have h1 := (h.2.2 (j + 1) hj).2.2 (by omega)
    simp only [Nat.add_sub_cancel] at h1
    by_cases e : i = j
    · rw [e]; exact h1
    · have := ih i (by omega) (by omega); omega
theorem at0_cons (x : Int) (xs : List Int) (j : Nat) : at0 (x :: xs) (j + 1) = at0 xs j := rfl
theorem count_lt (s : Int) : ∀ xs : List Int, (∀ j i, i < j → j < xs.length → at0 xs i < at0 xs j) → ∀ j, j < xs.length → (at0 xs j < s ↔ j < xs.countP (· < s)) := by
  intro xs
  induction xs with
  | nil => intro _ j hj; simp at hj
  | cons x xs ih =>
    intro h j hj
    have h' : ∀ j i, i < j → j < xs.length → at0 xs i < at0 xs j := fun j i hij hjl => by
      have := h (j + 1) (i + 1) (by omega) (by simp; omega)
      simpa [at0_cons] using this
    by_cases hx : x < s
    · rw [List.countP_cons_of_pos (by simpa using hx)]
      cases j with
      | zero => simpa [at0] using hx
      | succ j => rw [at0_cons, ih h' j (by simpa using hj)]; omega
    · rw [List.countP_cons_of_neg (by simpa using hx)]
      have h0 : xs.countP (· < s) = 0 := by
        rw [List.countP_eq_zero]
        intro a ha
        obtain ⟨n, hn, rfl⟩ := List.getElem_of_mem ha
        have := h (n + 1) 0 (by omega) (by simp; omega)
        rw [at0_cons] at this
        simp [at0, hn] at this
        simp; omega
      rw [h0]
      cases j with
      | zero => simpa [at0] using hx
      | succ j =>
        have := h (j + 1) 0 (by omega) hj
        have e : at0 (x :: xs) 0 = x := rfl
        omega
theorem slopes_sorted {xs : List Int} (h : Slopes xs) : (xs.take xs.length).Pairwise (· ≤ ·) := by
  rw [List.take_length, List.pairwise_iff_getElem]
  intro i j hi hj hij
  have := slopes_lt h j i hij hj
  simp [at0, hi, hj] at this
  omega
theorem brk_of_count {xs : List Int} {s : Int} (hs : Slopes xs) (hn : xs.countP (· < max s (at0 xs 0)) < xs.length) : Brk xs (lift xs s) (xs.countP (· < max s (at0 xs 0)) - 1) := by
  have hc := count_lt (max s (at0 xs 0)) xs (slopes_lt hs)
  unfold lift Brk
  generalize xs.countP (· < max s (at0 xs 0)) = n at *
  have h2 := hs.1
  have e1 := hc n hn
  rcases Nat.eq_zero_or_pos n with h0 | h0
  · subst h0
    have := slopes_lt hs 1 0 (by omega) (by omega)
    have e0 := hc 0 (by omega)
    simp only [Nat.zero_sub, Nat.zero_add]
    omega
  · have e2 := hc (n - 1) (by omega)
    rw [show n - 1 + 1 = n from by omega]
    omega
theorem count_top {xs : List Int} {s : Int} (hs : Slopes xs) (ht : top xs < s) : xs.countP (· < max s (at0 xs 0)) = xs.length := by
  have hc := count_lt (max s (at0 xs 0)) xs (slopes_lt hs) (xs.length - 1) (by have := hs.1; omega)
  have := List.countP_le_length (p := (· < max s (at0 xs 0))) (l := xs)
  have h2 := hs.1
  unfold top at ht
  omega
theorem count_not_top {xs : List Int} {s : Int} (hs : Slopes xs) (ht : ¬ top xs < s) : xs.countP (· < max s (at0 xs 0)) < xs.length := by
  have hc := count_lt (max s (at0 xs 0)) xs (slopes_lt hs) (xs.length - 1) (by have := hs.1; omega)
  have := List.countP_le_length (p := (· < max s (at0 xs 0))) (l := xs)
  have h2 := hs.1
  have := slopes_lt hs (xs.length - 1) 0 (by omega) (by omega)
  unfold top at ht
  omega
/-- The four weights and the four coefficients. -/
def mix (r00 r01 r10 r11 a b c d : Int) : Int := (r00 * b * d + r01 * b * c + r10 * a * d + r11 * a * c) / ((a + b) * (c + d))
def interp (t : Tb) (o e : Int) (i k : Nat) : Int :=
  mix (cf t i k) (cf t i (k + 1)) (cf t (i + 1) k) (cf t (i + 1) (k + 1)) (o - at0 t.obs i) (at0 t.obs (i + 1) - o) (e - at0 t.ent k) (at0 t.ent (k + 1) - e)
def CoefIs (t : Tb) (o e v : Int) : Prop :=
  ((top t.obs < o ∨ top t.ent < e) ∧ v = 0) ∨ (¬ (top t.obs < o ∨ top t.ent < e) ∧ ∃ i k, Brk t.obs (lift t.obs o) i ∧ Brk t.ent (lift t.ent e) k ∧ v = interp t (lift t.obs o) (lift t.ent e) i k)
theorem mix_b0 (r00 r01 r10 r11 a c d : Int) (ha : 0 < a) : mix r00 r01 r10 r11 a 0 c d = (r10 * d + r11 * c) / (c + d) := by
  unfold mix
  rw [← Int.mul_ediv_mul_of_pos (r10 * d + r11 * c) (c + d) ha]
  congr 1
  · simp only [Int.mul_zero, Int.zero_mul, Int.zero_add, Int.mul_add]
    ac_rfl
  · simp
theorem mix_a0 (r00 r01 r10 r11 b c d : Int) (hb : 0 < b) : mix r00 r01 r10 r11 0 b c d = (r00 * d + r01 * c) / (c + d) := by
  unfold mix
  rw [← Int.mul_ediv_mul_of_pos (r00 * d + r01 * c) (c + d) hb]
  congr 1
  · simp only [Int.mul_zero, Int.zero_mul, Int.add_zero, Int.mul_add]
    ac_rfl
  · simp
theorem mix_swap (r00 r01 r10 r11 a b c d : Int) : mix r00 r01 r10 r11 a b c d = mix r00 r10 r01 r11 c d a b := by
  unfold mix
  congr 1
  · have h1 : r00 * b * d = r00 * d * b := by ac_rfl
    have h2 : r01 * b * c = r01 * c * b := by ac_rfl
    have h3 : r10 * a * d = r10 * d * a := by ac_rfl
    have h4 : r11 * a * c = r11 * c * a := by ac_rfl
    omega
  · rw [Int.mul_comm]
theorem brk_near {xs : List Int} {s : Int} {i j : Nat} (hs : Slopes xs) (hi : Brk xs s i) (hj : Brk xs s j) (h : i < j) : j = i + 1 ∧ s = at0 xs (i + 1) := by
  obtain ⟨i1, i2, i3⟩ := hi
  obtain ⟨j1, j2, j3⟩ := hj
  by_cases e : j = i + 1
  · subst e; exact ⟨rfl, by omega⟩
  · have := slopes_lt hs j (i + 1) (by omega) (by omega); omega
theorem interp_i {t : Tb} (ht : TabOk t) {o e : Int} {i k : Nat} (hi : Brk t.obs o i) (hj : Brk t.obs o (i + 1)) (ho : o = at0 t.obs (i + 1)) : interp t o e i k = interp t o e (i + 1) k := by
  have h1 := slopes_lt ht.1 (i + 1) i (by omega) hi.1
  have h2 := slopes_lt ht.1 (i + 1 + 1) (i + 1) (by omega) hj.1
  unfold interp
  subst ho
  rw [Int.sub_self, mix_b0 _ _ _ _ _ _ _ (by omega), mix_a0 _ _ _ _ _ _ _ (by omega)]
theorem interp_k {t : Tb} (ht : TabOk t) {o e : Int} {i k : Nat} (hi : Brk t.ent e k) (hj : Brk t.ent e (k + 1)) (he : e = at0 t.ent (k + 1)) : interp t o e i k = interp t o e i (k + 1) := by
  have h1 := slopes_lt ht.2.1 (k + 1) k (by omega) hi.1
  have h2 := slopes_lt ht.2.1 (k + 1 + 1) (k + 1) (by omega) hj.1
  unfold interp
  subst he
  rw [mix_swap, mix_swap (cf t i (k + 1))]
  rw [Int.sub_self, mix_b0 _ _ _ _ _ _ _ (by omega), mix_a0 _ _ _ _ _ _ _ (by omega)]
theorem interp_same {t : Tb} (ht : TabOk t) {o e : Int} {i k j l : Nat} (hi : Brk t.obs o i) (hj : Brk t.obs o j) (hk : Brk t.ent e k) (hl : Brk t.ent e l) : interp t o e i k = interp t o e j l := by
  have h1 : interp t o e i k = interp t o e j k := by
    rcases Nat.lt_trichotomy i j with h | h | h
    · obtain ⟨rfl, hs⟩ := brk_near ht.1 hi hj h; exact interp_i ht hi hj hs
    · rw [h]
    · obtain ⟨rfl, hs⟩ := brk_near ht.1 hj hi h; exact (interp_i ht hj hi hs).symm
  rw [h1]
  rcases Nat.lt_trichotomy k l with h | h | h
  · obtain ⟨rfl, hs⟩ := brk_near ht.2.1 hk hl h; exact interp_k ht hk hl hs
  · rw [h]
  · obtain ⟨rfl, hs⟩ := brk_near ht.2.1 hl hk h; exact (interp_k ht hl hk hs).symm
theorem coefIs_one {t : Tb} (ht : TabOk t) {o e v v' : Int} (h : CoefIs t o e v) (h' : CoefIs t o e v') : v = v' := by
  rcases h with ⟨h1, rfl⟩ | ⟨h1, i, k, hi, hk, rfl⟩ <;> rcases h' with ⟨h1', rfl⟩ | ⟨h1', j, l, hj, hl, rfl⟩
  · rfl
  · exact absurd h1 h1'
  · exact absurd h1' h1
  · exact interp_same ht hi hj hk hl
open Classical in
noncomputable def coefF (t : Tb) (o e : Int) : Int := if h : ∃ v, CoefIs t o e v then Classical.choose h else 0
theorem coefF_eq {t : Tb} (ht : TabOk t) {o e v : Int} (h : CoefIs t o e v) : coefF t o e = v := by
  unfold coefF
  rw [dif_pos ⟨v, h⟩]
  exact coefIs_one ht (Classical.choose_spec (⟨v, h⟩ : ∃ v, CoefIs t o e v)) h
end Go.Proofs.Ytihhfelhdgmceaa
