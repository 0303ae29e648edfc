/- What the days of a face obey. Plain mathematics. -/
import Derived.Test.YtihhfelhdgmceaaVal2
import Derived.Test.YtihhfelhdgmceaaVal3
namespace Go.Proofs.Ytihhfelhdgmceaa
theorem lastTo_end {xs : List (Int × Int)} {day : Int} (h1 : 1 ≤ xs.length) (h0 : (atp xs (xs.length - 1)).1 ≤ day) : lastTo xs day xs.length = atp xs (xs.length - 1) := by
  obtain ⟨k, hk⟩ : ∃ k, xs.length = k + 1 := ⟨xs.length - 1, by omega⟩
  rw [hk] at h0 ⊢
  simp only [Nat.add_sub_cancel] at h0 ⊢
  unfold lastTo
  rw [if_pos h0]
theorem meas_up {s : Sc} {side : Int} {xs : List (Int × Int)} (h : MeasOk s side xs) : ∀ j, j < xs.length → (atp xs 0).1 ≤ (atp xs j).1
  | 0, _ => Int.le_refl _
  | j + 1, hj => by
    have h1 := meas_up h j (by omega)
    have h2 := (h.2.2.2.2 (j + 1) hj).2.2 (by omega)
    simp only [Nat.add_sub_cancel] at h2
    omega
theorem val_late {s : Sc} {n : Nat} {xs : List (Int × Int)} {day : Int} (h : MeasOk s n xs) (h0 : (atp xs (xs.length - 1)).1 ≤ day) (h1 : day ≤ 100000) :
    ValOk s n xs day ∧ valF s n xs day = dueR s n xs ((day - (atp xs (xs.length - 1)).1) / 365).toNat := by
  have hl := h.2.1
  have := meas_up h (xs.length - 1) (by omega)
  refine ⟨⟨h, by omega, h1⟩, ?_⟩
  unfold valF dueR
  rw [lastTo_end hl h0]
theorem agedF_down {keep : Int} (h0 : 0 ≤ keep) (h1 : keep ≤ 1000) (i : Nat) : ∀ (j : Nat) (r : Int), 0 ≤ r → agedF keep (i + j) r ≤ agedF keep i r := by
  intro j
  induction j with
  | zero => intro r _; exact Int.le_refl _
  | succ j ih =>
    intro r hr
    have h2 := ih r hr
    have h3 := (agedF_bd keep h0 h1 (i + j) r hr).1
    have h4 := agedF_succ keep (i + j) r
    have h5 := mul_bd h3 h0 h1
    rw [show i + (j + 1) = i + j + 1 from by omega, h4]
    omega
theorem agedF_keep {k k' : Int} (h0 : 0 ≤ k) (h1 : k ≤ k') : ∀ (n : Nat) (r r' : Int), 0 ≤ r → r ≤ r' → agedF k n r ≤ agedF k' n r' := by
  intro n
  induction n with
  | zero => intro r r' _ h; exact h
  | succ n ih =>
    intro r r' hr h
    refine ih _ _ (Int.ediv_nonneg (Int.mul_nonneg hr h0) (by omega)) (Int.ediv_le_ediv (by omega) ?_)
    exact Int.mul_le_mul h h1 h0 (by omega)
theorem dueR_down {s : Sc} {n : Nat} {xs : List (Int × Int)} (h : MeasOk s n xs) {i j : Nat} (hij : i ≤ j) : dueR s n xs j ≤ dueR s n xs i := by
  have hn3 : n < 4 := by have := h.1.2; omega
  obtain ⟨k0, k1⟩ := h.2.2.2.1 n hn3
  obtain ⟨_, ⟨r0, r1⟩, _⟩ := h.2.2.2.2 (xs.length - 1) (by have := h.2.1; omega)
  unfold dueR
  rw [Int.toNat_natCast]
  have := agedF_down k0 k1 i (j - i) _ r0
  rwa [show i + (j - i) = j from by omega] at this
theorem val_down {s : Sc} {n : Nat} {xs : List (Int × Int)} {d e : Int} (h : MeasOk s n xs) (h0 : (atp xs (xs.length - 1)).1 ≤ d) (h1 : d ≤ e) (h2 : e ≤ 100000) : valF s n xs e ≤ valF s n xs d := by
  rw [(val_late h h0 (by omega)).2, (val_late h (by omega) h2).2]
  exact dueR_down h (by omega)
theorem val_due {s : Sc} {n : Nat} {xs : List (Int × Int)} {least : Int} {i : Nat} (h : MeasOk s n xs) (ha : DueAt s n xs least i) : ValOk s n xs (dueDay xs i) ∧ valF s n xs (dueDay xs i) < least := by
  obtain ⟨a1, a2, _⟩ := ha
  obtain ⟨b1, b2⟩ := val_late h (day := dueDay xs i) (by unfold dueDay; omega) a1
  refine ⟨b1, ?_⟩
  rw [b2, show ((dueDay xs i - (atp xs (xs.length - 1)).1) / 365).toNat = i from by unfold dueDay; omega]
  exact a2
theorem val_ahead {s : Sc} {n : Nat} {xs : List (Int × Int)} {least : Int} {i : Nat} (h : MeasOk s n xs) (ha : DueAt s n xs least i) (he : (atp xs (xs.length - 1)).1 ≤ dueDay xs i - 1) : least ≤ valF s n xs (dueDay xs i - 1) := by
  obtain ⟨a1, _, a3⟩ := ha
  rw [(val_late h he (by omega)).2]
  apply a3
  unfold dueDay at he ⊢
  omega
theorem val_never {s : Sc} {n : Nat} {xs : List (Int × Int)} {least : Int} (h : MeasOk s n xs) (ha : DueNo s n xs least) (he : (atp xs (xs.length - 1)).1 ≤ 100000) : least ≤ valF s n xs 100000 := by
  rw [(val_late h he (by omega)).2]
  apply ha
  unfold dueDay
  omega
/-- One part of an Ageing set. -/
def setK (s : Sc) (n : Nat) (v : Int) : Sc := match n with
  | 0 => { s with rise := v }
  | 1 => { s with side := v }
  | 2 => { s with turn := v }
  | _ => { s with power := v }
theorem keepAt_set (s : Sc) {n : Nat} (hn : n < 4) (v : Int) {j : Nat} (hj : j < 4) : keepAt (setK s n v) j = if j = n then v else keepAt s j := by
  obtain rfl | rfl | rfl | rfl : n = 0 ∨ n = 1 ∨ n = 2 ∨ n = 3 := by omega
  all_goals
    obtain rfl | rfl | rfl | rfl : j = 0 ∨ j = 1 ∨ j = 2 ∨ j = 3 := by omega
    all_goals rfl
theorem meas_set {s : Sc} {n : Nat} {xs : List (Int × Int)} (h : MeasOk s n xs) {v : Int} (h0 : 0 ≤ v) (h1 : v ≤ 1000) : MeasOk (setK s n v) n xs := by
  have hn3 : n < 4 := by have := h.1.2; omega
  refine ⟨h.1, h.2.1, h.2.2.1, fun j hj => ?_, h.2.2.2.2⟩
  unfold keepOk
  rw [keepAt_set s hn3 v hj]
  by_cases e : j = n
  · rw [if_pos e]; exact ⟨h0, h1⟩
  · rw [if_neg e]; exact h.2.2.2.1 j hj
theorem dueR_set {s : Sc} {n : Nat} {xs : List (Int × Int)} (h : MeasOk s n xs) {v : Int} (h0 : keepAt s n ≤ v) (i : Nat) : dueR s n xs i ≤ dueR (setK s n v) n xs i := by
  have hn3 : n < 4 := by have := h.1.2; omega
  obtain ⟨k0, k1⟩ := h.2.2.2.1 n hn3
  obtain ⟨_, ⟨r0, r1⟩, _⟩ := h.2.2.2.2 (xs.length - 1) (by have := h.2.1; omega)
  unfold dueR
  rw [Int.toNat_natCast, keepAt_set s hn3 v hn3, if_pos rfl]
  exact agedF_keep k0 h0 i _ _ r0 (Int.le_refl _)
theorem due_later {s : Sc} {n : Nat} {xs : List (Int × Int)} {least : Int} (h : MeasOk s n xs) {v : Int} (h0 : keepAt s n ≤ v) {j : Nat} (hj : DueAt (setK s n v) n xs least j) :
    ¬ DueNo s n xs least ∧ ∀ i, DueAt s n xs least i → dueDay xs i ≤ dueDay xs j := by
  have hr := dueR_set h h0 j
  obtain ⟨a1, a2, _⟩ := hj
  refine ⟨fun hno => by have := hno j a1; omega, fun i hi => ?_⟩
  have : i ≤ j := by
    by_cases e : i ≤ j
    · exact e
    · have := hi.2.2 j (by omega); omega
  unfold dueDay
  omega
end Go.Proofs.Ytihhfelhdgmceaa
