/- TopEdicts, plain: where posts stand, which events they make, and that these say what is wanted. -/
import Derived.Test.YtdmmcdbojmalfaaGreatEdP
namespace Go.Proofs.YtdmmcdbojmalfaaGreat
open Go.RowKit
/-- What holds just ahead of distance k. -/
def curV (W : Nat → Int) (Jn : Nat → Prop) [DecidablePred Jn] : Nat → Int
  | 0 => 0
  | k + 1 => if Jn (k + 1) then 0 else W k
/-- The distances below n at which a post stands. -/
def pts (W : Nat → Int) (Jn : Nat → Prop) [DecidablePred Jn] : Nat → List Nat
  | 0 => []
  | n + 1 => if W n = curV W Jn n then pts W Jn n else pts W Jn n ++ [n]
/-- An end that was passed is told. -/
def stopF (far : Int) (s : List (Int × Int) × Int) : List (Int × Int) × Int := if 0 ≤ s.2 ∧ s.2 ≤ far then (s.1 ++ [(s.2, 0)], -1) else s
/-- One post more. -/
def postF (W : Nat → Int) (rc : Nat → Int) (s : List (Int × Int) × Int) (k : Nat) : List (Int × Int) × Int := ((stopF k s).1 ++ [((k : Int), W k)], if W k = 0 then -1 else rc k)
def evF (W : Nat → Int) (rc : Nat → Int) (ks : List Nat) : List (Int × Int) × Int := ks.foldl (postF W rc) ([], -1)
/-- The last value of the events up to distance k. -/
def lastV (l : List (Int × Int)) : Int := l.foldl (fun _ p => p.2) 0
theorem lastV_snoc (l : List (Int × Int)) (p : Int × Int) : lastV (l ++ [p]) = p.2 := by simp [lastV]
/-- v is what an ordered list of events says at distance k. -/
def SaysAt (l : List (Int × Int)) (k v : Int) : Prop := ∃ a b, l = a ++ b ∧ (∀ p ∈ a, p.1 ≤ k) ∧ (∀ p ∈ b, k < p.1) ∧ v = lastV a
theorem says_nil (k : Int) : SaysAt [] k 0 := ⟨[], [], rfl, fun _ h => (by cases h), fun _ h => (by cases h), rfl⟩
theorem says_all {l : List (Int × Int)} {k : Int} (h : ∀ p ∈ l, p.1 ≤ k) : SaysAt l k (lastV l) := ⟨l, [], by simp, h, fun _ h => (by cases h), rfl⟩
theorem says_more {l : List (Int × Int)} {k v : Int} {p : Int × Int} (h : SaysAt l k v) (hp : k < p.1) : SaysAt (l ++ [p]) k v := by
  obtain ⟨a, b, rfl, h1, h2, h3⟩ := h
  refine ⟨a, b ++ [p], by simp, h1, fun q hq => ?_, h3⟩
  rcases List.mem_append.1 hq with hq | hq
  · exact h2 q hq
  · rw [List.mem_singleton.1 hq]; exact hp
/-- The walk's scan finds it. -/
theorem says_scan : ∀ {l : List (Int × Int)} {k v : Int} {j : Nat}, SaysAt l k v → j ≤ l.length → (∀ i, i < j → (l.getD i (0, 0)).1 ≤ k) → (j < l.length → k < (l.getD j (0, 0)).1) → lastV (l.take j) = v := by
  rintro l k v j ⟨a, b, rfl, h1, h2, rfl⟩ hj ha hb
  have e : j = a.length := by
    rcases Nat.lt_trichotomy j a.length with h | h | h
    · have := hb (by rw [List.length_append]; omega)
      rw [List.getD_eq_getElem?_getD, List.getElem?_append_left h, List.getElem?_eq_getElem h, Option.getD_some] at this
      have := h1 _ (List.getElem_mem h)
      omega
    · exact h
    · have hab : a.length < (a ++ b).length := by omega
      have h3 := ha a.length h
      have hb0 : 0 < b.length := by rw [List.length_append] at hab; omega
      rw [List.getD_eq_getElem?_getD, List.getElem?_append_right (Nat.le_refl _), Nat.sub_self, List.getElem?_eq_getElem hb0, Option.getD_some] at h3
      have := h2 _ (List.getElem_mem hb0)
      omega
  rw [e, List.take_left]
section
variable {W : Nat → Int} {Jn : Nat → Prop} [DecidablePred Jn] {rc : Nat → Int} {N : Nat}
/-- The events that are told, and the one that is yet to come. -/
def withEnd (s : List (Int × Int) × Int) : List (Int × Int) := if 0 ≤ s.2 then s.1 ++ [(s.2, 0)] else s.1
theorem says_val {l : List (Int × Int)} {k v : Int} (h : SaysAt l k v) : v = lastV (l.takeWhile fun p => decide (p.1 ≤ k)) := by
  obtain ⟨a, b, rfl, h1, h2, rfl⟩ := h
  rw [List.takeWhile_append_of_pos (fun p hp => by simpa using h1 p hp)]
  have hb : b.takeWhile (fun p => decide (p.1 ≤ k)) = [] := by
    cases b with
    | nil => rfl
    | cons q b => rw [List.takeWhile_cons, if_neg (by have := h2 q (by simp); simp; omega)]
  rw [hb, List.append_nil]
theorem says_one {l : List (Int × Int)} {k v v' : Int} (h : SaysAt l k v) (h' : SaysAt l k v') : v = v' := by rw [says_val h, says_val h']
theorem says_less {l : List (Int × Int)} {k v : Int} {p : Int × Int} (h : SaysAt (l ++ [p]) k v) (hp : k < p.1) : SaysAt l k v := by
  obtain ⟨a, b, hl, h1, h2, h3⟩ := h
  rcases List.eq_nil_or_concat b with rfl | ⟨b', q, rfl⟩
  · rw [List.append_nil] at hl
    have := h1 p (by rw [← hl]; simp)
    omega
  · rw [List.concat_eq_append, ← List.append_assoc] at hl
    obtain ⟨e1, e2⟩ := List.append_inj' hl rfl
    exact ⟨a, b', e1, h1, fun x hx => h2 x (by simp [hx]), h3⟩
structure EvOk (W : Nat → Int) (rc : Nat → Int) (n : Nat) (s : List (Int × Int) × Int) : Prop where
  far : ∀ p ∈ s.1, p.1 < n
  neg : s.2 < 0 → lastV s.1 = 0
  pos : 0 ≤ s.2 → ∃ k0 : Nat, k0 < n ∧ s.2 = rc k0 ∧ ∀ p ∈ s.1, p.1 ≤ k0
  says : ∀ k : Nat, k < n → SaysAt (withEnd s) k (W k)
theorem withEnd_neg {s : List (Int × Int) × Int} (h : s.2 < 0) : withEnd s = s.1 := by unfold withEnd; rw [if_neg (by omega)]
theorem withEnd_pos {s : List (Int × Int) × Int} (h : 0 ≤ s.2) : withEnd s = s.1 ++ [(s.2, 0)] := by unfold withEnd; rw [if_pos h]
theorem ev_step (hrc : ∀ k, k < N → (k : Int) < rc k ∧ rc k ≤ N ∧ (∀ j : Nat, k < j → j < N → Jn j → rc k ≤ j) ∧ (rc k < N → ∃ j : Nat, rc k = j ∧ Jn j)) :
    ∀ n, n ≤ N → EvOk W rc n (evF W rc (pts W Jn n))
  | 0, _ => ⟨fun p hp => (by cases hp), fun _ => rfl, fun h => absurd (show (0 : Int) ≤ -1 from h) (by decide), fun k hk => absurd hk (Nat.not_lt_zero _)⟩
  | n + 1, hn => by
    have ih := ev_step hrc n (by omega)
    by_cases hp : W n = curV W Jn n
    · have e : pts W Jn (n + 1) = pts W Jn n := by simp only [pts]; rw [if_pos hp]
      rw [e]
      generalize evF W rc (pts W Jn n) = s at *
      refine ⟨fun p hpp => by have := ih.far p hpp; push_cast; omega, ih.neg, fun h => ?_, fun k hk => ?_⟩
      · obtain ⟨k0, h1, h2⟩ := ih.pos h
        exact ⟨k0, by omega, h2⟩
      · rcases Nat.lt_or_ge k n with hkn | hkn
        · exact ih.says k hkn
        · obtain rfl : k = n := by omega
          by_cases h0 : 0 ≤ s.2
          · obtain ⟨k0, q1, q2, q3⟩ := ih.pos h0
            obtain ⟨r1, r2, r3, r4⟩ := hrc k0 (by omega)
            obtain ⟨m, rfl⟩ : ∃ m, k = m + 1 := ⟨k - 1, by omega⟩
            rw [withEnd_pos h0]
            have hm := ih.says m (by omega)
            rw [withEnd_pos h0] at hm
            by_cases hj : Jn (m + 1)
            · have hw : W (m + 1) = 0 := by rw [hp]; simp only [curV]; rw [if_pos hj]
              have he : s.2 ≤ ((m + 1 : Nat) : Int) := by rw [q2]; exact r3 _ (by omega) (by omega) hj
              have := says_all (l := s.1 ++ [(s.2, 0)]) (k := ((m + 1 : Nat) : Int)) (fun p hpp => by
                rcases List.mem_append.1 hpp with h | h
                · have := q3 p h; omega
                · rw [List.mem_singleton.1 h]; exact he)
              rw [lastV_snoc] at this
              rw [hw]; exact this
            · have hw : W (m + 1) = W m := by rw [hp]; simp only [curV]; rw [if_neg hj]
              rw [hw]
              by_cases he : s.2 ≤ (m : Int)
              · have ha : ∀ p ∈ s.1 ++ [(s.2, (0 : Int))], p.1 ≤ (m : Int) := fun p hpp => by
                  rcases List.mem_append.1 hpp with h | h
                  · have := q3 p h; omega
                  · rw [List.mem_singleton.1 h]; exact he
                rw [says_one hm (says_all ha)]
                exact says_all fun p hpp => by have := ha p hpp; push_cast; omega
              · have he2 : ((m + 1 : Nat) : Int) < s.2 := by
                  rcases Int.lt_or_le ((m + 1 : Nat) : Int) s.2 with h | h
                  · exact h
                  · have h5 : s.2 = ((m + 1 : Nat) : Int) := by push_cast at *; omega
                    obtain ⟨j, j1, j2⟩ := r4 (by rw [← q2, h5]; omega)
                    rw [← q2, h5] at j1
                    have : j = m + 1 := by omega
                    rw [this] at j2
                    exact absurd j2 hj
                have ha : ∀ p ∈ s.1, p.1 ≤ (m : Int) := fun p hpp => by have := q3 p hpp; omega
                have h1 := says_less hm (by simp only; push_cast at he2; omega)
                rw [says_one h1 (says_all ha)]
                exact says_more (says_all fun p hpp => by have := ha p hpp; push_cast; omega) he2
          · have h0' : s.2 < 0 := by omega
            have hl := ih.neg h0'
            rw [withEnd_neg h0']
            have h1 := says_all (l := s.1) (k := (k : Int)) (fun p hpp => by have := ih.far p hpp; omega)
            have hw : W k = 0 := by
              cases k with
              | zero => rw [hp]; rfl
              | succ m =>
                by_cases hj : Jn (m + 1)
                · rw [hp]; simp only [curV]; rw [if_pos hj]
                · have hw : W (m + 1) = W m := by rw [hp]; simp only [curV]; rw [if_neg hj]
                  have hm := ih.says m (by omega)
                  rw [withEnd_neg h0'] at hm
                  rw [hw, says_one hm (says_all fun p hpp => by have := ih.far p hpp; push_cast at this; omega), hl]
            rw [hw, ← hl]
            exact h1
    · have e : evF W rc (pts W Jn (n + 1)) = postF W rc (evF W rc (pts W Jn n)) n := by
        simp only [pts]; rw [if_neg hp]; simp only [evF, List.foldl_append, List.foldl_cons, List.foldl_nil]
      rw [e]
      generalize evF W rc (pts W Jn n) = s at *
      obtain ⟨r1, r2, r3, r4⟩ := hrc n (by omega)
      have hst : ∀ p ∈ (stopF n s).1, p.1 ≤ (n : Int) := fun p hpp => by
        unfold stopF at hpp
        by_cases h : 0 ≤ s.2 ∧ s.2 ≤ (n : Int)
        · rw [if_pos h] at hpp
          rcases List.mem_append.1 hpp with h1 | h1
          · have := ih.far p h1; omega
          · rw [List.mem_singleton.1 h1]; exact h.2
        · rw [if_neg h] at hpp
          have := ih.far p hpp; omega
      have hsay : ∀ k : Nat, k < n → SaysAt (stopF n s).1 k (W k) := fun k hk => by
        have h1 := ih.says k hk
        unfold stopF
        by_cases h : 0 ≤ s.2 ∧ s.2 ≤ (n : Int)
        · rw [if_pos h]; rw [withEnd_pos h.1] at h1; exact h1
        · rw [if_neg h]
          by_cases h0 : 0 ≤ s.2
          · rw [withEnd_pos h0] at h1
            exact says_less h1 (by simp only; omega)
          · rw [withEnd_neg (by omega)] at h1; exact h1
      have hall : ∀ p ∈ (stopF n s).1 ++ [((n : Int), W n)], p.1 ≤ (n : Int) := fun p hpp => by
        rcases List.mem_append.1 hpp with h1 | h1
        · exact hst p h1
        · rw [List.mem_singleton.1 h1]; exact Int.le_refl _
      have hcase : ∀ k : Nat, k < n + 1 → SaysAt ((stopF n s).1 ++ [((n : Int), W n)]) k (W k) := fun k hk => by
        rcases Nat.lt_or_ge k n with hkn | hkn
        · exact says_more (hsay k hkn) (by simp only; omega)
        · obtain rfl : k = n := by omega
          have := says_all hall
          rw [lastV_snoc] at this
          exact this
      by_cases hw : W n = 0
      · have e2 : postF W rc s n = ((stopF n s).1 ++ [((n : Int), W n)], -1) := by unfold postF; rw [if_pos hw]
        rw [e2]
        refine ⟨fun p hpp => by have := hall p hpp; push_cast; omega, fun _ => by simp only; rw [lastV_snoc]; exact hw, fun h => absurd (show (0 : Int) ≤ -1 from h) (by decide), fun k hk => ?_⟩
        rw [withEnd_neg (show (-1 : Int) < 0 by decide)]
        exact hcase k hk
      · have e2 : postF W rc s n = ((stopF n s).1 ++ [((n : Int), W n)], rc n) := by unfold postF; rw [if_neg hw]
        rw [e2]
        refine ⟨fun p hpp => by have := hall p hpp; push_cast; omega, fun h => absurd h (by simp only; omega), fun _ => ⟨n, by omega, rfl, hall⟩, fun k hk => ?_⟩
        rw [withEnd_pos (show 0 ≤ rc n by omega)]
        exact says_more (hcase k hk) (by simp only; omega)
/-- All events of a direction and topic say what is wanted. -/
theorem ev_all (hrc : ∀ k, k < N → (k : Int) < rc k ∧ rc k ≤ N ∧ (∀ j : Nat, k < j → j < N → Jn j → rc k ≤ j) ∧ (rc k < N → ∃ j : Nat, rc k = j ∧ Jn j)) (k : Nat) (hk : k < N) :
    SaysAt (stopF N (evF W rc (pts W Jn N))).1 k (W k) := by
  have h := ev_step (W := W) hrc N (Nat.le_refl _)
  have e : (stopF N (evF W rc (pts W Jn N))).1 = withEnd (evF W rc (pts W Jn N)) := by
    generalize evF W rc (pts W Jn N) = s at *
    unfold stopF withEnd
    by_cases h0 : 0 ≤ s.2
    · obtain ⟨k0, q1, q2, _⟩ := h.pos h0
      rw [if_pos ⟨h0, by rw [q2]; exact (hrc k0 q1).2.1⟩, if_pos h0]
    · rw [if_neg (fun hh => h0 hh.1), if_neg h0]
  rw [e]
  exact h.says k hk
end
end Go.Proofs.YtdmmcdbojmalfaaGreat
