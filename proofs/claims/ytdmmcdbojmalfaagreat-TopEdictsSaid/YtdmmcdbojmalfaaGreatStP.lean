/- Plain law of RoadSets: counting of metres, and how long a difference can be. -/
import Derived.Test.YtdmmcdbojmalfaaGreatRJn
import Derived.Test.YtdmmcdbojmalfaaGreatLst
namespace Go.Proofs.YtdmmcdbojmalfaaGreat
open Go.RowKit
def inL (l : List (Int × Int)) (c : Int) : Bool := l.any fun p => decide (p.1 ≤ c) && decide (c < p.2)
theorem inL_iff {l : List (Int × Int)} {c : Int} : inL l c = true ↔ InS l c := by
  unfold inL InS
  rw [List.any_eq_true]
  constructor
  · rintro ⟨p, hp, h⟩; exact ⟨p, hp, by simpa using h⟩
  · rintro ⟨p, hp, h⟩; exact ⟨p, hp, by simpa using h⟩
theorem inL_cons {p : Int × Int} {l : List (Int × Int)} {c : Int} : inL (p :: l) c = ((decide (p.1 ≤ c) && decide (c < p.2)) || inL l c) := rfl
def cnt (f : Int → Bool) : Nat → Int
  | 0 => 0
  | n + 1 => cnt f n + if f (n : Int) = true then 1 else 0
theorem cnt_add {f g h : Int → Bool} (he : ∀ c, f c = true ↔ (g c = true ∨ h c = true)) (hd : ∀ c, ¬ (g c = true ∧ h c = true)) : ∀ n, cnt f n = cnt g n + cnt h n
  | 0 => rfl
  | n + 1 => by
    have ih := cnt_add he hd n
    simp only [cnt, ih]
    have h1 := he n
    have h2 := hd n
    by_cases a : g n = true <;> by_cases b : h n = true
    · exact absurd ⟨a, b⟩ h2
    · rw [if_pos (h1.2 (.inl a)), if_pos a, if_neg b]; omega
    · rw [if_pos (h1.2 (.inr b)), if_pos b, if_neg a]; omega
    · rw [if_neg (fun x => (h1.1 x).elim a b), if_neg a, if_neg b]; omega
theorem cnt_none {f : Int → Bool} (h : ∀ c, ¬ f c = true) : ∀ n, cnt f n = 0
  | 0 => rfl
  | n + 1 => by simp only [cnt, cnt_none h n, if_neg (h n)]; rfl
theorem cnt_int {a b : Int} (ha : 0 ≤ a) (hab : a ≤ b) : ∀ n : Nat, cnt (fun c => decide (a ≤ c) && decide (c < b)) n = min b n - min a n
  | 0 => by simp only [cnt]; omega
  | n + 1 => by
    simp only [cnt, cnt_int ha hab n]
    by_cases h : a ≤ (n : Int) ∧ (n : Int) < b
    · rw [if_pos (by simpa using h)]; omega
    · rw [if_neg (by simpa using h)]; omega
theorem cnt_met : ∀ {l : List (Int × Int)} {N : Nat}, Norm l → (∀ p ∈ l, 0 ≤ p.1 ∧ p.2 ≤ (N : Int)) → cnt (inL l) N = met l
  | [], N, _, _ => cnt_none (fun c hc => inS_nil (inL_iff.1 hc)) N
  | p :: l, N, hn, hb => by
    obtain ⟨n1, n2, n3⟩ := norm_cons.1 hn
    have ih := cnt_met (N := N) n3 fun q hq => hb q (List.mem_cons_of_mem _ hq)
    have hp := hb p (List.mem_cons_self ..)
    rw [cnt_add (f := inL (p :: l)) (g := fun c => decide (p.1 ≤ c) && decide (c < p.2)) (h := inL l) (fun c => by rw [inL_cons, Bool.or_eq_true]) (fun c hc => by
      have h1 := norm_ge hn (inL_iff.1 hc.2)
      have h2 := hc.1
      simp only [Bool.and_eq_true, decide_eq_true_eq] at h2
      omega) N, cnt_int hp.1 (by omega) N, ih]
    simp only [met]
    omega
/-- The totals add up. -/
theorem met_sum {u y z : List (Int × Int)} {N : Nat} (hu : Norm u) (hy : Norm y) (hz : Norm z) (bu : ∀ p ∈ u, 0 ≤ p.1 ∧ p.2 ≤ (N : Int)) (by' : ∀ p ∈ y, 0 ≤ p.1 ∧ p.2 ≤ (N : Int)) (bz : ∀ p ∈ z, 0 ≤ p.1 ∧ p.2 ≤ (N : Int)) (he : ∀ c, InS u c ↔ (InS y c ∨ InS z c)) (hd : ∀ c, ¬ (InS y c ∧ InS z c)) : met u = met y + met z := by
  rw [← cnt_met hu bu, ← cnt_met hy by', ← cnt_met hz bz]
  exact cnt_add (fun c => by rw [inL_iff, inL_iff, inL_iff]; exact he c) (fun c => by rw [inL_iff, inL_iff]; exact hd c) N
theorem nodup_len : ∀ {l m : List Int}, l.Pairwise (· < ·) → (∀ x ∈ l, x ∈ m) → l.length ≤ m.length
  | [], m, _, _ => Nat.zero_le _
  | x :: l, m, hp, hs => by
    obtain ⟨h1, h2⟩ := List.pairwise_cons.1 hp
    have hx := hs x (List.mem_cons_self ..)
    have ih := nodup_len (l := l) (m := m.erase x) h2 fun y hy => by
      have hlt := h1 y hy
      exact (List.mem_erase_of_ne (by omega)).2 (hs y (List.mem_cons_of_mem _ hy))
    have hl := List.length_erase_of_mem hx
    have := List.length_pos_of_mem hx
    simp only [List.length_cons]
    omega
theorem norm_before {us : List (Int × Int)} (hn : Norm us) {p : Int × Int} (hp : p ∈ us) : ¬ InS us (p.1 - 1) := by
  rintro ⟨q, hq, h1, h2⟩
  obtain ⟨i, hi, rfl⟩ := List.getElem_of_mem hp
  obtain ⟨j, hj, rfl⟩ := List.getElem_of_mem hq
  have hpw := List.pairwise_iff_getElem.1 hn.2
  have f1 := hn.1 _ hp
  rcases Nat.lt_trichotomy i j with h | h | h
  · have := hpw i j hi hj h
    omega
  · subst h; omega
  · have := hpw j i hj hi h
    omega
theorem norm_starts {us : List (Int × Int)} (hn : Norm us) : (us.map Prod.fst).Pairwise (· < ·) := by
  rw [List.pairwise_map]
  refine hn.2.imp_of_mem fun {p q} hp _ h => ?_
  have := hn.1 p hp
  omega
/-- A difference has at most as many stretches as both lists together. -/
theorem diff_len {us b a : List (Int × Int)} (hn : Norm us) (h : ∀ c, InS us c ↔ (InS b c ∧ ¬ InS a c)) : us.length ≤ b.length + a.length := by
  have h1 := nodup_len (l := us.map Prod.fst) (m := b.map Prod.fst ++ a.map Prod.snd) (norm_starts hn) fun x hx => by
    obtain ⟨p, hp, rfl⟩ := List.mem_map.1 hx
    obtain ⟨hb, ha⟩ := (h p.1).1 ⟨p, hp, Int.le_refl _, hn.1 p hp⟩
    have hnb := fun hh => norm_before hn hp ((h (p.1 - 1)).2 hh)
    obtain ⟨q, hq, q1, q2⟩ := hb
    by_cases e : q.1 = p.1
    · exact List.mem_append_left _ (List.mem_map.2 ⟨q, hq, e⟩)
    · have hb2 : InS b (p.1 - 1) := ⟨q, hq, by omega, by omega⟩
      have ha2 : InS a (p.1 - 1) := Classical.byContradiction fun hh => hnb ⟨hb2, hh⟩
      obtain ⟨r, hr, r1, r2⟩ := ha2
      have e2 : r.2 = p.1 := by
        have : ¬ (r.1 ≤ p.1 ∧ p.1 < r.2) := fun hh => ha ⟨r, hr, hh⟩
        omega
      exact List.mem_append_right _ (List.mem_map.2 ⟨r, hr, e2⟩)
  simpa using h1
theorem letL_iff {xs : List (Int × Int)} : LetL xs ↔ (∀ p ∈ xs, LetS p) ∧ xs.length ≤ 1000 := by
  unfold LetL
  constructor
  · rintro ⟨a, b⟩
    refine ⟨fun p hp => ?_, b⟩
    obtain ⟨j, hj, rfl⟩ := List.getElem_of_mem hp
    have := a j hj
    simpa [atp, hj] using this
  · rintro ⟨a, b⟩
    exact ⟨fun j hj => a _ (atp_mem hj), b⟩
theorem letL_append {a b : List (Int × Int)} (ha : LetL a) (hb : LetL b) (hl : a.length + b.length ≤ 1000) : LetL (a ++ b) := by
  rw [letL_iff] at *
  refine ⟨fun p hp => ?_, by simpa using hl⟩
  rcases List.mem_append.1 hp with h | h
  · exact ha.1 p h
  · exact hb.1 p h
theorem letL_diff {us b a : List (Int × Int)} (hb : LetL b) (hl : b.length + a.length ≤ 1000) (hn : Norm us) (h : ∀ c, InS us c ↔ (InS b c ∧ ¬ InS a c)) : LetL us := by
  have h1 := (un_in hb hn fun c hc => ((h c).1 hc).1).1
  have h2 := diff_len hn h
  rw [letL_iff]
  refine ⟨fun p hp => ?_, by omega⟩
  have := h1 p hp
  have := hn.1 p hp
  unfold LetS
  omega
/-- Of two lists: union, first list and what the second has besides. -/
theorem met_both {a b u y z : List (Int × Int)} (ha : LetL a) (hb : LetL b) (hu : Norm u) (hu2 : ∀ c, InS u c ↔ InS (a ++ b) c) (hl : a.length + b.length ≤ 1000) (hy : Norm y) (hy2 : ∀ c, InS y c ↔ InS a c) (hz : Norm z) (hz2 : ∀ c, InS z c ↔ (InS b c ∧ ¬ InS a c)) : met u = met y + met z := by
  have hab := letL_append ha hb hl
  have b1 := (un_in hab hu fun c hc => (hu2 c).1 hc).1
  have b2 := (un_in ha hy fun c hc => (hy2 c).1 hc).1
  have b3 := (un_in hb hz fun c hc => ((hz2 c).1 hc).1).1
  refine met_sum (N := 10000000) hu hy hz (by simpa using b1) (by simpa using b2) (by simpa using b3) (fun c => ?_) fun c => ?_
  · rw [hu2 c, hy2 c, hz2 c, inS_append]
    constructor
    · rintro (h | h)
      · exact .inl h
      · by_cases g : InS a c
        · exact .inl g
        · exact .inr ⟨h, g⟩
    · rintro (h | h)
      · exact .inl h
      · exact .inr h.1
  · rw [hy2 c, hz2 c]
    rintro ⟨h, _, g⟩
    exact g h
end Go.Proofs.YtdmmcdbojmalfaaGreat
