/- TopEdicts, plain: where a metre came from; the pieces say what the edicts said. -/
import Derived.Test.YtdmmcdbojmalfaaGreatEdMv
import Derived.Test.YtdmmcdbojmalfaaGreatTcP
namespace Go.Proofs.YtdmmcdbojmalfaaGreat
open Go.RowKit
/-- The metre of version n that metre m of version 0 became. -/
def fwd (cs : List Chg) (m : Int) : Option Int := runL gF (movesF cs 0 cs.length) m
theorem inS_sgl {a b c : Int} : InS [(a, b)] c ↔ a ≤ c ∧ c < b := by
  constructor
  · rintro ⟨p, hp, h⟩
    rw [List.mem_singleton.1 hp] at h
    exact h
  · intro h
    exact ⟨(a, b), by simp, h⟩
section
variable {num L : Int} {cs : List Chg}
theorem kept_inS (ho : RoadOk num L cs) {s : Int × Int} {us : List (Int × Int)} (h : KeptOut cs s 0 cs.length us) (c : Int) : InS us c ↔ ∃ d, (s.1 ≤ d ∧ d < s.2) ∧ fwd cs d = some c := by
  rw [h.2.1 c, keep_all (moves_ok ho (Nat.zero_le _) (Nat.le_refl _))]
  constructor
  · rintro ⟨d, hd, hr⟩; exact ⟨d, inS_sgl.1 hd, hr⟩
  · rintro ⟨d, hd, hr⟩; exact ⟨d, inS_sgl.2 hd, hr⟩
theorem fwd_inj (ho : RoadOk num L cs) {a b c : Int} (ha : fwd cs a = some c) (hb : fwd cs b = some c) : a = b := by
  have h1 := (moves_inv ho (Nat.zero_le _) (Nat.le_refl _) a c).1 ha
  have h2 := (moves_inv ho (Nat.zero_le _) (Nat.le_refl _) b c).1 hb
  rw [h1] at h2
  exact Option.some.inj h2
theorem fwd_in (ho : RoadOk num L cs) {m c : Int} (hm : 0 ≤ m ∧ m < L) (h : fwd cs m = some c) : 0 ≤ c ∧ c < lenAt L cs cs.length := met_in ho (Nat.zero_le _) (Nat.le_refl _) hm h
/-- Kept of one metre. -/
theorem kept_one (ho : RoadOk num L cs) {m : Int} {us : List (Int × Int)} (h : KeptOut cs (m, m + 1) 0 cs.length us) : us = match fwd cs m with | none => [] | some c => [(c, c + 1)] := by
  have hi := kept_inS ho h
  have hd : ∀ d : Int, (m ≤ d ∧ d < m + 1) ↔ d = m := fun d => by omega
  cases hf : fwd cs m with
  | none =>
    refine norm_unique h.1 ⟨fun p hp => (by cases hp), List.Pairwise.nil⟩ fun c => ?_
    rw [hi]
    constructor
    · rintro ⟨d, h1, h2⟩
      rw [(hd d).1 h1, hf] at h2
      cases h2
    · intro h; exact absurd h inS_nil
  | some c0 =>
    refine norm_unique h.1 ⟨fun p hp => by rw [List.mem_singleton.1 hp]; simp only; omega, List.pairwise_singleton ..⟩ fun c => ?_
    rw [hi, inS_sgl]
    constructor
    · rintro ⟨d, h1, h2⟩
      rw [(hd d).1 h1, hf] at h2
      injection h2 with h2
      omega
    · intro hc
      exact ⟨m, (hd m).2 rfl, by rw [hf]; congr 1; omega⟩
end
/-- What the law's array holds at place i behind the first m metres: where it came from, plus one. -/
def frF (cs : List Chg) : Nat → Nat → Int
  | 0, _ => 0
  | m + 1, i => if fwd cs (m : Int) = some (i : Int) then (m : Int) + 1 else frF cs m i
theorem frF_pos {cs : List Chg} : ∀ {m i : Nat}, frF cs m i ≠ 0 → ∃ k : Nat, k < m ∧ fwd cs (k : Int) = some (i : Int) ∧ frF cs m i = (k : Int) + 1
  | 0, i, h => absurd rfl h
  | m + 1, i, h => by
    unfold frF at h ⊢
    by_cases hf : fwd cs (m : Int) = some (i : Int)
    · rw [if_pos hf]; exact ⟨m, by omega, hf, rfl⟩
    · rw [if_neg hf] at h ⊢
      obtain ⟨k, h1, h2, h3⟩ := frF_pos h
      exact ⟨k, by omega, h2, h3⟩
theorem frF_zero {cs : List Chg} : ∀ {m i : Nat}, frF cs m i = 0 → ∀ k : Nat, k < m → fwd cs (k : Int) ≠ some (i : Int)
  | m + 1, i, h, k, hk => by
    unfold frF at h
    by_cases hf : fwd cs (m : Int) = some (i : Int)
    · rw [if_pos hf] at h; omega
    · rw [if_neg hf] at h
      by_cases e : k = m
      · subst e; exact hf
      · exact frF_zero h k (by omega)
/-- A place that a new metre comes to is free. -/
theorem frF_free {num L : Int} {cs : List Chg} (ho : RoadOk num L cs) {m i : Nat} (h : fwd cs (m : Int) = some (i : Int)) : frF cs m i = 0 := by
  by_cases h0 : frF cs m i = 0
  · exact h0
  · obtain ⟨k, h1, h2, _⟩ := frF_pos h0
    have := fwd_inj ho h h2
    omega
theorem kpF_inS {num L : Int} {cs : List Chg} (ho : RoadOk num L cs) {e : Edc} (hk : ∃ us, KeptOut cs (e.fr, e.til) 0 cs.length us) (c : Int) : InS (kpF cs cs.length e) c ↔ ∃ d, (e.fr ≤ d ∧ d < e.til) ∧ fwd cs d = some c := by
  obtain ⟨us, hu⟩ := hk
  rw [kpF_of hu]
  exact kept_inS ho hu c
/-- What the pieces ask of a metre. -/
theorem str_moved {num L : Int} {cs : List Chg} (ho : RoadOk num L cs) (hL : 0 ≤ L) {S : List Edc} (hs : ∀ e ∈ S, (∃ us, KeptOut cs (e.fr, e.til) 0 cs.length us) ∧ 0 ≤ e.fr ∧ e.til ≤ L) (topic dir hour : Int) (i : Nat) :
    strF topic dir hour (mvd (kpF cs cs.length) 0 S) i = if frF cs L.toNat i = 0 then 0 else strF topic dir hour S (frF cs L.toNat i - 1).toNat := by
  by_cases h0 : frF cs L.toNat i = 0
  · rw [if_pos h0]
    refine mvd_none topic dir hour (i : Int) 0 S 0 fun e he => ?_
    rw [kpF_inS ho (hs e he).1]
    rintro ⟨d, hd, hf⟩
    obtain ⟨_, h1, h2⟩ := hs e he
    have := frF_zero h0 d.toNat (by omega)
    rw [Int.toNat_of_nonneg (by omega)] at this
    exact this hf
  · rw [if_neg h0]
    obtain ⟨k, h1, h2, h3⟩ := frF_pos h0
    rw [h3, Int.add_sub_cancel, Int.toNat_natCast]
    refine mvd_fold topic dir hour (i : Int) (k : Int) 0 S 0 fun e he => ?_
    rw [kpF_inS ho (hs e he).1]
    constructor
    · rintro ⟨d, hd, hf⟩
      have := fwd_inj ho hf h2
      omega
    · intro hk
      exact ⟨k, hk, h2⟩
end Go.Proofs.YtdmmcdbojmalfaaGreat
