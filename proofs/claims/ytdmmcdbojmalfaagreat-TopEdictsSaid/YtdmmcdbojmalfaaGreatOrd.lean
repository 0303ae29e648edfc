/- Plain: places that are carried stay in their order; what is left of a stretch has no more metres than it had. -/
import Derived.Test.YtdmmcdbojmalfaaGreatRLn
import Derived.Test.YtdmmcdbojmalfaaGreatKpt
namespace Go.Proofs.YtdmmcdbojmalfaaGreat
open Go.RowKit
theorem moves_fit {num L : Int} {cs : List Chg} (h : RoadOk num L cs) {f t : Nat} (hf : f ≤ cs.length) (ht : t ≤ cs.length) : ∀ j, j < (movesF cs f t).length → (mvAt (movesF cs f t) j).a ≤ (mvAt (movesF cs f t) j).b ∧ (mvAt (movesF cs f t) j).a ≤ (mvAt (movesF cs f t) j).b + (mvAt (movesF cs f t) j).grow := by
  intro j hj
  rw [movesF_length] at hj
  have key : ∀ k, k < cs.length → ((upM cs k).a ≤ (upM cs k).b ∧ (upM cs k).a ≤ (upM cs k).b + (upM cs k).grow) ∧ ((downM cs k).a ≤ (downM cs k).b ∧ (downM cs k).a ≤ (downM cs k).b + (downM cs k).grow) := by
    intro k hk
    obtain ⟨⟨d0, d1⟩, d2, d3, d4⟩ := ch_bd h hk
    simp only [upM, downM]
    omega
  by_cases hft : f ≤ t
  · rw [mv_up cs hft (by omega)]
    exact (key (f + j) (by omega)).1
  · rw [mv_down cs (by omega) (by omega)]
    exact (key (f - 1 - j) (by omega)).2
theorem place_mono {m : Mov} {a b x y : Int} (hm : m.a ≤ m.b ∧ m.a ≤ m.b + m.grow) (hab : a ≤ b) (h1 : placeF m a = some x) (h2 : placeF m b = some y) : x ≤ y := by
  unfold placeF at h1 h2
  split at h1
  · cases h1
    split at h2
    · cases h2; omega
    · split at h2
      · cases h2; omega
      · cases h2
  · split at h1
    · cases h1
      split at h2
      · omega
      · split at h2
        · cases h2; omega
        · cases h2
    · cases h1
theorem carry_mono {ms : List Mov} (hm : ∀ j, j < ms.length → (mvAt ms j).a ≤ (mvAt ms j).b ∧ (mvAt ms j).a ≤ (mvAt ms j).b + (mvAt ms j).grow) {a b : Int} (hab : a ≤ b) : ∀ k, k ≤ ms.length → ∀ x y, carryTo ms a k = some x → carryTo ms b k = some y → x ≤ y
  | 0, _, x, y, h1, h2 => by simp only [carryTo] at h1 h2; cases h1; cases h2; exact hab
  | k + 1, hk, x, y, h1, h2 => by
    simp only [carryTo] at h1 h2
    cases ha : carryTo ms a k with
    | none => rw [ha] at h1; cases h1
    | some p =>
      cases hb : carryTo ms b k with
      | none => rw [hb] at h2; cases h2
      | some q =>
        rw [ha] at h1
        rw [hb] at h2
        exact place_mono (hm k (by omega)) (carry_mono hm hab k (by omega) p q ha hb) h1 h2
theorem carry_ok {num L : Int} {cs : List Chg} {c f t v er : Int} (h : CarryIs num L cs c f t v er) (he : er = 0) : RoadOk num L cs ∧ VersOk cs f t ∧ carryTo (movesF cs f.toNat t.toNat) c (movesF cs f.toNat t.toNat).length = some v := by
  subst he
  by_cases ho : RoadOk num L cs
  · by_cases hv : VersOk cs f t
    · by_cases hin : 0 ≤ c ∧ c ≤ lenAt L cs f.toNat
      · cases hr : carryTo (movesF cs f.toNat t.toNat) c (movesF cs f.toNat t.toNat).length with
        | some d => rw [((h.2.2.2 ho hv hin).1 d hr).1]; exact ⟨ho, hv, rfl⟩
        | none => exact absurd ((h.2.2.2 ho hv hin).2 hr).2 (by decide)
      · exact absurd (h.2.2.1 ho hv hin).2 (by decide)
    · exact absurd (h.2.1 ho hv).2 (by decide)
  · exact absurd (h.1 ho).2 (by decide)
theorem carry_order {num L : Int} {cs : List Chg} {a b f t v er v' er' : Int} (h : CarryIs num L cs a f t v er) (h' : CarryIs num L cs b f t v' er') (hab : a ≤ b) (he : er = 0) (he' : er' = 0) : v ≤ v' := by
  obtain ⟨ho, hv, h1⟩ := carry_ok h he
  obtain ⟨_, _, h2⟩ := carry_ok h' he'
  obtain ⟨⟨v0, v1⟩, v2, v3⟩ := hv
  exact carry_mono (moves_fit ho (by omega) (by omega)) hab _ (Nat.le_refl _) v v' h1 h2
theorem met_join {ys : List (Int × Int)} (ho : AscF ys) (hf : Full ys) : ∀ k, k ≤ ys.length → met (joinTo ys k) ≤ met (ys.take k)
  | 0, _ => by simp [joinTo, met]
  | k + 1, hk => by
    have ih := met_join ho hf k (by omega)
    have hs : (atp ys k).1 < (atp ys k).2 := hf _ (atp_mem (by omega))
    obtain ⟨_, _, h3⟩ := join_inv ho hf k (by omega)
    rw [met_take ys k (by omega)]
    simp only [joinTo]
    rcases List.eq_nil_or_concat (joinTo ys k) with e | ⟨l, p, e⟩
    · rw [e] at ih ⊢
      rw [stepJ_nil]
      simp only [met] at ih ⊢
      omega
    · rw [List.concat_eq_append] at e
      rw [e] at ih h3 ⊢
      have hp1 := h3 p (by simp) k (Nat.le_refl _) (by omega)
      rw [stepJ_snoc]
      split
      · rw [met_append] at ih ⊢
        simp only [met] at ih ⊢
        omega
      · rw [met_append]
        simp only [met]
        omega
theorem met_perm {a b : List (Int × Int)} (h : a.Perm b) : met a = met b := by
  induction h with
  | nil => rfl
  | cons x _ ih => simp only [met, ih]
  | swap x y l => simp only [met]; omega
  | trans _ _ ih1 ih2 => rw [ih1, ih2]
theorem asc_exists (xs : List (Int × Int)) : ∃ ys : List (Int × Int), ys.Perm xs ∧ AscF ys := by
  refine ⟨xs.mergeSort (fun p q => decide (p.1 ≤ q.1)), List.mergeSort_perm .., fun i j hij hj => ?_⟩
  have hp := List.pairwise_mergeSort (le := fun (p q : Int × Int) => decide (p.1 ≤ q.1)) (fun a b c h1 h2 => by simp at *; omega) (fun a b => by simp; omega) xs
  have := List.pairwise_iff_getElem.1 hp i j (by omega) hj hij
  simp only [atp, List.getD_eq_getElem?_getD]
  rw [List.getElem?_eq_getElem (by omega), List.getElem?_eq_getElem hj]
  simpa using this
/-- The one list has no more metres than any list of the same metres. -/
theorem met_norm {us xs : List (Int × Int)} (hu : Norm us) (hf : Full xs) (h : ∀ c, InS us c ↔ InS xs c) : met us ≤ met xs := by
  obtain ⟨ys, hp, ho⟩ := asc_exists xs
  have hfy : Full ys := fun p hp' => hf p (hp.mem_iff.1 hp')
  obtain ⟨n1, n2⟩ := join_norm ho hfy
  have : us = joinTo ys ys.length := norm_unique hu n1 fun c => by rw [h c, n2 c, inS_perm hp c]
  have hm := met_join ho hfy ys.length (Nat.le_refl _)
  rw [List.take_length, met_perm hp] at hm
  rw [this]
  exact hm
theorem kept_cases {num L : Int} {cs : List Chg} {s : Int × Int} {f t : Int} {w w' : World} {e : Ending} (h : KeptRes num L cs s f t w e w') :
    Below w.heap.size w w' ∧ ((∃ er : Int, (er = 60 ∨ er = 61 ∨ er = 2) ∧ e = .returned (.tuple #[.slice none 0 0, .int .i64 er])) ∨
      (∃ (us : List (Int × Int)) (A' : Option Addr) (c' : Nat), Norm us ∧ us.length ≤ 10000000 ∧ met us ≤ s.2 - s.1 ∧ e = .returned (.tuple #[.slice A' us.length c', .int .i64 0]) ∧ Pairs w' w'.heap.size A' us ∧ InK 10000000000 us ∧ s.2 - s.1 ≤ 10000000)) := by
  obtain ⟨h1, h2, h3, h4, hb⟩ := h
  refine ⟨hb, ?_⟩
  by_cases ho : RoadOk num L cs
  · by_cases hv : VersOk cs f t
    · by_cases hs : SpOk L cs s f.toNat
      · obtain ⟨us, A', c', ⟨n1, n2, n3⟩, he, hP⟩ := h4 ho hv hs
        obtain ⟨⟨v0, v1⟩, v2, v3⟩ := hv
        have hl := lenAt_bd ho.2.1.1 ho.2.1.2 f.toNat (fun j hj => ho.2.2.2 j (by omega))
        obtain ⟨s0, s1, s2⟩ := hs
        have hm := moves_ok ho (f := f.toNat) (t := t.toNat) (by omega) (by omega)
        have hF : Full [s] := fun p hp => by rw [List.mem_singleton.1 hp]; exact s1
        have hK : InK 10000000 [s] := fun p hp => by rw [List.mem_singleton.1 hp]; omega
        obtain ⟨a, b, c⟩ := keep_inv hm hF hK _ (Nat.le_refl _)
        have hmt := met_norm n1 a n2
        have hlen : (movesF cs f.toNat t.toNat).length ≤ 80 := by rw [movesF_length]; have := ho.2.2.1; omega
        refine .inr ⟨us, A', c', n1, n3, by simp only [met] at c; omega, he, hP, fun p hp => ?_, by omega⟩
        have f1 := n1.1 p hp
        obtain ⟨q, hq, q1, q2⟩ := (n2 p.1).1 ⟨p, hp, Int.le_refl _, f1⟩
        obtain ⟨r, hr, r1, r2⟩ := (n2 (p.2 - 1)).1 ⟨p, hp, by omega, by omega⟩
        have := b q hq
        have := b r hr
        omega
      · exact .inl ⟨2, by simp, h3 ho hv hs⟩
    · exact .inl ⟨61, by simp, h2 ho hv⟩
  · exact .inl ⟨60, by simp, h1 ho⟩
end Go.Proofs.YtdmmcdbojmalfaaGreat
