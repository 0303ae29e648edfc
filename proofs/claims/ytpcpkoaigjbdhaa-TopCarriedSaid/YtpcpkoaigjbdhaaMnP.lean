/- Plain: what the program's Minus makes is the one list of the metres that are left. -/
import Derived.Test.YtpcpkoaigjbdhaaRNm
namespace Go.Proofs.Ytpcpkoaigjbdhaa
open Go.RowKit
/-- Where the stretch goes on, and the parts that are done. -/
structure MSt where
  x : Int
  nx : List (Int × Int)
def stepM (s : Int × Int) (st : MSt) (h : Int × Int) : MSt :=
  if h.2 ≤ st.x ∨ s.2 ≤ h.1 then st else ⟨h.2, if st.x < h.1 then st.nx ++ [(st.x, h.1)] else st.nx⟩
def mnI (hs : List (Int × Int)) (s : Int × Int) : Nat → MSt
  | 0 => ⟨s.1, []⟩
  | j + 1 => stepM s (mnI hs s j) (atp hs j)
def finM (s : Int × Int) (st : MSt) : List (Int × Int) := if st.x < s.2 then st.nx ++ [(st.x, s.2)] else st.nx
def mnO (ls hs : List (Int × Int)) : Nat → List (Int × Int)
  | 0 => []
  | k + 1 => mnO ls hs k ++ finM (atp ls k) (mnI hs (atp ls k) hs.length)
theorem mnI_length (hs : List (Int × Int)) (s : Int × Int) : ∀ j, (mnI hs s j).nx.length ≤ j
  | 0 => Nat.le_refl _
  | j + 1 => by
    have ih := mnI_length hs s j
    simp only [mnI, stepM]
    split
    · omega
    · split
      · simp; omega
      · simp; omega
theorem mnO_length (ls hs : List (Int × Int)) : ∀ k, (mnO ls hs k).length ≤ k * (hs.length + 1)
  | 0 => by simp [mnO]
  | k + 1 => by
    have ih := mnO_length ls hs k
    have h := mnI_length hs (atp ls k) hs.length
    simp only [mnO, finM, List.length_append, Nat.add_mul, Nat.one_mul]
    split
    · simp; omega
    · omega
structure MInv (hs : List (Int × Int)) (s : Int × Int) (j : Nat) (st : MSt) : Prop where
  i1 : s.1 ≤ st.x
  i2 : Norm st.nx
  i3 : ∀ p ∈ st.nx, s.1 ≤ p.1 ∧ p.2 < st.x ∧ p.2 ≤ s.2
  i4 : ∀ c, InS st.nx c ↔ ((InX s c ∧ c < st.x) ∧ ¬ InTo hs j c)
  i5 : ∀ i, i < j → (atp hs i).2 ≤ st.x ∨ s.2 ≤ (atp hs i).1
  i6 : (st.x = s.1 ∧ st.nx = []) ∨ ∀ i, j ≤ i → i < hs.length → st.x < (atp hs i).1
theorem minv {hs : List (Int × Int)} {s : Int × Int} (hh : Norm hs) (hsf : s.1 < s.2) : ∀ j, j ≤ hs.length → MInv hs s j (mnI hs s j)
  | 0, _ => ⟨Int.le_refl _, norm_nil, fun p hp => by (cases hp), fun c => ⟨fun h => absurd h inS_nil, fun h => by have h1 := h.1.1.1; have h2 := h.1.2; simp only [mnI] at h2; omega⟩, fun i hi => by omega, .inl ⟨rfl, rfl⟩⟩
  | j + 1, hj => by
    have hi := minv hh hsf j (by omega)
    have hst : mnI hs s (j + 1) = stepM s (mnI hs s j) (atp hs j) := rfl
    rw [hst]
    have hy : (atp hs j).1 < (atp hs j).2 := hh.1 _ (atp_mem (by omega))
    have hnext : ∀ i, j + 1 ≤ i → i < hs.length → (atp hs j).2 < (atp hs i).1 := fun i a b => norm_lt hh (by omega) b
    have hT := fun c => inTo_succ (o := hs) (j := j) (c := c)
    have h5 : ∀ (x : Int), (∀ i, i < j → (atp hs i).2 ≤ x ∨ s.2 ≤ (atp hs i).1) → ((atp hs j).2 ≤ x ∨ s.2 ≤ (atp hs j).1) → ∀ i, i < j + 1 → (atp hs i).2 ≤ x ∨ s.2 ≤ (atp hs i).1 := fun x a b i hi => by
      by_cases e : i = j
      · subst e; exact b
      · exact a i (by omega)
    generalize mnI hs s j = st at *
    obtain ⟨x, nx⟩ := st
    obtain ⟨i1, i2, i3, i4, i5, i6⟩ := hi
    simp only at i1 i2 i3 i4 i5 i6
    have hj6 : (x = s.1 ∧ nx = []) ∨ x < (atp hs j).1 := i6.imp id fun h => h j (Nat.le_refl _) (by omega)
    have i6b : (x = s.1 ∧ nx = []) ∨ ∀ i, j + 1 ≤ i → i < hs.length → x < (atp hs i).1 := i6.imp id fun h i a b => h i (by omega) b
    generalize atp hs j = y at *
    simp only [stepM]
    by_cases t1 : y.2 ≤ x ∨ s.2 ≤ y.1
    · rw [if_pos t1]
      refine ⟨i1, i2, i3, fun c => ?_, h5 x i5 t1, i6b⟩
      show InS nx c ↔ ((InX s c ∧ c < x) ∧ ¬ InTo hs (j + 1) c)
      rw [i4 c, hT c]
      constructor
      · rintro ⟨⟨h1, h2⟩, h3⟩
        refine ⟨⟨h1, h2⟩, fun h => h.elim h3 fun h4 => ?_⟩
        unfold InX at h1 h4
        rcases hj6 with ⟨e, _⟩ | e <;> omega
      · rintro ⟨h1, h2⟩
        exact ⟨h1, fun h => h2 (.inl h)⟩
    · rw [if_neg t1]
      have hx5 : ∀ i, i < j → (atp hs i).2 ≤ y.2 ∨ s.2 ≤ (atp hs i).1 := fun i hi => (i5 i hi).imp (fun h => by omega) id
      have hset : ∀ c, x ≤ c → InX s c → ¬ InTo hs j c := fun c h1 h2 ⟨i, hi, h3⟩ => by
        unfold InX at h2 h3
        rcases i5 i hi with h | h <;> omega
      by_cases t2 : x < y.1
      · rw [if_pos t2]
        refine ⟨by simp only; omega, norm_snoc.2 ⟨i2, t2, fun p hp => (i3 p hp).2.1⟩, fun p hp => ?_, fun c => ?_, h5 y.2 hx5 (.inl (Int.le_refl _)), .inr fun i a b => hnext i a b⟩
        · rcases List.mem_append.1 hp with hp | hp
          · have := i3 p hp; simp only; omega
          · rw [List.mem_singleton.1 hp]; simp only; omega
        · show InS (nx ++ [(x, y.1)]) c ↔ ((InX s c ∧ c < y.2) ∧ ¬ InTo hs (j + 1) c)
          rw [inS_append, inS_one, i4 c, hT c]
          constructor
          · rintro (⟨⟨h1, h2⟩, h3⟩ | ⟨h1, h2⟩)
            · refine ⟨⟨h1, by omega⟩, fun h => h.elim h3 fun h4 => ?_⟩
              unfold InX at h4; omega
            · simp only at h1 h2
              have hs0 : InX s c := by unfold InX; omega
              refine ⟨⟨hs0, by omega⟩, fun h => h.elim (hset c h1 hs0) fun h4 => ?_⟩
              unfold InX at h4; omega
          · rintro ⟨⟨h1, h2⟩, h3⟩
            by_cases hc : c < x
            · exact .inl ⟨⟨h1, hc⟩, fun h => h3 (.inl h)⟩
            · refine .inr ⟨by simp only; omega, ?_⟩
              have : ¬ InX y c := fun h => h3 (.inr h)
              unfold InX at this
              simp only
              omega
      · rw [if_neg t2]
        refine ⟨by simp only; omega, i2, fun p hp => by have := i3 p hp; simp only; omega, fun c => ?_, h5 y.2 hx5 (.inl (Int.le_refl _)), .inr fun i a b => hnext i a b⟩
        show InS nx c ↔ ((InX s c ∧ c < y.2) ∧ ¬ InTo hs (j + 1) c)
        rw [i4 c, hT c]
        constructor
        · rintro ⟨⟨h1, h2⟩, h3⟩
          refine ⟨⟨h1, by omega⟩, fun h => h.elim h3 fun h4 => ?_⟩
          unfold InX at h1 h4
          rcases hj6 with ⟨e, _⟩ | e <;> omega
        · rintro ⟨⟨h1, h2⟩, h3⟩
          have : ¬ InX y c := fun h => h3 (.inr h)
          unfold InX at this
          exact ⟨⟨h1, by omega⟩, fun h => h3 (.inl h)⟩
theorem fin_inv {hs : List (Int × Int)} {s : Int × Int} (hh : Norm hs) (hsf : s.1 < s.2) : Norm (finM s (mnI hs s hs.length)) ∧ (∀ p ∈ finM s (mnI hs s hs.length), s.1 ≤ p.1 ∧ p.2 ≤ s.2) ∧ ∀ c, InS (finM s (mnI hs s hs.length)) c ↔ (InX s c ∧ ¬ InS hs c) := by
  obtain ⟨i1, i2, i3, i4, i5, _⟩ := minv hh hsf hs.length (Nat.le_refl _)
  generalize mnI hs s hs.length = st at *
  obtain ⟨x, nx⟩ := st
  simp only at i1 i2 i3 i4 i5
  have hT := fun c => inTo_all (o := hs) (c := c)
  have hset : ∀ c, x ≤ c → InX s c → ¬ InTo hs hs.length c := fun c h1 h2 ⟨i, hi, h3⟩ => by
    unfold InX at h2 h3
    rcases i5 i hi with h | h <;> omega
  simp only [finM]
  by_cases t : x < s.2
  · rw [if_pos t]
    refine ⟨norm_snoc.2 ⟨i2, t, fun p hp => (i3 p hp).2.1⟩, fun p hp => ?_, fun c => ?_⟩
    · rcases List.mem_append.1 hp with hp | hp
      · have := i3 p hp; omega
      · rw [List.mem_singleton.1 hp]; simp only; omega
    · rw [inS_append, inS_one, i4 c, hT c]
      constructor
      · rintro (⟨⟨h1, h2⟩, h3⟩ | ⟨h1, h2⟩)
        · exact ⟨h1, h3⟩
        · simp only at h1 h2
          have hs0 : InX s c := by unfold InX; omega
          exact ⟨hs0, fun h => hset c h1 hs0 ((hT c).2 h)⟩
      · rintro ⟨h1, h2⟩
        by_cases hc : c < x
        · exact .inl ⟨⟨h1, hc⟩, h2⟩
        · refine .inr ⟨by simp only; omega, ?_⟩
          unfold InX at h1
          simp only
          omega
  · rw [if_neg t]
    refine ⟨i2, fun p hp => by have := i3 p hp; omega, fun c => ?_⟩
    rw [i4 c, hT c]
    constructor
    · rintro ⟨⟨h1, _⟩, h3⟩; exact ⟨h1, h3⟩
    · rintro ⟨h1, h3⟩
      refine ⟨⟨h1, ?_⟩, h3⟩
      unfold InX at h1
      omega
theorem norm_append' {a b : List (Int × Int)} (ha : Norm a) (hb : Norm b) (hab : ∀ p ∈ a, ∀ q ∈ b, p.2 < q.1) : Norm (a ++ b) := by
  refine ⟨fun p hp => ?_, List.pairwise_append.2 ⟨ha.2, hb.2, hab⟩⟩
  rcases List.mem_append.1 hp with hp | hp
  · exact ha.1 p hp
  · exact hb.1 p hp
theorem mnO_inv {ls hs : List (Int × Int)} (hn : Norm ls) (hh : Norm hs) : ∀ k, k ≤ ls.length → Norm (mnO ls hs k) ∧ (∀ p ∈ mnO ls hs k, ∃ i, i < k ∧ (atp ls i).1 ≤ p.1 ∧ p.2 ≤ (atp ls i).2) ∧ ∀ c, InS (mnO ls hs k) c ↔ (InTo ls k c ∧ ¬ InS hs c)
  | 0, _ => ⟨norm_nil, fun p hp => by (cases hp), fun c => ⟨fun hc => absurd hc inS_nil, fun ⟨⟨_, hi, _⟩, _⟩ => by omega⟩⟩
  | k + 1, hk => by
    obtain ⟨a, b, c⟩ := mnO_inv hn hh k (by omega)
    obtain ⟨d, e, f⟩ := fin_inv hh (hn.1 _ (atp_mem (show k < ls.length by omega)))
    simp only [mnO]
    refine ⟨norm_append' a d fun p hp q hq => ?_, fun p hp => ?_, fun c' => ?_⟩
    · obtain ⟨i, hi, _, h2⟩ := b p hp
      have := norm_lt hn hi (by omega)
      have := (e q hq).1
      omega
    · rcases List.mem_append.1 hp with hp | hp
      · obtain ⟨i, hi, h1⟩ := b p hp
        exact ⟨i, by omega, h1⟩
      · exact ⟨k, by omega, e p hp⟩
    · rw [inS_append, c c', f c', inTo_succ]
      constructor
      · rintro (⟨h1, h2⟩ | ⟨h1, h2⟩)
        · exact ⟨.inl h1, h2⟩
        · exact ⟨.inr h1, h2⟩
      · rintro ⟨h1 | h1, h2⟩
        · exact .inl ⟨h1, h2⟩
        · exact .inr ⟨h1, h2⟩
end Go.Proofs.Ytpcpkoaigjbdhaa

