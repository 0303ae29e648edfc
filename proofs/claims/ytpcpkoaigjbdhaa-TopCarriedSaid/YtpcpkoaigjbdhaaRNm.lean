/- Plain: what the reference's Joined makes is the one list. -/
import Derived.Test.YtpcpkoaigjbdhaaRJn
namespace Go.Proofs.Ytpcpkoaigjbdhaa
open Go.RowKit
theorem pr1 {a y x t z : Prop} (h : (a ∨ x) ↔ (t ∨ z)) : ((a ∨ y) ∨ x) ↔ ((t ∨ y) ∨ z) := by rw [or_right_comm, h, or_right_comm]
theorem pr2 {a y x t z : Prop} (h : (a ∨ x) ↔ (t ∨ z)) : (((a ∨ x) ∨ y) ∨ x) ↔ ((t ∨ y) ∨ z) := by
  have e : (((a ∨ x) ∨ y) ∨ x) ↔ ((a ∨ y) ∨ x) := by
    constructor
    · rintro (((h | h) | h) | h)
      · exact .inl (.inl h)
      · exact .inr h
      · exact .inl (.inr h)
      · exact .inr h
    · rintro ((h | h) | h)
      · exact .inl (.inl (.inl h))
      · exact .inl (.inr h)
      · exact .inr h
  rw [e]
  exact pr1 h
theorem pr3 {a y x t z : Prop} (h : (a ∨ x) ↔ (t ∨ z)) : (a ∨ (x ∨ y)) ↔ ((t ∨ y) ∨ z) := by rw [← or_assoc, h, or_right_comm]
def InX (x : Int × Int) (c : Int) : Prop := x.1 ≤ c ∧ c < x.2
def InTo (o : List (Int × Int)) (j : Nat) (c : Int) : Prop := ∃ i, i < j ∧ InX (atp o i) c
theorem inTo_succ {o : List (Int × Int)} {j : Nat} {c : Int} : InTo o (j + 1) c ↔ InTo o j c ∨ InX (atp o j) c := by
  constructor
  · rintro ⟨i, hi, h⟩
    by_cases e : i = j
    · subst e; exact .inr h
    · exact .inl ⟨i, by omega, h⟩
  · rintro (⟨i, hi, h⟩ | h)
    · exact ⟨i, by omega, h⟩
    · exact ⟨j, by omega, h⟩
theorem inTo_all {o : List (Int × Int)} {c : Int} : InTo o o.length c ↔ InS o c := by
  constructor
  · rintro ⟨i, hi, h⟩
    exact ⟨_, atp_mem hi, h⟩
  · rintro ⟨p, hp, h⟩
    obtain ⟨i, hi, rfl⟩ := List.getElem_of_mem hp
    exact ⟨i, hi, by simpa [InX, atp, hi] using h⟩
theorem norm_lt {o : List (Int × Int)} (h : Norm o) {i j : Nat} (hij : i < j) (hj : j < o.length) : (atp o i).2 < (atp o j).1 := by
  have := List.pairwise_iff_getElem.1 h.2 i j (by omega) hj hij
  simpa [atp, hj, show i < o.length by omega] using this
structure JInv (o : List (Int × Int)) (x0 : Int × Int) (j : Nat) (st : JSt) : Prop where
  i1 : st.x.1 < st.x.2
  i2 : Norm st.nx
  i3 : ∀ c, (InS st.nx c ∨ InX st.x c) ↔ (InTo o j c ∨ InX x0 c)
  i4 : st.pl = false → ∀ p ∈ st.nx, p.2 < st.x.1
  i5 : st.pl = true → st.x ∈ st.nx ∧ ∀ i, j ≤ i → i < o.length → st.x.2 < (atp o i).1
  i6 : ∀ p ∈ st.nx, ∀ i, j ≤ i → i < o.length → p.2 < (atp o i).1
theorem jinv {o : List (Int × Int)} {x0 : Int × Int} (ho : Norm o) (hx : x0.1 < x0.2) : ∀ j, j ≤ o.length → JInv o x0 j (insTo o x0 j)
  | 0, _ => ⟨hx, norm_nil, fun c => ⟨fun h => h.elim (fun h => absurd h inS_nil) .inr, fun h => h.elim (fun ⟨_, h, _⟩ => by omega) .inr⟩, fun _ p hp => by (cases hp), fun h => by (cases h), fun p hp => by (cases hp)⟩
  | j + 1, hj => by
    have hi := jinv ho hx j (by omega)
    have hs : insTo o x0 (j + 1) = stepI (insTo o x0 j) (atp o j) := rfl
    rw [hs]
    have hy : (atp o j).1 < (atp o j).2 := ho.1 _ (atp_mem (by omega))
    have hnext : ∀ i, j + 1 ≤ i → i < o.length → (atp o j).2 < (atp o i).1 := fun i a b => norm_lt ho (by omega) b
    have hT := fun c => inTo_succ (o := o) (j := j) (c := c)
    generalize insTo o x0 j = st at *
    obtain ⟨x, nx, pl⟩ := st
    obtain ⟨i1, i2, i3, i4, i5, i6⟩ := hi
    simp only at i1 i2 i3 i4 i5 i6
    have hj6 : ∀ p ∈ nx, p.2 < (atp o j).1 := fun p hp => i6 p hp j (Nat.le_refl _) (by omega)
    have hj5 : pl = true → x.2 < (atp o j).1 := fun h => (i5 h).2 j (Nat.le_refl _) (by omega)
    generalize atp o j = y at *
    simp only [stepI]
    by_cases t1 : y.2 < x.1
    · rw [if_pos t1]
      cases pl with
      | true => have := hj5 rfl; omega
      | false =>
        refine ⟨i1, norm_snoc.2 ⟨i2, hy, hj6⟩, fun c => ?_, fun _ p hp => ?_, fun h => by (cases h), fun p hp i a b => ?_⟩
        · show (InS (nx ++ [y]) c ∨ InX x c) ↔ _
          rw [inS_append, inS_one, hT c]
          exact pr1 (i3 c)
        · rcases List.mem_append.1 hp with hp | hp
          · exact i4 rfl p hp
          · rw [List.mem_singleton.1 hp]; exact t1
        · rcases List.mem_append.1 hp with hp | hp
          · exact i6 p hp i (by omega) b
          · rw [List.mem_singleton.1 hp]; exact hnext i a b
    · rw [if_neg t1]
      by_cases t2 : x.2 < y.1
      · rw [if_pos t2]
        cases pl with
        | true =>
          obtain ⟨m1, m2⟩ := i5 rfl
          refine ⟨i1, norm_snoc.2 ⟨i2, hy, hj6⟩, fun c => ?_, fun h => by (cases h), fun _ => ⟨List.mem_append_left _ m1, fun i a b => m2 i (by omega) b⟩, fun p hp i a b => ?_⟩
          · show (InS (nx ++ [y]) c ∨ InX x c) ↔ _
            rw [inS_append, inS_one, hT c]
            exact pr1 (i3 c)
          · rcases List.mem_append.1 hp with hp | hp
            · exact i6 p hp i (by omega) b
            · rw [List.mem_singleton.1 hp]; exact hnext i a b
        | false =>
          refine ⟨i1, norm_snoc.2 ⟨norm_snoc.2 ⟨i2, i1, i4 rfl⟩, hy, fun p hp => ?_⟩, fun c => ?_, fun h => by (cases h), fun _ => ⟨List.mem_append_left _ (by simp), fun i a b => ?_⟩, fun p hp i a b => ?_⟩
          · rcases List.mem_append.1 hp with hp | hp
            · exact hj6 p hp
            · rw [List.mem_singleton.1 hp]; exact t2
          · show (InS ((nx ++ [x]) ++ [y]) c ∨ InX x c) ↔ _
            rw [inS_append, inS_append, inS_one, inS_one, hT c]
            exact pr2 (i3 c)
          · have := hnext i a b
            show x.2 < _
            omega
          · have h0 := hnext i a b
            rcases List.mem_append.1 hp with hp | hp
            · rcases List.mem_append.1 hp with hp | hp
              · exact i6 p hp i (by omega) b
              · rw [List.mem_singleton.1 hp]; omega
            · rw [List.mem_singleton.1 hp]; exact h0
      · rw [if_neg t2]
        cases pl with
        | true => exact absurd (hj5 rfl) t2
        | false =>
          refine ⟨by simp only; omega, i2, fun c => ?_, fun _ p hp => ?_, fun h => by (cases h), fun p hp i a b => i6 p hp i (by omega) b⟩
          · have e : InX (min x.1 y.1, max x.2 y.2) c ↔ (InX x c ∨ InX y c) := by unfold InX; simp only; omega
            show (InS nx c ∨ InX (min x.1 y.1, max x.2 y.2) c) ↔ _
            rw [e, hT c]
            exact pr3 (i3 c)
          · have h1 := i4 rfl p hp
            have h2 := hj6 p hp
            show p.2 < min x.1 y.1
            omega
theorem jn_norm {xs : List (Int × Int)} (hf : Full xs) : ∀ k, k ≤ xs.length → Norm (jnTo xs k) ∧ ∀ c, InS (jnTo xs k) c ↔ InTo xs k c
  | 0, _ => ⟨norm_nil, fun c => ⟨fun h => absurd h inS_nil, fun ⟨_, h, _⟩ => by omega⟩⟩
  | k + 1, hk => by
    obtain ⟨h1, h2⟩ := jn_norm hf k (by omega)
    have hx : (atp xs k).1 < (atp xs k).2 := hf _ (atp_mem (by omega))
    have hj := jinv h1 hx (jnTo xs k).length (Nat.le_refl _)
    have hs : jnTo xs (k + 1) = finJ (insTo (jnTo xs k) (atp xs k) (jnTo xs k).length) := rfl
    rw [hs]
    generalize insTo (jnTo xs k) (atp xs k) (jnTo xs k).length = st at *
    obtain ⟨x, nx, pl⟩ := st
    obtain ⟨i1, i2, i3, i4, i5, i6⟩ := hj
    simp only at i1 i2 i3 i4 i5 i6
    have hset : ∀ c, (InS nx c ∨ InX x c) ↔ InTo xs (k + 1) c := fun c => by rw [i3 c, inTo_all, h2 c, inTo_succ]
    cases pl with
    | true =>
      refine ⟨i2, fun c => ?_⟩
      show InS nx c ↔ _
      rw [← hset c]
      exact ⟨.inl, fun h => h.elim id fun h => ⟨x, (i5 rfl).1, h⟩⟩
    | false =>
      refine ⟨norm_snoc.2 ⟨i2, i1, i4 rfl⟩, fun c => ?_⟩
      show InS (nx ++ [x]) c ↔ _
      rw [inS_append, inS_one, ← hset c]
      rfl
/-- What the reference's Joined returns is the one list of the same metres. -/
theorem JnRes.norm {xs : List (Int × Int)} {w w' : World} {e : Ending} (h : JnRes xs w e w') (hf : Full xs) : UnRes xs w e w' := by
  obtain ⟨A', c', he, hP, hb⟩ := h
  obtain ⟨h1, h2⟩ := jn_norm hf xs.length (Nat.le_refl _)
  exact ⟨_, A', c', h1, fun c => (h2 c).trans inTo_all, jnTo_length xs xs.length, he, hP, hb⟩
end Go.Proofs.Ytpcpkoaigjbdhaa

