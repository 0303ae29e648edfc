/- Contract of the reference's Joined (71), as a plain function. -/
import Derived.Test.YtdmmcdbojmalfaaGreatNrm
import Derived.OneCell
namespace Go.Proofs.YtdmmcdbojmalfaaGreat
open Go.RowKit
/-- The state of the inner loop: the stretch, the next list, and whether it has been placed. -/
structure JSt where
  x : Int × Int
  nx : List (Int × Int)
  pl : Bool
def stepI (st : JSt) (y : Int × Int) : JSt :=
  if y.2 < st.x.1 then ⟨st.x, st.nx ++ [y], st.pl⟩ else if st.x.2 < y.1 then ⟨st.x, (if st.pl = true then st.nx else st.nx ++ [st.x]) ++ [y], true⟩ else ⟨(min st.x.1 y.1, max st.x.2 y.2), st.nx, st.pl⟩
def insTo (o : List (Int × Int)) (x : Int × Int) : Nat → JSt
  | 0 => ⟨x, [], false⟩
  | j + 1 => stepI (insTo o x j) (atp o j)
def finJ (st : JSt) : List (Int × Int) := if st.pl = true then st.nx else st.nx ++ [st.x]
def jnTo (xs : List (Int × Int)) : Nat → List (Int × Int)
  | 0 => []
  | k + 1 => finJ (insTo (jnTo xs k) (atp xs k) (jnTo xs k).length)
theorem insTo_length (o : List (Int × Int)) (x : Int × Int) : ∀ j, (insTo o x j).nx.length + (if (insTo o x j).pl = true then 0 else 1) ≤ j + 1
  | 0 => by simp [insTo]
  | j + 1 => by
    have ih := insTo_length o x j
    have hs : insTo o x (j + 1) = stepI (insTo o x j) (atp o j) := rfl
    rw [hs]
    generalize insTo o x j = st at ih ⊢
    generalize atp o j = y
    obtain ⟨x', nx, pl⟩ := st
    unfold stepI
    by_cases h1 : y.2 < x'.1
    · cases pl <;> simp [h1] at ih ⊢ <;> omega
    · by_cases h2 : x'.2 < y.1
      · cases pl <;> simp [h1, h2] at ih ⊢ <;> omega
      · cases pl <;> simp [h1, h2] at ih ⊢ <;> omega
theorem jnTo_length (xs : List (Int × Int)) : ∀ k, (jnTo xs k).length ≤ k
  | 0 => Nat.le_refl _
  | k + 1 => by
    have ih := jnTo_length xs k
    have h := insTo_length (jnTo xs k) (atp xs k) (jnTo xs k).length
    simp only [jnTo, finJ]
    generalize insTo (jnTo xs k) (atp xs k) (jnTo xs k).length = st at *
    obtain ⟨x', nx, pl⟩ := st
    cases pl <;> simp at h ⊢ <;> omega
def JnRes (xs : List (Int × Int)) (w : World) (e : Ending) (w' : World) : Prop :=
  ∃ (A' : Option Addr) (c' : Nat), e = .returned (.slice A' (jnTo xs xs.length).length c') ∧ Pairs w' w'.heap.size A' (jnTo xs xs.length) ∧ Below w.heap.size w w'
/-- The two cells of a stretch that may be written. -/
structure XBox (W : World) (n : Nat) (x : Int × Int) : Prop where
  p0 : W.cell? ⟨n, 0, none⟩ = some (.int .i64 x.1)
  p1 : W.cell? ⟨n, 1, none⟩ = some (.int .i64 x.2)
  z0 : W.frozen? ⟨n, 0, none⟩ = false
  z1 : W.frozen? ⟨n, 1, none⟩ = false
  pz : n < W.heap.size
theorem XBox.below {W W' : World} {n C : Nat} {x : Int × Int} (h : XBox W n x) (hb : Below C W W') (hC : n < C) : XBox W' n x :=
  ⟨(hb.cell (p := ⟨n, 0, none⟩) hC).trans h.p0, (hb.cell (p := ⟨n, 1, none⟩) hC).trans h.p1, (hb.frozen (p := ⟨n, 0, none⟩) hC).trans h.z0, (hb.frozen (p := ⟨n, 1, none⟩) hC).trans h.z1, Nat.lt_of_lt_of_le h.pz hb.size⟩
theorem XBox.new (w : World) (x : Int × Int) (T : TypeId) : XBox (w.alloc (.cells #[.int .i64 x.1, .int .i64 x.2] T)) w.heap.size x :=
  ⟨by simp [go_sem], by simp [go_sem], by simp [go_sem], by simp [go_sem], by simp⟩
theorem XBox.grown {W W' : World} {n : Nat} {x : Int × Int} {row : Option Nat} (h : XBox W n x) (hg : W.grownBy W' row) (hne : some n ≠ row) : XBox W' n x :=
  ⟨(hg.cell_far ⟨n, 0, none⟩ h.pz hne).trans h.p0, (hg.cell_far ⟨n, 1, none⟩ h.pz hne).trans h.p1, (hg.frozen_far ⟨n, 0, none⟩ h.pz hne).trans h.z0, (hg.frozen_far ⟨n, 1, none⟩ h.pz hne).trans h.z1, Nat.lt_of_lt_of_le h.pz hg.size⟩
theorem XBox.put {W : World} {n : Nat} {x : Int × Int} (h : XBox W n x) (y : Int × Int) (o : Obj) : XBox (((W.setCell ⟨n, 0, none⟩ (.int .i64 y.1)).setCell ⟨n, 1, none⟩ (.int .i64 y.2)).alloc o) n y := by
  have h1 : XBox ((W.setCell ⟨n, 0, none⟩ (.int .i64 y.1)).setCell ⟨n, 1, none⟩ (.int .i64 y.2)) n y := by
    refine ⟨?_, ?_, ?_, ?_, ?_⟩
    · rw [World.cell?_setCell_other _ _ _ _ (by intro e; injection e with _ e; cases e)]
      exact World.cell?_setCell_same _ _ _ h.p0
    · exact World.cell?_setCell_same _ _ _ ((World.cell?_setCell_other _ _ _ _ (by intro e; injection e with _ e; cases e)).trans h.p1)
    · rw [World.frozen?_setCell, World.frozen?_setCell]; exact h.z0
    · rw [World.frozen?_setCell, World.frozen?_setCell]; exact h.z1
    · simpa [World.setCell] using h.pz
  exact h1.below ((Below.refl _ _).alloc (Nat.le_refl _) o) h1.pz
end Go.Proofs.YtdmmcdbojmalfaaGreat
/- Plain: what the reference's Joined makes is the one list. -/
namespace Go.Proofs.YtdmmcdbojmalfaaGreat
open Go.RowKit
theorem pr1 {a y x t z : Prop} (h : (a ∨ x) ↔ (t ∨ z)) : ((a ∨ y) ∨ x) ↔ ((t ∨ y) ∨ z) := by rw [or_right_comm, h, or_right_comm]
theorem pr2 {a y x t z : Prop} (h : (a ∨ x) ↔ (t ∨ z)) : (((a ∨ x) ∨ y) ∨ x) ↔ ((t ∨ y) ∨ z) := by
  have e : (((a ∨ x) ∨ y) ∨ x) ↔ ((a ∨ y) ∨ x) := by
    constructor
    · rintro (((h | h) | h) | h)
      · exact .inl (.inl h)
      · exact .inr h
      · exact .inl (.inr h)
      · exact .inr h
    · rintro ((h | h) | h)
      · exact .inl (.inl (.inl h))
      · exact .inl (.inr h)
      · exact .inr h
  rw [e]
  exact pr1 h
theorem pr3 {a y x t z : Prop} (h : (a ∨ x) ↔ (t ∨ z)) : (a ∨ (x ∨ y)) ↔ ((t ∨ y) ∨ z) := by rw [← or_assoc, h, or_right_comm]
def InX (x : Int × Int) (c : Int) : Prop := x.1 ≤ c ∧ c < x.2
def InTo (o : List (Int × Int)) (j : Nat) (c : Int) : Prop := ∃ i, i < j ∧ InX (atp o i) c
theorem inTo_succ {o : List (Int × Int)} {j : Nat} {c : Int} : InTo o (j + 1) c ↔ InTo o j c ∨ InX (atp o j) c := by
  constructor
  · rintro ⟨i, hi, h⟩
    by_cases e : i = j
    · subst e; exact .inr h
    · exact .inl ⟨i, by omega, h⟩
  · rintro (⟨i, hi, h⟩ | h)
    · exact ⟨i, by omega, h⟩
    · exact ⟨j, by omega, h⟩
theorem inTo_all {o : List (Int × Int)} {c : Int} : InTo o o.length c ↔ InS o c := by
  constructor
  · rintro ⟨i, hi, h⟩
    exact ⟨_, atp_mem hi, h⟩
  · rintro ⟨p, hp, h⟩
    obtain ⟨i, hi, rfl⟩ := List.getElem_of_mem hp
    exact ⟨i, hi, by simpa [InX, atp, hi] using h⟩
theorem norm_lt {o : List (Int × Int)} (h : Norm o) {i j : Nat} (hij : i < j) (hj : j < o.length) : (atp o i).2 < (atp o j).1 := by
  have := List.pairwise_iff_getElem.1 h.2 i j (by omega) hj hij
  simpa [atp, hj, show i < o.length by omega] using this
structure JInv (o : List (Int × Int)) (x0 : Int × Int) (j : Nat) (st : JSt) : Prop where
  i1 : st.x.1 < st.x.2
  i2 : Norm st.nx
  i3 : ∀ c, (InS st.nx c ∨ InX st.x c) ↔ (InTo o j c ∨ InX x0 c)
  i4 : st.pl = false → ∀ p ∈ st.nx, p.2 < st.x.1
  i5 : st.pl = true → st.x ∈ st.nx ∧ ∀ i, j ≤ i → i < o.length → st.x.2 < (atp o i).1
  i6 : ∀ p ∈ st.nx, ∀ i, j ≤ i → i < o.length → p.2 < (atp o i).1
theorem jinv {o : List (Int × Int)} {x0 : Int × Int} (ho : Norm o) (hx : x0.1 < x0.2) : ∀ j, j ≤ o.length → JInv o x0 j (insTo o x0 j)
  | 0, _ => ⟨hx, norm_nil, fun c => ⟨fun h => h.elim (fun h => absurd h inS_nil) .inr, fun h => h.elim (fun ⟨_, h, _⟩ => by omega) .inr⟩, fun _ p hp => by (cases hp), fun h => by (cases h), fun p hp => by (cases hp)⟩
  | j + 1, hj => by
    have hi := jinv ho hx j (by omega)
    have hs : insTo o x0 (j + 1) = stepI (insTo o x0 j) (atp o j) := rfl
    rw [hs]
    have hy : (atp o j).1 < (atp o j).2 := ho.1 _ (atp_mem (by omega))
    have hnext : ∀ i, j + 1 ≤ i → i < o.length → (atp o j).2 < (atp o i).1 := fun i a b => norm_lt ho (by omega) b
    have hT := fun c => inTo_succ (o := o) (j := j) (c := c)
    generalize insTo o x0 j = st at *
    obtain ⟨x, nx, pl⟩ := st
    obtain ⟨i1, i2, i3, i4, i5, i6⟩ := hi
    simp only at i1 i2 i3 i4 i5 i6
    have hj6 : ∀ p ∈ nx, p.2 < (atp o j).1 := fun p hp => i6 p hp j (Nat.le_refl _) (by omega)
    have hj5 : pl = true → x.2 < (atp o j).1 := fun h => (i5 h).2 j (Nat.le_refl _) (by omega)
    generalize atp o j = y at *
    simp only [stepI]
    by_cases t1 : y.2 < x.1
    · rw [if_pos t1]
      cases pl with
      | true => have := hj5 rfl; omega
      | false =>
        refine ⟨i1, norm_snoc.2 ⟨i2, hy, hj6⟩, fun c => ?_, fun _ p hp => ?_, fun h => by (cases h), fun p hp i a b => ?_⟩
        · show (InS (nx ++ [y]) c ∨ InX x c) ↔ _
          rw [inS_append, inS_one, hT c]
          exact pr1 (i3 c)
        · rcases List.mem_append.1 hp with hp | hp
          · exact i4 rfl p hp
          · rw [List.mem_singleton.1 hp]; exact t1
        · rcases List.mem_append.1 hp with hp | hp
          · exact i6 p hp i (by omega) b
          · rw [List.mem_singleton.1 hp]; exact hnext i a b
    · rw [if_neg t1]
      by_cases t2 : x.2 < y.1
      · rw [if_pos t2]
        cases pl with
        | true =>
          obtain ⟨m1, m2⟩ := i5 rfl
          refine ⟨i1, norm_snoc.2 ⟨i2, hy, hj6⟩, fun c => ?_, fun h => by (cases h), fun _ => ⟨List.mem_append_left _ m1, fun i a b => m2 i (by omega) b⟩, fun p hp i a b => ?_⟩
          · show (InS (nx ++ [y]) c ∨ InX x c) ↔ _
            rw [inS_append, inS_one, hT c]
            exact pr1 (i3 c)
          · rcases List.mem_append.1 hp with hp | hp
            · exact i6 p hp i (by omega) b
            · rw [List.mem_singleton.1 hp]; exact hnext i a b
        | false =>
          refine ⟨i1, norm_snoc.2 ⟨norm_snoc.2 ⟨i2, i1, i4 rfl⟩, hy, fun p hp => ?_⟩, fun c => ?_, fun h => by (cases h), fun _ => ⟨List.mem_append_left _ (by simp), fun i a b => ?_⟩, fun p hp i a b => ?_⟩
          · rcases List.mem_append.1 hp with hp | hp
            · exact hj6 p hp
            · rw [List.mem_singleton.1 hp]; exact t2
          · show (InS ((nx ++ [x]) ++ [y]) c ∨ InX x c) ↔ _
            rw [inS_append, inS_append, inS_one, inS_one, hT c]
            exact pr2 (i3 c)
          · have := hnext i a b
            show x.2 < _
            omega
          · have h0 := hnext i a b
            rcases List.mem_append.1 hp with hp | hp
            · rcases List.mem_append.1 hp with hp | hp
              · exact i6 p hp i (by omega) b
              · rw [List.mem_singleton.1 hp]; omega
            · rw [List.mem_singleton.1 hp]; exact h0
      · rw [if_neg t2]
        cases pl with
        | true => exact absurd (hj5 rfl) t2
        | false =>
          refine ⟨by simp only; omega, i2, fun c => ?_, fun _ p hp => ?_, fun h => by (cases h), fun p hp i a b => i6 p hp i (by omega) b⟩
          · have e : InX (min x.1 y.1, max x.2 y.2) c ↔ (InX x c ∨ InX y c) := by unfold InX; simp only; omega
            show (InS nx c ∨ InX (min x.1 y.1, max x.2 y.2) c) ↔ _
            rw [e, hT c]
            exact pr3 (i3 c)
          · have h1 := i4 rfl p hp
            have h2 := hj6 p hp
            show p.2 < min x.1 y.1
            omega
theorem jn_norm {xs : List (Int × Int)} (hf : Full xs) : ∀ k, k ≤ xs.length → Norm (jnTo xs k) ∧ ∀ c, InS (jnTo xs k) c ↔ InTo xs k c
  | 0, _ => ⟨norm_nil, fun c => ⟨fun h => absurd h inS_nil, fun ⟨_, h, _⟩ => by omega⟩⟩
  | k + 1, hk => by
    obtain ⟨h1, h2⟩ := jn_norm hf k (by omega)
    have hx : (atp xs k).1 < (atp xs k).2 := hf _ (atp_mem (by omega))
    have hj := jinv h1 hx (jnTo xs k).length (Nat.le_refl _)
    have hs : jnTo xs (k + 1) = finJ (insTo (jnTo xs k) (atp xs k) (jnTo xs k).length) := rfl
    rw [hs]
    generalize insTo (jnTo xs k) (atp xs k) (jnTo xs k).length = st at *
    obtain ⟨x, nx, pl⟩ := st
    obtain ⟨i1, i2, i3, i4, i5, i6⟩ := hj
    simp only at i1 i2 i3 i4 i5 i6
    have hset : ∀ c, (InS nx c ∨ InX x c) ↔ InTo xs (k + 1) c := fun c => by rw [i3 c, inTo_all, h2 c, inTo_succ]
    cases pl with
    | true =>
      refine ⟨i2, fun c => ?_⟩
      show InS nx c ↔ _
      rw [← hset c]
      exact ⟨.inl, fun h => h.elim id fun h => ⟨x, (i5 rfl).1, h⟩⟩
    | false =>
      refine ⟨norm_snoc.2 ⟨i2, i1, i4 rfl⟩, fun c => ?_⟩
      show InS (nx ++ [x]) c ↔ _
      rw [inS_append, inS_one, ← hset c]
      rfl
/-- What the reference's Joined returns is the one list of the same metres. -/
theorem JnRes.norm {xs : List (Int × Int)} {w w' : World} {e : Ending} (h : JnRes xs w e w') (hf : Full xs) : UnRes xs w e w' := by
  obtain ⟨A', c', he, hP, hb⟩ := h
  obtain ⟨h1, h2⟩ := jn_norm hf xs.length (Nat.le_refl _)
  exact ⟨_, A', c', h1, fun c => (h2 c).trans inTo_all, jnTo_length xs xs.length, he, hP, hb⟩
end Go.Proofs.YtdmmcdbojmalfaaGreat
/- Plain: what the program's Minus makes is the one list of the metres that are left. -/
namespace Go.Proofs.YtdmmcdbojmalfaaGreat
open Go.RowKit
/-- Where the stretch goes on, and the parts that are done. -/
structure MSt where
  x : Int
  nx : List (Int × Int)
def stepM (s : Int × Int) (st : MSt) (h : Int × Int) : MSt :=
  if h.2 ≤ st.x ∨ s.2 ≤ h.1 then st else ⟨h.2, if st.x < h.1 then st.nx ++ [(st.x, h.1)] else st.nx⟩
def mnI (hs : List (Int × Int)) (s : Int × Int) : Nat → MSt
  | 0 => ⟨s.1, []⟩
  | j + 1 => stepM s (mnI hs s j) (atp hs j)
def finM (s : Int × Int) (st : MSt) : List (Int × Int) := if st.x < s.2 then st.nx ++ [(st.x, s.2)] else st.nx
def mnO (ls hs : List (Int × Int)) : Nat → List (Int × Int)
  | 0 => []
  | k + 1 => mnO ls hs k ++ finM (atp ls k) (mnI hs (atp ls k) hs.length)
theorem mnI_length (hs : List (Int × Int)) (s : Int × Int) : ∀ j, (mnI hs s j).nx.length ≤ j
  | 0 => Nat.le_refl _
  | j + 1 => by
    have ih := mnI_length hs s j
    simp only [mnI, stepM]
    split
    · omega
    · split
      · simp; omega
      · simp; omega
theorem mnO_length (ls hs : List (Int × Int)) : ∀ k, (mnO ls hs k).length ≤ k * (hs.length + 1)
  | 0 => by simp [mnO]
  | k + 1 => by
    have ih := mnO_length ls hs k
    have h := mnI_length hs (atp ls k) hs.length
    simp only [mnO, finM, List.length_append, Nat.add_mul, Nat.one_mul]
    split
    · simp; omega
    · omega
structure MInv (hs : List (Int × Int)) (s : Int × Int) (j : Nat) (st : MSt) : Prop where
  i1 : s.1 ≤ st.x
  i2 : Norm st.nx
  i3 : ∀ p ∈ st.nx, s.1 ≤ p.1 ∧ p.2 < st.x ∧ p.2 ≤ s.2
  i4 : ∀ c, InS st.nx c ↔ ((InX s c ∧ c < st.x) ∧ ¬ InTo hs j c)
  i5 : ∀ i, i < j → (atp hs i).2 ≤ st.x ∨ s.2 ≤ (atp hs i).1
  i6 : (st.x = s.1 ∧ st.nx = []) ∨ ∀ i, j ≤ i → i < hs.length → st.x < (atp hs i).1
theorem minv {hs : List (Int × Int)} {s : Int × Int} (hh : Norm hs) (hsf : s.1 < s.2) : ∀ j, j ≤ hs.length → MInv hs s j (mnI hs s j)
  | 0, _ => ⟨Int.le_refl _, norm_nil, fun p hp => by (cases hp), fun c => ⟨fun h => absurd h inS_nil, fun h => by have h1 := h.1.1.1; have h2 := h.1.2; simp only [mnI] at h2; omega⟩, fun i hi => by omega, .inl ⟨rfl, rfl⟩⟩
  | j + 1, hj => by
    have hi := minv hh hsf j (by omega)
    have hst : mnI hs s (j + 1) = stepM s (mnI hs s j) (atp hs j) := rfl
    rw [hst]
    have hy : (atp hs j).1 < (atp hs j).2 := hh.1 _ (atp_mem (by omega))
    have hnext : ∀ i, j + 1 ≤ i → i < hs.length → (atp hs j).2 < (atp hs i).1 := fun i a b => norm_lt hh (by omega) b
    have hT := fun c => inTo_succ (o := hs) (j := j) (c := c)
    have h5 : ∀ (x : Int), (∀ i, i < j → (atp hs i).2 ≤ x ∨ s.2 ≤ (atp hs i).1) → ((atp hs j).2 ≤ x ∨ s.2 ≤ (atp hs j).1) → ∀ i, i < j + 1 → (atp hs i).2 ≤ x ∨ s.2 ≤ (atp hs i).1 := fun x a b i hi => by
      by_cases e : i = j
      · subst e; exact b
      · exact a i (by omega)
    generalize mnI hs s j = st at *
    obtain ⟨x, nx⟩ := st
    obtain ⟨i1, i2, i3, i4, i5, i6⟩ := hi
    simp only at i1 i2 i3 i4 i5 i6
    have hj6 : (x = s.1 ∧ nx = []) ∨ x < (atp hs j).1 := i6.imp id fun h => h j (Nat.le_refl _) (by omega)
    have i6b : (x = s.1 ∧ nx = []) ∨ ∀ i, j + 1 ≤ i → i < hs.length → x < (atp hs i).1 := i6.imp id fun h i a b => h i (by omega) b
    generalize atp hs j = y at *
    simp only [stepM]
    by_cases t1 : y.2 ≤ x ∨ s.2 ≤ y.1
    · rw [if_pos t1]
      refine ⟨i1, i2, i3, fun c => ?_, h5 x i5 t1, i6b⟩
      show InS nx c ↔ ((InX s c ∧ c < x) ∧ ¬ InTo hs (j + 1) c)
      rw [i4 c, hT c]
      constructor
      · rintro ⟨⟨h1, h2⟩, h3⟩
        refine ⟨⟨h1, h2⟩, fun h => h.elim h3 fun h4 => ?_⟩
        unfold InX at h1 h4
        rcases hj6 with ⟨e, _⟩ | e <;> omega
      · rintro ⟨h1, h2⟩
        exact ⟨h1, fun h => h2 (.inl h)⟩
    · rw [if_neg t1]
      have hx5 : ∀ i, i < j → (atp hs i).2 ≤ y.2 ∨ s.2 ≤ (atp hs i).1 := fun i hi => (i5 i hi).imp (fun h => by omega) id
      have hset : ∀ c, x ≤ c → InX s c → ¬ InTo hs j c := fun c h1 h2 ⟨i, hi, h3⟩ => by
        unfold InX at h2 h3
        rcases i5 i hi with h | h <;> omega
      by_cases t2 : x < y.1
      · rw [if_pos t2]
        refine ⟨by simp only; omega, norm_snoc.2 ⟨i2, t2, fun p hp => (i3 p hp).2.1⟩, fun p hp => ?_, fun c => ?_, h5 y.2 hx5 (.inl (Int.le_refl _)), .inr fun i a b => hnext i a b⟩
        · rcases List.mem_append.1 hp with hp | hp
          · have := i3 p hp; simp only; omega
          · rw [List.mem_singleton.1 hp]; simp only; omega
        · show InS (nx ++ [(x, y.1)]) c ↔ ((InX s c ∧ c < y.2) ∧ ¬ InTo hs (j + 1) c)
          rw [inS_append, inS_one, i4 c, hT c]
          constructor
          · rintro (⟨⟨h1, h2⟩, h3⟩ | ⟨h1, h2⟩)
            · refine ⟨⟨h1, by omega⟩, fun h => h.elim h3 fun h4 => ?_⟩
              unfold InX at h4; omega
            · simp only at h1 h2
              have hs0 : InX s c := by unfold InX; omega
              refine ⟨⟨hs0, by omega⟩, fun h => h.elim (hset c h1 hs0) fun h4 => ?_⟩
              unfold InX at h4; omega
          · rintro ⟨⟨h1, h2⟩, h3⟩
            by_cases hc : c < x
            · exact .inl ⟨⟨h1, hc⟩, fun h => h3 (.inl h)⟩
            · refine .inr ⟨by simp only; omega, ?_⟩
              have : ¬ InX y c := fun h => h3 (.inr h)
              unfold InX at this
              simp only
              omega
      · rw [if_neg t2]
        refine ⟨by simp only; omega, i2, fun p hp => by have := i3 p hp; simp only; omega, fun c => ?_, h5 y.2 hx5 (.inl (Int.le_refl _)), .inr fun i a b => hnext i a b⟩
        show InS nx c ↔ ((InX s c ∧ c < y.2) ∧ ¬ InTo hs (j + 1) c)
        rw [i4 c, hT c]
        constructor
        · rintro ⟨⟨h1, h2⟩, h3⟩
          refine ⟨⟨h1, by omega⟩, fun h => h.elim h3 fun h4 => ?_⟩
          unfold InX at h1 h4
          rcases hj6 with ⟨e, _⟩ | e <;> omega
        · rintro ⟨⟨h1, h2⟩, h3⟩
          have : ¬ InX y c := fun h => h3 (.inr h)
          unfold InX at this
          exact ⟨⟨h1, by omega⟩, fun h => h3 (.inl h)⟩
theorem fin_inv {hs : List (Int × Int)} {s : Int × Int} (hh : Norm hs) (hsf : s.1 < s.2) : Norm (finM s (mnI hs s hs.length)) ∧ (∀ p ∈ finM s (mnI hs s hs.length), s.1 ≤ p.1 ∧ p.2 ≤ s.2) ∧ ∀ c, InS (finM s (mnI hs s hs.length)) c ↔ (InX s c ∧ ¬ InS hs c) := by
  obtain ⟨i1, i2, i3, i4, i5, _⟩ := minv hh hsf hs.length (Nat.le_refl _)
  generalize mnI hs s hs.length = st at *
  obtain ⟨x, nx⟩ := st
  simp only at i1 i2 i3 i4 i5
  have hT := fun c => inTo_all (o := hs) (c := c)
  have hset : ∀ c, x ≤ c → InX s c → ¬ InTo hs hs.length c := fun c h1 h2 ⟨i, hi, h3⟩ => by
    unfold InX at h2 h3
    rcases i5 i hi with h | h <;> omega
  simp only [finM]
  by_cases t : x < s.2
  · rw [if_pos t]
    refine ⟨norm_snoc.2 ⟨i2, t, fun p hp => (i3 p hp).2.1⟩, fun p hp => ?_, fun c => ?_⟩
    · rcases List.mem_append.1 hp with hp | hp
      · have := i3 p hp; omega
      · rw [List.mem_singleton.1 hp]; simp only; omega
    · rw [inS_append, inS_one, i4 c, hT c]
      constructor
      · rintro (⟨⟨h1, h2⟩, h3⟩ | ⟨h1, h2⟩)
        · exact ⟨h1, h3⟩
        · simp only at h1 h2
          have hs0 : InX s c := by unfold InX; omega
          exact ⟨hs0, fun h => hset c h1 hs0 ((hT c).2 h)⟩
      · rintro ⟨h1, h2⟩
        by_cases hc : c < x
        · exact .inl ⟨⟨h1, hc⟩, h2⟩
        · refine .inr ⟨by simp only; omega, ?_⟩
          unfold InX at h1
          simp only
          omega
  · rw [if_neg t]
    refine ⟨i2, fun p hp => by have := i3 p hp; omega, fun c => ?_⟩
    rw [i4 c, hT c]
    constructor
    · rintro ⟨⟨h1, _⟩, h3⟩; exact ⟨h1, h3⟩
    · rintro ⟨h1, h3⟩
      refine ⟨⟨h1, ?_⟩, h3⟩
      unfold InX at h1
      omega
theorem norm_append' {a b : List (Int × Int)} (ha : Norm a) (hb : Norm b) (hab : ∀ p ∈ a, ∀ q ∈ b, p.2 < q.1) : Norm (a ++ b) := by
  refine ⟨fun p hp => ?_, List.pairwise_append.2 ⟨ha.2, hb.2, hab⟩⟩
  rcases List.mem_append.1 hp with hp | hp
  · exact ha.1 p hp
  · exact hb.1 p hp
theorem mnO_inv {ls hs : List (Int × Int)} (hn : Norm ls) (hh : Norm hs) : ∀ k, k ≤ ls.length → Norm (mnO ls hs k) ∧ (∀ p ∈ mnO ls hs k, ∃ i, i < k ∧ (atp ls i).1 ≤ p.1 ∧ p.2 ≤ (atp ls i).2) ∧ ∀ c, InS (mnO ls hs k) c ↔ (InTo ls k c ∧ ¬ InS hs c)
  | 0, _ => ⟨norm_nil, fun p hp => by (cases hp), fun c => ⟨fun hc => absurd hc inS_nil, fun ⟨⟨_, hi, _⟩, _⟩ => by omega⟩⟩
  | k + 1, hk => by
    obtain ⟨a, b, c⟩ := mnO_inv hn hh k (by omega)
    obtain ⟨d, e, f⟩ := fin_inv hh (hn.1 _ (atp_mem (show k < ls.length by omega)))
    simp only [mnO]
    refine ⟨norm_append' a d fun p hp q hq => ?_, fun p hp => ?_, fun c' => ?_⟩
    · obtain ⟨i, hi, _, h2⟩ := b p hp
      have := norm_lt hn hi (by omega)
      have := (e q hq).1
      omega
    · rcases List.mem_append.1 hp with hp | hp
      · obtain ⟨i, hi, h1⟩ := b p hp
        exact ⟨i, by omega, h1⟩
      · exact ⟨k, by omega, e p hp⟩
    · rw [inS_append, c c', f c', inTo_succ]
      constructor
      · rintro (⟨h1, h2⟩ | ⟨h1, h2⟩)
        · exact ⟨.inl h1, h2⟩
        · exact ⟨.inr h1, h2⟩
      · rintro ⟨h1 | h1, h2⟩
        · exact .inl ⟨h1, h2⟩
        · exact .inr ⟨h1, h2⟩
end Go.Proofs.YtdmmcdbojmalfaaGreat
