/- What Dimmed returns, and the contract of slices.Clone here. -/
import Derived.Test.YtihhfelhdgmceaaOwn3
import Derived.Test.YtihhfelhdgmceaaShelf
import Derived.Test.YtihhfelhdgmceaaAge
import Derived.Test.YtihhfelhdgmceaaBoxed
import Derived.Deep.RegionWith
import Derived.Deep.DeepCutAuto
import Derived.Handy
namespace Go.Proofs.Ytihhfelhdgmceaa
open Go.RowKit
theorem info22 : (Try.prog.info? 22).map (fun i => (i.zero, i.size, i.bytes)) = some (some (.slice none 0 0), 1, 24) := by kernel_rfl
/-- The first k rows of the aged table. -/
def dimTo (t : Tb) (keep : Int) (n k : Nat) : List (List Int) := (List.range k).map fun j => (at1 t.r j).map (agedF keep n)
theorem dimTo_length (t : Tb) (keep : Int) (n k : Nat) : (dimTo t keep n k).length = k := by simp [dimTo]
theorem dimTo_succ (t : Tb) (keep : Int) (n k : Nat) : dimTo t keep n (k + 1) = dimTo t keep n k ++ [(at1 t.r k).map (agedF keep n)] := by simp [dimTo, List.range_succ]
def dimT (t : Tb) (keep : Int) (n : Nat) : Tb := ⟨t.obs, t.ent, dimTo t keep n t.r.length⟩
def noT : Tb := ⟨[], [], []⟩
def DimIs (t : Tb) (keep years : Int) (er : Int) (u : Tb) : Prop :=
  (¬ TabOk t → er = 30 ∧ u = noT) ∧ (TabOk t → ¬ ageOk keep years → er = 2 ∧ u = noT) ∧ (TabOk t → ageOk keep years → er = 0 ∧ u = dimT t keep years.toNat)
theorem dimIs_one {t u u' : Tb} {keep years er er' : Int} (h : DimIs t keep years er u) (h' : DimIs t keep years er' u') : er = er' ∧ u = u' := by
  by_cases ho : TabOk t
  · by_cases hf : ageOk keep years
    · obtain ⟨a, b⟩ := h.2.2 ho hf; obtain ⟨a', b'⟩ := h'.2.2 ho hf; exact ⟨a.trans a'.symm, b.trans b'.symm⟩
    · obtain ⟨a, b⟩ := h.2.1 ho hf; obtain ⟨a', b'⟩ := h'.2.1 ho hf; exact ⟨a.trans a'.symm, b.trans b'.symm⟩
  · obtain ⟨a, b⟩ := h.1 ho; obtain ⟨a', b'⟩ := h'.1 ho; exact ⟨a.trans a'.symm, b.trans b'.symm⟩
theorem noT_tab (w : World) (B : Nat) : Tab w B none none none noT := ⟨.inl rfl, .inl rfl, .inl rfl⟩
/-- What Dimmed returns. -/
def DimRes (t : Tb) (keep years : Int) (w : World) (e : Ending) (w' : World) : Prop :=
  ∃ (er : Int) (u : Tb) (A0 A1 A2 : Option Addr) (c0 c1 c2 : Nat), DimIs t keep years er u ∧ e = .returned (.tuple #[.agg #[.slice A0 u.obs.length c0, .slice A1 u.ent.length c1, .slice A2 u.r.length c2], .int .i64 er]) ∧ Tab w' w'.heap.size A0 A1 A2 u ∧ Below w.heap.size w w'
theorem dim_bad {t : Tb} {keep years : Int} (h : ¬ TabOk t) : DimIs t keep years 30 noT := ⟨fun _ => ⟨rfl, rfl⟩, fun h' => absurd h' h, fun h' => absurd h' h⟩
theorem dim_arg {t : Tb} {keep years : Int} (h : TabOk t) (h2 : ¬ ageOk keep years) : DimIs t keep years 2 noT := ⟨fun h' => absurd h h', fun _ _ => ⟨rfl, rfl⟩, fun _ h' => absurd h' h2⟩
theorem dim_ok {t : Tb} {keep years : Int} (h : TabOk t) (h2 : ageOk keep years) : DimIs t keep years 0 (dimT t keep years.toNat) := ⟨fun h' => absurd h h', fun _ h' => absurd h2 h', fun _ _ => ⟨rfl, rfl⟩⟩
theorem lclone (A : Option Addr) (c B : Nat) (xs : List Int) (w : World) (h : Ints w B A xs) (h0 : 0 < xs.length) (hn : xs.length ≤ 40) :
    Calls Try.prog 70 #[.slice A xs.length c] w fun e w' => ∃ (A' : Option Addr) (c' : Nat), e = .returned (.slice A' xs.length c') ∧ IntsN w' w.heap.size none A' xs ∧ Below w.heap.size w w' := by
  obtain ⟨b, off, rfl, _, hc⟩ := h.at_ h0
  refine (Try.slices_Clone_int b off xs.length c xs w (Nat.le_refl _) (by omega) hc).mono ?_
  rintro e w' ⟨v', rfl, hown, _, hb⟩
  rw [List.take_length] at hown
  obtain ⟨g, cap, hv, hg, hg2⟩ := hown.form h0
  obtain ⟨A', c', rfl, hI⟩ := owns_ints hown rfl
  cases hv
  exact ⟨_, _, rfl, IntsN.of hI (Nat.le_refl _) (fun a ha => by cases ha; exact ⟨hg, by simp⟩), hb⟩
/-- A coefficient of a valid table is a coefficient. -/
theorem tab_cell {t : Tb} (h : TabOk t) {i k : Nat} (hi : i < t.r.length) (hk : k < (at1 t.r i).length) : 0 ≤ at0 (at1 t.r i) k ∧ at0 (at1 t.r i) k ≤ 100000 := by
  obtain ⟨h1, h2⟩ := h.2.2.2 i hi
  obtain ⟨a, b, _⟩ := h2 k (by omega)
  exact ⟨a, b⟩
/-- A row of which the first m cells are aged. -/
def rowL (xs : List Int) (keep : Int) (n m : Nat) : List Value := (List.range xs.length).map fun j => if j < m then .int .i64 (agedF keep n (at0 xs j)) else .int .i64 0
theorem rowL_zero (xs : List Int) (keep : Int) (n : Nat) : rowL xs keep n 0 = List.replicate xs.length (.int .i64 0) := by
  simp [rowL, List.map_const']
theorem rowL_at (xs : List Int) (keep : Int) (n m j : Nat) (h : j < xs.length) : (rowL xs keep n m)[j]? = some (if j < m then .int .i64 (agedF keep n (at0 xs j)) else .int .i64 0) := by simp [rowL, h]
theorem rowL_set (xs : List Int) (keep : Int) (n m : Nat) : (rowL xs keep n m).set m (.int .i64 (agedF keep n (at0 xs m))) = rowL xs keep n (m + 1) := by
  apply List.ext_getElem?
  intro j
  by_cases hj : j < xs.length
  · rw [rowL_at _ _ _ _ _ hj, List.getElem?_set]
    by_cases e : m = j
    · subst e
      simp [rowL, hj]
    · rw [if_neg e, rowL_at _ _ _ _ _ hj]
      by_cases e2 : j < m
      · simp [e2, show j < m + 1 by omega]
      · simp [e2, show ¬ j < m + 1 by omega]
  · rw [List.getElem?_eq_none (by simp [rowL]; omega), List.getElem?_eq_none (by simp [rowL]; omega)]
theorem rowL_ints {w : World} {base g c : Nat} {xs : List Int} {keep : Int} {n : Nat} (h : w.ownsRow base 3 1 (.slice (some ⟨g, 0, none⟩) xs.length c) xs.length (rowL xs keep n xs.length)) :
    ∀ j, j < (xs.map (agedF keep n)).length → w.cell? ⟨g, 0 + j, none⟩ = some (.int .i64 (at0 (xs.map (agedF keep n)) j)) := by
  intro j hj
  rw [List.length_map] at hj
  rw [Nat.zero_add, h.cellAt j (by omega), rowL_at _ _ _ _ _ hj, if_pos hj]
  simp [at0, hj]
end Go.Proofs.Ytihhfelhdgmceaa
