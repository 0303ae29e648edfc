/- Contracts of validSpans (69, at lists of stretches in a literal) and Lists (48). -/
import Derived.Test.YtdmmcdbojmalfaaGreatKep
import Derived.Deep.DeepCutAuto
import Derived.Test.YtdmmcdbojmalfaaGreatRJn
namespace Go.Proofs.YtdmmcdbojmalfaaGreat
open Go.RowKit
/-- A stretch that is let. -/
def LetS (p : Int × Int) : Prop := 0 ≤ p.1 ∧ p.1 < p.2 ∧ p.2 ≤ 10000000
def LetL (xs : List (Int × Int)) : Prop := (∀ j, j < xs.length → LetS (atp xs j)) ∧ xs.length ≤ 1000
def BoolRes (P : Prop) (w : World) (e : Ending) (w' : World) : Prop := (P → e = .returned (.bool true)) ∧ (¬ P → e = .returned (.bool false)) ∧ Below w.heap.size w w'
/-- A list of stretches as a slice has it. -/
structure LsE where
  a : Option Addr
  c : Nat
  xs : List (Int × Int)
def lsAt (ls : List LsE) (j : Nat) : LsE := ls.getD j ⟨none, 0, []⟩
/-- The slice address A reads as the lists ls, in blocks below B. -/
def LLs (w : World) (B : Nat) (A : Option Addr) (ls : List LsE) : Prop :=
  ∃ b off, A = some ⟨b, off, none⟩ ∧ b < B ∧ ∀ j, j < ls.length → w.cell? ⟨b, off + j, none⟩ = some (.slice (lsAt ls j).a (lsAt ls j).xs.length (lsAt ls j).c) ∧ Pairs w B (lsAt ls j).a (lsAt ls j).xs ∧ (lsAt ls j).xs.length ≤ 9223372036854775807
theorem LLs.below {w w' : World} {B : Nat} {A : Option Addr} {ls : List LsE} (h : LLs w B A ls) (hb : Below B w w') : LLs w' B A ls := by
  obtain ⟨b, off, hA, hbl, hc⟩ := h
  exact ⟨b, off, hA, hbl, fun j hj => ⟨(hb.cell (p := ⟨b, off + j, none⟩) hbl).trans (hc j hj).1, (hc j hj).2.1.below hb, (hc j hj).2.2⟩⟩
end Go.Proofs.YtdmmcdbojmalfaaGreat
/- Contracts of total (62) and Metres (63). -/
namespace Go.Proofs.YtdmmcdbojmalfaaGreat
open Go.RowKit
theorem met_bd {us : List (Int × Int)} (h : Full us) : ∀ k, k ≤ us.length → 0 ≤ met (us.take k) ∧ met (us.take k) ≤ met us := by
  intro k hk
  have e : met us = met (us.take k) + met (us.drop k) := by rw [← met_append, List.take_append_drop]
  have h1 := met_ge (l := us.take k) fun p hp => h p (List.mem_of_mem_take hp)
  have h2 := met_ge (l := us.drop k) fun p hp => h p (List.mem_of_mem_drop hp)
  omega
end Go.Proofs.YtdmmcdbojmalfaaGreat
/- Contracts of Union and Total (both texts). -/
namespace Go.Proofs.YtdmmcdbojmalfaaGreat
open Go.RowKit
theorem LetL.full {xs : List (Int × Int)} (h : LetL xs) : Full xs := fun p hp => by
  obtain ⟨j, hj, rfl⟩ := List.getElem_of_mem hp
  have := (h.1 j hj).2.1
  simpa [atp, hj] using this
theorem LetL.inK {xs : List (Int × Int)} (h : LetL xs) : InK 10000000 xs := fun p hp => by
  obtain ⟨j, hj, rfl⟩ := List.getElem_of_mem hp
  obtain ⟨a, b, c⟩ := h.1 j hj
  simp [atp, hj] at a b c
  omega
theorem LetL.lo {xs : List (Int × Int)} (h : LetL xs) {c : Int} (hc : InS xs c) : 0 ≤ c ∧ c < 10000000 := by
  obtain ⟨p, hp, h1, h2⟩ := hc
  obtain ⟨j, hj, rfl⟩ := List.getElem_of_mem hp
  obtain ⟨a, b, d⟩ := h.1 j hj
  simp [atp, hj] at a b d
  omega
theorem met_within : ∀ {l : List (Int × Int)} {lo K : Int}, Norm l → (∀ p ∈ l, lo ≤ p.1 ∧ p.2 ≤ K) → lo ≤ K → met l ≤ K - lo
  | [], lo, K, _, _, h => by simp only [met]; omega
  | p :: l, lo, K, hn, hb, h => by
    obtain ⟨a, b, c⟩ := norm_cons.1 hn
    obtain ⟨d, e⟩ := hb p (List.mem_cons_self ..)
    have := met_within (lo := p.2) (K := K) c (fun q hq => ⟨by have := b q hq; omega, (hb q (List.mem_cons_of_mem _ hq)).2⟩) e
    simp only [met]
    omega
theorem un_in {xs us : List (Int × Int)} (h : LetL xs) (n1 : Norm us) (n2 : ∀ c, InS us c → InS xs c) : (∀ p ∈ us, 0 ≤ p.1 ∧ p.2 ≤ 10000000) ∧ met us ≤ 10000000 := by
  have hb : ∀ p ∈ us, 0 ≤ p.1 ∧ p.2 ≤ 10000000 := fun p hp => by
    have f := n1.1 p hp
    have h1 := h.lo (n2 p.1 ⟨p, hp, Int.le_refl _, f⟩)
    have h2 := h.lo (n2 (p.2 - 1) ⟨p, hp, by omega, by omega⟩)
    omega
  exact ⟨hb, by have := met_within (lo := 0) (K := 10000000) n1 hb (by omega); omega⟩
def UnfRes (xs : List (Int × Int)) (w : World) (e : Ending) (w' : World) : Prop :=
  (¬ LetL xs → e = .returned (.tuple #[.slice none 0 0, .int .i64 2])) ∧
  (LetL xs → ∃ (us : List (Int × Int)) (A' : Option Addr) (c' : Nat), Norm us ∧ (∀ c, InS us c ↔ InS xs c) ∧ us.length ≤ xs.length ∧ e = .returned (.tuple #[.slice A' us.length c', .int .i64 0]) ∧ Pairs w' w'.heap.size A' us) ∧ Below w.heap.size w w'
def TotRes (xs : List (Int × Int)) (w : World) (e : Ending) (w' : World) : Prop :=
  (¬ LetL xs → e = .returned (.tuple #[.int .i64 0, .int .i64 2])) ∧
  (LetL xs → ∃ us : List (Int × Int), Norm us ∧ (∀ c, InS us c ↔ InS xs c) ∧ e = .returned (.tuple #[.int .i64 (met us), .int .i64 0])) ∧ Below w.heap.size w w'
theorem one_list (w : World) {B : Nat} {A : Option Addr} {c : Nat} {xs : List (Int × Int)} (h : Pairs w B A xs) (hB : B ≤ w.heap.size) (hn : xs.length ≤ 9223372036854775807) (T : TypeId) : LLs (w.alloc (.cells #[.slice A xs.length c] T)) (w.alloc (.cells #[.slice A xs.length c] T)).heap.size (some ⟨w.heap.size, 0, none⟩) [⟨A, c, xs⟩] := by
  refine ⟨w.heap.size, 0, rfl, by simp, fun j hj => ?_⟩
  have hj : j < 1 := hj
  obtain rfl : j = 0 := by omega
  have hP := (h.below ((Below.refl B w).alloc hB (.cells #[.slice A xs.length c] T))).more (show B ≤ (w.alloc (.cells #[.slice A xs.length c] T)).heap.size by simp; omega)
  exact ⟨by simp [go_sem, lsAt], by simpa [lsAt] using hP, by simpa [lsAt] using hn⟩
theorem one_iff {A : Option Addr} {c : Nat} {xs : List (Int × Int)} : (∀ j, j < [(⟨A, c, xs⟩ : LsE)].length → LetL (lsAt [(⟨A, c, xs⟩ : LsE)] j).xs) ↔ LetL xs := by
  constructor
  · intro h; simpa [lsAt] using h 0 (by simp)
  · intro h j hj
    have hj : j < 1 := hj
    obtain rfl : j = 0 := by omega
    simpa [lsAt] using h
theorem tot_facts {xs us : List (Int × Int)} (h : LetL xs) (n1 : Norm us) (n2 : ∀ c, InS us c ↔ InS xs c) (n3 : us.length ≤ xs.length) : met us ≤ 100000000 ∧ InK 10000000000 us ∧ us.length ≤ 10000000 := by
  obtain ⟨a, b⟩ := un_in h n1 (fun c hc => (n2 c).1 hc)
  have hl := h.2
  exact ⟨by omega, fun p hp => by have := a p hp; have := n1.1 p hp; omega, by omega⟩
end Go.Proofs.YtdmmcdbojmalfaaGreat
