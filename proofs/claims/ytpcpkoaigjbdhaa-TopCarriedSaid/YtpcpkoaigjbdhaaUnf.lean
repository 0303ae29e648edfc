/- Contracts of Union and Total (both texts). -/
import Derived.Test.YtpcpkoaigjbdhaaLst
import Derived.Test.YtpcpkoaigjbdhaaRNm
import Derived.Test.YtpcpkoaigjbdhaaTot
namespace Go.Proofs.Ytpcpkoaigjbdhaa
open Go.RowKit
theorem LetL.full {xs : List (Int × Int)} (h : LetL xs) : Full xs := fun p hp => by
  obtain ⟨j, hj, rfl⟩ := List.getElem_of_mem hp
  have := (h.1 j hj).2.1
  simpa [atp, hj] using this
theorem LetL.inK {xs : List (Int × Int)} (h : LetL xs) : InK 10000000 xs := fun p hp => by
  obtain ⟨j, hj, rfl⟩ := List.getElem_of_mem hp
  obtain ⟨a, b, c⟩ := h.1 j hj
  simp [atp, hj] at a b c
  omega
theorem LetL.lo {xs : List (Int × Int)} (h : LetL xs) {c : Int} (hc : InS xs c) : 0 ≤ c ∧ c < 10000000 := by
  obtain ⟨p, hp, h1, h2⟩ := hc
  obtain ⟨j, hj, rfl⟩ := List.getElem_of_mem hp
  obtain ⟨a, b, d⟩ := h.1 j hj
  simp [atp, hj] at a b d
  omega
theorem met_within : ∀ {l : List (Int × Int)} {lo K : Int}, Norm l → (∀ p ∈ l, lo ≤ p.1 ∧ p.2 ≤ K) → lo ≤ K → met l ≤ K - lo
  | [], lo, K, _, _, h => by simp only [met]; omega
  | p :: l, lo, K, hn, hb, h => by
    obtain ⟨a, b, c⟩ := norm_cons.1 hn
    obtain ⟨d, e⟩ := hb p (List.mem_cons_self ..)
    have := met_within (lo := p.2) (K := K) c (fun q hq => ⟨by have := b q hq; omega, (hb q (List.mem_cons_of_mem _ hq)).2⟩) e
    simp only [met]
    omega
theorem un_in {xs us : List (Int × Int)} (h : LetL xs) (n1 : Norm us) (n2 : ∀ c, InS us c → InS xs c) : (∀ p ∈ us, 0 ≤ p.1 ∧ p.2 ≤ 10000000) ∧ met us ≤ 10000000 := by
  have hb : ∀ p ∈ us, 0 ≤ p.1 ∧ p.2 ≤ 10000000 := fun p hp => by
    have f := n1.1 p hp
    have h1 := h.lo (n2 p.1 ⟨p, hp, Int.le_refl _, f⟩)
    have h2 := h.lo (n2 (p.2 - 1) ⟨p, hp, by omega, by omega⟩)
    omega
  exact ⟨hb, by have := met_within (lo := 0) (K := 10000000) n1 hb (by omega); omega⟩
def UnfRes (xs : List (Int × Int)) (w : World) (e : Ending) (w' : World) : Prop :=
  (¬ LetL xs → e = .returned (.tuple #[.slice none 0 0, .int .i64 2])) ∧
  (LetL xs → ∃ (us : List (Int × Int)) (A' : Option Addr) (c' : Nat), Norm us ∧ (∀ c, InS us c ↔ InS xs c) ∧ us.length ≤ xs.length ∧ e = .returned (.tuple #[.slice A' us.length c', .int .i64 0]) ∧ Pairs w' w'.heap.size A' us) ∧ Below w.heap.size w w'
def TotRes (xs : List (Int × Int)) (w : World) (e : Ending) (w' : World) : Prop :=
  (¬ LetL xs → e = .returned (.tuple #[.int .i64 0, .int .i64 2])) ∧
  (LetL xs → ∃ us : List (Int × Int), Norm us ∧ (∀ c, InS us c ↔ InS xs c) ∧ e = .returned (.tuple #[.int .i64 (met us), .int .i64 0])) ∧ Below w.heap.size w w'
theorem one_list (w : World) {B : Nat} {A : Option Addr} {c : Nat} {xs : List (Int × Int)} (h : Pairs w B A xs) (hB : B ≤ w.heap.size) (hn : xs.length ≤ 9223372036854775807) (T : TypeId) : LLs (w.alloc (.cells #[.slice A xs.length c] T)) (w.alloc (.cells #[.slice A xs.length c] T)).heap.size (some ⟨w.heap.size, 0, none⟩) [⟨A, c, xs⟩] := by
  refine ⟨w.heap.size, 0, rfl, by simp, fun j hj => ?_⟩
  have hj : j < 1 := hj
  obtain rfl : j = 0 := by omega
  have hP := (h.below ((Below.refl B w).alloc hB (.cells #[.slice A xs.length c] T))).more (show B ≤ (w.alloc (.cells #[.slice A xs.length c] T)).heap.size by simp; omega)
  exact ⟨by simp [go_sem, lsAt], by simpa [lsAt] using hP, by simpa [lsAt] using hn⟩
theorem one_iff {A : Option Addr} {c : Nat} {xs : List (Int × Int)} : (∀ j, j < [(⟨A, c, xs⟩ : LsE)].length → LetL (lsAt [(⟨A, c, xs⟩ : LsE)] j).xs) ↔ LetL xs := by
  constructor
  · intro h; simpa [lsAt] using h 0 (by simp)
  · intro h j hj
    have hj : j < 1 := hj
    obtain rfl : j = 0 := by omega
    simpa [lsAt] using h
set_option maxRecDepth 100000 in
set_option maxHeartbeats 2000000 in
theorem lUnionF (A : Option Addr) (c B : Nat) (xs : List (Int × Int)) (w : World) (h : Pairs w B A xs) (hB : B ≤ w.heap.size) (hn : xs.length ≤ 9223372036854775807) :
    Calls Try.prog 19 #[.slice A xs.length c] w (UnfRes xs w) := by
  have hL := one_list w (c := c) h hB hn 36
  have hal := (Below.refl w.heap.size w).alloc (Nat.le_refl _) (.cells #[.slice A xs.length c] 36)
  have hP1 := h.below (hal.mono hB)
  go_enter Try.func19, Try.ntmps19
  go_wp2_with fail
  refine (lvalidSpans (some ⟨w.heap.size, 0, none⟩) 1 _ [⟨A, c, xs⟩] _ hL (Nat.le_refl _) (by simp)).mono ?_
  rintro e w2 ⟨r1, r2, hb⟩
  have hal2 := hal.trans (hb.mono hal.size)
  have hP2 := hP1.below (hb.mono (Nat.le_trans hB hal.size))
  by_cases ho : LetL xs
  · rw [r1 (one_iff.2 ho)]
    have HO := Lib.hid ho
    have hl := ho.2
    clear r1 r2 ho
    go_wp2_with fail
    refine (lUnion A c B xs w2 hP2 (HO.out.inK.sm (by omega)) (by omega)).mono ?_
    rintro e w3 hu
    obtain ⟨us, A3, c3, n1, n2, n3, rfl, hP3, hb3⟩ := hu.norm HO.out.full
    have hal3 := hal2.trans (hb3.mono hal2.size)
    go_wp2
    go_ret2
    exact ⟨fun hh => absurd HO.out hh, fun _ => ⟨us, A3, c3, n1, n2, n3, rfl, hP3⟩, hal3⟩
  · rw [r2 (fun hh => ho (one_iff.1 hh))]
    have HO := Lib.hid ho
    clear r1 r2 ho
    go_wp2
    go_ret2
    exact ⟨fun _ => rfl, fun hh => absurd hh HO.out, hal2⟩
theorem tot_facts {xs us : List (Int × Int)} (h : LetL xs) (n1 : Norm us) (n2 : ∀ c, InS us c ↔ InS xs c) (n3 : us.length ≤ xs.length) : met us ≤ 100000000 ∧ InK 10000000000 us ∧ us.length ≤ 10000000 := by
  obtain ⟨a, b⟩ := un_in h n1 (fun c hc => (n2 c).1 hc)
  have hl := h.2
  exact ⟨by omega, fun p hp => by have := a p hp; have := n1.1 p hp; omega, by omega⟩
end Go.Proofs.Ytpcpkoaigjbdhaa

