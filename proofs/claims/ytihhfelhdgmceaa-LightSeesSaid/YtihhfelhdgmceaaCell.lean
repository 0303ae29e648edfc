/- Contracts of the search, light.bracket and the reference's cell. -/
import Derived.Test.YtihhfelhdgmceaaSlopes
import Derived.Test.YtihhfelhdgmceaaShelf
import Derived.Test.YtihhfelhdgmceaaCoef
namespace Go.Proofs.Ytihhfelhdgmceaa
open Go.RowKit
/-- The library's search: how many slopes are less. -/
theorem lsearch (b off c : Nat) (xs : List Int) (S : Int) (w : World) (hs : Slopes xs) (hc : ∀ j, j < xs.length → w.cell? ⟨b, off + j, none⟩ = some (.int .i64 (at0 xs j))) :
    Calls Try.prog 76 #[.slice (some ⟨b, off, none⟩) xs.length c, .int .i64 S] w fun e w' => e = .returned (.tuple #[.int .i64 ((xs.countP (· < S) : Nat) : Int), .bool (xs.contains S)]) ∧ Drew w w' := by
  have := Try.slices_BinarySearch_int b off xs.length c xs S w (Nat.le_refl _) (by have := hs.2.1; omega) hc (slopes_sorted hs)
  rw [List.take_length] at this
  exact this
def BktRes (xs : List Int) (s : Int) (w : World) (e : Ending) (w' : World) : Prop :=
  ∃ (i : Nat) (S : Int) (ok : Bool), e = .returned (.tuple #[.int .i64 i, .int .i64 S, .bool ok]) ∧ (ok = false ↔ top xs < s) ∧ (ok = true → S = lift xs s ∧ Brk xs (lift xs s) i) ∧ Drew w w'
theorem lbracket (A : Option Addr) (c B : Nat) (xs : List Int) (s : Int) (w : World) (h : Ints w B A xs) (hs : Slopes xs) :
    Calls Try.prog 74 #[.slice A xs.length c, .int .i64 s] w (BktRes xs s w) := by
  have h2 := hs.1
  have h6 := hs.2.1
  obtain ⟨b, off, rfl, hb, hc⟩ := h.at_ (k := 0) (by omega)
  have hc0 : w.cell? ⟨b, off, none⟩ = some (.int .i64 (at0 xs 0)) := hc 0 (by omega)
  have HC := Lib.hid hc
  clear hc
  by_cases ht : top xs < s
  · have HN := Lib.hid (count_top hs ht)
    go_enter Try.func74, Try.ntmps74
    go_wp2_with fail
    refine (lsearch _ _ _ _ _ _ hs HC.out).mono ?_
    rintro e w1 ⟨rfl, hd⟩
    rw [HN.out]
    go_wp2
    go_ret3
    exact ⟨0, 0, false, rfl, by simp [ht], by simp, hd⟩
  · have HK := Lib.hid (brk_of_count (s := s) hs (count_not_top hs ht))
    have hn := count_not_top hs ht
    go_enter Try.func74, Try.ntmps74
    go_wp2_with fail
    refine (lsearch _ _ _ _ _ _ hs HC.out).mono ?_
    rintro e w1 ⟨rfl, hd⟩
    generalize hg : xs.countP (· < max s (at0 xs 0)) = n at *
    clear hg
    have hne : ((n : Int) == (xs.length : Int)) = false := by rw [beq_eq_false_iff_ne]; omega
    go_wp2
    go_ret3
    exact ⟨n - 1, lift xs s, true, by rw [show max ((n : Int) - 1) 0 = ((n - 1 : Nat) : Int) from by omega]; rfl, by simp; omega, fun _ => ⟨rfl, HK.out⟩, hd⟩
def CellRes (xs : List Int) (x : Int) (w : World) (e : Ending) (w' : World) : Prop :=
  ∃ (i : Nat) (ok : Bool), e = .returned (.tuple #[.int .i64 i, .bool ok]) ∧ (ok = false ↔ top xs < x) ∧ (ok = true → Brk xs x i) ∧ w = w'
theorem rcell (A : Option Addr) (c B : Nat) (xs : List Int) (x : Int) (w : World) (h : Ints w B A xs) (hs : Slopes xs) (hx : at0 xs 0 ≤ x) :
    Calls Try.prog 57 #[.slice A xs.length c, .int .i64 x] w (CellRes xs x w) := by
  have h2 := hs.1
  have h6 := hs.2.1
  obtain ⟨b, off, rfl, hb, hc⟩ := h.at_ (k := 0) (by omega)
  have hcl : w.cell? ⟨b, off + (xs.length - 1), none⟩ = some (.int .i64 (top xs)) := hc (xs.length - 1) (by omega)
  have HC := Lib.hid hc
  have HT : Hid (top xs = at0 xs (xs.length - 1)) := rfl
  clear hc h
  by_cases ht : top xs < x
  · go_enter Try.func57, Try.ntmps57
    go_wp2
    go_ret2
    exact ⟨0, false, rfl, by simp [ht], by simp, rfl⟩
  · go_enter Try.func57, Try.ntmps57
    go_wp2
    go_loop [6] (fun i => ∃ k : Nat, k + 1 < xs.length ∧ i = .int .i64 k ∧ Hid (at0 xs k ≤ x)) (fun i => xs.length - (intOf i).toNat)
    case atStart => exact ⟨0, by omega, rfl, hx⟩
    case round =>
      obtain ⟨k, hk, rfl, ha⟩ := hrel
      by_cases hlt : k + 2 < xs.length
      · have hck : w.cell? ⟨b, off + (k + 1), none⟩ = some (.int .i64 (at0 xs (k + 1))) := HC.out (k + 1) (by omega)
        by_cases hg : at0 xs (k + 1) ≤ x
        · go_wp2
          exact ⟨⟨k + 1, by omega, by go_num, hg⟩, by simp [intOf]; omega⟩
        · go_wp2
          go_ret2
          exact ⟨k, true, rfl, by simp; omega, fun _ => ⟨hk, ha.out, by omega⟩, rfl⟩
      · go_wp2
        go_ret2
        exact ⟨k, true, rfl, by simp; omega, fun _ => ⟨hk, ha.out, by have := HT.out; rw [show k + 1 = xs.length - 1 from by omega]; omega⟩, rfl⟩
end Go.Proofs.Ytihhfelhdgmceaa
