/- Contracts of the program's carry and Carry. -/
import Derived.Test.YtpcpkoaigjbdhaaMov
namespace Go.Proofs.Ytpcpkoaigjbdhaa
open Go.RowKit
/-- Where a place is behind the first k steps; none: it is lost. -/
def carryTo (ms : List Mov) (c : Int) : Nat → Option Int
  | 0 => some c
  | k + 1 => (carryTo ms c k).bind (placeF (mvAt ms k))
theorem carry_none {ms : List Mov} {c : Int} {k : Nat} (h : carryTo ms c k = none) : ∀ n, k ≤ n → carryTo ms c n = none
  | 0, hn => by obtain rfl : k = 0 := by omega
                exact h
  | n + 1, hn => by
    by_cases e : k = n + 1
    · rw [← e]; exact h
    · simp [carryTo, carry_none h n (by omega)]
theorem place_bd {m : Mov} {c d : Int} (h : placeF m c = some d) (m0 : -10000000 ≤ m.grow) (m1 : m.grow ≤ 10000000) {b : Int} (c0 : -b ≤ c) (c1 : c ≤ b) : -(b + 10000000) ≤ d ∧ d ≤ b + 10000000 := by
  unfold placeF at h
  split at h
  · cases h; omega
  · split at h
    · cases h; omega
    · cases h
theorem carry_bd {ms : List Mov} {c : Int} (hm : ∀ j, j < ms.length → -10000000 ≤ (mvAt ms j).grow ∧ (mvAt ms j).grow ≤ 10000000) (c0 : 0 ≤ c) (c1 : c ≤ 10000000) : ∀ k, k ≤ ms.length → ∀ d, carryTo ms c k = some d → -(10000000 * ((k : Int) + 1)) ≤ d ∧ d ≤ 10000000 * ((k : Int) + 1)
  | 0, _, d, h => by simp only [carryTo] at h; cases h; omega
  | k + 1, hk, d, h => by
    simp only [carryTo] at h
    cases hc : carryTo ms c k with
    | none => rw [hc] at h; cases h
    | some x =>
      rw [hc] at h
      obtain ⟨a, b⟩ := carry_bd hm c0 c1 k (by omega) x hc
      obtain ⟨g0, g1⟩ := hm k (by omega)
      have := place_bd (m := mvAt ms k) (c := x) (d := d) h g0 g1 (b := 10000000 * ((k : Int) + 1)) a b
      omega
set_option maxRecDepth 100000 in
set_option maxHeartbeats 4000000 in
theorem lcarry (A : Option Addr) (cp B : Nat) (ms : List Mov) (c : Int) (w : World) (h : Movs w B A ms) (hB : B ≤ w.heap.size) (hn : ms.length ≤ 80) (hm : ∀ j, j < ms.length → -10000000 ≤ (mvAt ms j).grow ∧ (mvAt ms j).grow ≤ 10000000) (c0 : 0 ≤ c) (c1 : c ≤ 10000000) :
    Calls Try.prog 23 #[.slice A ms.length cp, .int .i64 c] w fun e w' => e = .returned (optPair (carryTo ms c ms.length)) ∧ Below w.heap.size w w' := by
  have HM := Lib.hid hm
  have HBD := Lib.hid (carry_bd hm c0 c1)
  clear hm
  go_enter Try.func23, Try.ntmps23
  go_wp2_with fail
  go_loopw [1, 12] (fun cv i wr => ∃ (k : Nat) (x : Int), k ≤ ms.length ∧ i = .int .i64 k ∧ cv = .int .i64 x ∧ Hid (carryTo ms c k = some x) ∧ Below w.heap.size w wr) (fun _ i _ => ms.length - (intOf i).toNat)
  case atStart => exact ⟨0, c, Nat.zero_le _, rfl, rfl, Lib.hid rfl, Below.refl _ _⟩
  case round =>
    obtain ⟨k, x, hk, rfl, rfl, hx, hb⟩ := hrel
    by_cases hlt : k < ms.length
    · obtain ⟨b, off, hA, hbb, u0, u1, u2⟩ := (h.below (hb.mono hB)).at_ hlt
      subst hA
      obtain ⟨x0, x1⟩ := HBD.out k hk x hx.out
      obtain ⟨g0, g1⟩ := HM.out k hlt
      have hs := hb.size
      have hal := hb.alloc hs (.cells #[.int .i64 (mvAt ms k).a, .int .i64 (mvAt ms k).b, .int .i64 (mvAt ms k).grow] 63)
      go_wp2_with fail
      refine (lplace (mvAt ms k) x _ (by omega) (by omega) (by omega) (by omega)).mono ?_
      rintro e w3 ⟨rfl, hb3⟩
      have hb4 := hal.trans (hb3.mono hal.size)
      have hstep : carryTo ms c (k + 1) = placeF (mvAt ms k) x := by simp [carryTo, hx.out]
      cases hp : placeF (mvAt ms k) x with
      | some y =>
        have HY := Lib.hid (hstep.trans hp)
        simp only [optPair, Option.getD_some, Option.isSome_some]
        clear hstep hp
        go_wp2_with fail
        exact ⟨⟨k + 1, y, by omega, by go_num, rfl, HY, hb4⟩, by simp [intOf]; omega⟩
      | none =>
        have hfin := carry_none (hstep.trans hp) ms.length (by omega)
        have HFIN := Lib.hid hfin
        simp only [optPair, Option.getD_none, Option.isSome_none]
        clear hstep hp hfin
        go_wp2_with fail
        go_ret2
        exact ⟨by rw [HFIN.out]; rfl, hb4⟩
    · obtain rfl : k = ms.length := by omega
      go_wp2
      go_ret2
      exact ⟨by rw [hx.out]; rfl, hb⟩
end Go.Proofs.Ytpcpkoaigjbdhaa

