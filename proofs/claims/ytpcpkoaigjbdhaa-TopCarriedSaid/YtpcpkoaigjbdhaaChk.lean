/- Contracts of the program's checked (at two versions), place, moves and carry. -/
import Derived.Test.YtpcpkoaigjbdhaaLen
namespace Go.Proofs.Ytpcpkoaigjbdhaa
open Go.RowKit
/-- What checked returns. -/
def ChkRes (num L : Int) (cs : List Chg) (vs : List Int) (w : World) (e : Ending) (w' : World) : Prop :=
  (¬ RoadOk num L cs → e = .returned (.tuple #[.slice none 0 0, .int .i64 60])) ∧
  (RoadOk num L cs → ¬ (∀ j, j < vs.length → 0 ≤ at0 vs j ∧ at0 vs j ≤ cs.length) → e = .returned (.tuple #[.slice none 0 0, .int .i64 61])) ∧
  (RoadOk num L cs → (∀ j, j < vs.length → 0 ≤ at0 vs j ∧ at0 vs j ≤ cs.length) → ∃ (A : Option Addr) (c : Nat), e = .returned (.tuple #[.slice A (cs.length + 1) c, .int .i64 0]) ∧ Ints w' w'.heap.size A (lens L cs cs.length)) ∧ Below w.heap.size w w'
set_option maxRecDepth 100000 in
set_option maxHeartbeats 4000000 in
theorem lchecked (A V : Option Addr) (c cv B : Nat) (num L : Int) (cs : List Chg) (vs : List Int) (w : World) (h : Chs w B A cs) (hB : B ≤ w.heap.size) (hn : cs.length ≤ 9223372036854775807) (hV : Ints w w.heap.size V vs) (hvn : vs.length ≤ 10) :
    Calls Try.prog 15 #[.agg #[.int .i64 num, .int .i64 L, .slice A cs.length c], .slice V vs.length cv] w (ChkRes num L cs vs w) := by
  have hT := RdBox.new (c := c) (num := num) (L := L) (T := 24) h hB
  have hal : Below w.heap.size w (w.alloc (.cells #[.int .i64 num, .int .i64 L, .slice A cs.length c] 24)) := (Below.refl _ _).alloc (Nat.le_refl _) _
  generalize hW : w.alloc (.cells #[.int .i64 num, .int .i64 L, .slice A cs.length c] 24) = w0 at hT hal
  have HW := Lib.hid hW
  clear hW
  replace hV := hV.below hal
  obtain ⟨-, q0, q1, q2, -, _⟩ := id hT
  go_enter Try.func15, Try.ntmps15
  go_wp2_with fail
  rw [HW.out]
  clear HW
  refine (lLengths A c B num L cs w0 hT.ch (by have := hT.lt; have := hT.sz; omega) hn).mono ?_
  rintro e w1 ⟨g1, g2, hb⟩
  have hs0 := hal.size
  replace hV := hV.below (hb.mono hs0)
  replace hal := hal.trans (hb.mono hal.size)
  by_cases ho : RoadOk num L cs
  · obtain ⟨A', c', rfl, hI⟩ := g2 ho
    have HO := Lib.hid ho
    have h40 := ho.2.2.1
    clear g1 g2 hb q0 q1 q2 hT ho h
    go_wp2_with fail
    go_loop [19] (fun i => ∃ k : Nat, k ≤ vs.length ∧ i = .int .i64 k ∧ Hid (∀ j, j < k → 0 ≤ at0 vs j ∧ at0 vs j ≤ cs.length)) (fun i => vs.length - (intOf i).toNat)
    case atStart => exact ⟨0, Nat.zero_le _, rfl, hid_none⟩
    case round =>
      obtain ⟨k, hk, rfl, ha⟩ := hrel
      by_cases hlt : k < vs.length
      · obtain ⟨b, off, hA, hbb, hc⟩ := hV.at_ hlt
        subst hA
        have u0 := hc k hlt
        clear hc
        by_cases hv : 0 ≤ at0 vs k ∧ at0 vs k ≤ cs.length
        · have j1 := inB_t (hi := (cs.length : Int)) hv.1 hv.2
          have HV := Lib.hid hv
          go_wp2_with (go_at_call 22; refine (lwithin _ _ _ _).mono ?_; rintro e w' ⟨rfl, rfl⟩)
          exact ⟨⟨k + 1, by omega, by go_num, hid_more ha HV.out⟩, by simp [intOf]; omega⟩
        · have j1 := inB_f (hi := (cs.length : Int)) hv
          have HV := Lib.hid hv
          clear hv
          go_wp2_with (go_at_call 22; refine (lwithin _ _ _ _).mono ?_; rintro e w' ⟨rfl, rfl⟩)
          go_ret2
          exact ⟨fun hh => absurd HO.out hh, fun _ _ => rfl, fun _ hh => absurd (hh k hlt) HV.out, hal⟩
      · go_wp2
        go_ret2
        have hall : ∀ j, j < vs.length → 0 ≤ at0 vs j ∧ at0 vs j ≤ cs.length := fun j hj => ha.out j (by omega)
        exact ⟨fun hh => absurd HO.out hh, fun _ hh => absurd hall hh, fun _ _ => ⟨A', c', rfl, hI⟩, hal⟩
  · rw [g1 ho]
    have HO := Lib.hid ho
    clear g1 g2 ho
    go_wp2
    go_ret2
    exact ⟨fun _ => rfl, fun hh => absurd hh HO.out, fun hh => absurd hh HO.out, hal⟩
structure Mov where
  a : Int
  b : Int
  grow : Int
def mvAt (ms : List Mov) (j : Nat) : Mov := ms.getD j ⟨0, 0, 0⟩
/-- Where a place is behind a step; none: it is lost. -/
def placeF (m : Mov) (c : Int) : Option Int := if c ≤ m.a then some c else if m.b ≤ c then some (c + m.grow) else none
def optPair (o : Option Int) : Value := .tuple #[.int .i64 (o.getD 0), .bool o.isSome]
theorem lplace (m : Mov) (c : Int) (w : World) (c0 : -1000000000 ≤ c) (c1 : c ≤ 1000000000) (m0 : -1000000000 ≤ m.grow) (m1 : m.grow ≤ 1000000000) :
    Calls Try.prog 30 #[.agg #[.int .i64 m.a, .int .i64 m.b, .int .i64 m.grow], .int .i64 c] w fun e w' => e = .returned (optPair (placeF m c)) ∧ Below w.heap.size w w' := by
  have hal : Below w.heap.size w (w.alloc (.cells #[.int .i64 m.a, .int .i64 m.b, .int .i64 m.grow] 63)) := (Below.refl _ _).alloc (Nat.le_refl _) _
  unfold placeF optPair
  by_cases h1 : c ≤ m.a
  · go_enter Try.func30, Try.ntmps30
    go_wp2
    go_ret2
    exact ⟨by simp, hal⟩
  · by_cases h2 : m.b ≤ c
    · go_enter Try.func30, Try.ntmps30
      go_wp2
      go_ret2
      exact ⟨by simp, hal⟩
    · go_enter Try.func30, Try.ntmps30
      go_wp2
      go_ret2
      exact ⟨by simp, hal⟩
end Go.Proofs.Ytpcpkoaigjbdhaa

