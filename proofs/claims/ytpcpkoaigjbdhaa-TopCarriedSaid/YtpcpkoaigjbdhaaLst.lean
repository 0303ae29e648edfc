/- Contracts of validSpans (69, at lists of stretches in a literal) and Lists (48). -/
import Derived.Test.YtpcpkoaigjbdhaaKep
import Derived.Deep.DeepCutAuto
namespace Go.Proofs.Ytpcpkoaigjbdhaa
open Go.RowKit
/-- A stretch that is let. -/
def LetS (p : Int × Int) : Prop := 0 ≤ p.1 ∧ p.1 < p.2 ∧ p.2 ≤ 10000000
def LetL (xs : List (Int × Int)) : Prop := (∀ j, j < xs.length → LetS (atp xs j)) ∧ xs.length ≤ 1000
def BoolRes (P : Prop) (w : World) (e : Ending) (w' : World) : Prop := (P → e = .returned (.bool true)) ∧ (¬ P → e = .returned (.bool false)) ∧ Below w.heap.size w w'
/-- A list of stretches as a slice has it. -/
structure LsE where
  a : Option Addr
  c : Nat
  xs : List (Int × Int)
def lsAt (ls : List LsE) (j : Nat) : LsE := ls.getD j ⟨none, 0, []⟩
/-- The slice address A reads as the lists ls, in blocks below B. -/
def LLs (w : World) (B : Nat) (A : Option Addr) (ls : List LsE) : Prop :=
  ∃ b off, A = some ⟨b, off, none⟩ ∧ b < B ∧ ∀ j, j < ls.length → w.cell? ⟨b, off + j, none⟩ = some (.slice (lsAt ls j).a (lsAt ls j).xs.length (lsAt ls j).c) ∧ Pairs w B (lsAt ls j).a (lsAt ls j).xs ∧ (lsAt ls j).xs.length ≤ 9223372036854775807
theorem LLs.below {w w' : World} {B : Nat} {A : Option Addr} {ls : List LsE} (h : LLs w B A ls) (hb : Below B w w') : LLs w' B A ls := by
  obtain ⟨b, off, hA, hbl, hc⟩ := h
  exact ⟨b, off, hA, hbl, fun j hj => ⟨(hb.cell (p := ⟨b, off + j, none⟩) hbl).trans (hc j hj).1, (hc j hj).2.1.below hb, (hc j hj).2.2⟩⟩
set_option maxRecDepth 100000 in
set_option maxHeartbeats 4000000 in
theorem lvalidSpans (A : Option Addr) (c B : Nat) (ls : List LsE) (w : World) (h : LLs w B A ls) (hB : B ≤ w.heap.size) (hn : ls.length ≤ 10) :
    Calls Try.prog 20 #[.slice A ls.length c] w (BoolRes (∀ j, j < ls.length → LetL (lsAt ls j).xs) w) := by
  obtain ⟨w2, rfl⟩ : ∃ w2 : World, w2 = w := ⟨_, rfl⟩
  go_enter Try.func20, Try.ntmps20
  go_wp2_with fail
  go_loopw [9] (fun i wr => ∃ k : Nat, k ≤ ls.length ∧ i = .int .i64 k ∧ Hid (∀ j, j < k → LetL (lsAt ls j).xs) ∧ Below w2.heap.size w2 wr) (fun i _ => ls.length - (intOf i).toNat)
  case atStart => exact ⟨0, Nat.zero_le _, rfl, hid_none, Below.refl _ _⟩
  case round =>
    obtain ⟨k, hk, rfl, ha, hb⟩ := hrel
    have hbs := hb.size
    obtain ⟨b, o, rfl, hbl, hc⟩ := h.below (hb.mono hB)
    by_cases hlt : k < ls.length
    · obtain ⟨y1, hP, hnx⟩ := hc k hlt
      clear hc
      have HJ : Hid (∀ (hh : ∀ j, j < ls.length → LetL (lsAt ls j).xs), LetL (lsAt ls k).xs) := fun hh => hh k hlt
      generalize hle : lsAt ls k = le at *
      have HLE := Lib.hid hle
      clear hle
      obtain ⟨a, cc, xs⟩ := le
      simp only at *
      go_wp2_with fail
      clear y1
      obtain ⟨w3, rfl⟩ : ∃ w3 : World, w3 = wr := ⟨_, rfl⟩
      go_loopw [15] (fun i wr => ∃ m : Nat, m ≤ xs.length ∧ i = .int .i64 m ∧ Hid (∀ j, j < m → LetS (atp xs j)) ∧ Below w3.heap.size w3 wr) (fun i _ => xs.length - (intOf i).toNat)
      case atStart => exact ⟨0, Nat.zero_le _, rfl, hid_none, Below.refl _ _⟩
      case round =>
        obtain ⟨m, hm, rfl, ha2, hb2⟩ := hrel
        have hb2s := hb2.size
        have hb3 := hb.trans (hb2.mono hb.size)
        by_cases hlt2 : m < xs.length
        · obtain ⟨b', o', rfl, hbl', hc⟩ := (hP.below (hb2.mono (by omega))).at_ hlt2
          obtain ⟨z1, z2⟩ := hc m hlt2
          clear hc
          have hbw : b' < wr.heap.size := by omega
          have hba := hb2.alloc hb2s (.cells #[.int .i64 (atp xs m).1, .int .i64 (atp xs m).2] 26)
          have hbf := hb.trans (hba.mono hb.size)
          by_cases t1 : 0 ≤ (atp xs m).1
          rotate_left
          · have HN : Hid (¬ LetS (atp xs m)) := fun h => t1 h.1
            go_wp2_with fail
            go_ret
            exact ⟨fun hh => absurd ((HJ.out hh).1 m hlt2) HN.out, fun _ => rfl, hbf⟩
          by_cases t2 : (atp xs m).1 < (atp xs m).2
          rotate_left
          · have HN : Hid (¬ LetS (atp xs m)) := fun h => t2 h.2.1
            go_wp2_with fail
            go_ret
            exact ⟨fun hh => absurd ((HJ.out hh).1 m hlt2) HN.out, fun _ => rfl, hbf⟩
          by_cases t3 : (atp xs m).2 ≤ 10000000
          rotate_left
          · have HN : Hid (¬ LetS (atp xs m)) := fun h => t3 h.2.2
            go_wp2_with fail
            go_ret
            exact ⟨fun hh => absurd ((HJ.out hh).1 m hlt2) HN.out, fun _ => rfl, hbf⟩
          have HK : Hid (LetS (atp xs m)) := ⟨t1, t2, t3⟩
          go_wp2_with fail
          exact ⟨⟨m + 1, by omega, by go_num, hid_more ha2 HK.out, hba⟩, by simp [intOf]; omega⟩
        · obtain rfl : m = xs.length := by omega
          by_cases hl : xs.length ≤ 1000
          · have HL : Hid (LetL (lsAt ls k).xs) := Lib.hid (by rw [HLE.out]; exact ⟨ha2.out, hl⟩)
            go_wp2_with fail
            exact ⟨⟨k + 1, by omega, by go_num, hid_more ha HL.out, hb3⟩, by simp [intOf]; omega⟩
          · go_wp2_with fail
            go_ret
            exact ⟨fun hh => absurd (HJ.out hh).2 hl, fun _ => rfl, hb3⟩
    · obtain rfl : k = ls.length := by omega
      go_wp2_with fail
      go_ret
      exact ⟨fun _ => rfl, fun hh => absurd ha.out hh, hb⟩
end Go.Proofs.Ytpcpkoaigjbdhaa

