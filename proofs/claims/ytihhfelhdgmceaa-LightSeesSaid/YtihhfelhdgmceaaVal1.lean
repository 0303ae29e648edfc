/- What a face's measures must be, and the contracts of measured and Measures. -/
import Derived.Test.YtihhfelhdgmceaaScene
import Derived.Test.YtihhfelhdgmceaaRead
namespace Go.Proofs.Ytihhfelhdgmceaa
open Go.RowKit
/-- The parts of an Ageing lie in four cells, as a scene does. -/
def keepAt (s : Sc) : Nat → Int
  | 0 => s.rise
  | 1 => s.side
  | 2 => s.turn
  | _ => s.power
theorem ScBox.at_ {W : World} {b : Nat} {s : Sc} (h : ScBox W b s) {k : Nat} (hk : k < 4) : W.cell? ⟨b, k, none⟩ = some (.int .i64 (keepAt s k)) := by
  match k, hk with
  | 0, _ => exact h.q0
  | 1, _ => exact h.q1
  | 2, _ => exact h.q2
  | 3, _ => exact h.q3
def keepOk (s : Sc) (j : Nat) : Prop := 0 ≤ keepAt s j ∧ keepAt s j ≤ 1000
def measAt (xs : List (Int × Int)) (j : Nat) : Prop := (0 ≤ (atp xs j).1 ∧ (atp xs j).1 ≤ 100000) ∧ (0 ≤ (atp xs j).2 ∧ (atp xs j).2 ≤ 100000) ∧ (0 < j → (atp xs (j - 1)).1 < (atp xs j).1)
def MeasOk (s : Sc) (side : Int) (xs : List (Int × Int)) : Prop := (0 ≤ side ∧ side ≤ 3) ∧ 1 ≤ xs.length ∧ xs.length ≤ 50 ∧ (∀ j, j < 4 → keepOk s j) ∧ ∀ j, j < xs.length → measAt xs j
open Classical in
noncomputable def measB (s : Sc) (side : Int) (xs : List (Int × Int)) : Bool := decide (MeasOk s side xs)
theorem measB_t {s : Sc} {side : Int} {xs : List (Int × Int)} (h : MeasOk s side xs) : measB s side xs = true := by simp [measB, h]
theorem measB_f {s : Sc} {side : Int} {xs : List (Int × Int)} (h : ¬ MeasOk s side xs) : measB s side xs = false := by simp [measB, h]
theorem idxK (s : Sc) {k : Nat} (hk : k < 4) (w : World) : Sem.run Try.prog (Instr.index 79 (.agg #[.int .i64 s.rise, .int .i64 s.side, .int .i64 s.turn, .int .i64 s.power]) (.int .i64 k)) w = .ok (.int .i64 (keepAt s k)) w := by
  obtain rfl | rfl | rfl | rfl : k = 0 ∨ k = 1 ∨ k = 2 ∨ k = 3 := by omega
  all_goals kernel_rfl
set_option maxRecDepth 100000 in
set_option maxHeartbeats 4000000 in
theorem lmeasured (s : Sc) (side : Int) (A : Option Addr) (c B : Nat) (xs : List (Int × Int)) (w : World) (h : Pairs w B A xs) (hB : B ≤ w.heap.size) (hn : xs.length ≤ 100) :
    Calls Try.prog 73 #[.agg #[.int .i64 s.rise, .int .i64 s.side, .int .i64 s.turn, .int .i64 s.power], .int .i64 side, .slice A xs.length c] w fun e w' => e = .returned (.bool (measB s side xs)) ∧ Below w.heap.size w w' := by
  have hS := ScBox.new w s 81
  have hal : Below w.heap.size w (w.alloc (.cells #[.int .i64 s.rise, .int .i64 s.side, .int .i64 s.turn, .int .i64 s.power] 81)) := (Below.refl _ _).alloc (Nat.le_refl _) _
  generalize hW : w.alloc (.cells #[.int .i64 s.rise, .int .i64 s.side, .int .i64 s.turn, .int .i64 s.power] 81) = w0 at hS hal
  have hz : w0.heap.size = w.heap.size + 1 := by rw [← hW]; simp
  have HW := Lib.hid hW
  have hP : Pairs w0 B A xs := h.keep fun p hp => hal.cell (by omega)
  clear hW h
  obtain ⟨v0, v1, v2, v3, _⟩ := id hS
  by_cases hs : 0 ≤ side ∧ side ≤ 3
  · have hi := inB_t hs.1 hs.2
    by_cases hl : 1 ≤ xs.length
    · by_cases h50 : xs.length ≤ 50
      · have HS := Lib.hid hs
        clear hs
        go_enter Try.func73, Try.ntmps73
        go_wp2_with fail
        rw [HW.out]
        refine (lwithin _ _ _ _).mono ?_
        rintro e w' ⟨rfl, rfl⟩
        go_wp2
        go_loop [26] (fun i => ∃ k : Nat, k ≤ 4 ∧ i = .int .i64 k ∧ Hid (∀ j, j < k → keepOk s j)) (fun i => 4 - (intOf i).toNat)
        case atStart => exact ⟨0, Nat.zero_le _, rfl, hid_none⟩
        case round =>
          obtain ⟨k, hk, rfl, ha⟩ := hrel
          by_cases hlt : k < 4
          · by_cases hk1 : 0 ≤ keepAt s k ∧ keepAt s k ≤ 1000
            · have hik := inB_t hk1.1 hk1.2
              have HK := Lib.hid hk1
              clear hk1
              go_wp2_with fail
              rw [idxK s hlt]
              go_wp2_with (go_at_call 58; refine (lwithin _ _ _ _).mono ?_; rintro e w' ⟨rfl, rfl⟩)
              exact ⟨⟨k + 1, by omega, by go_num, hid_more ha HK.out⟩, by simp [intOf]; omega⟩
            · have hik := inB_f hk1
              have HK := Lib.hid hk1
              clear hk1
              go_wp2_with fail
              rw [idxK s hlt]
              go_wp2_with (go_at_call 58; refine (lwithin _ _ _ _).mono ?_; rintro e w' ⟨rfl, rfl⟩)
              go_ret
              exact ⟨ret_bool (measB_f fun hm => HK.out (hm.2.2.2.1 _ hlt)).symm, hal⟩
          · have hk4 : k = 4 := by omega
            have HKA : Hid (∀ j, j < 4 → keepOk s j) := fun j hj => ha.out j (by omega)
            clear ha
            go_wp2
            go_loopw [35] (fun i wr => ∃ k : Nat, k ≤ xs.length ∧ i = .int .i64 k ∧ Hid (∀ j, j < k → measAt xs j) ∧ Below w0.heap.size w0 wr) (fun i _ => xs.length - (intOf i).toNat)
            case atStart => exact ⟨0, Nat.zero_le _, rfl, hid_none, Below.refl _ _⟩
            case round =>
              obtain ⟨k, hk, rfl, ha, hb⟩ := hrel
              have hall : Below w.heap.size w wr := hal.trans (hb.mono hal.size)
              have hsz := hb.size
              by_cases hlt : k < xs.length
              · obtain ⟨b, off, rfl, hbb, hc⟩ := (hP.keep fun p hp => hb.cell (by omega)).at_ hlt
                obtain ⟨u0, u1⟩ := hc k hlt
                have hbw : b < wr.heap.size := by omega
                have HC := Lib.hid hc
                clear hc hP
                by_cases c1 : 0 ≤ (atp xs k).1 ∧ (atp xs k).1 ≤ 100000
                · have i1 := inB_t c1.1 c1.2
                  by_cases c2 : 0 ≤ (atp xs k).2 ∧ (atp xs k).2 ≤ 100000
                  · have i2 := inB_t c2.1 c2.2
                    have C1 := Lib.hid c1
                    have C2 := Lib.hid c2
                    clear c1 c2
                    by_cases hk0 : 0 < k
                    · have hprev := (HC.out (k - 1) (by omega)).1
                      by_cases c3 : (atp xs (k - 1)).1 < (atp xs k).1
                      · go_wp2_with fail
                        go_quiet ((go_at_call 58; exact quiet_same (lwithin _ _ _ _)))
                        go_wp2
                        exact ⟨⟨k + 1, by omega, by go_num, hid_more ha ⟨C1.out, C2.out, fun _ => c3⟩, below_drewN (hb.alloc hb.size _) nq⟩, by simp [intOf]; omega⟩
                      · have c3' : ¬ (atp xs (k - 1)).1 < (atp xs k).1 := c3
                        have C3 := Lib.hid c3'
                        clear c3'
                        go_wp2_with fail
                        go_quiet ((go_at_call 58; exact quiet_same (lwithin _ _ _ _)))
                        go_wp2
                        go_ret
                        exact ⟨ret_bool (measB_f fun hm => absurd ((hm.2.2.2.2 _ hlt).2.2 hk0) (Int.not_lt.2 C3.out)).symm, below_drewN (hall.alloc hall.size _) nq⟩
                    · have hd0 : decide ((0 : Int) < k) = false := by simp; omega
                      go_wp2_with fail
                      go_quiet ((go_at_call 58; exact quiet_same (lwithin _ _ _ _)))
                      go_wp2
                      exact ⟨⟨k + 1, by omega, by go_num, hid_more ha ⟨C1.out, C2.out, fun h => absurd h hk0⟩, below_drewN (hb.alloc hb.size _) nq⟩, by simp [intOf]; omega⟩
                  · have i2 := inB_f c2
                    have C2 := Lib.hid c2
                    clear c1 c2
                    go_wp2_with fail
                    go_quiet ((go_at_call 58; exact quiet_same (lwithin _ _ _ _)))
                    go_wp2
                    go_ret
                    exact ⟨ret_bool (measB_f fun hm => C2.out (hm.2.2.2.2 _ hlt).2.1).symm, below_drewN (hall.alloc hall.size _) nq⟩
                · have i1 := inB_f c1
                  have C1 := Lib.hid c1
                  clear c1
                  go_wp2_with fail
                  go_quiet ((go_at_call 58; exact quiet_same (lwithin _ _ _ _)))
                  go_wp2
                  go_ret
                  exact ⟨ret_bool (measB_f fun hm => C1.out (hm.2.2.2.2 _ hlt).1).symm, below_drewN (hall.alloc hall.size _) nq⟩
              · go_wp2
                go_ret
                exact ⟨ret_bool (measB_t ⟨HS.out, hl, h50, HKA.out, fun j hj => ha.out j (by omega)⟩).symm, hall⟩
      · go_enter Try.func73, Try.ntmps73
        go_wp2_with (go_at_call 58; refine (lwithin _ _ _ _).mono ?_; rintro e w' ⟨rfl, rfl⟩)
        go_ret
        exact ⟨ret_bool (measB_f fun hm => h50 hm.2.2.1).symm, HW.out ▸ hal⟩
    · go_enter Try.func73, Try.ntmps73
      go_wp2_with (go_at_call 58; refine (lwithin _ _ _ _).mono ?_; rintro e w' ⟨rfl, rfl⟩)
      go_ret
      exact ⟨ret_bool (measB_f fun hm => hl hm.2.1).symm, HW.out ▸ hal⟩
  · have hi := inB_f hs
    go_enter Try.func73, Try.ntmps73
    go_wp2_with (go_at_call 58; refine (lwithin _ _ _ _).mono ?_; rintro e w' ⟨rfl, rfl⟩)
    go_ret
    exact ⟨ret_bool (measB_f fun hm => hs hm.1).symm, HW.out ▸ hal⟩
set_option maxHeartbeats 4000000 in
theorem rMeasures (s : Sc) (side : Int) (A : Option Addr) (c B : Nat) (xs : List (Int × Int)) (w : World) (h : Pairs w B A xs) (hB : B ≤ w.heap.size) (hn : xs.length ≤ 100) :
    Calls Try.prog 52 #[.agg #[.int .i64 s.rise, .int .i64 s.side, .int .i64 s.turn, .int .i64 s.power], .int .i64 side, .slice A xs.length c] w fun e w' => e = .returned (.bool (measB s side xs)) ∧ Below w.heap.size w w' := by
  have hS := ScBox.new w s 81
  have hal : Below w.heap.size w (w.alloc (.cells #[.int .i64 s.rise, .int .i64 s.side, .int .i64 s.turn, .int .i64 s.power] 81)) := (Below.refl _ _).alloc (Nat.le_refl _) _
  generalize hW : w.alloc (.cells #[.int .i64 s.rise, .int .i64 s.side, .int .i64 s.turn, .int .i64 s.power] 81) = w0 at hS hal
  have hz : w0.heap.size = w.heap.size + 1 := by rw [← hW]; simp
  have HW := Lib.hid hW
  have hP : Pairs w0 B A xs := h.keep fun p hp => hal.cell (by omega)
  clear hW h
  by_cases hs : 0 ≤ side ∧ side ≤ 3
  · have hi := inB_t hs.1 hs.2
    by_cases hl : 1 ≤ xs.length
    · by_cases h50 : xs.length ≤ 50
      · have HS := Lib.hid hs
        clear hs
        go_enter Try.func52, Try.ntmps52
        go_wp2_with fail
        rw [HW.out]
        refine (rwithin _ _ _ _).mono ?_
        rintro e w' ⟨rfl, rfl⟩
        go_wp2
        go_loop [7] (fun i => ∃ k : Nat, k ≤ 4 ∧ i = .int .i64 k ∧ Hid (∀ j, j < k → keepOk s j)) (fun i => 4 - (intOf i).toNat)
        case atStart => exact ⟨0, Nat.zero_le _, rfl, hid_none⟩
        case round =>
          obtain ⟨k, hk, rfl, ha⟩ := hrel
          by_cases hlt : k < 4
          · have hkc := hS.at_ hlt
            by_cases hk1 : 0 ≤ keepAt s k ∧ keepAt s k ≤ 1000
            · have hik := inB_t hk1.1 hk1.2
              have HK := Lib.hid hk1
              clear hk1
              go_wp2_with (go_at_call 56; refine (rwithin _ _ _ _).mono ?_; rintro e w' ⟨rfl, rfl⟩)
              exact ⟨⟨k + 1, by omega, by go_num, hid_more ha HK.out⟩, by simp [intOf]; omega⟩
            · have hik := inB_f hk1
              have HK := Lib.hid hk1
              clear hk1
              go_wp2_with (go_at_call 56; refine (rwithin _ _ _ _).mono ?_; rintro e w' ⟨rfl, rfl⟩)
              go_ret
              exact ⟨ret_bool (measB_f fun hm => HK.out (hm.2.2.2.1 _ hlt)).symm, hal⟩
          · have hk4 : k = 4 := by omega
            have HKA : Hid (∀ j, j < 4 → keepOk s j) := fun j hj => ha.out j (by omega)
            clear ha
            go_wp2
            go_loopw [8] (fun i wr => ∃ k : Nat, k ≤ xs.length ∧ i = .int .i64 k ∧ Hid (∀ j, j < k → measAt xs j) ∧ Drew w0 wr) (fun i _ => xs.length - (intOf i).toNat)
            case atStart => exact ⟨0, Nat.zero_le _, rfl, hid_none, Drew.refl _⟩
            case round =>
              obtain ⟨k, hk, rfl, ha, hb⟩ := hrel
              have hall : Below w.heap.size w wr := hal.trans (hb.below _)
              by_cases hlt : k < xs.length
              · obtain ⟨b, off, rfl, hbb, hc⟩ := (hP.keep fun p hp => hb.cell p).at_ hlt
                obtain ⟨u0, u1⟩ := hc k hlt
                have HC := Lib.hid hc
                clear hc hP
                by_cases c1 : 0 ≤ (atp xs k).1 ∧ (atp xs k).1 ≤ 100000
                · have i1 := inB_t c1.1 c1.2
                  by_cases c2 : 0 ≤ (atp xs k).2 ∧ (atp xs k).2 ≤ 100000
                  · have i2 := inB_t c2.1 c2.2
                    have C1 := Lib.hid c1
                    have C2 := Lib.hid c2
                    clear c1 c2
                    by_cases hk0 : 0 < k
                    · have hprev := (HC.out (k - 1) (by omega)).1
                      by_cases c3 : (atp xs (k - 1)).1 < (atp xs k).1
                      · have C3 := Lib.hid c3
                        have c3' : decide ((atp xs k).1 ≤ (atp xs (k - 1)).1) = false := by simp; omega
                        clear c3
                        go_wp2_with fail
                        go_quiet ((go_at_call 56; exact quiet_same (rwithin _ _ _ _)))
                        go_wp2
                        exact ⟨⟨k + 1, by omega, by go_num, hid_more ha ⟨C1.out, C2.out, fun _ => C3.out⟩, hb.drewN nq⟩, by simp [intOf]; omega⟩
                      · have C3 := Lib.hid c3
                        have c3' : decide ((atp xs k).1 ≤ (atp xs (k - 1)).1) = true := by simp; omega
                        clear c3
                        go_wp2_with fail
                        go_quiet ((go_at_call 56; exact quiet_same (rwithin _ _ _ _)))
                        go_wp2
                        go_ret
                        exact ⟨ret_bool (measB_f fun hm => absurd ((hm.2.2.2.2 _ hlt).2.2 hk0) (Int.not_lt.2 C3.out)).symm, below_drewN hall nq⟩
                    · have hd0 : decide ((0 : Int) < k) = false := by simp; omega
                      go_wp2_with fail
                      go_quiet ((go_at_call 56; exact quiet_same (rwithin _ _ _ _)))
                      go_wp2
                      exact ⟨⟨k + 1, by omega, by go_num, hid_more ha ⟨C1.out, C2.out, fun h => absurd h hk0⟩, hb.drewN nq⟩, by simp [intOf]; omega⟩
                  · have i2 := inB_f c2
                    have C2 := Lib.hid c2
                    clear c1 c2
                    go_wp2_with fail
                    go_quiet ((go_at_call 56; exact quiet_same (rwithin _ _ _ _)))
                    go_wp2
                    go_ret
                    exact ⟨ret_bool (measB_f fun hm => C2.out (hm.2.2.2.2 _ hlt).2.1).symm, below_drewN hall nq⟩
                · have i1 := inB_f c1
                  have C1 := Lib.hid c1
                  clear c1
                  go_wp2_with fail
                  go_quiet ((go_at_call 56; exact quiet_same (rwithin _ _ _ _)))
                  go_wp2
                  go_ret
                  exact ⟨ret_bool (measB_f fun hm => C1.out (hm.2.2.2.2 _ hlt).1).symm, below_drewN hall nq⟩
              · go_wp2
                go_ret
                exact ⟨ret_bool (measB_t ⟨HS.out, hl, h50, HKA.out, fun j hj => ha.out j (by omega)⟩).symm, hall⟩
      · go_enter Try.func52, Try.ntmps52
        go_wp2_with (go_at_call 56; refine (rwithin _ _ _ _).mono ?_; rintro e w' ⟨rfl, rfl⟩)
        go_ret
        exact ⟨ret_bool (measB_f fun hm => h50 hm.2.2.1).symm, HW.out ▸ hal⟩
    · go_enter Try.func52, Try.ntmps52
      go_wp2_with (go_at_call 56; refine (rwithin _ _ _ _).mono ?_; rintro e w' ⟨rfl, rfl⟩)
      go_ret
      exact ⟨ret_bool (measB_f fun hm => hl hm.2.1).symm, HW.out ▸ hal⟩
  · have hi := inB_f hs
    go_enter Try.func52, Try.ntmps52
    go_wp2_with (go_at_call 56; refine (rwithin _ _ _ _).mono ?_; rintro e w' ⟨rfl, rfl⟩)
    go_ret
    exact ⟨ret_bool (measB_f fun hm => hs hm.1).symm, HW.out ▸ hal⟩
end Go.Proofs.Ytihhfelhdgmceaa
