/- Contracts of Value (both texts). -/
import Derived.Test.YtihhfelhdgmceaaVal1
import Derived.Test.YtihhfelhdgmceaaAge
namespace Go.Proofs.Ytihhfelhdgmceaa
open Go.RowKit
def lastTo (xs : List (Int × Int)) (day : Int) : Nat → Int × Int
  | 0 => atp xs 0
  | k + 1 => if (atp xs k).1 ≤ day then atp xs k else lastTo xs day k
theorem lastTo_in {xs : List (Int × Int)} {day : Int} (h1 : 1 ≤ xs.length) (h0 : (atp xs 0).1 ≤ day) : ∀ k, k ≤ xs.length → ∃ j, j < xs.length ∧ lastTo xs day k = atp xs j ∧ (atp xs j).1 ≤ day
  | 0, _ => ⟨0, h1, rfl, h0⟩
  | k + 1, hk => by
    unfold lastTo
    by_cases h : (atp xs k).1 ≤ day
    · exact ⟨k, hk, by rw [if_pos h], h⟩
    · rw [if_neg h]; exact lastTo_in h1 h0 k (by omega)
def ValOk (s : Sc) (side : Int) (xs : List (Int × Int)) (day : Int) : Prop := MeasOk s side xs ∧ (atp xs 0).1 ≤ day ∧ day ≤ 100000
def valF (s : Sc) (side : Int) (xs : List (Int × Int)) (day : Int) : Int := agedF (keepAt s side.toNat) ((day - (lastTo xs day xs.length).1) / 365).toNat (lastTo xs day xs.length).2
def ValRes (s : Sc) (side : Int) (xs : List (Int × Int)) (day : Int) (w : World) (e : Ending) (w' : World) : Prop :=
  (ValOk s side xs day → e = .returned (.tuple #[.int .i64 (valF s side xs day), .int .i64 0])) ∧
  (¬ ValOk s side xs day → e = .returned (.tuple #[.int .i64 0, .int .i64 2])) ∧ Below w.heap.size w w'
set_option maxRecDepth 100000 in
set_option maxHeartbeats 4000000 in
theorem lValue (s : Sc) (side : Int) (A : Option Addr) (c B : Nat) (xs : List (Int × Int)) (day : Int) (w : World) (h : Pairs w B A xs) (hB : B ≤ w.heap.size) (hn : xs.length ≤ 100) :
    Calls Try.prog 48 #[.agg #[.int .i64 s.rise, .int .i64 s.side, .int .i64 s.turn, .int .i64 s.power], .int .i64 side, .slice A xs.length c, .int .i64 day] w (ValRes s side xs day w) := by
  have hS := ScBox.new w s 81
  have hal : Below w.heap.size w (w.alloc (.cells #[.int .i64 s.rise, .int .i64 s.side, .int .i64 s.turn, .int .i64 s.power] 81)) := (Below.refl _ _).alloc (Nat.le_refl _) _
  generalize hW : w.alloc (.cells #[.int .i64 s.rise, .int .i64 s.side, .int .i64 s.turn, .int .i64 s.power] 81) = w0 at hS hal
  have hz : w0.heap.size = w.heap.size + 1 := by rw [← hW]; simp
  have HW := Lib.hid hW
  have hP : Pairs w0 B A xs := h.keep fun p hp => hal.cell (by omega)
  clear hW h
  obtain ⟨v0, v1, v2, v3, _⟩ := id hS
  go_enter Try.func48, Try.ntmps48
  go_wp2_with fail
  rw [HW.out]
  refine (lmeasured _ _ _ _ B _ _ hP (by omega) hn).mono ?_
  rintro e w1 ⟨rfl, hb⟩
  replace hal := hal.trans (hb.mono hal.size)
  replace hP := hP.below (hb.mono (by omega)) 
  replace hS := hS.below hb hS.sz
  clear v0 v1 v2 v3 hz HW hb
  obtain ⟨v0, v1, v2, v3, _⟩ := id hS
  by_cases hm : MeasOk s side xs
  · rw [measB_t hm]
    have hB1 : B ≤ w1.heap.size := Nat.le_trans hB hal.size
    obtain ⟨b, off, rfl, hbb, hc⟩ := hP.at_ (k := 0) (by have := hm.2.1; omega)
    obtain ⟨u0, u1⟩ := hc 0 (by have := hm.2.1; omega)
    simp only [Nat.zero_mul, Nat.add_zero] at u0 u1
    have HC := Lib.hid hc
    have l1 := hm.2.1
    by_cases hd : (atp xs 0).1 ≤ day ∧ day ≤ 100000
    · have i1 := inB_t hd.1 hd.2
      have HM := Lib.hid hm
      have HD := Lib.hid hd
      clear hd hm hc
      go_wp2_with (go_at_call 58; refine (lwithin _ _ _ _).mono ?_; rintro e w' ⟨rfl, rfl⟩)
      go_loopw [32] (fun i wr => ∃ k : Nat, k ≤ xs.length ∧ i = .int .i64 k ∧ wr.cell? ⟨w1.heap.size, 0, none⟩ = some (.int .i64 (lastTo xs day k).1) ∧ wr.cell? ⟨w1.heap.size, 1, none⟩ = some (.int .i64 (lastTo xs day k).2) ∧ wr.frozen? ⟨w1.heap.size, 0, none⟩ = false ∧ wr.frozen? ⟨w1.heap.size, 1, none⟩ = false ∧ w1.heap.size < wr.heap.size ∧ Below w1.heap.size w1 wr) (fun i _ => xs.length - (intOf i).toNat)
      case atStart => exact ⟨0, Nat.zero_le _, rfl, by simp [go_sem, lastTo], by simp [go_sem, lastTo], by simp [go_sem], by simp [go_sem], by simp, (Below.refl _ _).alloc (Nat.le_refl _) _⟩
      case round =>
        obtain ⟨k, hk, rfl, c0, c1, f0, f1, hsz, hb⟩ := hrel
        by_cases hlt : k < xs.length
        · obtain ⟨u0', u1'⟩ := HC.out k hlt
          have hbw : b < w1.heap.size := by omega
          replace u0' := (hb.cell (p := ⟨b, off + k * 2, none⟩) hbw).trans u0'
          replace u1' := (hb.cell (p := ⟨b, off + k * 2 + 1, none⟩) hbw).trans u1'
          have hbw' : b < wr.heap.size := by omega
          have e : lastTo xs day (k + 1) = if (atp xs k).1 ≤ day then atp xs k else lastTo xs day k := rfl
          have E := Lib.hid e
          clear e
          by_cases hle : (atp xs k).1 ≤ day
          · go_wp2
            refine ⟨⟨k + 1, by omega, by go_num, ?_, ?_, ?_, ?_, ?_, ?_⟩, by simp [intOf]; omega⟩
            · rw [E.out, if_pos hle]; simp [go_sem, c0, hsz]
            · rw [E.out, if_pos hle]; simp [go_sem, c1, hsz]
            · simp [go_sem, f0, hsz]
            · simp [go_sem, f1, hsz]
            · first | exact hsz | (simp; omega)
            · exact ((hb.setCell (Nat.le_refl _) _).setCell (Nat.le_refl _) _).alloc (by simp; omega) _
          · go_wp2
            refine ⟨⟨k + 1, by omega, by go_num, ?_, ?_, ?_, ?_, ?_, ?_⟩, by simp [intOf]; omega⟩
            · rw [E.out, if_neg (by omega)]; simp [go_sem, c0, hsz]
            · rw [E.out, if_neg (by omega)]; simp [go_sem, c1, hsz]
            · simp [go_sem, f0, hsz]
            · simp [go_sem, f1, hsz]
            · first | exact hsz | (simp; omega)
            · exact hb.alloc (by omega) _
        · obtain rfl : k = xs.length := by omega
          obtain ⟨n, rfl⟩ := Int.eq_ofNat_of_zero_le HM.out.1.1
          have hn3 : n < 4 := by have := HM.out.1.2; omega
          have hkc := (hS.below hb hS.sz).at_ hn3
          obtain ⟨k0, k1⟩ := HM.out.2.2.2.1 n hn3
          obtain ⟨j, hj, hL, hday⟩ := lastTo_in HM.out.2.1 HD.out.1 xs.length (Nat.le_refl _)
          obtain ⟨⟨d0, d1⟩, ⟨r0, r1⟩, _⟩ := HM.out.2.2.2.2 j hj
          have hdm := HD.out.2
          have HV := Lib.hid (by unfold valF; rw [Int.toNat_natCast] : valF s n xs day = agedF (keepAt s n) ((day - (lastTo xs day xs.length).1) / 365).toNat (lastTo xs day xs.length).2)
          rw [← hL] at hday d0 d1 r0 r1
          clear hL hP v0 v1 v2 v3 HC
          generalize lastTo xs day xs.length = L at *
          have y0 : 0 ≤ (day - L.1) / 365 := by omega
          have y1 : (day - L.1) / 365 ≤ 300 := by omega
          go_wp2_with fail
          go_quiet ((go_at_call 60; exact quiet_same (laged _ _ _ _ r0 r1 k0 k1 (by omega) (by omega))))
          go_wp2
          go_ret2
          exact ⟨fun _ => by rw [HV.out]; rfl, fun hv => absurd ⟨HM.out, HD.out⟩ hv, below_drewN (hal.trans (hb.mono hal.size)) nq⟩
    · have i1 := inB_f hd
      have HD := Lib.hid hd
      clear hd hm hc
      go_wp2_with (go_at_call 58; refine (lwithin _ _ _ _).mono ?_; rintro e w' ⟨rfl, rfl⟩)
      go_ret2
      exact ⟨fun hv => absurd hv.2 HD.out, fun _ => rfl, hal⟩
  · rw [measB_f hm]
    have HM := Lib.hid hm
    clear hm
    go_wp2_with fail
    go_ret2
    exact ⟨fun hv => absurd hv.1 HM.out, fun _ => rfl, hal⟩
theorem rAged_ok (r keep y : Int) (w : World) (a : 0 ≤ r) (b : r ≤ 100000) (h0 : 0 ≤ keep) (h1 : keep ≤ 1000) (y0 : 0 ≤ y) (y1 : y ≤ 300) :
    Calls Try.prog 25 #[.int .i64 r, .int .i64 keep, .int .i64 y] w fun e w' => e = .returned (.tuple #[.int .i64 (agedF keep y.toNat r), .int .i64 0]) ∧ w = w' :=
  (rAged _ _ _ _).mono fun _ _ h => ⟨h.1 ⟨a, b, ⟨h0, h1⟩, y0, y1⟩, h.2.2⟩
set_option maxRecDepth 100000 in
set_option maxHeartbeats 4000000 in
theorem rValue (s : Sc) (side : Int) (A : Option Addr) (c B : Nat) (xs : List (Int × Int)) (day : Int) (w : World) (h : Pairs w B A xs) (hB : B ≤ w.heap.size) (hn : xs.length ≤ 100) :
    Calls Try.prog 49 #[.agg #[.int .i64 s.rise, .int .i64 s.side, .int .i64 s.turn, .int .i64 s.power], .int .i64 side, .slice A xs.length c, .int .i64 day] w (ValRes s side xs day w) := by
  have hS := ScBox.new w s 81
  have hal : Below w.heap.size w (w.alloc (.cells #[.int .i64 s.rise, .int .i64 s.side, .int .i64 s.turn, .int .i64 s.power] 81)) := (Below.refl _ _).alloc (Nat.le_refl _) _
  generalize hW : w.alloc (.cells #[.int .i64 s.rise, .int .i64 s.side, .int .i64 s.turn, .int .i64 s.power] 81) = w0 at hS hal
  have hz : w0.heap.size = w.heap.size + 1 := by rw [← hW]; simp
  have HW := Lib.hid hW
  have hP : Pairs w0 B A xs := h.keep fun p hp => hal.cell (by omega)
  clear hW h
  obtain ⟨v0, v1, v2, v3, _⟩ := id hS
  go_enter Try.func49, Try.ntmps49
  go_wp2_with fail
  rw [HW.out]
  refine (rMeasures _ _ _ _ B _ _ hP (by omega) hn).mono ?_
  rintro e w1 ⟨rfl, hb⟩
  replace hal := hal.trans (hb.mono hal.size)
  replace hP := hP.below (hb.mono (by omega)) 
  replace hS := hS.below hb hS.sz
  clear v0 v1 v2 v3 hz HW hb
  obtain ⟨v0, v1, v2, v3, _⟩ := id hS
  by_cases hm : MeasOk s side xs
  · rw [measB_t hm]
    have hB1 : B ≤ w1.heap.size := Nat.le_trans hB hal.size
    obtain ⟨b, off, rfl, hbb, hc⟩ := hP.at_ (k := 0) (by have := hm.2.1; omega)
    obtain ⟨u0, u1⟩ := hc 0 (by have := hm.2.1; omega)
    simp only [Nat.zero_mul, Nat.add_zero] at u0 u1
    have HC := Lib.hid hc
    have l1 := hm.2.1
    by_cases hd : (atp xs 0).1 ≤ day ∧ day ≤ 100000
    · have i1 := inB_t hd.1 hd.2
      have HM := Lib.hid hm
      have HD := Lib.hid hd
      clear hd hm hc
      go_wp2_with (go_at_call 56; refine (rwithin _ _ _ _).mono ?_; rintro e w' ⟨rfl, rfl⟩)
      go_loopw [11] (fun i wr => ∃ k : Nat, k ≤ xs.length ∧ i = .int .i64 k ∧ wr.cell? ⟨w1.heap.size, 0, none⟩ = some (.int .i64 (lastTo xs day k).1) ∧ wr.cell? ⟨w1.heap.size, 1, none⟩ = some (.int .i64 (lastTo xs day k).2) ∧ wr.frozen? ⟨w1.heap.size, 0, none⟩ = false ∧ wr.frozen? ⟨w1.heap.size, 1, none⟩ = false ∧ w1.heap.size < wr.heap.size ∧ Below w1.heap.size w1 wr) (fun i _ => xs.length - (intOf i).toNat)
      case atStart => exact ⟨0, Nat.zero_le _, rfl, by simp [go_sem, lastTo], by simp [go_sem, lastTo], by simp [go_sem], by simp [go_sem], by simp, (Below.refl _ _).alloc (Nat.le_refl _) _⟩
      case round =>
        obtain ⟨k, hk, rfl, c0, c1, f0, f1, hsz, hb⟩ := hrel
        by_cases hlt : k < xs.length
        · obtain ⟨u0', u1'⟩ := HC.out k hlt
          have hbw : b < w1.heap.size := by omega
          replace u0' := (hb.cell (p := ⟨b, off + k * 2, none⟩) hbw).trans u0'
          replace u1' := (hb.cell (p := ⟨b, off + k * 2 + 1, none⟩) hbw).trans u1'
          have hbw' : b < wr.heap.size := by omega
          have e : lastTo xs day (k + 1) = if (atp xs k).1 ≤ day then atp xs k else lastTo xs day k := rfl
          have E := Lib.hid e
          clear e
          by_cases hle : (atp xs k).1 ≤ day
          · go_wp2
            refine ⟨⟨k + 1, by omega, by go_num, ?_, ?_, ?_, ?_, ?_, ?_⟩, by simp [intOf]; omega⟩
            · rw [E.out, if_pos hle]; simp [go_sem, c0]
            · rw [E.out, if_pos hle]; simp [go_sem, c1]
            · simp [go_sem, f0]
            · simp [go_sem, f1]
            · first | exact hsz | (simp; omega)
            · exact ((hb.setCell (Nat.le_refl _) _).setCell (Nat.le_refl _) _)
          · go_wp2
            refine ⟨⟨k + 1, by omega, by go_num, ?_, ?_, ?_, ?_, ?_, ?_⟩, by simp [intOf]; omega⟩
            · rw [E.out, if_neg (by omega)]; simp [go_sem, c0]
            · rw [E.out, if_neg (by omega)]; simp [go_sem, c1]
            · exact f0
            · exact f1
            · first | exact hsz | (simp; omega)
            · exact hb
        · obtain rfl : k = xs.length := by omega
          obtain ⟨n, rfl⟩ := Int.eq_ofNat_of_zero_le HM.out.1.1
          have hn3 : n < 4 := by have := HM.out.1.2; omega
          have hkc := (hS.below hb hS.sz).at_ hn3
          obtain ⟨k0, k1⟩ := HM.out.2.2.2.1 n hn3
          obtain ⟨j, hj, hL, hday⟩ := lastTo_in HM.out.2.1 HD.out.1 xs.length (Nat.le_refl _)
          obtain ⟨⟨d0, d1⟩, ⟨r0, r1⟩, _⟩ := HM.out.2.2.2.2 j hj
          have hdm := HD.out.2
          have HV := Lib.hid (by unfold valF; rw [Int.toNat_natCast] : valF s n xs day = agedF (keepAt s n) ((day - (lastTo xs day xs.length).1) / 365).toNat (lastTo xs day xs.length).2)
          rw [← hL] at hday d0 d1 r0 r1
          clear hL hP v0 v1 v2 v3 HC
          generalize lastTo xs day xs.length = L at *
          have y0 : 0 ≤ (day - L.1) / 365 := by omega
          have y1 : (day - L.1) / 365 ≤ 300 := by omega
          go_wp2_with fail
          go_quiet ((go_at_call 25; exact quiet_same (rAged_ok _ _ _ _ r0 r1 k0 k1 y0 y1)))
          go_wp2
          go_ret2
          exact ⟨fun _ => by rw [HV.out]; rfl, fun hv => absurd ⟨HM.out, HD.out⟩ hv, below_drewN (hal.trans (hb.mono hal.size)) nq⟩
    · have i1 := inB_f hd
      have HD := Lib.hid hd
      clear hd hm hc
      go_wp2_with (go_at_call 56; refine (rwithin _ _ _ _).mono ?_; rintro e w' ⟨rfl, rfl⟩)
      go_ret2
      exact ⟨fun hv => absurd hv.2 HD.out, fun _ => rfl, hal⟩
  · rw [measB_f hm]
    have HM := Lib.hid hm
    clear hm
    go_wp2_with fail
    go_ret2
    exact ⟨fun hv => absurd hv.1 HM.out, fun _ => rfl, hal⟩
end Go.Proofs.Ytihhfelhdgmceaa
