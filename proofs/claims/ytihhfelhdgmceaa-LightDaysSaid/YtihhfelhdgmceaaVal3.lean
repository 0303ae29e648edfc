/- Contracts of Due (both texts). -/
import Derived.Test.YtihhfelhdgmceaaVal1
import Derived.Test.YtihhfelhdgmceaaAge
namespace Go.Proofs.Ytihhfelhdgmceaa
open Go.RowKit
/-- The day and the coefficient, i years after the last measure. -/
def dueDay (xs : List (Int × Int)) (i : Nat) : Int := (atp xs (xs.length - 1)).1 + 365 * i
def dueR (s : Sc) (side : Int) (xs : List (Int × Int)) (i : Nat) : Int := agedF (keepAt s side.toNat) i (atp xs (xs.length - 1)).2
def DueOk (s : Sc) (side : Int) (xs : List (Int × Int)) (least : Int) : Prop := MeasOk s side xs ∧ 0 ≤ least ∧ least ≤ 100000
def DueAt (s : Sc) (side : Int) (xs : List (Int × Int)) (least : Int) (i : Nat) : Prop := dueDay xs i ≤ 100000 ∧ dueR s side xs i < least ∧ ∀ j, j < i → least ≤ dueR s side xs j
def DueNo (s : Sc) (side : Int) (xs : List (Int × Int)) (least : Int) : Prop := ∀ i, dueDay xs i ≤ 100000 → least ≤ dueR s side xs i
def DueIs (s : Sc) (side : Int) (xs : List (Int × Int)) (least d : Int) (b : Bool) (er : Int) : Prop :=
  (¬ DueOk s side xs least ∧ d = 0 ∧ b = false ∧ er = 2) ∨ (DueOk s side xs least ∧ er = 0 ∧ ((∃ i, DueAt s side xs least i ∧ d = dueDay xs i ∧ b = true) ∨ (DueNo s side xs least ∧ d = 0 ∧ b = false)))
theorem dueIs_one {s : Sc} {side : Int} {xs : List (Int × Int)} {least d d' : Int} {b b' : Bool} {er er' : Int} (h : DueIs s side xs least d b er) (h' : DueIs s side xs least d' b' er') : d = d' ∧ b = b' ∧ er = er' := by
  rcases h with ⟨h1, h2, h3, h4⟩ | ⟨h1, h2, h3⟩ <;> rcases h' with ⟨g1, g2, g3, g4⟩ | ⟨g1, g2, g3⟩
  · exact ⟨h2.trans g2.symm, h3.trans g3.symm, h4.trans g4.symm⟩
  · exact absurd g1 h1
  · exact absurd h1 g1
  · rcases h3 with ⟨i, a1, a2, a3⟩ | ⟨a1, a2, a3⟩ <;> rcases g3 with ⟨j, b1, b2, b3⟩ | ⟨b1, b2, b3⟩
    · obtain rfl : i = j := by
        rcases Nat.lt_trichotomy i j with e | e | e
        · exact absurd a1.2.1 (Int.not_lt.2 (b1.2.2 i e))
        · exact e
        · exact absurd b1.2.1 (Int.not_lt.2 (a1.2.2 j e))
      exact ⟨a2.trans b2.symm, a3.trans b3.symm, h2.trans g2.symm⟩
    · exact absurd a1.2.1 (Int.not_lt.2 (b1 i a1.1))
    · exact absurd b1.2.1 (Int.not_lt.2 (a1 j b1.1))
    · exact ⟨a2.trans b2.symm, a3.trans b3.symm, h2.trans g2.symm⟩
def DueRes (s : Sc) (side : Int) (xs : List (Int × Int)) (least : Int) (w : World) (e : Ending) (w' : World) : Prop :=
  ∃ (d : Int) (b : Bool) (er : Int), DueIs s side xs least d b er ∧ e = .returned (.tuple #[.int .i64 d, .bool b, .int .i64 er]) ∧ Below w.heap.size w w'
theorem dueR_bd {s : Sc} {side : Int} {xs : List (Int × Int)} (hm : MeasOk s side xs) (i : Nat) : 0 ≤ dueR s side xs i ∧ dueR s side xs i ≤ 100000 := by
  obtain ⟨n, rfl⟩ := Int.eq_ofNat_of_zero_le hm.1.1
  have hn3 : n < 4 := by have := hm.1.2; omega
  obtain ⟨k0, k1⟩ := hm.2.2.2.1 n hn3
  obtain ⟨_, ⟨r0, r1⟩, _⟩ := hm.2.2.2.2 (xs.length - 1) (by have := hm.2.1; omega)
  unfold dueR
  rw [Int.toNat_natCast]
  have := agedF_bd _ k0 k1 i _ r0
  omega
theorem dueR_succ (s : Sc) (n : Nat) (xs : List (Int × Int)) (k : Nat) : dueR s n xs (k + 1) = dueR s n xs k * keepAt s n / 1000 := agedF_succ _ _ _
theorem due_no {s : Sc} {side : Int} {xs : List (Int × Int)} {least : Int} {k : Nat} (hd : 100000 < dueDay xs k) (h : ∀ j, j < k → least ≤ dueR s side xs j) : DueNo s side xs least := by
  intro i hi
  apply h
  unfold dueDay at hd hi
  omega
set_option maxHeartbeats 2000000 in
theorem lDue (s : Sc) (side : Int) (A : Option Addr) (c B : Nat) (xs : List (Int × Int)) (least : Int) (w : World) (h : Pairs w B A xs) (hB : B ≤ w.heap.size) (hn : xs.length ≤ 100) :
    Calls Try.prog 50 #[.agg #[.int .i64 s.rise, .int .i64 s.side, .int .i64 s.turn, .int .i64 s.power], .int .i64 side, .slice A xs.length c, .int .i64 least] w (DueRes s side xs least w) := by
  have hS := ScBox.new w s 81
  have hal : Below w.heap.size w (w.alloc (.cells #[.int .i64 s.rise, .int .i64 s.side, .int .i64 s.turn, .int .i64 s.power] 81)) := (Below.refl _ _).alloc (Nat.le_refl _) _
  generalize hW : w.alloc (.cells #[.int .i64 s.rise, .int .i64 s.side, .int .i64 s.turn, .int .i64 s.power] 81) = w0 at hS hal
  have hz : w0.heap.size = w.heap.size + 1 := by rw [← hW]; simp
  have HW := Lib.hid hW
  have hP : Pairs w0 B A xs := h.keep fun p hp => hal.cell (by omega)
  clear hW h
  obtain ⟨v0, v1, v2, v3, _⟩ := id hS
  go_enter Try.func50, Try.ntmps50
  go_wp2_with fail
  rw [HW.out]
  refine (lmeasured _ _ _ _ B _ _ hP (by omega) hn).mono ?_
  rintro e w1 ⟨rfl, hb⟩
  replace hal := hal.trans (hb.mono hal.size)
  replace hP := hP.below (hb.mono (by omega)) 
  replace hS := hS.below hb hS.sz
  clear v0 v1 v2 v3 hz HW hb
  by_cases hm : MeasOk s side xs
  · rw [measB_t hm]
    by_cases hd : 0 ≤ least ∧ least ≤ 100000
    · have i1 := inB_t hd.1 hd.2
      have hB1 : B ≤ w1.heap.size := Nat.le_trans hB hal.size
      have l1 := hm.2.1
      obtain ⟨b, off, rfl, hbb, hc⟩ := hP.at_ (k := xs.length - 1) (by omega)
      obtain ⟨u0, u1⟩ := hc (xs.length - 1) (by omega)
      have HOK : Hid (DueOk s side xs least) := ⟨hm, hd⟩
      have HM := Lib.hid hm
      obtain ⟨n, rfl⟩ := Int.eq_ofNat_of_zero_le hm.1.1
      have hn3 : n < 4 := by have := hm.1.2; omega
      have hkc := hS.at_ hn3
      have hsz := hS.sz
      obtain ⟨k0, k1⟩ := hm.2.2.2.1 n hn3
      have HB := Lib.hid (dueR_bd hm)
      have hbw : b < w1.heap.size := by omega
      obtain ⟨d0, d1⟩ := (hm.2.2.2.2 (xs.length - 1) (by omega)).1
      clear hd hm hc hP
      go_wp2_with (go_at_call 58; refine (lwithin _ _ _ _).mono ?_; rintro e w' ⟨rfl, rfl⟩)
      go_loop [12, 13] (fun r d => ∃ k : Nat, r = .int .i64 (dueR s n xs k) ∧ d = .int .i64 (dueDay xs k) ∧ dueDay xs k ≤ 100365 ∧ Hid (∀ j, j < k → least ≤ dueR s n xs j)) (fun _ d => (100366 - intOf d).toNat)
      case atStart => exact ⟨0, by simp [dueR, agedF], by simp [dueDay], by simp [dueDay]; omega, hid_none⟩
      case round =>
        obtain ⟨k, rfl, rfl, hdk, ha⟩ := hrel
        obtain ⟨r0, r1⟩ := HB.out k
        have hd0 : 0 ≤ dueDay xs k := by unfold dueDay; omega
        have es := Lib.hid (by unfold dueDay; omega : dueDay xs (k + 1) = dueDay xs k + 365)
        have HS := Lib.hid (dueR_succ s n xs k)
        by_cases hle : dueDay xs k ≤ 100000
        · by_cases hlt : dueR s n xs k < least
          · go_wp2
            go_ret3
            exact ⟨_, true, 0, .inr ⟨HOK.out, rfl, .inl ⟨k, ⟨hle, hlt, ha.out⟩, rfl, rfl⟩⟩, rfl, hal.alloc hal.size _⟩
          · have hlt' := Lib.hid (Int.not_lt.1 hlt)
            go_wp2_with (go_at_call 60; refine (laged _ _ _ _ r0 r1 k0 k1 (by omega) (by omega)).mono ?_; rintro e w' ⟨rfl, rfl⟩)
            refine ⟨⟨k + 1, ?_, ?_, ?_, ?_⟩, ?_⟩
            · rw [HS.out]; rfl
            · rw [es.out]
            · rw [es.out]; omega
            · exact hid_more ha hlt'.out
            · simp [intOf]; omega
        · have HD : Hid (DueNo s n xs least) := due_no (by omega) ha.out
          go_wp2
          go_ret3
          exact ⟨0, false, 0, .inr ⟨HOK.out, rfl, .inr ⟨HD.out, rfl, rfl⟩⟩, rfl, hal.alloc hal.size _⟩
    · have i1 := inB_f hd
      have HD := Lib.hid hd
      clear hd hm
      go_wp2_with (go_at_call 58; refine (lwithin _ _ _ _).mono ?_; rintro e w' ⟨rfl, rfl⟩)
      go_ret3
      exact ⟨0, false, 2, .inl ⟨fun hv => HD.out hv.2, rfl, rfl, rfl⟩, rfl, hal⟩
  · rw [measB_f hm]
    have HM := Lib.hid hm
    clear hm
    go_wp2_with fail
    go_ret3
    exact ⟨0, false, 2, .inl ⟨fun hv => HM.out hv.1, rfl, rfl, rfl⟩, rfl, hal⟩
set_option maxHeartbeats 2000000 in
theorem rDue (s : Sc) (side : Int) (A : Option Addr) (c B : Nat) (xs : List (Int × Int)) (least : Int) (w : World) (h : Pairs w B A xs) (hB : B ≤ w.heap.size) (hn : xs.length ≤ 100) :
    Calls Try.prog 51 #[.agg #[.int .i64 s.rise, .int .i64 s.side, .int .i64 s.turn, .int .i64 s.power], .int .i64 side, .slice A xs.length c, .int .i64 least] w (DueRes s side xs least w) := by
  have hS := ScBox.new w s 81
  have hal : Below w.heap.size w (w.alloc (.cells #[.int .i64 s.rise, .int .i64 s.side, .int .i64 s.turn, .int .i64 s.power] 81)) := (Below.refl _ _).alloc (Nat.le_refl _) _
  generalize hW : w.alloc (.cells #[.int .i64 s.rise, .int .i64 s.side, .int .i64 s.turn, .int .i64 s.power] 81) = w0 at hS hal
  have hz : w0.heap.size = w.heap.size + 1 := by rw [← hW]; simp
  have HW := Lib.hid hW
  have hP : Pairs w0 B A xs := h.keep fun p hp => hal.cell (by omega)
  clear hW h
  obtain ⟨v0, v1, v2, v3, _⟩ := id hS
  go_enter Try.func51, Try.ntmps51
  go_wp2_with fail
  rw [HW.out]
  refine (rMeasures _ _ _ _ B _ _ hP (by omega) hn).mono ?_
  rintro e w1 ⟨rfl, hb⟩
  replace hal := hal.trans (hb.mono hal.size)
  replace hP := hP.below (hb.mono (by omega)) 
  replace hS := hS.below hb hS.sz
  clear v0 v1 v2 v3 hz HW hb
  by_cases hm : MeasOk s side xs
  · rw [measB_t hm]
    by_cases hd : 0 ≤ least ∧ least ≤ 100000
    · have i1 := inB_t hd.1 hd.2
      have hB1 : B ≤ w1.heap.size := Nat.le_trans hB hal.size
      have l1 := hm.2.1
      obtain ⟨b, off, rfl, hbb, hc⟩ := hP.at_ (k := xs.length - 1) (by omega)
      obtain ⟨u0, u1⟩ := hc (xs.length - 1) (by omega)
      have HOK : Hid (DueOk s side xs least) := ⟨hm, hd⟩
      have HM := Lib.hid hm
      obtain ⟨n, rfl⟩ := Int.eq_ofNat_of_zero_le hm.1.1
      have hn3 : n < 4 := by have := hm.1.2; omega
      have hkc := hS.at_ hn3
      have hsz := hS.sz
      obtain ⟨k0, k1⟩ := hm.2.2.2.1 n hn3
      have HB := Lib.hid (dueR_bd hm)
      have hbw : b < w1.heap.size := by omega
      obtain ⟨d0, d1⟩ := (hm.2.2.2.2 (xs.length - 1) (by omega)).1
      clear hd hm hc hP
      go_wp2_with (go_at_call 56; refine (rwithin _ _ _ _).mono ?_; rintro e w' ⟨rfl, rfl⟩)
      go_loop [12, 13] (fun r d => ∃ k : Nat, r = .int .i64 (dueR s n xs k) ∧ d = .int .i64 (dueDay xs k) ∧ dueDay xs k ≤ 100365 ∧ Hid (∀ j, j < k → least ≤ dueR s n xs j)) (fun _ d => (100366 - intOf d).toNat)
      case atStart => exact ⟨0, by simp [dueR, agedF], by simp [dueDay], by simp [dueDay]; omega, hid_none⟩
      case round =>
        obtain ⟨k, rfl, rfl, hdk, ha⟩ := hrel
        obtain ⟨r0, r1⟩ := HB.out k
        have hd0 : 0 ≤ dueDay xs k := by unfold dueDay; omega
        have es := Lib.hid (by unfold dueDay; omega : dueDay xs (k + 1) = dueDay xs k + 365)
        have HS := Lib.hid (dueR_succ s n xs k)
        by_cases hle : dueDay xs k ≤ 100000
        · by_cases hlt : dueR s n xs k < least
          · go_wp2
            go_ret3
            exact ⟨_, true, 0, .inr ⟨HOK.out, rfl, .inl ⟨k, ⟨hle, hlt, ha.out⟩, rfl, rfl⟩⟩, rfl, hal.alloc hal.size _⟩
          · have hlt' := Lib.hid (Int.not_lt.1 hlt)
            obtain ⟨m0, m1⟩ := mul_bd r0 k0 k1
            go_wp2
            refine ⟨⟨k + 1, ?_, ?_, ?_, ?_⟩, ?_⟩
            · rw [HS.out]
            · rw [es.out]
            · rw [es.out]; omega
            · exact hid_more ha hlt'.out
            · simp [intOf]; omega
        · have HD : Hid (DueNo s n xs least) := due_no (by omega) ha.out
          go_wp2
          go_ret3
          exact ⟨0, false, 0, .inr ⟨HOK.out, rfl, .inr ⟨HD.out, rfl, rfl⟩⟩, rfl, hal.alloc hal.size _⟩
    · have i1 := inB_f hd
      have HD := Lib.hid hd
      clear hd hm
      go_wp2_with (go_at_call 56; refine (rwithin _ _ _ _).mono ?_; rintro e w' ⟨rfl, rfl⟩)
      go_ret3
      exact ⟨0, false, 2, .inl ⟨fun hv => HD.out hv.2, rfl, rfl, rfl⟩, rfl, hal⟩
  · rw [measB_f hm]
    have HM := Lib.hid hm
    clear hm
    go_wp2_with fail
    go_ret3
    exact ⟨0, false, 2, .inl ⟨fun hv => HM.out hv.1, rfl, rfl, rfl⟩, rfl, hal⟩
end Go.Proofs.Ytihhfelhdgmceaa
