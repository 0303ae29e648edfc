/- Contract of the reference's Corrected. -/
import Derived.Test.YtihhfelhdgmceaaCor1
import Derived.Deep.RegionLaw
import Derived.Deep.DeepCutAuto
import Derived.Test.YtihhfelhdgmceaaOwn2
namespace Go.Proofs.Ytihhfelhdgmceaa
open Go.RowKit
/-- What Corrected returns: the slice is some own row of the corrected readings; nil where it has none. -/
def CorRes (xs : List (Int × Int)) (f l : Int × Int) (r : Int) (w : World) (e : Ending) (w' : World) : Prop :=
  (¬ CorOk xs f l r → e = .returned (.tuple #[.slice none 0 0, .int .i64 2])) ∧
  (CorOk xs f l r → (farFrom f.2 r = true ∨ farFrom l.2 r = true) → e = .returned (.tuple #[.slice none 0 0, .int .i64 32])) ∧
  (CorOk xs f l r → ¬ (farFrom f.2 r = true ∨ farFrom l.2 r = true) → ∃ (A : Option Addr) (c : Nat), e = .returned (.tuple #[.slice A xs.length c, .int .i64 0]) ∧ Ints w' w'.heap.size A (corTo xs f l r xs.length)) ∧ Below w.heap.size w w'
structure P2 (W : World) (b : Nat) (p : Int × Int) : Prop where
  q0 : W.cell? ⟨b, 0, none⟩ = some (.int .i64 p.1)
  q1 : W.cell? ⟨b, 1, none⟩ = some (.int .i64 p.2)
  sz : b < W.heap.size
theorem P2.below {W W' : World} {b C : Nat} {p : Int × Int} (h : P2 W b p) (hb : Below C W W') (hC : b < C) : P2 W' b p :=
  ⟨(hb.cell hC).trans h.q0, (hb.cell hC).trans h.q1, Nat.lt_of_lt_of_le h.sz hb.size⟩
theorem P2.new (w : World) (p : Int × Int) (t : TypeId) : P2 (w.alloc (.cells #[.int .i64 p.1, .int .i64 p.2] t)) w.heap.size p := ⟨by simp [go_sem], by simp [go_sem], by simp⟩
set_option maxRecDepth 100000 in
set_option maxHeartbeats 4000000 in
theorem rCor_bad (A : Option Addr) (c : Nat) (xs : List (Int × Int)) (f l : Int × Int) (r : Int) (w : World) (hn : xs.length ≤ 200) (ho : ¬ CorArg xs f l r) :
    Calls Try.prog 34 #[.slice A xs.length c, .agg #[.int .i64 f.1, .int .i64 f.2], .agg #[.int .i64 l.1, .int .i64 l.2], .int .i64 r] w (fun e w' => e = .returned (.tuple #[.slice none 0 0, .int .i64 2]) ∧ Below w.heap.size w w') := by
  have hF := P2.new w f 54
  have hal : Below w.heap.size w (w.alloc (.cells #[.int .i64 f.1, .int .i64 f.2] 54)) := (Below.refl _ _).alloc (Nat.le_refl _) _
  generalize hW : w.alloc (.cells #[.int .i64 f.1, .int .i64 f.2] 54) = w0 at hF hal
  have hz : w0.heap.size = w.heap.size + 1 := by rw [← hW]; simp
  have HW := Lib.hid hW
  have hL := P2.new w0 l 54
  have hb1 : Below w0.heap.size w0 (w0.alloc (.cells #[.int .i64 l.1, .int .i64 l.2] 54)) := (Below.refl _ _).alloc (Nat.le_refl _) _
  generalize hW1 : w0.alloc (.cells #[.int .i64 l.1, .int .i64 l.2] 54) = w1 at hL hb1
  have HW1 := Lib.hid hW1
  replace hF := hF.below hb1 hF.sz
  replace hal := hal.trans (hb1.mono (by omega))
  rw [hz] at hL
  clear hW hb1 hz hW1
  obtain ⟨f0, f1, _⟩ := id hF
  obtain ⟨l0, l1, _⟩ := id hL
  by_cases a1 : xs.length ≤ 100
  · skip
    by_cases a2 : 1 ≤ r ∧ r ≤ 100000
    · have ia2 := inB_t a2.1 a2.2
      by_cases a3 : 1 ≤ f.2 ∧ f.2 ≤ 100000
      · have ia3 := inB_t a3.1 a3.2
        by_cases a4 : 1 ≤ l.2 ∧ l.2 ≤ 100000
        · have ia4 := inB_t a4.1 a4.2
          by_cases a5 : 0 ≤ f.1 ∧ f.1 ≤ 1000000
          · have ia5 := inB_t a5.1 a5.2
            by_cases a6 : f.1 + 1 ≤ l.1
            · skip
              by_cases a7 : l.1 ≤ 1000000
              · skip
                exact absurd ⟨a1, a2, a3, a4, a5, a6, a7⟩ ho
              · skip
                go_enter Try.func34, Try.ntmps34
                go_upto_region 1 with fail
                rw [HW.out, HW1.out]
                go_wp2_with (go_at_call 56; refine (rwithin _ _ _ _).mono ?_; rintro e w' ⟨rfl, rfl⟩)
                go_ret2
                exact ⟨rfl, hal⟩
            · skip
              go_enter Try.func34, Try.ntmps34
              go_upto_region 1 with fail
              rw [HW.out, HW1.out]
              go_wp2_with (go_at_call 56; refine (rwithin _ _ _ _).mono ?_; rintro e w' ⟨rfl, rfl⟩)
              go_ret2
              exact ⟨rfl, hal⟩
          · have ia5 := inB_f a5
            clear a5
            go_enter Try.func34, Try.ntmps34
            go_upto_region 1 with fail
            rw [HW.out, HW1.out]
            go_wp2_with (go_at_call 56; refine (rwithin _ _ _ _).mono ?_; rintro e w' ⟨rfl, rfl⟩)
            go_ret2
            exact ⟨rfl, hal⟩
        · have ia4 := inB_f a4
          clear a4
          go_enter Try.func34, Try.ntmps34
          go_upto_region 1 with fail
          rw [HW.out, HW1.out]
          go_wp2_with (go_at_call 56; refine (rwithin _ _ _ _).mono ?_; rintro e w' ⟨rfl, rfl⟩)
          go_ret2
          exact ⟨rfl, hal⟩
      · have ia3 := inB_f a3
        clear a3
        go_enter Try.func34, Try.ntmps34
        go_upto_region 1 with fail
        rw [HW.out, HW1.out]
        go_wp2_with (go_at_call 56; refine (rwithin _ _ _ _).mono ?_; rintro e w' ⟨rfl, rfl⟩)
        go_ret2
        exact ⟨rfl, hal⟩
    · have ia2 := inB_f a2
      clear a2
      go_enter Try.func34, Try.ntmps34
      go_upto_region 1 with fail
      rw [HW.out, HW1.out]
      go_wp2_with (go_at_call 56; refine (rwithin _ _ _ _).mono ?_; rintro e w' ⟨rfl, rfl⟩)
      go_ret2
      exact ⟨rfl, hal⟩
  · skip
    go_enter Try.func34, Try.ntmps34
    go_upto_region 1 with fail
    rw [HW.out, HW1.out]
    go_wp2_with (go_at_call 56; refine (rwithin _ _ _ _).mono ?_; rintro e w' ⟨rfl, rfl⟩)
    go_ret2
    exact ⟨rfl, hal⟩
set_option maxRecDepth 100000 in
set_option maxHeartbeats 4000000 in
theorem rCorrected (A : Option Addr) (c B : Nat) (xs : List (Int × Int)) (f l : Int × Int) (r : Int) (w : World) (h : Pairs w B A xs) (hB : B ≤ w.heap.size) (hn : xs.length ≤ 200) :
    Calls Try.prog 34 #[.slice A xs.length c, .agg #[.int .i64 f.1, .int .i64 f.2], .agg #[.int .i64 l.1, .int .i64 l.2], .int .i64 r] w (CorRes xs f l r w) := by
  by_cases ho : CorArg xs f l r
  rotate_left
  · exact (rCor_bad A c xs f l r w hn ho).mono fun e w' ⟨he, hb⟩ => ⟨fun _ => he, fun hh => absurd hh.1 ho, fun hh => absurd hh.1 ho, hb⟩
  have hF := P2.new w f 54
  have hal : Below w.heap.size w (w.alloc (.cells #[.int .i64 f.1, .int .i64 f.2] 54)) := (Below.refl _ _).alloc (Nat.le_refl _) _
  generalize hW : w.alloc (.cells #[.int .i64 f.1, .int .i64 f.2] 54) = w0 at hF hal
  have hz : w0.heap.size = w.heap.size + 1 := by rw [← hW]; simp
  have HW := Lib.hid hW
  have hL := P2.new w0 l 54
  have hb1 : Below w0.heap.size w0 (w0.alloc (.cells #[.int .i64 l.1, .int .i64 l.2] 54)) := (Below.refl _ _).alloc (Nat.le_refl _) _
  generalize hW1 : w0.alloc (.cells #[.int .i64 l.1, .int .i64 l.2] 54) = w1 at hL hb1
  have HW1 := Lib.hid hW1
  replace hF := hF.below hb1 hF.sz
  replace hal := hal.trans (hb1.mono (by omega))
  rw [hz] at hL
  have hP : Pairs w1 B A xs := h.keep fun p hp => hal.cell (by omega)
  clear h hW hb1 hz hW1
  obtain ⟨f0, f1, _⟩ := id hF
  obtain ⟨l0, l1, _⟩ := id hL
  · obtain ⟨a0, ⟨a1, a2⟩, ⟨a3, a4⟩, ⟨a5, a6⟩, ⟨a7, a8⟩, a9, a10⟩ := id ho
    have i1 := inB_t a1 a2
    have i2 := inB_t a3 a4
    have i3 := inB_t a5 a6
    have i4 := inB_t a7 a8
    have HO := Lib.hid ho
    clear ho
    go_enter Try.func34, Try.ntmps34
    go_upto_region 1 with fail
    rw [HW.out, HW1.out]
    go_wp2_with (go_at_call 56; refine (rwithin _ _ _ _).mono ?_; rintro e w' ⟨rfl, rfl⟩)
    have hPB : B ≤ w1.heap.size := Nat.le_trans hB hal.size
    go_loopw [10] (fun i wr => ∃ k : Nat, k ≤ xs.length ∧ i = .int .i64 k ∧ Hid (∀ j, j < k → readOk f l (atp xs j)) ∧ Drew w1 wr) (fun i _ => xs.length - (intOf i).toNat)
    case atStart => exact ⟨0, Nat.zero_le _, rfl, fun j hj => absurd hj (by omega), Drew.refl _⟩
    case round =>
      obtain ⟨k, hk, rfl, ha, hd⟩ := hrel
      have g0 := (hd.cell _).trans f0
      have g1 := (hd.cell _).trans f1
      have g2 := (hd.cell _).trans l0
      have g3 := (hd.cell _).trans l1
      by_cases hlt : k < xs.length
      · obtain ⟨b, off, rfl, hbb, hc⟩ := (hP.keep fun p hp => hd.cell p).at_ hlt
        obtain ⟨u0, u1⟩ := hc k hlt
        clear hc
        by_cases c1 : 0 ≤ (atp xs k).2 ∧ (atp xs k).2 ≤ 100000
        · have j1 := inB_t c1.1 c1.2
          by_cases c2 : f.1 ≤ (atp xs k).1 ∧ (atp xs k).1 ≤ l.1
          · have j2 := inB_t c2.1 c2.2
            have HK : Hid (readOk f l (atp xs k)) := ⟨c1, c2.1, c2.2⟩
            clear c1 c2
            go_wp2_with fail
            go_quiet ((go_at_call 56; exact quiet_same (rwithin _ _ _ _)))
            go_wp2
            exact ⟨⟨k + 1, by omega, by go_num, fun j hj => by
              by_cases e : j = k
              · rw [e]; exact HK.out
              · exact ha.out j (by omega), hd.drewN nq⟩, by simp [intOf]; omega⟩
          · have j2 := inB_f c2
            have HC := Lib.hid c2
            clear c1 c2
            go_wp2_with fail
            go_quiet ((go_at_call 56; exact quiet_same (rwithin _ _ _ _)))
            go_wp2
            go_ret2
            have hno : ¬ CorOk xs f l r := fun hh => HC.out (hh.2 k hlt).2
            exact ⟨fun _ => rfl, fun hh => absurd hh hno, fun hh => absurd hh hno, below_drewN (hal.trans (hd.below _)) nq⟩
        · have j1 := inB_f c1
          have HC := Lib.hid c1
          clear c1
          go_wp2_with fail
          go_quiet ((go_at_call 56; exact quiet_same (rwithin _ _ _ _)))
          go_wp2
          go_ret2
          have hno : ¬ CorOk xs f l r := fun hh => HC.out (hh.2 k hlt).1
          exact ⟨fun _ => rfl, fun hh => absurd hh hno, fun hh => absurd hh hno, below_drewN (hal.trans (hd.below _)) nq⟩
      · have hok : Hid (CorOk xs f l r) := ⟨HO.out, fun j hj => ha.out j (by omega)⟩
        cases hf1 : farFrom f.2 r with
        | true =>
          go_wp2_with (go_at_call 66; refine (rdrifted _ _ _ (by omega) (by omega) (by omega) (by omega)).mono ?_; rintro e w' ⟨rfl, rfl⟩)
          go_ret2
          exact ⟨fun hh => absurd hok.out hh, fun _ _ => rfl, fun _ hh => absurd (Or.inl hf1) hh, hal.trans (hd.below _)⟩
        | false =>
          cases hf2 : farFrom l.2 r with
          | true =>
            go_wp2_with (go_at_call 66; refine (rdrifted _ _ _ (by omega) (by omega) (by omega) (by omega)).mono ?_; rintro e w' ⟨rfl, rfl⟩)
            go_ret2
            exact ⟨fun hh => absurd hok.out hh, fun _ _ => rfl, fun _ hh => absurd (Or.inr hf2) hh, hal.trans (hd.below _)⟩
          | false =>
            go_wp2_with (go_at_call 66; refine (rdrifted _ _ _ (by omega) (by omega) (by omega) (by omega)).mono ?_; rintro e w' ⟨rfl, rfl⟩)
            have hP' := hP.keep (w' := wr) fun p hp => hd.cell p
            have hbel : Below w.heap.size w wr := hal.trans (hd.below _)
            have hz1 : B ≤ wr.heap.size := by rw [hd.heap]; exact hPB
            have hzw : w.heap.size + 1 < wr.heap.size := by rw [hd.heap]; assumption
            have HF2 : Hid (¬ (farFrom f.2 r = true ∨ farFrom l.2 r = true)) := by
              intro hh
              rcases hh with hh | hh
              · rw [hf1] at hh; cases hh
              · rw [hf2] at hh; cases hh
            clear f0 f1 l0 l1 i1 i2 i3 i4 ha hf1 hf2 hP hL hF hal hPB HW HW1 hlt hk
            obtain ⟨w2, rfl⟩ : ∃ w2 : World, w2 = wr := ⟨_, rfl⟩
            clear hd
            obtain ⟨i0, hi, hz0, hz2, hz3⟩ := info_parts info3
            go_loopw [11, 12] (fun out i wr => ∃ k : Nat, k ≤ xs.length ∧ i = .int .i64 k ∧ wr.ownsRow w2.heap.size 3 1 out k ((corTo xs f l r k).map (.int .i64)) ∧ Below w2.heap.size w2 wr) (fun _ i _ => xs.length - (intOf i).toNat)
            case atStart => exact ⟨0, Nat.zero_le _, rfl, World.ownsRow_nil _ _ _ _, Below.refl _ _⟩
            case round =>
              obtain ⟨k, hk, rfl, hown, hb⟩ := hrel
              by_cases hlt : k < xs.length
              · have hb' := hb.size
                have hzb : B ≤ w2.heap.size := hz1
                obtain ⟨b, off, rfl, hbb, hc⟩ := (hP'.below (hb.mono hz1)).at_ hlt
                obtain ⟨u0, u1⟩ := hc k hlt
                have e0 := (hb.cell (p := ⟨w.heap.size, 0, none⟩) (by simp only; omega)).trans g0
                have e1 := (hb.cell (p := ⟨w.heap.size, 1, none⟩) (by simp only; omega)).trans g1
                have e2 := (hb.cell (p := ⟨w.heap.size + 1, 0, none⟩) (by simp only; omega)).trans g2
                have e3 := (hb.cell (p := ⟨w.heap.size + 1, 1, none⟩) (by simp only; omega)).trans g3
                obtain ⟨⟨m0, m1⟩, ⟨m2, m3⟩, ⟨m4, m5⟩, ⟨m6, m7⟩, m8, m9⟩ := cor_bd HO.out (hok.out.2 k hlt)
                obtain ⟨⟨y0, y1⟩, y2, y3⟩ := hok.out.2 k hlt
                have HPL := Lib.hid (by rfl : plateAt f l (atp xs k) = f.2 * (l.1 - (atp xs k).1) + l.2 * ((atp xs k).1 - f.1))
                rw [HPL.out] at m4 m5
                clear hc g0 g1 g2 g3
                have HC := Lib.hid (by unfold corAt; rw [HPL.out] : corAt f l r (atp xs k) = (atp xs k).2 * r * (l.1 - f.1) / (f.2 * (l.1 - (atp xs k).1) + l.2 * ((atp xs k).1 - f.1)))
                have hq : ((f.2 * (l.1 - (atp xs k).1) + l.2 * ((atp xs k).1 - f.1)) == 0) = false := by simp; omega
                have hq2 : (f.2 * (l.1 - (atp xs k).1) + l.2 * ((atp xs k).1 - f.1)) ≠ 0 := by omega
                have HX : Hid (IntKind.i64.wrap ((IntKind.i64.wrap (IntKind.i64.wrap ((atp xs k).2 * r) * IntKind.i64.wrap (l.1 - f.1))).tdiv (f.2 * (l.1 - (atp xs k).1) + l.2 * ((atp xs k).1 - f.1))) = corAt f l r (atp xs k)) := by
                  refine Lib.hid ?_
                  rw [HC.out, IntWalk.i64_in ((atp xs k).2 * r) (by omega), IntWalk.i64_in (l.1 - f.1) (by omega), IntWalk.i64_in (_ * _) (by omega), wrap_i64_tdiv _ _ (by omega) (by omega) (by omega), Int.tdiv_eq_ediv_of_nonneg (by omega)]
                go_upto_region 16 with fail
                go_region_law (refine step_append_lies _ ?_ (.tmp 115) (.tmp 131) 22 ?_ w2.heap.size 3 i0 (.int .i64 0) 1 8 Try.underlying22 hi hz0 hz2 hz3 ?_ ?_ u11 k ((corTo xs f l r k).map (.int .i64)) ?_ ?_ ⟨wr.heap.size, 0, none⟩ 1 1 [.int .i64 (IntKind.i64.wrap ((IntKind.i64.wrap (IntKind.i64.wrap ((atp xs k).2 * r) * IntKind.i64.wrap (l.1 - f.1))).tdiv (f.2 * (l.1 - (atp xs k).1) + l.2 * ((atp xs k).1 - f.1))))] ?_ ?_ ?_ ?_ ?_ ?_ ?_ ?_ (wr.heap.size + 1) ?_ ?_; (solve | (rfl)); (solve | (rfl)); (solve | (rfl)); (solve | (decide)); (solve | (rfl)); (solve | ((exact owns_new (t := 3) (cs := #[_]) hown (by first | exact .inl rfl | exact .inr (.inl rfl) | exact .inr (.inr rfl))))); (solve | (rfl)); (solve | (rfl)); (solve | ((exact one_new (t := 3) (by first | exact .inl rfl | exact .inr (.inl rfl) | exact .inr (.inr rfl))))); (solve | ((intro u hu; simp only [List.mem_singleton] at hu; subst hu; rfl))); (solve | (omega)); (solve | ((unfold maxLen; omega))); (solve | (omega)); (solve | ((simp; omega))); (solve | ((simp; done))); (intro g cap w3 hown3 hgrow hat hg3))
                all_goals
                  go_wp2_with fail
                  rw [HX.out, ← List.map_singleton, ← List.map_append, ← corTo_succ] at hown3
                  have hb3 : Below w2.heap.size w2 w3 := app_below (t := 3) (cs := #[_]) (by first | exact .inl rfl | exact .inr (.inl rfl) | exact .inr (.inr rfl)) hb hb.size hown hgrow
                  exact ⟨⟨k + 1, by omega, by go_num, hown3, hb3⟩, by simp [intOf]; omega⟩
              · obtain rfl : k = xs.length := by omega
                obtain ⟨A', c', rfl, hI⟩ := owns_ints hown (corTo_length ..)
                go_wp2
                go_ret2
                exact ⟨fun hh => absurd hok.out hh, fun _ hh => absurd hh HF2.out, fun _ _ => ⟨A', c', rfl, hI⟩, hbel.trans (hb.mono hbel.size)⟩
end Go.Proofs.Ytihhfelhdgmceaa
