/- The walk of RoadSets. -/
import Derived.Test.YtoknkmlkeacgjaaStW
import Derived.Test.YtoknkmlkeacgjaaWUnn
import Derived.OwnWalk
namespace Go.Proofs.Ytoknkmlkeacgjaa
open Go.RowKit
theorem lwithinV (A : Option Addr) (cp B : Nat) (xs : List (Int × Int)) (c : Int) (w : World) (h : Pairs w B A xs) (hn : xs.length ≤ 9223372036854775807) (v : Bool) (hv : inL xs c = v) :
    Calls Try.prog 49 #[.slice A xs.length cp, .int .i64 c] w fun e w' => e = .returned (.bool v) ∧ w' = w := by
  subst hv; exact lwithinS A cp B xs c w h hn
theorem inL_congr {a b : List (Int × Int)} {y : Int} (h : ∀ c, InS a c ↔ InS b c) : inL a y = inL b y := by
  rw [Bool.eq_iff_iff, inL_iff, inL_iff]; exact h y
theorem inL_append {a b : List (Int × Int)} {y : Int} : inL (a ++ b) y = (inL a y || inL b y) := by simp [inL]
theorem inL_diff {ms a b : List (Int × Int)} {y : Int} (h : ∀ c, InS ms c ↔ (InS a c ∧ ¬ InS b c)) : inL ms y = (inL a y && !inL b y) := by
  rw [Bool.eq_iff_iff, inL_iff, h y, ← inL_iff, ← inL_iff]; simp
set_option maxRecDepth 100000 in
set_option maxHeartbeats 8000000 in
theorem wSets (A A2 : Option Addr) (c c2 B B2 : Nat) (a b : List (Int × Int)) (x : Int) (w : World) (h : Pairs w B A a) (hB : B ≤ w.heap.size) (hn : a.length ≤ 9223372036854775807) (hnA : A = none → c = 0) (h2 : Pairs w B2 A2 b) (hB2 : B2 ≤ w.heap.size) (hn2 : b.length ≤ 9223372036854775807) (hnB : A2 = none → c2 = 0) :
    Calls Try.prog 15 #[.slice A a.length c, .slice A2 b.length c2, .int .i64 x] w fun e w' => e = .returned (.bool true) ∧ Below w.heap.size w w' := by
  replace h := h.more hB
  replace h2 := h2.more hB2
  generalize hW : w.heap.size = W at *
  have hW' : W ≤ w.heap.size := by omega
  clear hW hB hB2 B B2
  go_enter Try.func15, Try.ntmps15
  by_cases ha : 40 < a.length
  · go_wp2_with fail
    refine (lAwake _).mono ?_
    rintro e w9 ⟨rfl, hb9⟩
    go_wp2
    go_ret
    exact ⟨rfl, hb9.mono hW'⟩
  by_cases hb : 40 < b.length
  · go_wp2_with fail
    refine (lAwake _).mono ?_
    rintro e w9 ⟨rfl, hb9⟩
    go_wp2
    go_ret
    exact ⟨rfl, hb9.mono hW'⟩
  go_wp2_with fail
  refine (rLists A c W a w h hn).mono ?_
  rintro e w1 ⟨r1, r2, hb1⟩
  have hk1 := hb1.mono hW'
  replace h := h.below hk1
  replace h2 := h2.below hk1
  have hl1 := Nat.le_trans hW' hb1.size
  clear hb1
  by_cases ho : LetL a
  rotate_left
  · rw [r2 ho]
    clear r1 r2
    go_wp2_with fail
    refine (lAwake _).mono ?_
    rintro e w9 ⟨rfl, hb9⟩
    go_wp2
    go_ret
    exact ⟨rfl, hk1.trans (hb9.mono hl1)⟩

  rw [r1 ho]
  have HA := Lib.hid ho
  clear r1 r2 ho
  go_wp2_with fail
  refine (rLists A2 c2 W b w1 h2 hn2).mono ?_
  rintro e w2 ⟨r1, r2, hb2⟩
  have hk2 := hk1.trans (hb2.mono hl1)
  replace h := h.below (hb2.mono hl1)
  replace h2 := h2.below (hb2.mono hl1)
  have hl2 := Nat.le_trans hl1 hb2.size
  clear hb2 hk1 hl1
  by_cases ho : LetL b
  rotate_left
  · rw [r2 ho]
    clear r1 r2
    go_wp2_with fail
    refine (lAwake _).mono ?_
    rintro e w9 ⟨rfl, hb9⟩
    go_wp2
    go_ret
    exact ⟨rfl, hk2.trans (hb9.mono hl2)⟩

  rw [r1 ho]
  have HB := Lib.hid ho
  clear r1 r2 ho
  have ha1 : a.length ≤ 40 := by omega
  have hb1 : b.length ≤ 40 := by omega
  clear ha hb hn hn2
  obtain ⟨v0, rfl⟩ : ∃ v0 : World, v0 = w2 := ⟨_, rfl⟩
  have hown0 : (v0.alloc (.cells #[] 33)).ownsRow v0.heap.size 33 2 (.slice (some ⟨v0.heap.size, 0, none⟩) 0 0) 0 (pcells []) := World.ownsRow_lit (base := v0.heap.size) (e := 33) (size := 2) v0 #[] 0 (Nat.le_refl _) (by decide) rfl
  have hba := (Below.refl v0.heap.size v0).alloc (Nat.le_refl _) (.cells #[] 33)
  have hP1 := h.below (hba.mono hl2)
  go_wp2_with (first
    | (at_builtin; (refine wpList_append_spans ?_ (.tmp 43) (.tmp 44) ?_ v0.heap.size (.slice (some ⟨v0.heap.size, 0, none⟩) 0 0) 0 [] ?_ ?_ A c W a hP1 hnA ?_ ?_ ?_ ?_; (solve | (rfl)); (solve | (rfl)); (solve | (rfl)); (solve | (exact hown0)); (solve | (rfl)); (solve | (omega)); (solve | ((simp; done))); (intro v3 w3 hown3 hgrow3; have hb3 := hba.grown hgrow3 (by simp) fun k hk => (hown0.lt k hk).1; have hP2 := h2.below (hb3.mono hl2))))
    | (at_builtin; (refine wpList_append_spans ?_ (.tmp 45) (.tmp 46) ?_ v0.heap.size v3 (0 + a.length) ([] ++ a) ?_ ?_ A2 c2 W b hP2 hnB ?_ ?_ ?_ ?_; (solve | (rfl)); (solve | (rfl)); (solve | (rfl)); (solve | (exact hown3)); (solve | (rfl)); (solve | (omega)); (solve | (exact hb3.size)); (intro v4 w4 hown4 hgrow4; have hb4 := hb3.grown hgrow4 hb3.size fun k hk => (hown3.lt k hk).1)))
    | fail)
  simp only [Nat.zero_add, List.nil_append] at hown4
  have hle : a.length + b.length = (a ++ b).length := by simp
  rw [hle] at hown4
  have HAB := Lib.hid (letL_append HA.out HB.out (by omega))
  have hlab : (a ++ b).length ≤ 80 := by rw [← hle]; omega
  clear hle
  generalize hab : a ++ b = ab at *
  have HE := Lib.hid hab
  clear hab hown3 hown0 hgrow3 hgrow4 hP1 hP2 hb3 hba
  obtain ⟨_, A3, c3, rfl, hP3⟩ := owns_pairs hown4
  clear hown4
  have hk4 := hk2.trans (hb4.mono hl2)
  replace h := h.below (hb4.mono hl2)
  replace h2 := h2.below (hb4.mono hl2)
  have hl4 := Nat.le_trans hl2 hb4.size
  clear hb4 hk2 hl2
  refine (lUnionF A3 c3 _ ab w4 hP3 (Nat.le_refl _) (by omega)).mono ?_
  rintro e w5 ⟨-, hu, hb5⟩
  obtain ⟨us, A5, c5, n1, n2, n3, rfl, hP5⟩ := hu HAB.out
  have N1 := Lib.hid n1
  have N2 := Lib.hid n2
  have hlus : us.length ≤ 80 := by omega
  have hk5 := hk4.trans (hb5.mono hl4)
  replace h := h.below (hb5.mono hl4)
  replace h2 := h2.below (hb5.mono hl4)
  have hl5 := Nat.le_trans hl4 hb5.size
  replace hP3 := (hP3.below hb5).more hb5.size
  clear n1 n2 n3 hu hb5 hk4 hl4
  go_wp2_with fail
  refine (lMinusF A A2 c c2 _ _ a b w5 h hl5 (by omega) h2 hl5 (by omega)).mono ?_
  rintro e w6 ⟨-, hu, hb6⟩
  obtain ⟨ms, A6, c6, n1, n2, n3, rfl, hP6⟩ := hu ⟨HA.out, HB.out⟩
  have M1 := Lib.hid n1
  have M2 := Lib.hid n2
  have hk6 := hk5.trans (hb6.mono hl5)
  replace h := h.below (hb6.mono hl5)
  replace h2 := h2.below (hb6.mono hl5)
  have hl6 := Nat.le_trans hl5 hb6.size
  replace hP3 := (hP3.below hb6).more hb6.size
  replace hP5 := (hP5.below hb6).more hb6.size
  clear n1 n2 hu hb6 hk5 hl5
  obtain ⟨i0, hi, hz0, hz2, hz3⟩ := info_parts info3
  go_wp2_with fail
  obtain ⟨v6, rfl⟩ : ∃ v6 : World, v6 = w6 := ⟨_, rfl⟩
  go_loopw [12, 13] (fun out i wr => ∃ (k : Nat) (ys : List Int), k ≤ ab.length ∧ i = .int .i64 k ∧ ys.length = 1 + 4 * k ∧ wr.ownsRow v6.heap.size 3 1 out (1 + 4 * k) (ys.map (.int .i64)) ∧ Below v6.heap.size v6 wr) (fun _ i _ => ab.length - (intOf i).toNat)
  case atStart => exact ⟨0, [x], Nat.zero_le _, rfl, rfl, World.ownsRow_lit (base := v6.heap.size) (e := 3) (size := 1) v6 #[.int .i64 x] 1 (Nat.le_refl _) (by decide) rfl, (Below.refl _ _).alloc (Nat.le_refl _) _⟩
  case round =>
    obtain ⟨k, ys, hk, rfl, hly, hown, hbw⟩ := hrel
    by_cases hlt : k < ab.length
    · obtain ⟨b', o', hA', hbb, hc⟩ := (hP3.below hbw).at_ hlt
      subst hA'
      obtain ⟨y1, y2⟩ := hc k hlt
      clear hc
      obtain ⟨q0, q1, q2⟩ := HAB.out.1 k hlt
      generalize hp : atp ab k = p at *
      clear hp
      have hbws := hbw.size
      have hbb2 : b' < wr.heap.size := by omega
      have v1 : (k : Int) < (ab.length : Int) := by omega
      go_upto_region 12 with fail
      go_region_law (refine step_append_lies _ ?_ (.tmp 73) (.tmp 96) 73 ?_ v6.heap.size 3 i0 (.int .i64 0) 1 8 Try.underlying73 hi hz0 hz2 hz3 ?_ ?_ u12 (1 + 4 * k) (ys.map (.int .i64)) ?_ ?_ ⟨wr.heap.size, 0, none⟩ 4 4 [.int .i64 (IntKind.i64.wrap (p.1 - 1)), .int .i64 p.1, .int .i64 (IntKind.i64.wrap (p.2 - 1)), .int .i64 p.2] ?_ ?_ ?_ ?_ ?_ ?_ ?_ ?_ (wr.heap.size + 1) ?_ ?_; (solve | (rfl)); (solve | (rfl)); (solve | (rfl)); (solve | (decide)); (solve | (rfl)); (solve | (exact owns_new (t := 3) (cs := #[_, _, _, _]) hown (by first | exact .inl rfl | exact .inr (.inl rfl) | exact .inr (.inr rfl)))); (solve | (rfl)); (solve | (rfl)); (solve | (exact newH (t := 3) (cs := #[_, _, _, _]) (w := wr) (by first | exact .inl rfl | exact .inr (.inl rfl) | exact .inr (.inr rfl)) rfl)); (solve | ((intro u hu; simp only [List.mem_cons, List.not_mem_nil, or_false] at hu; rcases hu with rfl | rfl | rfl | rfl <;> rfl))); (solve | (omega)); (solve | ((unfold maxLen; omega))); (solve | (omega)); (solve | ((simp; omega))); (solve | ((simp; done))); (intro g3 cap3 w7 hown3 hgrow hat hg3))
      all_goals
        go_wp2_with fail
        have hls : ys.map (Value.int .i64) ++ [.int .i64 (IntKind.i64.wrap (p.1 - 1)), .int .i64 p.1, .int .i64 (IntKind.i64.wrap (p.2 - 1)), .int .i64 p.2] = (ys ++ [IntKind.i64.wrap (p.1 - 1), p.1, IntKind.i64.wrap (p.2 - 1), p.2]).map (.int .i64) := by simp
        rw [hls] at hown3
        have hb3 : Below v6.heap.size v6 w7 := app_below (w := wr) (t := 3) (cs := #[_, _, _, _]) (by first | exact .inl rfl | exact .inr (.inl rfl) | exact .inr (.inr rfl)) hbw hbws hown hgrow
        exact ⟨⟨k + 1, ys ++ [IntKind.i64.wrap (p.1 - 1), p.1, IntKind.i64.wrap (p.2 - 1), p.2], by omega, by go_num, by simp; omega, by rw [show 1 + 4 * (k + 1) = 1 + 4 * k + 4 by omega]; exact hown3, hb3⟩, by simp [intOf]; omega⟩
    · obtain rfl : k = ab.length := by omega
      obtain ⟨A7, c7, rfl, hI⟩ := owns_ints hown hly
      have hk7 := hk6.trans (hbw.mono hl6)
      replace h := h.below (hbw.mono hl6)
      replace h2 := h2.below (hbw.mono hl6)
      have hl7 := Nat.le_trans hl6 hbw.size
      replace hP3 := (hP3.below hbw).more hbw.size
      replace hP5 := (hP5.below hbw).more hbw.size
      replace hP6 := (hP6.below hbw).more hbw.size
      obtain ⟨v7, rfl⟩ : ∃ v7 : World, v7 = wr := ⟨_, rfl⟩
      generalize hm : 1 + 4 * ab.length = m at *
      have hm2 : m ≤ 400 := by omega
      clear hbw hown hk hk6 hl6 hm i0 hi hz0 hz2 hz3
      have hny : ¬ ((ab.length : Int) < (ab.length : Int)) := by omega
      go_wp2_with fail
      clear hny
      go_loopw [14] (fun i wr => ∃ k : Nat, k ≤ m ∧ i = .int .i64 k ∧ wr = v7) (fun i _ => m - (intOf i).toNat)
      case atStart => exact ⟨0, Nat.zero_le _, rfl, rfl⟩
      case round =>
        obtain ⟨k, hk, rfl, rfl⟩ := hrel
        by_cases hlt : k < m
        · obtain ⟨b', o', hA', hbb, hc⟩ := hI.at_ (k := k) (by omega)
          subst hA'
          have y1 := hc k (by omega)
          clear hc
          generalize hy : at0 ys k = y at *
          clear hy
          have v1 : (k : Int) < (m : Int) := by omega
          have FAB : Hid (inL ab y = (inL a y || inL b y)) := Lib.hid (by rw [← HE.out]; exact inL_append)
          have FU : Hid (inL us y = (inL a y || inL b y)) := Lib.hid ((inL_congr N2.out).trans FAB.out)
          have FM : Hid (inL ms y = (inL a y && !inL b y)) := Lib.hid (inL_diff M2.out)
          cases hX : inL a y <;> cases hY : inL b y
          · have FA := Lib.hid hX
            have FB := Lib.hid hY
            rw [hX, hY] at FU FAB FM
            clear hX hY
            go_wp2_with fail
            refine (lwithinV A5 c5 _ us y _ hP5 (by omega) false FU.out).mono ?_
            rintro e _ ⟨rfl, rfl⟩
            go_wp2_with fail
            refine (lwithinV _ c3 _ ab y _ hP3 (by omega) false FAB.out).mono ?_
            rintro e _ ⟨rfl, rfl⟩
            go_wp2_with fail
            refine (lwithinV A6 c6 _ ms y _ hP6 (by omega) false FM.out).mono ?_
            rintro e _ ⟨rfl, rfl⟩
            go_wp2_with fail
            refine (lwithinV A c _ a y _ h (by omega) false FA.out).mono ?_
            rintro e _ ⟨rfl, rfl⟩
            go_wp2_with fail
            exact ⟨⟨k + 1, by omega, by go_num, by first | rfl | trivial⟩, by simp [intOf]; omega⟩
          · have FA := Lib.hid hX
            have FB := Lib.hid hY
            rw [hX, hY] at FU FAB FM
            clear hX hY
            go_wp2_with fail
            refine (lwithinV A5 c5 _ us y _ hP5 (by omega) true FU.out).mono ?_
            rintro e _ ⟨rfl, rfl⟩
            go_wp2_with fail
            refine (lwithinV _ c3 _ ab y _ hP3 (by omega) true FAB.out).mono ?_
            rintro e _ ⟨rfl, rfl⟩
            go_wp2_with fail
            refine (lwithinV A6 c6 _ ms y _ hP6 (by omega) false FM.out).mono ?_
            rintro e _ ⟨rfl, rfl⟩
            go_wp2_with fail
            refine (lwithinV A c _ a y _ h (by omega) false FA.out).mono ?_
            rintro e _ ⟨rfl, rfl⟩
            go_wp2_with fail
            exact ⟨⟨k + 1, by omega, by go_num, by first | rfl | trivial⟩, by simp [intOf]; omega⟩
          · have FA := Lib.hid hX
            have FB := Lib.hid hY
            rw [hX, hY] at FU FAB FM
            clear hX hY
            go_wp2_with fail
            refine (lwithinV A5 c5 _ us y _ hP5 (by omega) true FU.out).mono ?_
            rintro e _ ⟨rfl, rfl⟩
            go_wp2_with fail
            refine (lwithinV _ c3 _ ab y _ hP3 (by omega) true FAB.out).mono ?_
            rintro e _ ⟨rfl, rfl⟩
            go_wp2_with fail
            refine (lwithinV A6 c6 _ ms y _ hP6 (by omega) true FM.out).mono ?_
            rintro e _ ⟨rfl, rfl⟩
            go_wp2_with fail
            refine (lwithinV A c _ a y _ h (by omega) true FA.out).mono ?_
            rintro e _ ⟨rfl, rfl⟩
            go_wp2_with fail
            refine (lwithinV A2 c2 _ b y _ h2 (by omega) false FB.out).mono ?_
            rintro e _ ⟨rfl, rfl⟩
            go_wp2_with fail
            exact ⟨⟨k + 1, by omega, by go_num, by first | rfl | trivial⟩, by simp [intOf]; omega⟩
          · have FA := Lib.hid hX
            have FB := Lib.hid hY
            rw [hX, hY] at FU FAB FM
            clear hX hY
            go_wp2_with fail
            refine (lwithinV A5 c5 _ us y _ hP5 (by omega) true FU.out).mono ?_
            rintro e _ ⟨rfl, rfl⟩
            go_wp2_with fail
            refine (lwithinV _ c3 _ ab y _ hP3 (by omega) true FAB.out).mono ?_
            rintro e _ ⟨rfl, rfl⟩
            go_wp2_with fail
            refine (lwithinV A6 c6 _ ms y _ hP6 (by omega) false FM.out).mono ?_
            rintro e _ ⟨rfl, rfl⟩
            go_wp2_with fail
            refine (lwithinV A c _ a y _ h (by omega) true FA.out).mono ?_
            rintro e _ ⟨rfl, rfl⟩
            go_wp2_with fail
            refine (lwithinV A2 c2 _ b y _ h2 (by omega) true FB.out).mono ?_
            rintro e _ ⟨rfl, rfl⟩
            go_wp2_with fail
            exact ⟨⟨k + 1, by omega, by go_num, by first | rfl | trivial⟩, by simp [intOf]; omega⟩
        · obtain rfl : k = m := by omega
          have hny : ¬ ((k : Int) < (k : Int)) := by omega
          obtain ⟨v7, rfl⟩ : ∃ v7 : World, v7 = wr := ⟨_, rfl⟩
          go_wp2_with fail
          go_loopw [16] (fun i wr => ∃ k : Nat, 1 ≤ k ∧ (k = 1 ∨ k ≤ us.length) ∧ i = .int .i64 k ∧ Drew v7 wr) (fun i _ => us.length - (intOf i).toNat)
          case atStart => exact ⟨1, Nat.le_refl _, .inl rfl, rfl, Drew.refl _⟩
          case round =>
            obtain ⟨k, hk1, hk2, rfl, hd⟩ := hrel
            obtain ⟨m, rfl⟩ : ∃ m, k = m + 1 := ⟨k - 1, by omega⟩
            by_cases hlt : m + 1 < us.length
            · obtain ⟨b', o', hA', _, hc⟩ := (hP5.keep fun p _ => hd.cell p).at_ hlt
              subst hA'
              obtain ⟨y1, y2⟩ := hc (m + 1) hlt
              obtain ⟨_, y3⟩ := hc m (by omega)
              have hnn := norm_lt N1.out (Nat.lt_succ_self m) hlt
              have v4 : (m : Int) + 1 < (us.length : Int) := by omega
              have v5 : m < us.length := by omega
              have v6 : (m : Int) < (us.length : Int) := by omega
              have v7 : (0 : Int) < (m : Int) + 1 := by omega
              have g3 : decide ((atp us (m + 1)).1 ≤ (atp us m).2) = false := by simp; omega
              clear hc hk1 hk2
              go_wp2_with fail
              go_quiet (fail)
              go_wp2_with fail
              exact ⟨⟨m + 1 + 1, by omega, .inr hlt, by go_num, hd.drewN _⟩, by simp [intOf]; omega⟩
            · have hny : ¬ ((m : Int) + 1 < (us.length : Int)) := by omega
              go_wp2_with fail
              go_loopw [17] (fun i wr => ∃ k : Nat, 1 ≤ k ∧ (k = 1 ∨ k ≤ ms.length) ∧ i = .int .i64 k ∧ Drew v7 wr) (fun i _ => ms.length - (intOf i).toNat)
              case atStart => exact ⟨1, Nat.le_refl _, .inl rfl, rfl, hd⟩
              case round =>
                obtain ⟨k, hk1, hk2, rfl, hd⟩ := hrel
                obtain ⟨m, rfl⟩ : ∃ m, k = m + 1 := ⟨k - 1, by omega⟩
                by_cases hlt : m + 1 < ms.length
                · obtain ⟨b', o', hA', _, hc⟩ := (hP6.keep fun p _ => hd.cell p).at_ hlt
                  subst hA'
                  obtain ⟨y1, y2⟩ := hc (m + 1) hlt
                  obtain ⟨_, y3⟩ := hc m (by omega)
                  have hnn := norm_lt M1.out (Nat.lt_succ_self m) hlt
                  have v4 : (m : Int) + 1 < (ms.length : Int) := by omega
                  have v5 : m < ms.length := by omega
                  have v6 : (m : Int) < (ms.length : Int) := by omega
                  have v7 : (0 : Int) < (m : Int) + 1 := by omega
                  have g3 : decide ((atp ms (m + 1)).1 ≤ (atp ms m).2) = false := by simp; omega
                  clear hc hk1 hk2
                  go_wp2_with fail
                  go_quiet (fail)
                  go_wp2_with fail
                  exact ⟨⟨m + 1 + 1, by omega, .inr hlt, by go_num, hd.drewN _⟩, by simp [intOf]; omega⟩
                · have hny : ¬ ((m : Int) + 1 < (ms.length : Int)) := by omega
                  clear hk1 hk2 hlt
                  have hbd := hd.below v7.heap.size
                  have hk8 := hk7.trans (hbd.mono hl7)
                  replace h := h.below (hbd.mono hl7)
                  replace h2 := h2.below (hbd.mono hl7)
                  have hl8 := Nat.le_trans hl7 hbd.size
                  replace hP3 := hP3.below hbd
                  have hl9 := hbd.size
                  clear hP5 hP6 hI N1 N2 M1 M2 hd hbd hk7
                  obtain ⟨v8, rfl⟩ : ∃ v8 : World, v8 = wr := ⟨_, rfl⟩
                  go_wp2_with fail
                  refine (lTotalF A3 c3 _ ab v8 hP3 hl9 (by omega)).mono ?_
                  rintro e w9 ⟨-, hu, hb9⟩
                  obtain ⟨ux, n1, n2, rfl⟩ := hu HAB.out
                  have X1 := Lib.hid n1
                  have X2 := Lib.hid n2
                  obtain ⟨_, bx⟩ := un_in HAB.out n1 fun c hc => (n2 c).1 hc
                  have hk9 := hk8.trans (hb9.mono hl8)
                  replace h := h.below (hb9.mono hl8)
                  replace h2 := h2.below (hb9.mono hl8)
                  have hl10 := Nat.le_trans hl8 hb9.size
                  clear n1 n2 hu hP3 hl9 hb9 hk8 hl8
                  go_wp2_with fail
                  refine (lTotalF A c _ a w9 h hl10 (by omega)).mono ?_
                  rintro e w10 ⟨-, hu, hb9⟩
                  obtain ⟨uy, n1, n2, rfl⟩ := hu HA.out
                  have Y1 := Lib.hid n1
                  have Y2 := Lib.hid n2
                  obtain ⟨_, by1⟩ := un_in HA.out n1 fun c hc => (n2 c).1 hc
                  have by0 := met_ge n1.1
                  have hk10 := hk9.trans (hb9.mono hl10)
                  replace h := h.below (hb9.mono hl10)
                  replace h2 := h2.below (hb9.mono hl10)
                  have hl11 := Nat.le_trans hl10 hb9.size
                  clear n1 n2 hu hb9 hk9 hl10
                  go_wp2_with fail
                  refine (lMinusF A2 A c2 c _ _ b a w10 h2 hl11 (by omega) h hl11 (by omega)).mono ?_
                  rintro e w11 ⟨-, hu, hb9⟩
                  obtain ⟨rs, A8, c8, n1, n2, n3, rfl, hP8⟩ := hu ⟨HB.out, HA.out⟩
                  have HR := Lib.hid (letL_diff HB.out (by omega) n1 n2)
                  have Z0 := Lib.hid n2
                  have hk11 := hk10.trans (hb9.mono hl11)
                  have hl12 := Nat.le_trans hl11 hb9.size
                  clear n1 n2 hu hb9 hk10 hl11 h h2
                  go_wp2_with fail
                  refine (lTotalF A8 c8 _ rs w11 hP8 (Nat.le_refl _) (by omega)).mono ?_
                  rintro e w12 ⟨-, hu, hb9⟩
                  obtain ⟨uz, n1, n2, rfl⟩ := hu HR.out
                  obtain ⟨_, bz1⟩ := un_in HR.out n1 fun c hc => (n2 c).1 hc
                  have bz0 := met_ge n1.1
                  have hsum := met_both HA.out HB.out X1.out (by rw [HE.out]; exact X2.out) (by omega) Y1.out Y2.out n1 fun c => (n2 c).trans (Z0.out c)
                  have hk12 := hk11.trans (hb9.mono hl12)
                  have hl13 := Nat.le_trans hl12 hb9.size
                  clear n1 n2 hu hP8 hb9 hk11 hl12 n3
                  rw [hsum]
                  clear hsum bx
                  generalize met uy = y at *
                  generalize met uz = z at *
                  go_wp2_with fail
                  refine (lAwake _).mono ?_
                  rintro e w13 ⟨rfl, hb9⟩
                  go_wp2
                  go_ret
                  exact ⟨rfl, hk12.trans (hb9.mono hl13)⟩
end Go.Proofs.Ytoknkmlkeacgjaa
