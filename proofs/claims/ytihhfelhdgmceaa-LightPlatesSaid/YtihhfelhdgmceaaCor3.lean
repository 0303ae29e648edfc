/- Contract of the program's Corrected. -/
import Derived.Test.YtihhfelhdgmceaaCor2
namespace Go.Proofs.Ytihhfelhdgmceaa
open Go.RowKit
theorem one_newH {w w' : World} {x : Value} {t : TypeId} {H : Nat} (h : NewOf w #[x] t w') (hH : w.heap.size = H) : ∀ j u, [x][j]? = some u → w'.cell? ((⟨H, 0, none⟩ : Addr).add j) = some u := hH ▸ one_new h
def plateOf (f l : Int × Int) (k : Nat) : Int × Int := if k = 0 then f else l
theorem idxP (f l : Int × Int) {k : Nat} (hk : k < 2) (w : World) : Sem.run Try.prog (Instr.index 111 (.agg #[.int .i64 f.1, .int .i64 f.2, .int .i64 l.1, .int .i64 l.2]) (.int .i64 k)) w = .ok (.agg #[.int .i64 (plateOf f l k).1, .int .i64 (plateOf f l k).2]) w := by
  obtain rfl | rfl : k = 0 ∨ k = 1 := by omega
  all_goals kernel_rfl
set_option maxRecDepth 100000 in
set_option maxHeartbeats 4000000 in
theorem lCor_bad (A : Option Addr) (c : Nat) (xs : List (Int × Int)) (f l : Int × Int) (r : Int) (w : World) (hn : xs.length ≤ 200) (ho : ¬ CorArg xs f l r) :
    Calls Try.prog 33 #[.slice A xs.length c, .agg #[.int .i64 f.1, .int .i64 f.2], .agg #[.int .i64 l.1, .int .i64 l.2], .int .i64 r] w (fun e w' => e = .returned (.tuple #[.slice none 0 0, .int .i64 2]) ∧ Below w.heap.size w w') := by
  have hF := P2.new w f 54
  have hal : Below w.heap.size w (w.alloc (.cells #[.int .i64 f.1, .int .i64 f.2] 54)) := (Below.refl _ _).alloc (Nat.le_refl _) _
  generalize hW : w.alloc (.cells #[.int .i64 f.1, .int .i64 f.2] 54) = w0 at hF hal
  have hz : w0.heap.size = w.heap.size + 1 := by rw [← hW]; simp
  have HW := Lib.hid hW
  have hL := P2.new w0 l 54
  have hb1 : Below w0.heap.size w0 (w0.alloc (.cells #[.int .i64 l.1, .int .i64 l.2] 54)) := (Below.refl _ _).alloc (Nat.le_refl _) _
  generalize hW1 : w0.alloc (.cells #[.int .i64 l.1, .int .i64 l.2] 54) = w1 at hL hb1
  have HW1 := Lib.hid hW1
  replace hF := hF.below hb1 hF.sz
  replace hal := hal.trans (hb1.mono (by omega))
  rw [hz] at hL
  clear hW hb1 hz hW1
  obtain ⟨f0, f1, _⟩ := id hF
  obtain ⟨l0, l1, _⟩ := id hL
  by_cases a1 : xs.length ≤ 100
  · skip
    by_cases a2 : 1 ≤ r ∧ r ≤ 100000
    · have ia2 := inB_t a2.1 a2.2
      by_cases a3 : 1 ≤ f.2 ∧ f.2 ≤ 100000
      · have ia3 := inB_t a3.1 a3.2
        by_cases a4 : 1 ≤ l.2 ∧ l.2 ≤ 100000
        · have ia4 := inB_t a4.1 a4.2
          by_cases a5 : 0 ≤ f.1 ∧ f.1 ≤ 1000000
          · have ia5 := inB_t a5.1 a5.2
            by_cases a6 : f.1 + 1 ≤ l.1 ∧ l.1 ≤ 1000000
            · have ia6 := inB_t a6.1 a6.2
              exact absurd ⟨a1, a2, a3, a4, a5, a6⟩ ho
            · have ia6 := inB_f a6
              clear a6
              go_enter Try.func33, Try.ntmps33
              go_upto_region 1 with fail
              rw [HW.out, HW1.out]
              go_wp2_with (go_at_call 58; refine (lwithin _ _ _ _).mono ?_; rintro e w' ⟨rfl, rfl⟩)
              go_wp2_with fail
              refine (lread f w1).mono ?_
              rintro e w2 ⟨rfl, hb2⟩
              have hF2 := hF.below hb2 hF.sz
              have hL2 := hL.below hb2 hL.sz
              obtain ⟨f0', f1', _⟩ := id hF2
              obtain ⟨l0', l1', _⟩ := id hL2
              go_wp2_with fail
              refine (lread l w2).mono ?_
              rintro e w3 ⟨rfl, hb3⟩
              have hF3 := hF2.below hb3 hF2.sz
              have hL3 := hL2.below hb3 hL2.sz
              obtain ⟨f0'', f1'', _⟩ := id hF3
              obtain ⟨l0'', l1'', _⟩ := id hL3
              go_wp2_with (go_at_call 58; refine (lwithin _ _ _ _).mono ?_; rintro e w' ⟨rfl, rfl⟩)
              go_ret2
              exact ⟨rfl, (hal.trans (hb2.mono hal.size)).trans (hb3.mono (Nat.le_trans hal.size hb2.size))⟩
          · have ia5 := inB_f a5
            clear a5
            go_enter Try.func33, Try.ntmps33
            go_upto_region 1 with fail
            rw [HW.out, HW1.out]
            go_wp2_with (go_at_call 58; refine (lwithin _ _ _ _).mono ?_; rintro e w' ⟨rfl, rfl⟩)
            go_wp2_with fail
            refine (lread f w1).mono ?_
            rintro e w2 ⟨rfl, hb2⟩
            have hF2 := hF.below hb2 hF.sz
            have hL2 := hL.below hb2 hL.sz
            obtain ⟨f0', f1', _⟩ := id hF2
            obtain ⟨l0', l1', _⟩ := id hL2
            go_wp2_with fail
            refine (lread l w2).mono ?_
            rintro e w3 ⟨rfl, hb3⟩
            have hF3 := hF2.below hb3 hF2.sz
            have hL3 := hL2.below hb3 hL2.sz
            obtain ⟨f0'', f1'', _⟩ := id hF3
            obtain ⟨l0'', l1'', _⟩ := id hL3
            go_wp2_with (go_at_call 58; refine (lwithin _ _ _ _).mono ?_; rintro e w' ⟨rfl, rfl⟩)
            go_ret2
            exact ⟨rfl, (hal.trans (hb2.mono hal.size)).trans (hb3.mono (Nat.le_trans hal.size hb2.size))⟩
        · have ia4 := inB_f a4
          clear a4
          go_enter Try.func33, Try.ntmps33
          go_upto_region 1 with fail
          rw [HW.out, HW1.out]
          go_wp2_with (go_at_call 58; refine (lwithin _ _ _ _).mono ?_; rintro e w' ⟨rfl, rfl⟩)
          go_wp2_with fail
          refine (lread f w1).mono ?_
          rintro e w2 ⟨rfl, hb2⟩
          have hF2 := hF.below hb2 hF.sz
          have hL2 := hL.below hb2 hL.sz
          obtain ⟨f0', f1', _⟩ := id hF2
          obtain ⟨l0', l1', _⟩ := id hL2
          go_wp2_with fail
          refine (lread l w2).mono ?_
          rintro e w3 ⟨rfl, hb3⟩
          have hF3 := hF2.below hb3 hF2.sz
          have hL3 := hL2.below hb3 hL2.sz
          obtain ⟨f0'', f1'', _⟩ := id hF3
          obtain ⟨l0'', l1'', _⟩ := id hL3
          go_wp2_with (go_at_call 58; refine (lwithin _ _ _ _).mono ?_; rintro e w' ⟨rfl, rfl⟩)
          go_ret2
          exact ⟨rfl, (hal.trans (hb2.mono hal.size)).trans (hb3.mono (Nat.le_trans hal.size hb2.size))⟩
      · have ia3 := inB_f a3
        clear a3
        go_enter Try.func33, Try.ntmps33
        go_upto_region 1 with fail
        rw [HW.out, HW1.out]
        go_wp2_with (go_at_call 58; refine (lwithin _ _ _ _).mono ?_; rintro e w' ⟨rfl, rfl⟩)
        go_wp2_with fail
        refine (lread f w1).mono ?_
        rintro e w2 ⟨rfl, hb2⟩
        have hF2 := hF.below hb2 hF.sz
        have hL2 := hL.below hb2 hL.sz
        obtain ⟨f0', f1', _⟩ := id hF2
        obtain ⟨l0', l1', _⟩ := id hL2
        go_wp2_with (go_at_call 58; refine (lwithin _ _ _ _).mono ?_; rintro e w' ⟨rfl, rfl⟩)
        go_ret2
        exact ⟨rfl, hal.trans (hb2.mono hal.size)⟩
    · have ia2 := inB_f a2
      clear a2
      go_enter Try.func33, Try.ntmps33
      go_upto_region 1 with fail
      rw [HW.out, HW1.out]
      go_wp2_with (go_at_call 58; refine (lwithin _ _ _ _).mono ?_; rintro e w' ⟨rfl, rfl⟩)
      go_ret2
      exact ⟨rfl, hal⟩
  · skip
    go_enter Try.func33, Try.ntmps33
    go_upto_region 1 with fail
    rw [HW.out, HW1.out]
    go_wp2_with (go_at_call 58; refine (lwithin _ _ _ _).mono ?_; rintro e w' ⟨rfl, rfl⟩)
    go_ret2
    exact ⟨rfl, hal⟩
set_option maxRecDepth 100000 in
set_option maxHeartbeats 4000000 in
theorem lCorrected (A : Option Addr) (c B : Nat) (xs : List (Int × Int)) (f l : Int × Int) (r : Int) (w : World) (h : Pairs w B A xs) (hB : B ≤ w.heap.size) (hn : xs.length ≤ 200) :
    Calls Try.prog 33 #[.slice A xs.length c, .agg #[.int .i64 f.1, .int .i64 f.2], .agg #[.int .i64 l.1, .int .i64 l.2], .int .i64 r] w (CorRes xs f l r w) := by
  by_cases ho : CorArg xs f l r
  rotate_left
  · exact (lCor_bad A c xs f l r w hn ho).mono fun e w' ⟨he, hb⟩ => ⟨fun _ => he, fun hh => absurd hh.1 ho, fun hh => absurd hh.1 ho, hb⟩
  have hF := P2.new w f 54
  have hal : Below w.heap.size w (w.alloc (.cells #[.int .i64 f.1, .int .i64 f.2] 54)) := (Below.refl _ _).alloc (Nat.le_refl _) _
  generalize hW : w.alloc (.cells #[.int .i64 f.1, .int .i64 f.2] 54) = w0 at hF hal
  have hz : w0.heap.size = w.heap.size + 1 := by rw [← hW]; simp
  have HW := Lib.hid hW
  have hL := P2.new w0 l 54
  have hb1 : Below w0.heap.size w0 (w0.alloc (.cells #[.int .i64 l.1, .int .i64 l.2] 54)) := (Below.refl _ _).alloc (Nat.le_refl _) _
  generalize hW1 : w0.alloc (.cells #[.int .i64 l.1, .int .i64 l.2] 54) = w1 at hL hb1
  have HW1 := Lib.hid hW1
  replace hF := hF.below hb1 hF.sz
  replace hal := hal.trans (hb1.mono (by omega))
  rw [hz] at hL
  have hP : Pairs w1 B A xs := h.keep fun p hp => hal.cell (by omega)
  clear h hW hb1 hz hW1
  obtain ⟨f0, f1, _⟩ := id hF
  obtain ⟨l0, l1, _⟩ := id hL
  · obtain ⟨a0, ⟨a1, a2⟩, ⟨a3, a4⟩, ⟨a5, a6⟩, ⟨a7, a8⟩, a9, a10⟩ := id ho
    have i1 := inB_t a1 a2
    have i2 := inB_t a3 a4
    have i3 := inB_t a5 a6
    have i4 := inB_t a7 a8
    have i5 := inB_t a9 a10
    have HO := Lib.hid ho
    clear ho
    go_enter Try.func33, Try.ntmps33
    go_upto_region 1 with fail
    rw [HW.out, HW1.out]
    go_wp2_with (first | (go_at_call 58; refine (lwithin _ _ _ _).mono ?_; rintro e w' ⟨rfl, rfl⟩) | fail)
    go_wp2_with fail
    refine (lread f w1).mono ?_
    rintro e w2 ⟨rfl, hb2⟩
    have hF2 := hF.below hb2 hF.sz
    have hL2 := hL.below hb2 hL.sz
    obtain ⟨f0', f1', _⟩ := id hF2
    obtain ⟨l0', l1', _⟩ := id hL2
    go_wp2_with fail
    refine (lread l w2).mono ?_
    rintro e w3 ⟨rfl, hb3⟩
    have hF3 := hF2.below hb3 hF2.sz
    have hL3 := hL2.below hb3 hL2.sz
    obtain ⟨f0'', f1'', _⟩ := id hF3
    obtain ⟨l0'', l1'', _⟩ := id hL3
    go_wp2_with (go_at_call 58; refine (lwithin _ _ _ _).mono ?_; rintro e w' ⟨rfl, rfl⟩)
    have hb13 : Below w.heap.size w w3 := (hal.trans (hb2.mono hal.size)).trans (hb3.mono (Nat.le_trans hal.size hb2.size))
    have hP3 : Pairs w3 B A xs := (hP.below (hb2.mono (Nat.le_trans hB hal.size))).below (hb3.mono (Nat.le_trans (Nat.le_trans hB hal.size) hb2.size))
    have hPB : B ≤ w3.heap.size := Nat.le_trans hB hb13.size
    clear hP hF hL hF2 hL2 f0 f1 l0 l1 f0' f1' l0' l1' hb2 hb3 hal HW HW1 i1 i2 i3 i4 i5
    go_loopw [53] (fun i wr => ∃ k : Nat, k ≤ xs.length ∧ i = .int .i64 k ∧ Hid (∀ j, j < k → readOk f l (atp xs j)) ∧ Below w3.heap.size w3 wr) (fun i _ => xs.length - (intOf i).toNat)
    case atStart => exact ⟨0, Nat.zero_le _, rfl, fun j hj => absurd hj (by omega), Below.refl _ _⟩
    case round =>
      obtain ⟨k, hk, rfl, ha, hd⟩ := hrel
      have hF4 := hF3.below hd hF3.sz
      have hL4 := hL3.below hd hL3.sz
      obtain ⟨g0, g1, _⟩ := id hF4
      obtain ⟨g2, g3, _⟩ := id hL4
      by_cases hlt : k < xs.length
      · obtain ⟨b, off, rfl, hbb, hc⟩ := (hP3.below (hd.mono hPB)).at_ hlt
        obtain ⟨u0, u1⟩ := hc k hlt
        have hds := hd.size
        clear hc
        by_cases c1 : 0 ≤ (atp xs k).2 ∧ (atp xs k).2 ≤ 100000
        · have j1 := inB_t c1.1 c1.2
          by_cases c2 : f.1 ≤ (atp xs k).1 ∧ (atp xs k).1 ≤ l.1
          · have j2 := inB_t c2.1 c2.2
            have HK : Hid (readOk f l (atp xs k)) := ⟨c1, c2.1, c2.2⟩
            clear c1 c2
            go_wp2_with (go_at_call 58; refine (lwithin _ _ _ _).mono ?_; rintro e w' ⟨rfl, rfl⟩)
            exact ⟨⟨k + 1, by omega, by go_num, fun j hj => by
              by_cases e : j = k
              · rw [e]; exact HK.out
              · exact ha.out j (by omega), hd.alloc hd.size _⟩, by simp [intOf]; omega⟩
          · have j2 := inB_f c2
            have HC := Lib.hid c2
            clear c1 c2
            go_wp2_with (go_at_call 58; refine (lwithin _ _ _ _).mono ?_; rintro e w' ⟨rfl, rfl⟩)
            go_ret2
            have hno : ¬ CorOk xs f l r := fun hh => HC.out (hh.2 k hlt).2
            exact ⟨fun _ => rfl, fun hh => absurd hh hno, fun hh => absurd hh hno, hb13.trans ((hd.alloc hd.size _).mono hb13.size)⟩
        · have j1 := inB_f c1
          have HC := Lib.hid c1
          clear c1
          go_wp2_with (go_at_call 58; refine (lwithin _ _ _ _).mono ?_; rintro e w' ⟨rfl, rfl⟩)
          go_ret2
          have hno : ¬ CorOk xs f l r := fun hh => HC.out (hh.2 k hlt).1
          exact ⟨fun _ => rfl, fun hh => absurd hh hno, fun hh => absurd hh hno, hb13.trans ((hd.alloc hd.size _).mono hb13.size)⟩
      · have hok : Hid (CorOk xs f l r) := ⟨HO.out, fun j hj => ha.out j (by omega)⟩
        go_upto_region 10 with fail
        obtain ⟨w4, rfl⟩ : ∃ w4 : World, w4 = wr := ⟨_, rfl⟩
        have hb14 : Below w.heap.size w w4 := hb13.trans (hd.mono hb13.size)
        have hP4 : Pairs w4 B A xs := hP3.below (hd.mono hPB)
        have hPB4 : B ≤ w4.heap.size := Nat.le_trans hPB hd.size
        clear hP3 hF3 hL3 f0'' f1'' l0'' l1'' hb13 hd ha
        have hsw : w.heap.size + 1 < w4.heap.size := by assumption
        go_loopw [75] (fun i wr => ∃ k : Nat, k ≤ 2 ∧ i = .int .i64 k ∧ Hid (∀ j, j < k → farFrom (plateOf f l j).2 r = false) ∧ Below w4.heap.size w4 wr) (fun i _ => 2 - (intOf i).toNat)
        case atStart => exact ⟨0, Nat.zero_le _, rfl, fun j hj => absurd hj (by omega), Below.refl _ _⟩
        case round =>
          obtain ⟨k, hk, rfl, ha, hd⟩ := hrel
          by_cases hlt : k < 2
          · have hpl : 1 ≤ (plateOf f l k).2 ∧ (plateOf f l k).2 ≤ 100000 := by unfold plateOf; split <;> omega
            obtain ⟨p0, p1⟩ := hpl
            have far_ok : farFrom (plateOf f l k).2 r = true → farFrom f.2 r = true ∨ farFrom l.2 r = true := by
              unfold plateOf
              split
              · exact .inl
              · exact .inr
            have hds := hd.size
            by_cases hm : (plateOf f l k).2 - r ≤ r - (plateOf f l k).2
            · by_cases ht : r < 20 * (r - (plateOf f l k).2)
              · have HF : Hid (farFrom (plateOf f l k).2 r = true) := by unfold farFrom; refine Lib.hid ?_; simp; omega
                go_wp2_with fail
                rw [idxP f l hlt]
                go_wp2
                all_goals first | omega | skip
                all_goals
                  go_ret2
                  exact ⟨fun hh => absurd hok.out hh, fun _ _ => rfl, fun _ hh => absurd (far_ok HF.out) hh, hb14.trans ((hd.alloc hd.size _).mono hb14.size)⟩
              · have HF : Hid (farFrom (plateOf f l k).2 r = false) := by unfold farFrom; refine Lib.hid ?_; simp; omega
                go_wp2_with fail
                rw [idxP f l hlt]
                go_wp2
                all_goals first | omega | skip
                all_goals exact ⟨⟨k + 1, by omega, by go_num, hid_more ha HF.out, hd.alloc hd.size _⟩, by simp [intOf]; omega⟩
            · by_cases ht : r < 20 * ((plateOf f l k).2 - r)
              · have HF : Hid (farFrom (plateOf f l k).2 r = true) := by unfold farFrom; refine Lib.hid ?_; simp; omega
                go_wp2_with fail
                rw [idxP f l hlt]
                go_wp2
                all_goals first | omega | skip
                all_goals
                  go_ret2
                  exact ⟨fun hh => absurd hok.out hh, fun _ _ => rfl, fun _ hh => absurd (far_ok HF.out) hh, hb14.trans ((hd.alloc hd.size _).mono hb14.size)⟩
              · have HF : Hid (farFrom (plateOf f l k).2 r = false) := by unfold farFrom; refine Lib.hid ?_; simp; omega
                go_wp2_with fail
                rw [idxP f l hlt]
                go_wp2
                all_goals first | omega | skip
                all_goals exact ⟨⟨k + 1, by omega, by go_num, hid_more ha HF.out, hd.alloc hd.size _⟩, by simp [intOf]; omega⟩
          · have hk2 : k = 2 := by omega
            have HF2 : Hid (¬ (farFrom f.2 r = true ∨ farFrom l.2 r = true)) := by
              refine Lib.hid ?_
              have q0 := ha.out 0 (by omega)
              have q1 := ha.out 1 (by omega)
              simp [plateOf] at q0 q1
              simp [q0, q1]
            go_upto_region 17 with fail
            clear ha hk2 hlt hk
            obtain ⟨w5, rfl⟩ : ∃ w5 : World, w5 = wr := ⟨_, rfl⟩
            have hb15 : Below w.heap.size w w5 := hb14.trans (hd.mono hb14.size)
            have hP5 : Pairs w5 B A xs := hP4.below (hd.mono hPB4)
            have hPB5 : B ≤ w5.heap.size := Nat.le_trans hPB4 hd.size
            have hF5 := hF4.below hd hF4.sz
            have hL5 := hL4.below hd hL4.sz
            have hsw5 : w.heap.size + 1 < w5.heap.size := Nat.lt_of_lt_of_le hsw hd.size
            clear hP4 hF4 hL4 g0 g1 g2 g3 hb14 hd hPB4 hsw
            obtain ⟨i0, hi, hz0, hz2, hz3⟩ := info_parts info3
            go_loopw [14, 93] (fun out i wr => ∃ k : Nat, k ≤ xs.length ∧ i = .int .i64 k ∧ wr.ownsRow w5.heap.size 3 1 out k ((corTo xs f l r k).map (.int .i64)) ∧ Below w5.heap.size w5 wr) (fun _ i _ => xs.length - (intOf i).toNat)
            case atStart => exact ⟨0, Nat.zero_le _, rfl, World.ownsRow_nil _ _ _ _, Below.refl _ _⟩
            case round =>
              obtain ⟨k, hk, rfl, hown, hb⟩ := hrel
              by_cases hlt : k < xs.length
              · have hb' := hb.size
                have hF6 := hF5.below hb hF5.sz
                have hL6 := hL5.below hb hL5.sz
                obtain ⟨e0, e1, _⟩ := id hF6
                obtain ⟨e2, e3, _⟩ := id hL6
                obtain ⟨b, off, rfl, hbb, hc⟩ := (hP5.below (hb.mono hPB5)).at_ hlt
                obtain ⟨u0, u1⟩ := hc k hlt
                obtain ⟨⟨m0, m1⟩, ⟨m2, m3⟩, ⟨m4, m5⟩, ⟨m6, m7⟩, m8, m9⟩ := cor_bd HO.out (hok.out.2 k hlt)
                obtain ⟨⟨y0, y1⟩, y2, y3⟩ := hok.out.2 k hlt
                have HPL := Lib.hid (by rfl : plateAt f l (atp xs k) = (f.2 * (l.1 - (atp xs k).1) + l.2 * ((atp xs k).1 - f.1)))
                rw [HPL.out] at m4 m5
                clear hc
                have HC := Lib.hid (by unfold corAt; rw [HPL.out] : corAt f l r (atp xs k) = (atp xs k).2 * r * (l.1 - f.1) / (f.2 * (l.1 - (atp xs k).1) + l.2 * ((atp xs k).1 - f.1)))
                have hq : ((f.2 * (l.1 - (atp xs k).1) + l.2 * ((atp xs k).1 - f.1)) == 0) = false := by simp; omega
                have hq2 : (f.2 * (l.1 - (atp xs k).1) + l.2 * ((atp xs k).1 - f.1)) ≠ 0 := by omega
                go_wp2_with (first
                  | (at_builtin; refine wpList_append_lies _ ?_ (.tmp 114) (.tmp 127) 22 ?_ w5.heap.size 3 i0 (.int .i64 0) 1 8 Try.underlying22 hi hz0 hz2 hz3 ?_ ?_ u14 k ((corTo xs f l r k).map (.int .i64)) ?_ ?_ ⟨wr.heap.size + 1, 0, none⟩ 1 1 [.int .i64 ((atp xs k).2 * r * (l.1 - f.1) / (f.2 * (l.1 - (atp xs k).1) + l.2 * ((atp xs k).1 - f.1)))] ?_ ?_ ?_ ?_ ?_ ?_ ?_ ?_ (wr.heap.size + 2) ?_ ?_; (solve | (rfl)); (solve | (rfl)); (solve | (rfl)); (solve | (decide)); (solve | (rfl)); (solve | ((exact owns_new (t := 3) (cs := #[_]) (hown.alloc _) (by first | exact .inl rfl | exact .inr (.inl rfl) | exact .inr (.inr rfl))))); (solve | (rfl)); (solve | (rfl)); (solve | (exact one_newH (t := 3) (w := wr.alloc _) (by first | exact .inl rfl | exact .inr (.inl rfl) | exact .inr (.inr rfl)) (by simp))); (solve | ((intro u hu; simp only [List.mem_singleton] at hu; subst hu; rfl))); (solve | (omega)); (solve | ((unfold maxLen; omega))); (solve | (omega)); (solve | ((simp; omega))); (solve | ((simp; done))); (intro g cap w6 hown3 hgrow hat hg3))
                  | fail)
                rw [← HC.out, ← List.map_singleton, ← List.map_append, ← corTo_succ] at hown3
                have hb3 : Below w5.heap.size w5 w6 := app_below (w := wr.alloc _) (t := 3) (cs := #[_]) (.inl rfl) (hb.alloc hb.size _) (by simp; omega) (hown.alloc _) hgrow
                exact ⟨⟨k + 1, by omega, by go_num, hown3, hb3⟩, by simp [intOf]; omega⟩
              · obtain rfl : k = xs.length := by omega
                obtain ⟨A', c', rfl, hI⟩ := owns_ints hown (corTo_length ..)
                go_wp2
                go_ret2
                exact ⟨fun hh => absurd hok.out hh, fun _ hh => absurd hh HF2.out, fun _ _ => ⟨A', c', rfl, hI⟩, hb15.trans (hb.mono hb15.size)⟩
end Go.Proofs.Ytihhfelhdgmceaa
