/- Contract of the reference's left (72): what is left of stretches over a part that is replaced. -/
import Derived.Test.YtoknkmlkeacgjaaStr
namespace Go.Proofs.Ytoknkmlkeacgjaa
open Go.RowKit
def mvOf (fr old new : Int) : Mov := ⟨fr, fr + old, new - old⟩
theorem pt_ref (fr old new : Int) (s : Int × Int) : ptTo (mvOf fr old new) s 2 = (if s.1 < min s.2 fr then [(s.1, min s.2 fr)] else []) ++ (if max s.1 (fr + old) < s.2 then [(max s.1 (fr + old) + new - old, s.2 + new - old)] else []) := by
  simp only [ptTo, partOf, mvOf]
  have e1 : max s.1 (fr + old) + (new - old) = max s.1 (fr + old) + new - old := by omega
  have e2 : s.2 + (new - old) = s.2 + new - old := by omega
  have e3 : (max s.1 (fr + old) + (new - old) < s.2 + (new - old)) ↔ (max s.1 (fr + old) < s.2) := by omega
  by_cases h1 : s.1 < min s.2 fr <;> by_cases h2 : max s.1 (fr + old) < s.2 <;> simp [h1, h2, e1, e2]
set_option maxRecDepth 100000 in
set_option maxHeartbeats 4000000 in
theorem rLeft (fr old new : Int) (A : Option Addr) (c B : Nat) (xs : List (Int × Int)) (w : World) (h : Pairs w B A xs) (hB : B ≤ w.heap.size) (hm : (0 ≤ fr ∧ fr ≤ 100000000) ∧ (0 ≤ old ∧ old ≤ 100000000) ∧ (0 ≤ new ∧ new ≤ 100000000)) (hx : ∀ p ∈ xs, SmS p) (hn : xs.length ≤ 10000000) :
    Calls Try.prog 72 #[.agg #[.int .i64 fr, .int .i64 old, .int .i64 new], .slice A xs.length c] w (StrRes (mvOf fr old new) xs w) := by
  obtain ⟨i0, hi, hz0, hz2, hz3⟩ := info_parts info33
  have hal : Below w.heap.size w (w.alloc (.cells #[.int .i64 fr, .int .i64 old, .int .i64 new] 98)) := (Below.refl _ _).alloc (Nat.le_refl _) _
  have q0 : (w.alloc (.cells #[.int .i64 fr, .int .i64 old, .int .i64 new] 98)).cell? ⟨w.heap.size, 0, none⟩ = some (.int .i64 fr) := by simp [go_sem]
  have q1 : (w.alloc (.cells #[.int .i64 fr, .int .i64 old, .int .i64 new] 98)).cell? ⟨w.heap.size, 1, none⟩ = some (.int .i64 old) := by simp [go_sem]
  have q2 : (w.alloc (.cells #[.int .i64 fr, .int .i64 old, .int .i64 new] 98)).cell? ⟨w.heap.size, 2, none⟩ = some (.int .i64 new) := by simp [go_sem]
  have hz : w.heap.size < (w.alloc (.cells #[.int .i64 fr, .int .i64 old, .int .i64 new] 98)).heap.size := by simp
  have HX : Hid (∀ k, k < xs.length → SmS (atp xs k)) := fun k hk => hx _ (by simp [atp, hk])
  obtain ⟨⟨a0, a1⟩, ⟨b0, b1⟩, g0, g1⟩ := hm
  clear hx
  replace h := h.below (hal.mono hB)
  go_enter Try.func72, Try.ntmps72
  go_wp2_with fail
  generalize w.alloc (.cells #[.int .i64 fr, .int .i64 old, .int .i64 new] 98) = w2 at *
  go_loopw [5, 6] (fun out i wr => ∃ k : Nat, k ≤ xs.length ∧ i = .int .i64 k ∧ wr.ownsRow w2.heap.size 33 2 out (strTo (mvOf fr old new) xs k).length (pcells (strTo (mvOf fr old new) xs k)) ∧ Below w2.heap.size w2 wr) (fun _ i _ => xs.length - (intOf i).toNat)
  case atStart => exact ⟨0, Nat.zero_le _, rfl, World.ownsRow_nil _ _ _ _, Below.refl _ _⟩
  case round =>
    obtain ⟨k, hk, rfl, hown, hb⟩ := hrel
    have hbs := hb.size
    by_cases hlt : k < xs.length
    · obtain ⟨b, o, rfl, hbl, hc⟩ := (h.below (hb.mono (Nat.le_trans hB (Nat.le_of_lt hz)))).at_ hlt
      obtain ⟨x1, x2⟩ := hc k hlt
      have y0 := (hb.cell (p := ⟨w.heap.size, 0, none⟩) hz).trans q0
      have y1 := (hb.cell (p := ⟨w.heap.size, 1, none⟩) hz).trans q1
      have y2 := (hb.cell (p := ⟨w.heap.size, 2, none⟩) hz).trans q2
      obtain ⟨⟨s1, s2⟩, ⟨s3, s4⟩⟩ := HX.out k hlt
      have hlw : w.heap.size < wr.heap.size := by omega
      have hbl2 : b < w2.heap.size := by omega
      have hbw : b < wr.heap.size := by omega
      have v1 : (0 : Int) ≤ (k : Int) := by omega
      have v2 : (k : Int) < (xs.length : Int) := by omega
      have HPT : Hid (strTo (mvOf fr old new) xs (k + 1) = strTo (mvOf fr old new) xs k ++ ((if (atp xs k).1 < min (atp xs k).2 fr then [((atp xs k).1, min (atp xs k).2 fr)] else []) ++ (if max (atp xs k).1 (fr + old) < (atp xs k).2 then [(max (atp xs k).1 (fr + old) + new - old, (atp xs k).2 + new - old)] else []))) := by refine Lib.hid ?_; simp only [strTo]; rw [pt_ref]
      have hlen := strTo_length (mvOf fr old new) xs k
      have HC : Hid (∀ j, j < xs.length → wr.cell? ⟨b, o + j * 2, none⟩ = some (.int .i64 (atp xs j).1) ∧ wr.cell? ⟨b, o + j * 2 + 1, none⟩ = some (.int .i64 (atp xs j).2)) := hc
      clear hc
      generalize hs : atp xs k = s at *
      have HSK := Lib.hid hs
      clear hs
      generalize hL : strTo (mvOf fr old new) xs k = Ls at *
      clear hL
      go_upto_region 5 with fail
      go_cut [7] (fun t7 wx => t7 = .pointer (some ⟨wr.heap.size, 0, none⟩) ∧ wx.cell? ⟨wr.heap.size, 0, none⟩ = some (.int .i64 s.1) ∧ wx.cell? ⟨wr.heap.size, 1, none⟩ = some (.int .i64 (min s.2 fr)) ∧ Below wr.heap.size wr wx ∧ wr.heap.size < wx.heap.size)
      case first =>
        go_region
        all_goals (go_wp2_with fail; go_meet)
        all_goals exact ⟨rfl, by simp [go_sem], by simp [go_sem], (by first | exact (Below.refl _ _).drew.alloc (Nat.le_refl _) _ | exact ((Below.refl _ _).alloc (Nat.le_refl _) _).drew | exact (Below.refl _ _).alloc (Nat.le_refl _) _), by simp⟩
      case rest =>
        obtain ⟨rfl, z0, z1, hbx, hzx⟩ := hcut
        generalize hmn : min s.2 fr = mn at *
        clear hmn
        obtain ⟨w3, rfl⟩ : ∃ w3 : World, w3 = wc := ⟨_, rfl⟩
        replace hown := owns_keep hown hbx
        have hb3 := hb.trans (hbx.mono hb.size)
        have e1 := (hbx.cell (p := ⟨b, o + k * 2, none⟩) hbw).trans x1
        have e2 := (hbx.cell (p := ⟨b, o + k * 2 + 1, none⟩) hbw).trans x2
        have f0 := (hbx.cell (p := ⟨w.heap.size, 0, none⟩) hlw).trans y0
        have f1 := (hbx.cell (p := ⟨w.heap.size, 1, none⟩) hlw).trans y1
        have f2 := (hbx.cell (p := ⟨w.heap.size, 2, none⟩) hlw).trans y2
        have hl3 : w.heap.size < w3.heap.size := by omega
        have hb3s := hb3.size
        clear x1 x2 y0 y1 y2 hb hbs hlw hbw
        by_cases c1 : s.1 < mn
        · go_upto_region 7 with fail
          go_wp2_with (first
            | (at_builtin; refine wpList_append_lies _ ?_ (.tmp 34) (.tmp 36) 34 ?_ w2.heap.size 33 i0 (.agg #[.int .i64 0, .int .i64 0]) 2 16 Try.underlying34 hi hz0 hz2 hz3 ?_ ?_ u5 Ls.length (pcells Ls) ?_ ?_ ⟨w3.heap.size, 0, none⟩ 1 1 [.int .i64 s.1, .int .i64 mn] ?_ ?_ ?_ ?_ ?_ ?_ ?_ ?_ (w3.heap.size + 1) ?_ ?_; (solve | (rfl)); (solve | (rfl)); (solve | (rfl)); (solve | (decide)); (solve | (rfl)); (solve | (exact owns_new (t := 33) (cs := #[_, _]) hown (by first | exact .inl rfl | exact .inr (.inl rfl) | exact .inr (.inr rfl)))); (solve | (rfl)); (solve | (rfl)); (solve | (exact newH (t := 33) (cs := #[_, _]) (w := w3) (by first | exact .inl rfl | exact .inr (.inl rfl) | exact .inr (.inr rfl)) rfl)); (solve | ((intro u hu; simp only [List.mem_cons, List.not_mem_nil, or_false] at hu; rcases hu with rfl | rfl <;> rfl))); (solve | (omega)); (solve | ((unfold maxLen; omega))); (solve | (omega)); (solve | ((simp; omega))); (solve | ((simp; done))); (intro g3 cap3 w6 hown3 hgrow hat hg3))
            | fail)
          have hbf : Below w2.heap.size w2 w6 := app_below (w := w3) (t := 33) (cs := #[_, _]) (.inl rfl) hb3 hb3.size hown hgrow
          have hown6 : w6.ownsRow w2.heap.size 33 2 (.slice (some ⟨g3, 0, none⟩) (Ls.length + 1) cap3) (Ls ++ [(s.1, mn)]).length (pcells (Ls ++ [(s.1, mn)])) := by
            rw [pcells_append _ [_], List.length_append (bs := [_])]
            exact hown3
          have d1 := (hbf.cell (p := ⟨b, o + k * 2, none⟩) hbl2).trans ((hb3.cell (p := ⟨b, o + k * 2, none⟩) hbl2).symm.trans e1)
          have d2 := (hbf.cell (p := ⟨b, o + k * 2 + 1, none⟩) hbl2).trans ((hb3.cell (p := ⟨b, o + k * 2 + 1, none⟩) hbl2).symm.trans e2)
          have k0 := (hbf.cell (p := ⟨w.heap.size, 0, none⟩) hz).trans q0
          have k1 := (hbf.cell (p := ⟨w.heap.size, 1, none⟩) hz).trans q1
          have k2 := (hbf.cell (p := ⟨w.heap.size, 2, none⟩) hz).trans q2
          have hbw6 : b < w6.heap.size := Nat.lt_of_lt_of_le hbl2 hbf.size
          have hl6 : w.heap.size < w6.heap.size := Nat.lt_of_lt_of_le hz hbf.size
          have hbs6 := hbf.size
          have hll : (Ls ++ [(s.1, mn)]).length = Ls.length + 1 := by simp
          rw [hll] at hown6
          generalize hL2 : Ls ++ [(s.1, mn)] = L2 at *
          have HL2 := Lib.hid hL2
          clear hL2 e1 e2 f0 f1 f2 z0 z1 hown hown3 hgrow hat hg3 hbx hzx hb3 hb3s hl3
          go_upto_region 8 with fail
          go_cut [8] (fun t8 wx => t8 = .pointer (some ⟨w6.heap.size, 0, none⟩) ∧ wx.cell? ⟨w6.heap.size, 0, none⟩ = some (.int .i64 (max s.1 (fr + old))) ∧ wx.cell? ⟨w6.heap.size, 1, none⟩ = some (.int .i64 s.2) ∧ Below w6.heap.size w6 wx ∧ w6.heap.size < wx.heap.size)
          case first =>
            go_region
            all_goals (go_wp2_with fail; go_meet)
            all_goals exact ⟨rfl, by simp [go_sem], by simp [go_sem], (by first | exact (Below.refl _ _).drew.alloc (Nat.le_refl _) _ | exact ((Below.refl _ _).alloc (Nat.le_refl _) _).drew | exact (Below.refl _ _).alloc (Nat.le_refl _) _), by simp⟩
          case rest =>
            obtain ⟨rfl, m0, m1, hby, hzy⟩ := hcut
            have mxb : -1000000000 ≤ max s.1 (fr + old) ∧ max s.1 (fr + old) ≤ 2000000000 := by omega
            generalize hmx : max s.1 (fr + old) = mx at *
            clear hmx
            obtain ⟨mx0, mx1⟩ := mxb
            obtain ⟨w7, rfl⟩ : ∃ w7 : World, w7 = wc := ⟨_, rfl⟩
            have hown7 := owns_keep hown6 hby
            have hb7 := hbf.trans (hby.mono hbf.size)
            have n0 := (hby.cell (p := ⟨w.heap.size, 0, none⟩) hl6).trans k0
            have n1 := (hby.cell (p := ⟨w.heap.size, 1, none⟩) hl6).trans k1
            have n2 := (hby.cell (p := ⟨w.heap.size, 2, none⟩) hl6).trans k2
            have hb7s := hb7.size
            clear d1 d2 k0 k1 k2
            by_cases c2 : mx < s.2
            · have HFIN : Hid (strTo (mvOf fr old new) xs (k + 1) = L2 ++ [(mx + new - old, s.2 + new - old)]) := Lib.hid (by rw [HPT.out, if_pos c1, if_pos c2, ← List.append_assoc, HL2.out])
              go_upto_region 10 with fail
              go_wp2_with (first
                      | (at_builtin; refine wpList_append_lies _ ?_ (.tmp 60) (.tmp 78) 34 ?_ w2.heap.size 33 i0 (.agg #[.int .i64 0, .int .i64 0]) 2 16 Try.underlying34 hi hz0 hz2 hz3 ?_ ?_ (.slice (some ⟨g3, 0, none⟩) (Ls.length + 1) cap3) (Ls.length + 1) (pcells L2) ?_ ?_ ⟨w7.heap.size, 0, none⟩ 1 1 [.int .i64 (mx + new - old), .int .i64 (s.2 + new - old)] ?_ ?_ ?_ ?_ ?_ ?_ ?_ ?_ (w7.heap.size + 1) ?_ ?_; (solve | (rfl)); (solve | (rfl)); (solve | (rfl)); (solve | (decide)); (solve | (rfl)); (solve | (exact owns_new (t := 33) (cs := #[_, _]) hown7 (by first | exact .inl rfl | exact .inr (.inl rfl) | exact .inr (.inr rfl)))); (solve | (rfl)); (solve | (rfl)); (solve | (exact newH (t := 33) (cs := #[_, _]) (w := w7) (by first | exact .inl rfl | exact .inr (.inl rfl) | exact .inr (.inr rfl)) rfl)); (solve | ((intro u hu; simp only [List.mem_cons, List.not_mem_nil, or_false] at hu; rcases hu with rfl | rfl <;> rfl))); (solve | (omega)); (solve | ((unfold maxLen; omega))); (solve | (omega)); (solve | ((simp; omega))); (solve | ((simp; done))); (intro g4 cap3 w8 hown8 hgrow hat hg3))
                      | fail)
              have hbf2 : Below w2.heap.size w2 w8 := app_below (w := w7) (t := 33) (cs := #[_, _]) (.inl rfl) hb7 hb7.size hown7 hgrow
              exact ⟨⟨k + 1, by omega, by go_num, by rw [HFIN.out, pcells_append _ [_], List.length_append (bs := [_])]; rw [hll]; exact hown8, hbf2⟩, by simp [intOf]; omega⟩
            · have HFIN : Hid (strTo (mvOf fr old new) xs (k + 1) = L2) := Lib.hid (by rw [HPT.out, if_pos c1, if_neg c2, List.append_nil, HL2.out])
              go_wp2_with fail
              exact ⟨⟨k + 1, by omega, by go_num, by rw [HFIN.out]; rw [hll]; exact hown7, hb7⟩, by simp [intOf]; omega⟩
        · have L0 : Ls.length ≤ 2 * k + 1 := by omega
          have hbw3 : b < w3.heap.size := Nat.lt_of_lt_of_le hbl2 hb3.size
          clear hbx
          go_upto_region 8 with fail
          go_cut [8] (fun t8 wx => t8 = .pointer (some ⟨w3.heap.size, 0, none⟩) ∧ wx.cell? ⟨w3.heap.size, 0, none⟩ = some (.int .i64 (max s.1 (fr + old))) ∧ wx.cell? ⟨w3.heap.size, 1, none⟩ = some (.int .i64 s.2) ∧ Below w3.heap.size w3 wx ∧ w3.heap.size < wx.heap.size)
          case first =>
            go_region
            all_goals (go_wp2_with fail; go_meet)
            all_goals exact ⟨rfl, by simp [go_sem], by simp [go_sem], (by first | exact (Below.refl _ _).drew.alloc (Nat.le_refl _) _ | exact ((Below.refl _ _).alloc (Nat.le_refl _) _).drew | exact (Below.refl _ _).alloc (Nat.le_refl _) _), by simp⟩
          case rest =>
            obtain ⟨rfl, m0, m1, hby, hzy⟩ := hcut
            have mxb : -1000000000 ≤ max s.1 (fr + old) ∧ max s.1 (fr + old) ≤ 2000000000 := by omega
            generalize hmx : max s.1 (fr + old) = mx at *
            clear hmx
            obtain ⟨mx0, mx1⟩ := mxb
            obtain ⟨w7, rfl⟩ : ∃ w7 : World, w7 = wc := ⟨_, rfl⟩
            have hown7 := owns_keep hown hby
            have hb7 := hb3.trans (hby.mono hb3.size)
            have n0 := (hby.cell (p := ⟨w.heap.size, 0, none⟩) hl3).trans f0
            have n1 := (hby.cell (p := ⟨w.heap.size, 1, none⟩) hl3).trans f1
            have n2 := (hby.cell (p := ⟨w.heap.size, 2, none⟩) hl3).trans f2
            have hb7s := hb7.size
            clear e1 e2 f0 f1 f2
            by_cases c2 : mx < s.2
            · have HFIN : Hid (strTo (mvOf fr old new) xs (k + 1) = Ls ++ [(mx + new - old, s.2 + new - old)]) := Lib.hid (by rw [HPT.out, if_neg c1, if_pos c2, ← List.append_assoc, List.append_nil])
              go_upto_region 10 with fail
              go_wp2_with (first
                      | (at_builtin; refine wpList_append_lies _ ?_ (.tmp 60) (.tmp 78) 34 ?_ w2.heap.size 33 i0 (.agg #[.int .i64 0, .int .i64 0]) 2 16 Try.underlying34 hi hz0 hz2 hz3 ?_ ?_ u5 Ls.length (pcells Ls) ?_ ?_ ⟨w7.heap.size, 0, none⟩ 1 1 [.int .i64 (mx + new - old), .int .i64 (s.2 + new - old)] ?_ ?_ ?_ ?_ ?_ ?_ ?_ ?_ (w7.heap.size + 1) ?_ ?_; (solve | (rfl)); (solve | (rfl)); (solve | (rfl)); (solve | (decide)); (solve | (rfl)); (solve | (exact owns_new (t := 33) (cs := #[_, _]) hown7 (by first | exact .inl rfl | exact .inr (.inl rfl) | exact .inr (.inr rfl)))); (solve | (rfl)); (solve | (rfl)); (solve | (exact newH (t := 33) (cs := #[_, _]) (w := w7) (by first | exact .inl rfl | exact .inr (.inl rfl) | exact .inr (.inr rfl)) rfl)); (solve | ((intro u hu; simp only [List.mem_cons, List.not_mem_nil, or_false] at hu; rcases hu with rfl | rfl <;> rfl))); (solve | (omega)); (solve | ((unfold maxLen; omega))); (solve | (omega)); (solve | ((simp; omega))); (solve | ((simp; done))); (intro g4 cap3 w8 hown8 hgrow hat hg3))
                      | fail)
              have hbf2 : Below w2.heap.size w2 w8 := app_below (w := w7) (t := 33) (cs := #[_, _]) (.inl rfl) hb7 hb7.size hown7 hgrow
              exact ⟨⟨k + 1, by omega, by go_num, by rw [HFIN.out, pcells_append _ [_], List.length_append (bs := [_])]; exact hown8, hbf2⟩, by simp [intOf]; omega⟩
            · have HFIN : Hid (strTo (mvOf fr old new) xs (k + 1) = Ls) := Lib.hid (by rw [HPT.out, if_neg c1, if_neg c2, List.append_nil, List.append_nil])
              go_wp2_with fail
              exact ⟨⟨k + 1, by omega, by go_num, by rw [HFIN.out]; exact hown7, hb7⟩, by simp [intOf]; omega⟩
    · obtain rfl : k = xs.length := by omega
      obtain ⟨_, A', c', rfl, hPp⟩ := owns_pairs hown
      go_wp2
      go_ret
      exact ⟨A', c', rfl, hPp, hal.trans (hb.mono (Nat.le_of_lt hz))⟩
end Go.Proofs.Ytoknkmlkeacgjaa
