/- The walk of TopLog. -/
import Derived.Test.YtikfeoghmpoigaaTls
namespace Go.Proofs.Ytikfeoghmpoigaa
open Go.RowKit
set_option maxRecDepth 100000 in
set_option maxHeartbeats 8000000 in
theorem wLog (A : Option Addr) (cp : Nat) (xs : List Blw) (w : World) (h : Scr w w.heap.size A xs) (hn : xs.length ≤ 9223372036854775807) (hel : ∀ j, j < xs.length → (blwAt xs j).e.length ≤ 9223372036854775807) :
    Calls Try.prog 3 #[.slice A xs.length cp] w fun en w' => en = .returned (.bool true) ∧ Below w.heap.size w w' := by
  obtain ⟨w0, rfl⟩ : ∃ w0 : World, w0 = w := ⟨_, rfl⟩
  have HEL := Lib.hid hel
  clear hel
  go_enter Try.func3, Try.ntmps3
  by_cases h16 : 16 < xs.length
  · go_wp2_with (first
      | (go_at_call 4; refine lLogs.mono ?_; rintro e w9 ⟨rfl, hb9⟩)
      | fail)
    go_ret
    exact ⟨rfl, hb9⟩
  go_wp2_with fail
  go_loopw [3] (fun i wr => ∃ k : Nat, k ≤ xs.length ∧ i = .int .i64 k ∧ wr = w0 ∧ Hid (∀ j, j < k → (blwAt xs j).e.length ≤ 300)) (fun i _ => xs.length - (intOf i).toNat)
  case atStart => exact ⟨0, Nat.zero_le _, rfl, rfl, hid_none⟩
  case round =>
    obtain ⟨k, hk, rfl, rfl, HS⟩ := hrel
    by_cases hlt : k < xs.length
    · obtain ⟨b, off, rfl, hb, hcc⟩ := h.at_ hlt
      obtain ⟨Ae, ce, y0, -⟩ := hcc k hlt
      have hle := HEL.out k hlt
      clear hcc
      by_cases h3 : 300 < (blwAt xs k).e.length
      · go_wp2_with (first
          | (go_at_call 4; refine lLogs.mono ?_; rintro e w9 ⟨rfl, hb9⟩)
          | fail)
        go_ret
        exact ⟨rfl, hb9⟩
      · have HS2 := hid_more HS (show (blwAt xs k).e.length ≤ 300 by omega)
        go_wp2_with fail
        exact ⟨⟨k + 1, by omega, by go_num, trivial, HS2⟩, by simp [intOf]; omega⟩
    · obtain rfl : k = xs.length := by omega
      go_wp2_with fail
      refine lNewDisk.mono ?_
      rintro en w1 ⟨rfl, hd1, hb1⟩
      have hop := lOpenOk (es := []) (rest := []) (N0 := fun b => b = wr.heap.size) hd1 rfl rfl torn_nil (by intro e he; cases he) (by decide) rfl (fun b hb => by rw [hb]; exact hd1.hi) rfl (by intro g hg; cases hg)
      have HB1 := Lib.hid hb1
      have hs1 : wr.heap.size ≤ w1.heap.size := by have := hd1.hi; omega
      clear hd1 hb1
      go_wp2_with fail
      refine hop.mono ?_
      rintro en w2 ⟨hc2, l, ev, v2, N, rfl, -, -, hM, -, -⟩
      have hb2 := hc2.belowN hs1 (fun b hb => by omega)
      have hr0 : TlRel wr 0 l (.slice none 0 0) w2 := ⟨v2, ev, [], 0, N, hM, ⟨Ents.nil, (by intro g hg; cases hg), (by intro g hg; cases hg)⟩, (by intro e he; cases he), Nat.le_refl _, Nat.le_refl _, HB1.out.trans hb2⟩
      clear hop hc2 hM hb2 HB1 hs1
      have hnn : xs.length ≤ 16 := by omega
      obtain ⟨w0, rfl⟩ : ∃ w0 : World, w0 = wr := ⟨_, rfl⟩
      clear h16 hn hk hlt HEL w1 v2 ev N
      go_wp2_with fail
      go_loopw [5, 7, 8] (fun lv kv i wr => ∃ k l : Nat, k ≤ xs.length ∧ i = .int .i64 k ∧ lv = .pointer (some ⟨l, 0, none⟩) ∧ TlRel w0 k l kv wr) (fun _ _ i _ => xs.length - (intOf i).toNat)
      case atStart => exact ⟨0, l, Nat.zero_le _, rfl, rfl, hr0⟩
      case round =>
        obtain ⟨k, l, hk, rfl, rfl, v, ev, es, life, N, hM, hK, hsm, hes, hlf, hbw⟩ := hrel
        clear hr0
        by_cases hlt : k < xs.length
        · obtain ⟨b, off, rfl, hb, hcc⟩ := h.at_ hlt
          obtain ⟨Ae, ce, hx⟩ := hcc k hlt
          have hx1 := hx.keep hb (fun p hp => hbw.cell hp)
          have hle := HS.out k hlt
          generalize blwAt xs k = x at *
          obtain ⟨y0, y1, y2, y3, y4, y5, y6, hAe, hbe, hue, hat, hag⟩ := hx1
          clear hcc hx
          have hst : St w0 (wr.alloc (.cells #[.slice Ae x.e.length ce, .int .u8 x.at_, .int .u8 x.again, .bool x.lost, .bool x.reopen, .int .i64 x.keep, .int .i64 x.rest] 26)) w0.heap.size l ⟨v, flat es, (flat es).length, 0, false, life⟩ false ev u7 es es N x Ae ce wr.heap.size := by
            have hb1 : Below wr.heap.size wr (wr.alloc (.cells #[.slice Ae x.e.length ce, .int .u8 x.at_, .int .u8 x.again, .bool x.lost, .bool x.reopen, .int .i64 x.keep, .int .i64 x.rest] 26)) := (Below.refl _ _).alloc (Nat.le_refl _) _
            exact ⟨hM.below hb1, hK.below hb1, ⟨by simp [go_sem], by simp [go_sem], by simp [go_sem], by simp [go_sem], by simp [go_sem], by simp [go_sem], by simp [go_sem], by simp⟩, fun hh => by have := hM.nlt _ (hM.mtN _ hh); omega, fun hh => by have := (hK.en.lt _ hh).2; omega,
              hbw.trans (hb1.mono hbw.size), Nat.le_trans hbw.size hb1.size, hbe.below (hb1.mono hbw.size)⟩
          have hB0 : wr.heap.size = wr.heap.size := rfl
          have har := lArm hst.M.dk (x.at_ % 4) (by omega)
          rw [show ((x.at_ % 4 : Nat) : Int) = (x.at_ : Int) % 4 by omega] at har
          have HST := Lib.hid hst
          have HSM := Lib.hid hsm
          have HAE := Lib.hid hAe
          clear hM hK hbw hbe hst hsm hAe hB0
          go_wp2_with fail
          clear y0 y1 y2 y3 y4 y5 y6
          generalize wr.heap.size = B0 at *
          refine har.mono ?_
          rintro en w2 ⟨rfl, hd2, hc2⟩
          clear har
          have h2 := HST.out.step (hc2.mono fun b _ hb => .inl hb) (HST.out.M.disk (hc2.mono fun b _ hb => .inl hb) hd2 rfl (.inl rfl)) (fun b hb => .inl hb) (.inl rfl) (.inl rfl)
          clear hd2 hc2 HST
          have hfl : (flat es).length ≤ 100000 := by have := HSM.out.len; omega
          have z0 := h2.B.c0
          obtain ⟨N2, h2⟩ : ∃ N2, St w0 w2 w0.heap.size l ⟨v, flat es, (flat es).length, x.at_ % 4, false, life⟩ false ev u7 es es N2 x Ae ce B0 := ⟨_, h2⟩
          by_cases hdn : x.at_ % 4 = 1 ∨ x.at_ % 4 = 2
          rotate_left
          · have hpt := lPutOk h2.M hdn Ae ce x.e h2.bytsM HAE.out hue hle (by omega) hfl
            have H2 := Lib.hid h2
            clear h2 hdn hfl
            go_wp2_with fail
            refine hpt.mono ?_
            rintro en w3 ⟨rfl, hc3, v3, ev3, N3, hfv, hfe, hN3, hM3⟩
            have h3 := H2.out.step hc3 hM3 hN3 hfv hfe
            have har := lArm h3.M.dk 0 (by omega)
            have H3 := Lib.hid h3
            clear hpt hc3 hfv hfe hN3 hM3 h3 H2 z0
            go_wp2_with fail
            refine har.mono ?_
            rintro en w4 ⟨rfl, hd4, hc4⟩
            have h4 := H3.out.step (hc4.mono fun b _ hb => .inl hb) (H3.out.M.disk (hc4.mono fun b _ hb => .inl hb) hd4 rfl (.inl rfl)) (fun b hb => .inl hb) (.inl rfl) (.inl rfl)
            obtain ⟨N4, h4⟩ : ∃ N4, St w0 w4 w0.heap.size l ⟨v3, flat (es ++ [x.e]), (flat (es ++ [x.e])).length, 0, false, life⟩ false ev3 u7 (es ++ [x.e]) es N4 x Ae ce B0 := ⟨_, h4⟩
            have z0 := h4.B.c0
            obtain ⟨zs, hoz, hkp⟩ := h4.keep HAE.out
            have hW4 := h4.Wl
            have HKP := Lib.hid hkp
            clear har hd4 hc4 H3 h4 hkp
            have hoz4 := hoz.alloc (.cells #[.slice Ae x.e.length ce] 24)
            have hz4 : (w4.alloc (.cells #[.slice Ae x.e.length ce] 24)).cell? ⟨w4.heap.size, 0, none⟩ = some (.slice Ae x.e.length ce) := by simp [go_sem]
            have hen1 : Hid (∀ (w5 : World) (kv5 : Value), (∃ N', St w0 w5 w0.heap.size l ⟨v3, flat (es ++ [x.e]), (flat (es ++ [x.e])).length, 0, false, life⟩ false ev3 kv5 (es ++ [x.e]) (es ++ [x.e]) N' x Ae ce B0) → Calls Try.prog 11 #[.pointer (some ⟨l, 0, none⟩)] w5 fun en w' => ∃ v N', en = .returned v ∧ Ents w' w5.heap.size N' v (es ++ [x.e]) ∧ Below w5.heap.size w5 w') :=
              Lib.hid fun w5 kv5 ⟨_, h5⟩ => lEntries h5.M.lg h5.M.en (HSM.out.snoc hue hle).u8s (by simp; omega)
            go_wp2_with (first
              | (at_builtin; go_loud (refine wpList_push ?_ (.tmp 62) (.tmp 65) ?_ w0.heap.size u7 es.length zs ?_ hoz4 w4.heap.size (.slice Ae x.e.length ce) ?_ hz4 ?_ ?_ ?_ ?_; (solve | (rfl)); (solve | (rfl)); (solve | (rfl)); (solve | (rfl)); (solve | (rfl)); (solve | (omega)); (solve | (simp; omega)); (intro kv5 w5 ho5 hg5 hat5; have h5 := Lib.hid (HKP.out _ _ _ _ ho5 hg5 hat5); clear ho5 hg5 hat5)))
              | (go_at_call 11; refine (hen1.out _ _ h5.out).mono ?_; rintro en w6 ⟨v6, N6, rfl, hen6, hb6⟩)
              | fail)
            obtain ⟨N5, h5⟩ := h5.out
            have h6 := h5.below hb6
            have hsm5 := HSM.out.snoc hue hle
            have hln : (es ++ [x.e]).length = es.length + 1 := by simp
            have hsa := lSame hen6.rd h6.K.en.rd (by rw [hln]; omega)
            have HSM5 := Lib.hid hsm5
            have HLN := Lib.hid hln
            clear HKP hoz hoz4 hz4 hen1 h5 hb6 hen6 hsm5 hln z0 hW4 HSM h4 h2
            generalize es ++ [x.e] = fs at *
            have hes5 : fs.length ≤ k + 1 := by have h9 : fs.length = es.length + 1 := HLN.out; omega
            refine hsa.mono ?_
            rintro en w7 ⟨rfl, hd7⟩
            have h7 := h6.drew hd7
            have z3 := h7.B.c3
            have z4 := h7.B.c4
            clear hsa hd7 h6
            rcases Bool.eq_false_or_eq_true x.lost with hlo | hlo
            · rw [hlo] at z3
              have z0 := h7.B.c0
              have z1 := h7.B.c1
              have z2 := h7.B.c2
              have z5 := h7.B.c5
              have z6 := h7.B.c6
              have hrv := lRevived (e := []) (tail := []) (N0 := N5) h7.M.dk (List.append_nil _).symm (.inl rfl) rfl (by intro e he; rcases List.mem_append.1 he with he | he; exact HSM5.out.u8s e he; simp at he; subst he; exact ⟨fun x hx => (by cases hx), (by decide)⟩) (by omega) (by show life ≤ 800; omega) h7.M.nlt h7.M.nd h7.M.nS (.slice Ae x.e.length ce) x.at_ x.again true x.reopen x.keep x.rest hag
              have H7 := Lib.hid h7
              clear h7 hlo
              go_wp2_with fail
              refine hrv.mono ?_
              rintro en w8 ⟨hc8, gs, l8, ev8, v8, life8, N8, hgs, rfl, hN8, hv8, hlf8, hM8, hl8, hev8⟩
              obtain rfl : gs = fs := by
                rcases hgs with h | h
                · exact h
                · exact absurd rfl h.2
              have h8 := H7.out.anew hc8 hM8 hN8 hv8 hl8 hev8
              have hen8 := lEntries h8.M.lg h8.M.en HSM5.out.u8s (by omega)
              have hlf9 : life8 ≤ 2 * (k + 1) := by have : life8 ≤ life + 2 := hlf8; omega
              have H8 := Lib.hid h8
              clear hrv hc8 hgs hN8 hv8 hlf8 hM8 hl8 hev8 h8 H7 z0 z1 z2 z3 z4 z5 z6
              go_wp2_with fail
              refine hen8.mono ?_
              rintro en w9 ⟨v9, N9, rfl, hen9, hb9⟩
              have h9 := H8.out.below hb9
              have hsa := lSame hen9.rd h9.K.en.rd (by omega)
              have H9 := Lib.hid h9
              clear hen8 hen9 hb9 h9 H8
              go_wp2_with fail
              refine hsa.mono ?_
              rintro en w10 ⟨rfl, hd10⟩
              have h10 := (H9.out.drew hd10).rel HSM5.out hes5 hlf9
              clear hsa hd10 H9
              go_wp2_with fail
              exact ⟨⟨k + 1, l8, by omega, by go_num, rfl, h10⟩, by simp [intOf]; omega⟩
            · rw [hlo] at z3
              rcases Bool.eq_false_or_eq_true x.reopen with hre | hre
              · rw [hre] at z4
                have hop := lOpenOk (es := fs) (rest := []) (N0 := N5) h7.M.dk rfl (List.append_nil _).symm torn_nil HSM5.out.u8s (by omega) rfl h7.M.nlt h7.M.nd h7.M.nS
                have H7 := Lib.hid h7
                clear h7 hlo hre
                go_wp2_with fail
                refine hop.mono ?_
                rintro en w8 ⟨hc8, l8, ev8, v8, N8, rfl, hN8, hv8, hM8, hl8, hev8⟩
                have h8 := (H7.out.anew hc8 hM8 hN8 hv8 hl8 hev8).rel HSM5.out hes5 (show life ≤ 2 * (k + 1) by omega)
                clear hop hc8 hM8 hN8 hv8 hl8 hev8 H7
                go_wp2_with fail
                exact ⟨⟨k + 1, l8, by omega, by go_num, rfl, h8⟩, by simp [intOf]; omega⟩
              · rw [hre] at z4
                have h8 := h7.rel HSM5.out hes5 (show life ≤ 2 * (k + 1) by omega)
                clear h7 hlo hre
                go_wp2_with fail
                exact ⟨⟨k + 1, l, by omega, by go_num, rfl, h8⟩, by simp [intOf]; omega⟩
          · have hpt := lPutDown h2.M hdn Ae ce x.e h2.bytsM HAE.out hue hle (by omega) hfl
            obtain ⟨zz, hozz, -⟩ := h2.K.en
            obtain ⟨Ak, ck, rfl⟩ := own_len hozz
            have H2 := Lib.hid h2
            have hat4 : ((x.at_ : Int) % 4 == 0) = false := by simp; omega
            have hesn : ((es.length : Int) == (es.length : Int) + 1) = false := by simp; omega
            clear h2 hdn hfl hozz
            go_wp2_with fail
            refine hpt.mono ?_
            rintro en w3 ⟨rfl, hc3, v3, tail, N3, hfv, htl, hN3, hM3⟩
            have h3 := H2.out.step hc3 hM3 hN3 hfv (Fresh.refl _ _)
            have har := lArm h3.M.dk 0 (by omega)
            have H3 := Lib.hid h3
            have HTL := Lib.hid htl
            clear hpt hc3 hfv hN3 hM3 h3 H2 z0 htl
            go_wp2_with fail
            refine har.mono ?_
            rintro en w4 ⟨rfl, hd4, hc4⟩
            have h4 := H3.out.step (hc4.mono fun b _ hb => .inl hb) (H3.out.M.disk (hc4.mono fun b _ hb => .inl hb) hd4 rfl (.inl rfl)) (fun b hb => .inl hb) (.inl rfl) (.inl rfl)
            obtain ⟨N4, h4⟩ : ∃ N4, St w0 w4 w0.heap.size l ⟨v3, flat es ++ tail, (flat es).length, 0, true, life⟩ true ev (.slice Ak es.length ck) es es N4 x Ae ce B0 := ⟨_, h4⟩
            have z0 := h4.B.c0
            have z1 := h4.B.c1
            have hdw := ldown h4.M.dk
            have hpd := lPutDead h4.M Ae x.e.length ce
            have H4 := Lib.hid h4
            clear har hd4 hc4 H3 h4
            go_wp2_with (first
              | (go_at_call 9; refine hdw.mono ?_; rintro en w5 ⟨rfl, rfl⟩)
              | fail)
            refine hpd.mono ?_
            rintro en w6 ⟨rfl, hd6⟩
            have h6 := H4.out.drew hd6
            have hen6 := lEntries h6.M.lg h6.M.en HSM.out.u8s (by omega)
            have H6 := Lib.hid h6
            clear hdw hpd hd6 h6 H4 z0 z1
            go_wp2_with fail
            refine hen6.mono ?_
            rintro en w7 ⟨v7, N7, rfl, hen7, hb7⟩
            have h7 := H6.out.below hb7
            have hsa := lSame hen7.rd h7.K.en.rd (by omega)
            have H7 := Lib.hid h7
            clear hen6 hen7 hb7 h7 H6
            go_wp2_with fail
            refine hsa.mono ?_
            rintro en w8 ⟨rfl, hd8⟩
            have h8 := H7.out.drew hd8
            have z0 := h8.B.c0
            have z1 := h8.B.c1
            have z2 := h8.B.c2
            have z3 := h8.B.c3
            have z4 := h8.B.c4
            have z5 := h8.B.c5
            have z6 := h8.B.c6
            have hrv := lRevived (N0 := N4) h8.M.dk rfl HTL.out rfl (HSM.out.snoc hue hle).u8s (by omega) (by show life ≤ 800; omega) h8.M.nlt h8.M.nd h8.M.nS (.slice Ae x.e.length ce) x.at_ x.again x.lost x.reopen x.keep x.rest hag
            have H8 := Lib.hid h8
            clear hsa hd8 h8 H7
            go_wp2_with fail
            refine hrv.mono ?_
            rintro en w9 ⟨hc9, gs, l9, ev9, v9, life9, N9, hgs, rfl, hN9, hv9, hlf9, hM9, hl9, hev9⟩
            have h9 := H8.out.anew hc9 hM9 hN9 hv9 hl9 hev9
            have hlf10 : life9 ≤ 2 * (k + 1) := by have : life9 ≤ life + 2 := hlf9; omega
            have hsg : Small gs := by
              rcases hgs with h | h
              · rw [h]; exact HSM.out
              · rw [h.1]; exact HSM.out.snoc hue hle
            have hgl : gs.length ≤ es.length + 1 := by
              rcases hgs with h | h
              · rw [h]; omega
              · rw [h.1]; simp
            have hen9 := lEntries2 h9.M.lg h9.M.en hsg.u8s (by omega)
            have HKL := Lib.hid (fun g hg => (h9.K.en.lt g hg).2)
            have H9 := Lib.hid h9
            have HGS := Lib.hid hgs
            have HSG := Lib.hid hsg
            clear hrv hc9 hN9 hv9 hlf9 hM9 hl9 hev9 h9 H8 z0 z1 z2 z3 z4 z5 z6 hgs hsg
            go_wp2_with fail
            refine hen9.mono ?_
            rintro en w10 ⟨v10, N10, rfl, hen10, hO10, hb10⟩
            have h10 := H9.out.below hb10
            have hrd := hen10.rd
            have z0 := h10.B.c0
            obtain ⟨A10, c10, rfl, -⟩ := id hrd
            have HRD := Lib.hid hrd
            have H10 := Lib.hid h10
            have HEN := Lib.hid hen10
            have HO := Lib.hid hO10
            have HV := Lib.hid (fun g hg => (hen10.lt g hg).1)
            have hs10 := hb10.size
            clear hen9 hen10 hO10 hb10 h10 H9 hrd
            rcases HGS.out with hg | ⟨hg, -⟩
            · subst hg
              have hsa := lSame HRD.out H10.out.K.en.rd (by omega)
              go_wp2_with fail
              refine hsa.mono ?_
              rintro en w11 ⟨rfl, hd11⟩
              have h11 := (H10.out.drew hd11).rel HSG.out (by omega : _ ≤ k + 1) hlf10
              clear hsa hd11 H10 HRD z0
              go_wp2_with fail
              exact ⟨⟨k + 1, l9, by omega, by go_num, rfl, h11⟩, by simp [intOf]; omega⟩
            · obtain ⟨zs, hoz, hkp⟩ := H10.out.keep HAE.out
              have hW10 := H10.out.Wl
              have HKP := Lib.hid hkp
              have HG := Lib.hid hg
              have hgn : gs.length = es.length + 1 := by rw [hg]; simp
              have HGN := Lib.hid hgn
              rw [hgn]
              have hoz4 := hoz.alloc (.cells #[.slice Ae x.e.length ce] 24)
              have hz4 : (w10.alloc (.cells #[.slice Ae x.e.length ce] 24)).cell? ⟨w10.heap.size, 0, none⟩ = some (.slice Ae x.e.length ce) := by simp [go_sem]
              have HS5 : Hid (∀ (w5 : World) (kv5 : Value), (w10.alloc (.cells #[.slice Ae x.e.length ce] 24)).grownBy w5 (Value.slice Ak es.length ck).ownBlock → (∃ N', St w0 w5 w0.heap.size l9 ⟨v9, flat gs, (flat gs).length, 0, false, life9⟩ false ev9 kv5 gs (es ++ [x.e]) N' x Ae ce B0) →
                  Calls Try.prog 10 #[.slice A10 (es.length + 1) c10, kv5] w5 fun en w' => en = .returned (.bool true) ∧ Drew w5 w') := Lib.hid fun w5 kv5 hg5 ⟨N', h5⟩ => by
                have hb4 : Below w10.heap.size w10 (w10.alloc (.cells #[.slice Ae x.e.length ce] 24)) := (Below.refl _ _).alloc (Nat.le_refl _) _
                have e4 := HEN.out.step (N' := N10) (Chg.of_below (T := fun _ => False) hb4) (fun _ _ h => h.elim) (fun _ _ h => h) (fun _ _ h => h)
                have e5 := e4.step (N' := N10) (Chg.of_grown (T := fun b => (Value.slice Ak es.length ck).ownBlock = some b) hg5 fun g hg => hg) (fun b _ hb => HO.out b (HKL.out b hb)) (fun g hg hh => by have := HKL.out g hh; have := HV.out g hg; omega) (fun _ _ h => h)
                have h5' := h5.K.en.rd
                rw [← HG.out] at h5'
                have := lSame e5.rd h5' (by have := HGN.out; omega)
                rw [HGN.out] at this
                exact this
              clear hkp hg hgn hgl HGS HRD
              go_wp2_with (first
                | (at_builtin; go_loud (refine wpList_push ?_ (.tmp 125) (.tmp 128) ?_ w0.heap.size (.slice Ak es.length ck) es.length zs ?_ hoz4 w10.heap.size (.slice Ae x.e.length ce) ?_ hz4 ?_ ?_ ?_ ?_; (solve | (rfl)); (solve | (rfl)); (solve | (rfl)); (solve | (rfl)); (solve | (rfl)); (solve | (omega)); (solve | (simp; omega)); (intro kv5 w5 ho5 hg5 hat5; have h5 := Lib.hid (HKP.out _ _ _ _ ho5 hg5 hat5); have hsa := HS5.out _ _ hg5 h5.out; clear ho5 hg5 hat5)))
                | (go_at_call 10; refine hsa.mono ?_; rintro en w11 ⟨rfl, hd11⟩)
                | fail)
              obtain ⟨N5, h5⟩ := h5.out
              rw [← HG.out] at h5
              have h11 := (h5.drew hd11).rel HSG.out (show gs.length ≤ k + 1 by have := HGN.out; omega) hlf10
              exact ⟨⟨k + 1, l9, by omega, by go_num, rfl, h11⟩, by simp [intOf]; omega⟩
        · obtain rfl : k = xs.length := by omega
          go_wp2_with (first
            | (go_at_call 4; refine lLogs.mono ?_; rintro e w9 ⟨rfl, hb9⟩)
            | fail)
          go_ret
          exact ⟨rfl, hbw.trans (hb9.mono hbw.size)⟩
end Go.Proofs.Ytikfeoghmpoigaa
