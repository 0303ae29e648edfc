/- TopEdicts: what Propose puts up in one direction for one topic. -/
import Derived.Test.YtdmmcdbojmalfaaGreatEdY
import Derived.IntWalk
namespace Go.Proofs.YtdmmcdbojmalfaaGreat
open Go.RowKit
/-- The signs for the posts at ks, numbered from n + 1 on. -/
def psg (topic dir hour L : Int) (Wv : Nat → Int) : Nat → List Nat → List Sgn
  | _, [] => []
  | n, k :: ks => postG ((n + 1 : Nat) : Int) topic (Wv k) (disF L dir k) dir hour :: psg topic dir hour L Wv (n + 1) ks
theorem psg_snoc (topic dir hour L : Int) (Wv : Nat → Int) : ∀ n ks k, psg topic dir hour L Wv n (ks ++ [k]) = psg topic dir hour L Wv n ks ++ [postG ((n + ks.length + 1 : Nat) : Int) topic (Wv k) (disF L dir k) dir hour]
  | n, [], k => by simp [psg]
  | n, q :: ks, k => by
    simp only [List.cons_append, psg, psg_snoc topic dir hour L Wv (n + 1) ks k, List.length_cons]
    rw [show n + 1 + ks.length + 1 = n + (ks.length + 1) + 1 by omega]
theorem psg_length (topic dir hour L : Int) (Wv : Nat → Int) : ∀ n ks, (psg topic dir hour L Wv n ks).length = ks.length
  | _, [] => rfl
  | n, k :: ks => by simp [psg, psg_length topic dir hour L Wv (n + 1) ks]
theorem pts_length (Wv : Nat → Int) (Jn : Nat → Prop) [DecidablePred Jn] : ∀ n, (pts Wv Jn n).length ≤ n
  | 0 => by simp [pts]
  | n + 1 => by
    have := pts_length Wv Jn n
    unfold pts
    split
    · omega
    · simp; omega
/-- The box of the signs. -/
structure PrAt (w0 w : World) (O : Nat) (v : Value) (ss : List Sgn) : Prop where
  co : w.cell? ⟨O, 0, none⟩ = some v
  fo : w.frozen? ⟨O, 0, none⟩ = false
  own : w.ownsRow (O + 1) 77 9 v ss.length (ss.flatMap encG)
  below : Below O w0 w
  lo : O < w.heap.size
section
variable {w0 w w' : World} {O g L : Nat} {v : Value} {ss : List Sgn} {f : Nat → Int}
theorem PrAt.step (h : PrAt w0 w O v ss) (hb : Below w.heap.size w w') : PrAt w0 w' O v ss := by
  have h1 := h.lo
  exact ⟨(hb.cell (p := ⟨O, 0, none⟩) h1).trans h.co, ((bcell hb).2 O 0 h1).trans h.fo, owns_keep h.own hb, h.below.trans (hb.mono (by omega)), Nat.lt_of_lt_of_le h1 hb.size⟩
theorem PrAt.push {A : Option Addr} {c : Nat} {s : Sgn} (h : PrAt w0 w O v ss) (hp : Pushed (O + 1) 77 9 w v ss.length (ss.flatMap encG ++ encG s) A c w') : PrAt w0 (w'.setCell ⟨O, 0, none⟩ (.slice A (ss.length + 1) c)) O (.slice A (ss.length + 1) c) (ss ++ [s]) := by
  have k2 := hp.below.cell (p := ⟨O, 0, none⟩) (Nat.lt_succ_self O)
  have k4 := (bcell hp.below).2 O 0 (Nat.lt_succ_self O)
  refine ⟨World.cell?_setCell_same _ _ _ (k2.trans h.co), by simpa using k4.trans h.fo, ?_, (h.below.trans (hp.below.mono (by omega))).setCell (p := ⟨O, 0, none⟩) (Nat.le_refl _) _, by have := hp.size; have := h.lo; simp; omega⟩
  refine ownsRow_setCell_below ?_ (Nat.lt_succ_self O) _
  rw [List.length_append, flat_one]
  exact hp.own
theorem IntsW.push {A : Option Addr} {c n : Nat} {zs : List Value} {u : Value} (h : IntsW w g L f) (hp : Pushed (O + 1) 77 9 w v n zs A c w') (hv : v.ownBlock ≠ some g) (hg : g ≠ O) : IntsW (w'.setCell ⟨O, 0, none⟩ u) g L f ∧ (Value.slice A (n + 1) c).ownBlock ≠ some g := by
  refine ⟨⟨by have := hp.size; have := h.1; simp; omega, fun m hm => ?_⟩, fun hh => ?_⟩
  · obtain ⟨k1, k2⟩ := hp.far ⟨g, m, none⟩ h.1 hv
    refine ⟨?_, by simpa using k2.trans (h.2 m hm).2⟩
    rw [World.cell?_setCell_other _ _ _ _ (fun hh => hg (by injection hh with h1; exact h1.symm))]
    exact k1.trans (h.2 m hm).1
  · rcases hp.at_ with e | ⟨q, e, hq⟩
    · exact hv (by rw [e]; exact hh)
    · rw [e] at hh
      injection hh with hh
      have := h.1
      omega
end
abbrev jnP (L dir : Int) (J : List Int) (k : Nat) : Prop := disF L dir k ∈ J
set_option maxRecDepth 100000 in
set_option maxHeartbeats 16000000 in
theorem lProp1 {w0 w : World} {W E H O L : Nat} {AJ A : Option Addr} {cJ c B : Nat} {J : List Int} {es S : List Edc} {hour : Int} (topic dir : Int) {v : Value} {ss : List Sgn}
    (hP : PrAt w0 w O v ss) (hx : LnBox w0 W L AJ J.length cJ) (hE : w0.cell? ⟨E, 0, none⟩ = some (.slice A es.length c)) (hH : w0.cell? ⟨H, 0, none⟩ = some (.int .i64 hour)) (hWO : W < O) (hEO : E < O) (hHO : H < O)
    (hJ : Ints w0 B AJ J) (hes : RowsK w0 B A 8 encE es) (hBO : B ≤ O) (hL : 1 ≤ L ∧ L ≤ 100000) (hv : ∀ x ∈ es, SmE x ∧ 0 ≤ x.fr ∧ x.til ≤ L) (hn : es.length ≤ 50) (hS : S.Perm es) (hSa : AscN S) (hJn : J.length ≤ 50)
    (ht : topic = 1 ∨ topic = 2) (hh : 0 ≤ hour ∧ hour ≤ 10000000) (hsn : ss.length ≤ 400000) :
    Calls Tryz.prog 27 #[.int .i64 topic, .int .i64 dir, .pointer (some ⟨W, 0, none⟩), .pointer (some ⟨E, 0, none⟩), .pointer (some ⟨H, 0, none⟩), .pointer (some ⟨O, 0, none⟩)] w
      fun e w' => e = .returned (.tuple #[]) ∧ ∃ v', PrAt w0 w' O v' (ss ++ psg topic dir hour L (fun k => strF topic dir hour S (metN L dir k)) ss.length (pts (fun k => strF topic dir hour S (metN L dir k)) (jnP L dir J) L)) := by
  have q0 := (hP.below.cell (p := ⟨W, 0, none⟩) hWO).trans hx.q0
  have q1 := (hP.below.cell (p := ⟨W, 1, none⟩) hWO).trans hx.q1
  have qE := (hP.below.cell (p := ⟨E, 0, none⟩) hEO).trans hE
  have qH := (hP.below.cell (p := ⟨H, 0, none⟩) hHO).trans hH
  have hlo := hP.lo
  have hms := lMustStrip A c B L (.slice AJ J.length cJ) es S hour dir topic w (hes.below (hP.below.mono hBO)) (by omega) hL hv hn hS hSa
  have HP := Lib.hid hP
  clear hes hv hS hSa hP
  have hX := Lib.hid hx
  clear hx
  obtain ⟨Wv, hWv⟩ : ∃ Wv : Nat → Int, (fun k => strF topic dir hour S (metN L dir k)) = Wv := ⟨_, rfl⟩
  rw [hWv]
  have hI' : ∀ k, k < L → strF topic dir hour S (metN L dir k) = Wv k := fun k _ => by rw [← hWv]
  have HIW := Lib.hid hI'
  clear hI' hWv
  go_enter Tryz.func27, Tryz.ntmps27
  go_wp2_with fail
  refine hms.mono ?_
  rintro e w2 ⟨g, rfl, hg, hI, hb2⟩
  have hP2 := HP.out.step hb2
  have hvg : v.ownBlock ≠ some g := fun hh => by have := (HP.out.own.lt _ hh).2; omega
  have hgO : g ≠ O := by omega
  clear hms hb2 HP q0 q1 qE qH
  have q0 := (hP2.below.cell (p := ⟨W, 0, none⟩) hWO).trans hX.out.q0
  have hz2 := hP2.lo
  have HP2 := Lib.hid hP2
  have HI2 := Lib.hid hI
  have hrel0 : PrAt w0 w2 O v (ss ++ psg topic dir hour L Wv ss.length (pts Wv (jnP L dir J) 0)) := by simpa [pts, psg] using hP2
  clear hP2 hI
  go_wp2_with fail
  clear q0
  go_loopw [9, 21] (fun nw i wr => ∃ k : Nat, k ≤ L ∧ i = .int .i64 k ∧ nw = .int .i64 (if k = 0 then 0 else Wv (k - 1)) ∧ IntsW wr g L (strF topic dir hour S) ∧ ∃ v', v'.ownBlock ≠ some g ∧ PrAt w0 wr O v' (ss ++ psg topic dir hour L Wv ss.length (pts Wv (jnP L dir J) k))) (fun _ i _ => L - (intOf i).toNat)
  case atStart => exact ⟨0, Nat.zero_le _, rfl, rfl, HI2.out, v, hvg, hrel0⟩
  case round =>
    obtain ⟨k, hk, rfl, rfl, hI, v', hvg', hP⟩ := hrel
    clear hrel0 hvg HI2 HP2
    by_cases hlt : k < L
    rotate_left
    · obtain rfl : k = L := by omega
      have HP := Lib.hid hP
      clear hI hP
      go_wp2_with fail
      go_end0
      exact ⟨rfl, v', HP.out⟩
    have hltI : (k : Int) < (L : Int) := by omega
    have hlo := hP.lo
    have hpl := pts_length Wv (jnP L dir J) k
    have hln : (ss ++ psg topic dir hour L Wv ss.length (pts Wv (jnP L dir J) k)).length = ss.length + (pts Wv (jnP L dir J) k).length := by rw [List.length_append, psg_length]
    have HPT : Hid (pts Wv (jnP L dir J) (k + 1) = if Wv k = curV Wv (jnP L dir J) k then pts Wv (jnP L dir J) k else pts Wv (jnP L dir J) k ++ [k]) := Lib.hid rfl
    have HPS : Hid (psg topic dir hour L Wv ss.length (pts Wv (jnP L dir J) k ++ [k]) = psg topic dir hour L Wv ss.length (pts Wv (jnP L dir J) k) ++ [postG ((ss.length + (pts Wv (jnP L dir J) k).length + 1 : Nat) : Int) topic (Wv k) (disF L dir k) dir hour]) := Lib.hid (psg_snoc ..)
    have HCV : Hid (curV Wv (jnP L dir J) k = if disF L dir k ∈ J then 0 else (if k = 0 then 0 else Wv (k - 1))) := Lib.hid (by
      cases k with
      | zero => simp [curV]
      | succ m => simp only [curV, Nat.succ_ne_zero, if_false, Nat.add_sub_cancel, jnP])
    have hds := fun wz => ldist L (.slice AJ J.length cJ) dir k wz (by omega) (by omega)
    have hme := fun wz => lmetre L (.slice AJ J.length cJ) dir k wz (by omega) (by omega)
    rw [metF_N hlt] at hme
    have hml := metN_lt (dir := dir) hlt
    have hmi : ((metN L dir k : Nat) : Int) < (L : Int) := by omega
    have hwk := HIW.out k hlt
    have q0 := (hP.below.cell (p := ⟨W, 0, none⟩) hWO).trans hX.out.q0
    have q1 := (hP.below.cell (p := ⟨W, 1, none⟩) hWO).trans hX.out.q1
    generalize hpv : (if k = 0 then 0 else Wv (k - 1)) = pv at *
    generalize hps : pts Wv (jnP L dir J) k = ps at *
    generalize hsk : ss ++ psg topic dir hour L Wv ss.length ps = sk at *
    have HSK := Lib.hid hsk
    have HPV := Lib.hid hpv
    have HPS0 := Lib.hid hps
    clear hpv hsk hps
    generalize hch : disF L dir (k : Int) = ch at *
    have HCH := Lib.hid hch
    clear hch
    have HHI := Lib.hid hI
    have HHP := Lib.hid hP
    clear hI hP
    -- distance
    go_wp2_with fail
    refine (hds _).mono ?_
    rintro e w5 ⟨rfl, hw5⟩
    have hb5 : Below wr.heap.size wr w5 := by rw [hw5]; exact (Below.refl _ _).alloc (Nat.le_refl _) _
    have hP5 := HHP.out.step hb5
    have hI5 := HHI.out.below hb5
    clear hw5 hb5 HHI HHP q0 q1 hds
    have q0 := (hP5.below.cell (p := ⟨W, 0, none⟩) hWO).trans hX.out.q0
    have q1 := (hP5.below.cell (p := ⟨W, 1, none⟩) hWO).trans hX.out.q1
    have hlo5 := hP5.lo
    have hct := lContains AJ cJ B J ch w5 (hJ.below (hP5.below.mono hBO)) (by omega)
    have HHI := Lib.hid hI5
    have HHP := Lib.hid hP5
    clear hI5 hP5
    go_wp2_with fail
    refine hct.mono ?_
    rintro e w6 ⟨rfl, rfl⟩
    clear hct
    by_cases hj : ch ∈ J
    · have hjb : decide (ch ∈ J) = true := decide_eq_true hj
      have HCVX := Lib.hid (show curV Wv (jnP L dir J) k = 0 by rw [HCV.out, if_pos hj])
      rw [hjb]
      clear hj hjb
      go_wp2_with fail
      refine (hme _).mono ?_
      rintro e w7 ⟨rfl, hw7⟩
      have hb7 : Below w6.heap.size w6 w7 := by rw [hw7]; exact (Below.refl _ _).alloc (Nat.le_refl _) _
      have hP7 := HHP.out.step hb7
      have hI7 := HHI.out.below hb7
      clear hw7 hb7 HHI HHP q0 q1 hme
      obtain ⟨c1, c2⟩ := hI7.2 _ hml
      rw [hwk] at c1
      have hg7 := hI7.1
      have HHI := Lib.hid hI7
      have HHP := Lib.hid hP7
      generalize hwt : Wv k = want at *
      have HWT := Lib.hid hwt
      clear hI7 hwt
      by_cases he : want = 0
      · have e1 : (want == 0) = true := by simp [he]
        have HT := Lib.hid (show pts Wv (jnP L dir J) (k + 1) = ps by rw [HPT.out, if_pos (by rw [HCVX.out, he])])
        have HE := Lib.hid he
        clear he hP7
        go_wp2_with fail
        exact ⟨⟨k + 1, by omega, by go_num, by rw [if_neg (Nat.succ_ne_zero k), Nat.add_sub_cancel, HWT.out, HE.out], HHI.out, v', hvg', by rw [HT.out, HSK.out]; exact HHP.out⟩, by simp [intOf]; omega⟩
      · have e1 : (want == 0) = false := by simp [he]
        have HT := Lib.hid (show pts Wv (jnP L dir J) (k + 1) = ps ++ [k] by rw [HPT.out, if_neg (by rw [HCVX.out]; exact he)])
        have qO := hP7.co
        have fO := hP7.fo
        have hOW := Lib.hid hP7.own
        have qH := (hP7.below.cell (p := ⟨H, 0, none⟩) hHO).trans hH
        have hlo7 := hP7.lo
        have hskn : sk.length ≤ 500000 := by omega
        obtain ⟨sg, hsg⟩ : ∃ sg, postG ((sk.length : Int) + 1) topic want ch dir hour = sg := ⟨_, rfl⟩
        have hpo : ∀ wz : World, Calls Tryz.prog 32 #[.int .i64 ((sk.length : Int) + 1), .int .i64 topic, .int .i64 want, .int .i64 ch, .int .i64 dir, .int .i64 hour] wz fun e w' => e = .returned (.agg #[.int .i64 sg.num, .int .i64 sg.kind, .int .i64 sg.val, .int .i64 sg.chain, .int .i64 sg.dir, .int .i64 sg.rank, .int .i64 sg.up, .int .i64 sg.down, .slice none 0 0]) ∧ Below wz.heap.size wz w' := fun wz => by
          have := lpost ((sk.length : Int) + 1) topic want ch dir hour wz ht hh
          rw [hsg] at this
          exact this
        obtain ⟨⟨Av, cv, hv'⟩⟩ : Nonempty (∃ Av cv, v' = .slice Av sk.length cv) := ⟨(own_rows encG_len hP7.own (by decide)).2.elim fun A h => h.elim fun c h => ⟨A, c, h.1⟩⟩
        subst hv'
        have hnum : ((ss.length + ps.length + 1 : Nat) : Int) = (sk.length : Int) + 1 := by rw [hln]; push_cast; rfl
        rw [hnum] at HPS
        have HSK2 := Lib.hid (show ss ++ psg topic dir hour L Wv ss.length (ps ++ [k]) = sk ++ [sg] by rw [HPS.out, ← List.append_assoc, HSK.out, hsg])
        have hwr : IntKind.i64.wrap ((sk.length : Int) + 1) = (sk.length : Int) + 1 := IntWalk.i64_in _ (by omega)
        clear he hP7 HPS HPT HCV hln hpl hnum hsg
        go_upto_region 10 with fail
        clear c1 c2 e1
        go_region_law ((first
          | (rw [if_pos (by rfl)]; go_simp; go_at_call 32; go_loud (refine (hpo _).mono ?_); (rintro e wp ⟨rfl, hbp⟩; have qO2 := (hbp.cell (p := ⟨O, 0, none⟩) hlo7).trans qO; have fO2 := ((bcell hbp).2 O 0 hlo7).trans fO; have qH2 := (hbp.cell (p := ⟨H, 0, none⟩) (Nat.lt_trans hHO hlo7)).trans qH; have hop := Lib.hid (owns_keep (World.ownsRow.drew hOW.out) hbp); have hszp : w7.heap.size ≤ wp.heap.size := hbp.size; have hlp : O < wp.heap.size := Nat.lt_of_lt_of_le hlo7 hszp; have hbw := Lib.hid hbp); go_wp2_with fail)
          | (go_loud (refine step_push ?_ (.tmp 42) (.tmp 52) 42 ?_ (O + 1) 77 9 88 Tryz.underlying42 info77 ?_ ?_ ?_ (.slice Av sk.length cv) sk.length (sk.flatMap encG) ?_ hop.out wp.heap.size ?_ ?_ ?_ ?_ ?_ ?_ ?_; (solve | (rfl)); (solve | (rfl)); (solve | (rfl)); (solve | (decide)); (solve | (decide)); (solve | (rfl)); (solve | (rfl)); (solve | (rfl)); (solve | (rfl)); (solve | (intro u hu; simp at hu; rcases hu with rfl | rfl | rfl | rfl | rfl | rfl | rfl | rfl | rfl <;> rfl)); (solve | (omega)); (solve | (omega)); (intro A7 c7 w8 hp7; have k2 := (hp7.below.cell (p := ⟨O, 0, none⟩) (Nat.lt_succ_self O)).trans qO2; have k4 := ((bcell hp7.below).2 O 0 (Nat.lt_succ_self O)).trans fO2; have HPU := Lib.hid hp7; have hlo8 := hp7.size; clear hp7)))
          | fail))
        all_goals
          have hPp := HHP.out.step (Below.trans (Below.drew (Below.refl _ _)) hbw.out)
          have hIp := HHI.out.below (Below.trans (Below.drew (Below.refl _ _)) hbw.out)
          have hfin := Lib.hid (hPp.push (s := sg) HPU.out)
          obtain ⟨hI8, hv8⟩ := hIp.push (u := .slice A7 (sk.length + 1) c7) HPU.out hvg' hgO
          have HI8 := Lib.hid hI8
          clear hPp hIp hI8
          go_wp2_with fail
          exact ⟨⟨k + 1, by omega, by go_num, by rw [if_neg (Nat.succ_ne_zero k), Nat.add_sub_cancel, HWT.out], HI8.out, _, hv8, by rw [HT.out, HSK2.out]; exact hfin.out⟩, by simp [intOf]; omega⟩
    · have hjb : decide (ch ∈ J) = false := decide_eq_false hj
      have HCVX := Lib.hid (show curV Wv (jnP L dir J) k = pv by rw [HCV.out, if_neg hj])
      rw [hjb]
      clear hj hjb
      go_wp2_with fail
      refine (hme _).mono ?_
      rintro e w7 ⟨rfl, hw7⟩
      have hb7 : Below w6.heap.size w6 w7 := by rw [hw7]; exact (Below.refl _ _).alloc (Nat.le_refl _) _
      have hP7 := HHP.out.step hb7
      have hI7 := HHI.out.below hb7
      clear hw7 hb7 HHI HHP q0 q1 hme
      obtain ⟨c1, c2⟩ := hI7.2 _ hml
      rw [hwk] at c1
      have hg7 := hI7.1
      have HHI := Lib.hid hI7
      have HHP := Lib.hid hP7
      generalize hwt : Wv k = want at *
      have HWT := Lib.hid hwt
      clear hI7 hwt
      by_cases he : want = pv
      · have e1 : (want == pv) = true := by simp [he]
        have HT := Lib.hid (show pts Wv (jnP L dir J) (k + 1) = ps by rw [HPT.out, if_pos (by rw [HCVX.out, he])])
        have HE := Lib.hid he
        clear he hP7
        go_wp2_with fail
        exact ⟨⟨k + 1, by omega, by go_num, by rw [if_neg (Nat.succ_ne_zero k), Nat.add_sub_cancel, HWT.out, HE.out], HHI.out, v', hvg', by rw [HT.out, HSK.out]; exact HHP.out⟩, by simp [intOf]; omega⟩
      · have e1 : (want == pv) = false := by simp [he]
        have HT := Lib.hid (show pts Wv (jnP L dir J) (k + 1) = ps ++ [k] by rw [HPT.out, if_neg (by rw [HCVX.out]; exact he)])
        have qO := hP7.co
        have fO := hP7.fo
        have hOW := Lib.hid hP7.own
        have qH := (hP7.below.cell (p := ⟨H, 0, none⟩) hHO).trans hH
        have hlo7 := hP7.lo
        have hskn : sk.length ≤ 500000 := by omega
        obtain ⟨sg, hsg⟩ : ∃ sg, postG ((sk.length : Int) + 1) topic want ch dir hour = sg := ⟨_, rfl⟩
        have hpo : ∀ wz : World, Calls Tryz.prog 32 #[.int .i64 ((sk.length : Int) + 1), .int .i64 topic, .int .i64 want, .int .i64 ch, .int .i64 dir, .int .i64 hour] wz fun e w' => e = .returned (.agg #[.int .i64 sg.num, .int .i64 sg.kind, .int .i64 sg.val, .int .i64 sg.chain, .int .i64 sg.dir, .int .i64 sg.rank, .int .i64 sg.up, .int .i64 sg.down, .slice none 0 0]) ∧ Below wz.heap.size wz w' := fun wz => by
          have := lpost ((sk.length : Int) + 1) topic want ch dir hour wz ht hh
          rw [hsg] at this
          exact this
        obtain ⟨⟨Av, cv, hv'⟩⟩ : Nonempty (∃ Av cv, v' = .slice Av sk.length cv) := ⟨(own_rows encG_len hP7.own (by decide)).2.elim fun A h => h.elim fun c h => ⟨A, c, h.1⟩⟩
        subst hv'
        have hnum : ((ss.length + ps.length + 1 : Nat) : Int) = (sk.length : Int) + 1 := by rw [hln]; push_cast; rfl
        rw [hnum] at HPS
        have HSK2 := Lib.hid (show ss ++ psg topic dir hour L Wv ss.length (ps ++ [k]) = sk ++ [sg] by rw [HPS.out, ← List.append_assoc, HSK.out, hsg])
        have hwr : IntKind.i64.wrap ((sk.length : Int) + 1) = (sk.length : Int) + 1 := IntWalk.i64_in _ (by omega)
        clear he hP7 HPS HPT HCV hln hpl hnum hsg
        go_upto_region 10 with fail
        clear c1 c2 e1
        go_region_law ((first
          | (rw [if_pos (by rfl)]; go_simp; go_at_call 32; go_loud (refine (hpo _).mono ?_); (rintro e wp ⟨rfl, hbp⟩; have qO2 := (hbp.cell (p := ⟨O, 0, none⟩) hlo7).trans qO; have fO2 := ((bcell hbp).2 O 0 hlo7).trans fO; have qH2 := (hbp.cell (p := ⟨H, 0, none⟩) (Nat.lt_trans hHO hlo7)).trans qH; have hop := Lib.hid (owns_keep (World.ownsRow.drew hOW.out) hbp); have hszp : w7.heap.size ≤ wp.heap.size := hbp.size; have hlp : O < wp.heap.size := Nat.lt_of_lt_of_le hlo7 hszp; have hbw := Lib.hid hbp); go_wp2_with fail)
          | (go_loud (refine step_push ?_ (.tmp 42) (.tmp 52) 42 ?_ (O + 1) 77 9 88 Tryz.underlying42 info77 ?_ ?_ ?_ (.slice Av sk.length cv) sk.length (sk.flatMap encG) ?_ hop.out wp.heap.size ?_ ?_ ?_ ?_ ?_ ?_ ?_; (solve | (rfl)); (solve | (rfl)); (solve | (rfl)); (solve | (decide)); (solve | (decide)); (solve | (rfl)); (solve | (rfl)); (solve | (rfl)); (solve | (rfl)); (solve | (intro u hu; simp at hu; rcases hu with rfl | rfl | rfl | rfl | rfl | rfl | rfl | rfl | rfl <;> rfl)); (solve | (omega)); (solve | (omega)); (intro A7 c7 w8 hp7; have k2 := (hp7.below.cell (p := ⟨O, 0, none⟩) (Nat.lt_succ_self O)).trans qO2; have k4 := ((bcell hp7.below).2 O 0 (Nat.lt_succ_self O)).trans fO2; have HPU := Lib.hid hp7; have hlo8 := hp7.size; clear hp7)))
          | fail))
        all_goals
          have hPp := HHP.out.step (Below.trans (Below.drew (Below.refl _ _)) hbw.out)
          have hIp := HHI.out.below (Below.trans (Below.drew (Below.refl _ _)) hbw.out)
          have hfin := Lib.hid (hPp.push (s := sg) HPU.out)
          obtain ⟨hI8, hv8⟩ := hIp.push (u := .slice A7 (sk.length + 1) c7) HPU.out hvg' hgO
          have HI8 := Lib.hid hI8
          clear hPp hIp hI8
          go_wp2_with fail
          exact ⟨⟨k + 1, by omega, by go_num, by rw [if_neg (Nat.succ_ne_zero k), Nat.add_sub_cancel, HWT.out], HI8.out, _, hv8, by rw [HT.out, HSK2.out]; exact hfin.out⟩, by simp [intOf]; omega⟩
end Go.Proofs.YtdmmcdbojmalfaaGreat
