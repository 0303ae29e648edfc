/- TopEdicts: what holds on each metre. -/
import Derived.Test.YtdmmcdbojmalfaaGreatEdX
import Derived.Test.YtdmmcdbojmalfaaGreatEdM
import Derived.Deep.RegionHeld3
namespace Go.Proofs.YtdmmcdbojmalfaaGreat
open Go.RowKit
def metN (L : Nat) (dir : Int) (k : Nat) : Nat := if dir = 1 then k else L - 1 - k
theorem metF_N {L k : Nat} {dir : Int} (h : k < L) : metF L dir k = (metN L dir k : Int) := by
  unfold metF metN
  split <;> omega
theorem metN_lt {L k : Nat} {dir : Int} (h : k < L) : metN L dir k < L := by
  unfold metN
  split <;> omega
theorem metN_metN {L k : Nat} {dir : Int} (h : k < L) : metN L dir (metN L dir k) = k := by
  unfold metN
  split <;> omega
theorem heldL {wB w' : World} {W n cJ : Nat} {L : Int} {AJ : Option Addr} (hz : W < wB.heap.size) (q0 : wB.cell? ⟨W, 0, none⟩ = some (.int .i64 L)) (q1 : wB.cell? ⟨W, 1, none⟩ = some (.slice AJ n cJ)) (hb : Below wB.heap.size wB w') :
    Below wB.heap.size wB w' ∧ w'.cell? ⟨W, 0, none⟩ = some (.int .i64 L) ∧ w'.cell? ⟨W, 1, none⟩ = some (.slice AJ n cJ) :=
  ⟨hb, (hb.cell (p := ⟨W, 0, none⟩) hz).trans q0, (hb.cell (p := ⟨W, 1, none⟩) hz).trans q1⟩
/-- The signs are those that Propose makes. -/
structure SgOk (hour : Int) (ss : List Sgn) : Prop where
  n : ss.length ≤ 200
  s : ∀ s ∈ ss, s.up ≤ hour ∧ hour < s.down ∧ (0 ≤ s.chain ∧ s.chain ≤ 1000000)
  k : ∀ s ∈ ss, s.kind = 1 ∨ s.kind = 2 ∨ s.kind = 3 ∨ s.kind = 4
theorem row_kinds {L dir hour : Int} {ss : List Sgn} {ys : List Mee} (h : SgOk hour ss) (hp : ys.Perm (rowL L dir ss)) : ys.length ≤ 400 ∧ ∀ x ∈ ys, x.s.kind = 1 ∨ x.s.kind = 2 ∨ x.s.kind = 3 ∨ x.s.kind = 4 := by
  refine ⟨by rw [hp.length_eq]; have := rowL_length L dir ss; have := h.n; omega, fun x hx => ?_⟩
  have := hp.mem_iff.1 hx
  unfold rowL at this
  obtain ⟨s, hs, rfl⟩ := List.mem_map.1 this
  exact h.k s (List.mem_filter.1 hs).1
theorem lastV_take {evs : List (Int × Int)} {j : Nat} (h : j < evs.length) : lastV (evs.take (j + 1)) = (atp evs j).2 := by
  rw [List.take_succ_eq_append_getElem h, lastV_snoc]
  simp [atp, h]
set_option maxRecDepth 100000 in
set_option maxHeartbeats 8000000 in
theorem lStripOf (AJ AS : Option Addr) (cJ c B L : Nat) (J : List Int) (ss : List Sgn) (hour dir topic : Int) (Wv : Nat → Int) (w : World) (hJ : Ints w B AJ J) (h : RowsK w B AS 9 encG ss) (hB : B ≤ w.heap.size) (hs : SgOk hour ss)
    (ht : topic = 1 ∨ topic = 2) (hL : 1 ≤ L ∧ L ≤ 100000) (hJn : J.length ≤ 50) (hJb : ∀ j, j < J.length → 0 ≤ at0 J j ∧ at0 J j ≤ 1000000)
    (hW : ∀ ys : List Mee, ys.Perm (rowL L dir ss) → (ys.Pairwise fun a b => ¬ MLt b a) → ∀ k : Nat, k < L → SaysAt (stopF L (evRow L dir topic J ys)).1 k (Wv k)) :
    Calls Tryz.prog 37 #[.agg #[.int .i64 L, .slice AJ J.length cJ], .slice AS ss.length c, .int .i64 hour, .int .i64 dir, .int .i64 topic] w (StripRes L (fun m => Wv (metN L dir m)) w) := by
  obtain ⟨i0, hi, hz0, hz2, hz3⟩ := info_parts info3
  have hb : Below w.heap.size w (w.alloc (.cells #[.int .i64 L, .slice AJ J.length cJ] 32)) := (Below.refl _ _).alloc (Nat.le_refl _) _
  have hx := LnBox.new w L AJ J.length cJ
  have hJ1 := (hJ.more hB).below hb
  have hs1 := (h.more hB).below hb
  have HS := Lib.hid hs
  have HT := Lib.hid ht
  have HJB := Lib.hid hJb
  have HWV := Lib.hid hW
  unfold StripRes
  obtain ⟨W, hWW⟩ : ∃ W, w.heap.size = W := ⟨_, rfl⟩
  rw [hWW] at hx hb hJ1 hs1
  clear hJ h hB hs ht hJb hW
  go_enter Tryz.func37, Tryz.ntmps37
  go_upto_region 1 with fail
  generalize w.alloc (.cells #[.int .i64 L, .slice AJ J.length cJ] 32) = w1 at *
  obtain ⟨q0, q1, hz⟩ := id hx
  go_upto_region 2 with (first
    | (at_make; go_loud (refine wpList_make_full _ rfl _ _ 72 rfl W 3 i0 (.int .i64 0) 1 Tryz.underlying72 hi hz0 hz2 .i64 .i64 L L L rfl rfl rfl rfl (by rw [hz3]; omega) (by unfold maxLen; omega) (by omega) ?_; intro w2 hown2 hgr2))
    | fail)
  have hI2 : IntsW w2 w1.heap.size L (fun _ => 0) := ⟨(hown2.lt _ rfl).2, fun m hm => ⟨by rw [hown2.cellAt m (by omega)]; rw [show (Value.int IntKind.i64 0).cells = #[Value.int .i64 0] from rfl, toList_madeCells_one]; simp [hm], hown2.frozenAt m⟩⟩
  have hb12 : Below W w1 w2 := (Below.refl W w1).grown hgr2 (by omega) (by intro k hk; cases hk)
  have hb12' : Below w1.heap.size w1 w2 := (Below.refl w1.heap.size w1).grown hgr2 (Nat.le_refl _) (by intro k hk; cases hk)
  have hx2 := hx.below hb12'
  have hs2 := hs1.below hb12
  have hJ2 := hJ1.below hb12
  have HB2 := Lib.hid (hb.trans hb12)
  have hs12 := hgr2.size
  obtain ⟨G, hG⟩ : ∃ G, w1.heap.size = G := ⟨_, rfl⟩
  simp only [hG] at *
  clear hs1 hJ1 hx q0 q1 hown2 hgr2 hb12 hb12' hb
  obtain ⟨q0, q1, hz2⟩ := id hx2
  have hWle : W ≤ w2.heap.size := by omega
  have hss : ss.length ≤ 1000 := by have := HS.out.n; omega
  have hL2 : (1 : Int) ≤ (L : Int) ∧ (L : Int) ≤ 100000 := by omega
  go_region_held3 (fun w' => Below w2.heap.size w2 w' ∧ w'.cell? ⟨W, 0, none⟩ = some (.int .i64 L) ∧ w'.cell? ⟨W, 1, none⟩ = some (.slice AJ J.length cJ)) ((refine heldL hz2 q0 q1 ?_; first | assumption | exact hbm2 | exact hbk2 | exact Below.refl _ _ | exact (Below.refl _ _).drew | exact below_drewN (Below.refl _ _) _ | fail)) (first
    | (go_at_call 55; refine (lrowOf AJ AS cJ c W J.length L ss hour dir _ ?_ ?_ hss HS.out.s hL2).mono ?_; (solve | exact hs2.below (Below.mono (And.left (by assumption)) hWle)); (solve | exact Nat.le_trans hWle (Below.size (And.left (by assumption)))); (rintro e wm ⟨ys, A5, c5, rfl, hyp, hyo, hR, hbm⟩); have hbm2 : Below w2.heap.size w2 wm := Below.trans (And.left (by assumption)) (hbm.mono (Below.size (And.left (by assumption)))))
    | (go_at_call 54; refine (lEvents AJ A5 cJ c5 wm.heap.size L J ys dir topic _ ?_ ?_ ?_ (row_kinds HS.out hyp).1 (row_kinds HS.out hyp).2 HT.out hL2 hJn HJB.out).mono ?_; (solve | exact ((hJ2.below (hbm2.mono hWle)).more (Nat.le_trans hWle hbm2.size)).below (below_drewN (Below.refl _ _) _) | exact (hJ2.below (hbm2.mono hWle)).more (Nat.le_trans hWle hbm2.size)); (solve | exact hR | exact hR.below (below_drewN (Below.refl _ _) _) | exact hR.below (Below.refl _ _).drew); (solve | exact Nat.le_refl _); (rintro e wk ⟨A6, c6, rfl, hP, hbk⟩); have hbk2 : Below w2.heap.size w2 wk := Below.trans (And.left (by assumption)) (hbk.mono (Below.size (And.left (by assumption)))))
    | fail)
  all_goals
    have hst : MsSt w wk wk W G wk.heap.size L (fun m => if metN L dir m < 0 then Wv (metN L dir m) else 0) := MsSt.congr (f := fun _ => 0) ⟨hI2.below hbk2, Nat.le_refl _, fun _ _ _ => rfl, HB2.out.trans (hbk2.mono hWle)⟩ fun m _ => by simp
    have hwm := hbm2.size
    have hwk := hbk2.size
    have hGm : G < w2.heap.size := hI2.1
    have hSay := Lib.hid (HWV.out ys hyp hyo)
    have hP2 : Hid (∀ k, k < (stopF (L : Int) (evRow L dir topic J ys)).1.length → ∃ b, A6 = some ⟨b, 0, none⟩ ∧ b ≠ G ∧ b < wk.heap.size ∧ wk.cell? ⟨b, k * 2, none⟩ = some (.int .i64 (atp (stopF (L : Int) (evRow L dir topic J ys)).1 k).1) ∧ wk.cell? ⟨b, k * 2 + 1, none⟩ = some (.int .i64 (atp (stopF (L : Int) (evRow L dir topic J ys)).1 k).2)) := Lib.hid fun k hk => by
      obtain ⟨b, h1, h2, h3, h4, h5⟩ := hP k hk
      exact ⟨b, h1, by have h2' : wm.heap.size ≤ b := h2; omega, h3, h4, h5⟩
    have hlv : (stopF (L : Int) (evRow L dir topic J ys)).1.length ≤ 9223372036854775807 := by
      have h1 := stopF_length L (evRow L dir topic J ys)
      have h2 := evRow_length L dir topic J ys ([], -1)
      have h3 := (row_kinds HS.out hyp).1
      simp only [evRow, List.length_nil] at h1 h2 ⊢; omega
    have q0' := (hbk2.cell (p := ⟨W, 0, none⟩) hz2).trans q0
    have q1' := (hbk2.cell (p := ⟨W, 1, none⟩) hz2).trans q1
    have hzk : W < wk.heap.size := by omega
    have hGk : G < wk.heap.size := by omega
    have hGW : W ≠ G := by omega
    generalize (stopF (L : Int) (evRow L dir topic J ys)).1 = evs at *
    clear HWV hP hbk hbk2 hbm hbm2 hyp hyo hR hI2 HB2 hs2 hJ2 hx2 q0 q1
    go_wp2_with fail
    go_loopw [13, 14, 30] (fun v nx i wr => ∃ k j : Nat, k ≤ L ∧ j ≤ evs.length ∧ v = .int .i64 (lastV (evs.take j)) ∧ nx = .int .i64 j ∧ i = .int .i64 k ∧ Hid (∀ i, i < j → (atp evs i).1 ≤ (k : Int)) ∧ MsSt w wk wr W G wk.heap.size L (fun m => if metN L dir m < k then Wv (metN L dir m) else 0)) (fun _ _ i _ => L - (intOf i).toNat)
    case atStart => exact ⟨0, 0, Nat.zero_le _, Nat.zero_le _, rfl, rfl, rfl, hid_none, hst⟩
    case round =>
      obtain ⟨k, j, hk, hj, rfl, rfl, rfl, HJ, hM⟩ := hrel
      clear hst
      by_cases hlt : k < L
      rotate_left
      · obtain rfl : k = L := by omega
        have fin := Lib.hid hM
        clear hM
        go_wp2_with fail
        go_ret
        exact ⟨G, rfl, by omega, fin.out.ints.congr fun m hm => by rw [if_pos (metN_lt hm)], by rw [hWW]; exact fin.out.below⟩
      have hltI : (k : Int) < (L : Int) := by omega
      have HM := Lib.hid hM
      have hwrs := hM.size
      have r0 := (hM.keep ⟨W, 0, none⟩ hGW hzk).trans q0'
      have r1 := (hM.keep ⟨W, 1, none⟩ hGW hzk).trans q1'
      clear hM
      go_upto_region 6 with fail
      go_wp2_with fail
      obtain ⟨w8, rfl⟩ : ∃ w8 : World, w8 = wr := ⟨_, rfl⟩
      go_loopw [13, 14] (fun v nx wz => ∃ j : Nat, j ≤ evs.length ∧ v = .int .i64 (lastV (evs.take j)) ∧ nx = .int .i64 j ∧ Hid (∀ i, i < j → (atp evs i).1 ≤ (k : Int)) ∧ wz = w8) (fun _ nx _ => evs.length - (intOf nx).toNat)
      case atStart => exact ⟨j, hj, rfl, rfl, HJ, rfl⟩
      case round =>
        obtain ⟨j, hj, rfl, rfl, HJ, rfl⟩ := hrel
        by_cases hjl : j < evs.length
        · obtain ⟨b, rfl, hbG, hbl, y0, y1⟩ := hP2.out j hjl
          replace y0 := (HM.out.keep ⟨b, j * 2, none⟩ hbG hbl).trans y0
          replace y1 := (HM.out.keep ⟨b, j * 2 + 1, none⟩ hbG hbl).trans y1
          have hjI : (j : Int) < (evs.length : Int) := by omega
          have HLV := Lib.hid (lastV_take hjl)
          have HFAR : Hid ((k : Int) < (atp evs j).1 → lastV (evs.take j) = Wv k) := Lib.hid fun hh => says_scan (hSay.out k hlt) hj HJ.out fun _ => hh
          have HJ2 : Hid ((atp evs j).1 ≤ (k : Int) → ∀ i, i < j + 1 → (atp evs i).1 ≤ (k : Int)) := Lib.hid fun hh i hi => by
            by_cases e : i = j
            · rw [e]; exact hh
            · exact HJ.out i (by omega)
          generalize atp evs j = p at *
          by_cases hf : p.1 ≤ (k : Int)
          · have HJ3 := Lib.hid (HJ2.out hf)
            go_wp2_with fail
            exact ⟨⟨j + 1, by omega, by rw [HLV.out], by go_num, HJ3, by first | rfl | trivial⟩, by simp [intOf]; omega⟩
          · have HW := Lib.hid (HFAR.out (by omega))
            have hme := lmetre L (.slice AJ J.length cJ) dir k wr (by omega) (by omega)
            rw [metF_N hlt] at hme
            have hA := HM.out.alloc (show W ≤ wk.heap.size by omega) (.cells #[.int .i64 L, .slice AJ J.length cJ] 32)
            have hml := metN_lt (dir := dir) hlt
            have hmm := Lib.hid (metN_metN (dir := dir) hlt)
            have hmi : ((metN L dir k : Nat) : Int) < (L : Int) := by omega
            obtain ⟨c1, c2⟩ := hA.ints.2 _ hml
            have hGa := hA.ints.1
            have fin := Lib.hid ((hA.store (by omega) hml (Wv k)).congr (f' := fun m => if metN L dir m < k + 1 then Wv (metN L dir m) else 0) fun m hm => by
              by_cases e : m = metN L dir k
              · subst e
                simp only [if_pos]
                rw [hmm.out, if_pos (Nat.lt_succ_self k)]
              · simp only [if_neg e]
                have hne : metN L dir m ≠ k := fun hh => e (by rw [← hh, metN_metN hm])
                by_cases e2 : metN L dir m < k
                · rw [if_pos e2, if_pos (by omega)]
                · rw [if_neg e2, if_neg (by omega)])
            have HWV := Lib.hid HW.out
            clear hA
            rw [HW.out]
            clear HFAR HLV HJ2
            go_wp2_with fail
            refine hme.mono ?_
            rintro e w9 ⟨rfl, rfl⟩
            clear hme r0 r1 q0' q1' y0 y1
            go_wp2_with fail
            exact ⟨⟨k + 1, j, by omega, hj, by rw [HWV.out], rfl, by go_num, Lib.hid fun i hi => by have := HJ.out i hi; push_cast; omega, fin.out⟩, by simp [intOf]; omega⟩
        · obtain rfl : j = evs.length := by omega
          have HW := Lib.hid (says_scan (hSay.out k hlt) hj HJ.out fun h => absurd h hjl)
          have hme := lmetre L (.slice AJ J.length cJ) dir k wr (by omega) (by omega)
          rw [metF_N hlt] at hme
          have hA := HM.out.alloc (show W ≤ wk.heap.size by omega) (.cells #[.int .i64 L, .slice AJ J.length cJ] 32)
          have hml := metN_lt (dir := dir) hlt
          have hmm := Lib.hid (metN_metN (dir := dir) hlt)
          have hmi : ((metN L dir k : Nat) : Int) < (L : Int) := by omega
          obtain ⟨c1, c2⟩ := hA.ints.2 _ hml
          have hGa := hA.ints.1
          have fin := Lib.hid ((hA.store (by omega) hml (Wv k)).congr (f' := fun m => if metN L dir m < k + 1 then Wv (metN L dir m) else 0) fun m hm => by
            by_cases e : m = metN L dir k
            · subst e
              simp only [if_pos]
              rw [hmm.out, if_pos (Nat.lt_succ_self k)]
            · simp only [if_neg e]
              have hne : metN L dir m ≠ k := fun hh => e (by rw [← hh, metN_metN hm])
              by_cases e2 : metN L dir m < k
              · rw [if_pos e2, if_pos (by omega)]
              · rw [if_neg e2, if_neg (by omega)])
          have HWV := Lib.hid HW.out
          clear hA
          rw [HW.out]
          go_wp2_with fail
          refine hme.mono ?_
          rintro e w9 ⟨rfl, rfl⟩
          clear hme r0 r1 q0' q1'
          go_wp2_with fail
          exact ⟨⟨k + 1, _, by omega, Nat.le_refl _, by rw [HWV.out], rfl, by go_num, Lib.hid fun i hi => by have := HJ.out i hi; push_cast; omega, fin.out⟩, by simp [intOf]; omega⟩
end Go.Proofs.YtdmmcdbojmalfaaGreat
