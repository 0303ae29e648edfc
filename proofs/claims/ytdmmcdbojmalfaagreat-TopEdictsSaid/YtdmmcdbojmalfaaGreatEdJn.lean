/- TopEdicts: the junctions on a version. -/
import Derived.Test.YtdmmcdbojmalfaaGreatEdQ
import Derived.Test.YtdmmcdbojmalfaaGreatEdH
import Derived.Test.YtdmmcdbojmalfaaGreatCry
import Derived.Deep.RegionHeld3
namespace Go.Proofs.YtdmmcdbojmalfaaGreat
open Go.RowKit
/-- Ascending, within a road. -/
def GoodJ (N : Int) (zs : List Int) : Prop := ∀ k, k < zs.length → (1 ≤ at0 zs k ∧ at0 zs k ≤ N - 1) ∧ (0 < k → at0 zs (k - 1) < at0 zs k)
theorem at0_left {zs : List Int} {y : Int} {k : Nat} (h : k < zs.length) : at0 (zs ++ [y]) k = at0 zs k := by simp [at0, List.getElem?_append_left h]
theorem at0_last {zs : List Int} {y : Int} : at0 (zs ++ [y]) zs.length = y := by simp [at0]
theorem goodJ_snoc {N y : Int} {zs : List Int} (h : GoodJ N zs) (h1 : 0 < y) (h2 : y < N) (h3 : ∀ q, zs.length = q + 1 → at0 zs q < y) : GoodJ N (zs ++ [y]) := by
  intro k hk
  rw [List.length_append, List.length_singleton] at hk
  by_cases e : k = zs.length
  · subst e
    rw [at0_last]
    refine ⟨by omega, fun h0 => ?_⟩
    obtain ⟨q, hq⟩ : ∃ q, zs.length = q + 1 := ⟨zs.length - 1, by omega⟩
    rw [hq, Nat.add_sub_cancel, at0_left (by omega)]
    exact h3 q hq
  · have hk' : k < zs.length := by omega
    rw [at0_left hk']
    refine ⟨(h k hk').1, fun h0 => ?_⟩
    rw [at0_left (by omega)]
    exact (h k hk').2 h0
theorem heldJ {wB w' : World} {a b o : Nat} {x0 x1 x2 z : Value} (ha : a < wB.heap.size) (hb : b < wB.heap.size) (q0 : wB.cell? ⟨a, 0, none⟩ = some x0) (q1 : wB.cell? ⟨a, 1, none⟩ = some x1) (q2 : wB.cell? ⟨a, 2, none⟩ = some x2)
    (y : wB.cell? ⟨b, o, none⟩ = some z) (h : Below wB.heap.size wB w') :
    Below wB.heap.size wB w' ∧ w'.cell? ⟨a, 0, none⟩ = some x0 ∧ w'.cell? ⟨a, 1, none⟩ = some x1 ∧ w'.cell? ⟨a, 2, none⟩ = some x2 ∧ w'.cell? ⟨b, o, none⟩ = some z :=
  ⟨h, (h.cell (p := ⟨a, 0, none⟩) ha).trans q0, (h.cell (p := ⟨a, 1, none⟩) ha).trans q1, (h.cell (p := ⟨a, 2, none⟩) ha).trans q2, (h.cell (p := ⟨b, o, none⟩) hb).trans y⟩
def JntRes (N : Int) (J : List Int) (w : World) (e : Ending) (w' : World) : Prop :=
  ∃ (zs : List Int) (A : Option Addr) (c : Nat), e = .returned (.slice A zs.length c) ∧ Ints w' w'.heap.size A zs ∧ zs.length ≤ J.length ∧ GoodJ N zs ∧ Below w.heap.size w w'
set_option maxRecDepth 100000 in
set_option maxHeartbeats 16000000 in
theorem lJoints (AC A : Option Addr) (cC c B : Nat) (num L N ver : Int) (cs : List Chg) (J : List Int) (w : World) (hC : Chs w B AC cs) (h : Ints w B A J) (hB : B ≤ w.heap.size) (hn : J.length ≤ 50) (hcs : cs.length ≤ 9223372036854775807) :
    Calls Tryz.prog 10 #[.agg #[.int .i64 num, .int .i64 L, .slice AC cs.length cC], .slice A J.length c, .int .i64 ver, .int .i64 N] w (JntRes N J w) := by
  have hT := RdBox.new (c := cC) (num := num) (L := L) (T := 24) hC hB
  have hb : Below w.heap.size w (w.alloc (.cells #[.int .i64 num, .int .i64 L, .slice AC cs.length cC] 24)) := (Below.refl _ _).alloc (Nat.le_refl _) _
  have hr1 := (h.more hB).below hb
  unfold JntRes
  obtain ⟨W, hW⟩ : ∃ W, w.heap.size = W := ⟨_, rfl⟩
  rw [hW] at hT hb hr1
  have HB := Lib.hid hb
  clear hC h hb
  go_enter Tryz.func10, Tryz.ntmps10
  go_upto_region 1 with fail
  have hz1 : (w.alloc (.cells #[.int .i64 num, .int .i64 L, .slice AC cs.length cC] 24)).heap.size = W + 1 := by rw [← hW]; simp
  generalize w.alloc (.cells #[.int .i64 num, .int .i64 L, .slice AC cs.length cC] 24) = w1 at *
  have HT := Lib.hid hT
  clear hT
  go_wp2_with fail
  have hr0 : w1.ownsRow (W + 1) 3 1 (.slice none 0 0) ([] : List Int).length (([] : List Int).map (.int .i64)) := World.ownsRow_nil _ _ _ _
  go_loopw [9, 10] (fun v i wr => ∃ (k : Nat) (zs : List Int), k ≤ J.length ∧ i = .int .i64 k ∧ zs.length ≤ k ∧ Hid (GoodJ N zs) ∧ wr.ownsRow (W + 1) 3 1 v zs.length (zs.map (.int .i64)) ∧ Below (W + 1) w1 wr) (fun _ i _ => J.length - (intOf i).toNat)
  case atStart => exact ⟨0, [], Nat.zero_le _, rfl, Nat.le_refl _, Lib.hid fun k hk => absurd hk (Nat.not_lt_zero _), hr0, Below.refl _ _⟩
  case round =>
    obtain ⟨k, zs, hk, rfl, hzk, HG, hown, hbk⟩ := hrel
    clear hr0
    have hsz := hbk.size
    by_cases hlt : k < J.length
    · obtain ⟨b, o, rfl, hbb, hcc⟩ := (hr1.below (hbk.mono (by omega))).at_ hlt
      have y0 := hcc k hlt
      have hTr := HT.out.below hbk (Nat.lt_succ_self W)
      obtain ⟨hch, q0, q1, q2, -, _⟩ := id hTr
      have hWr : W < wr.heap.size := by omega
      have hbr : b < wr.heap.size := by omega
      have hBr : B ≤ wr.heap.size := by have := hTr.lt; omega
      have hkI : (k : Int) < (J.length : Int) := by omega
      generalize at0 J k = y at *
      have HO := Lib.hid hown
      have HBK := Lib.hid hbk
      have HTR := Lib.hid hTr
      obtain ⟨-, Av, cv, hv', -⟩ := (⟨(by simp : zs.length = zs.length), (owns_ints hown (by simp))⟩ : zs.length = zs.length ∧ _)
      subst hv'
      clear hown hbk hch hTr hcc
      go_upto_region 5 with fail
      go_region_held3 (fun w' => Below wr.heap.size wr w' ∧ w'.cell? ⟨W, 0, none⟩ = some (.int .i64 num) ∧ w'.cell? ⟨W, 1, none⟩ = some (.int .i64 L) ∧ w'.cell? ⟨W, 2, none⟩ = some (.slice AC cs.length cC) ∧ w'.cell? ⟨b, o + k, none⟩ = some (.int .i64 y)) ((refine heldJ hWr hbr q0 q1 q2 y0 ?_; first | assumption | exact hbm2 | exact Below.refl _ _ | exact (Below.refl _ _).drew | exact below_drewN (Below.refl _ _) _ | fail)) (first
        | (go_at_call 16; refine (lCarry AC cC B num L cs y 0 ver _ ?_ ?_ hcs).mono ?_; (solve | exact HTR.out.ch.below (Below.mono (And.left (by assumption)) hBr)); (solve | exact Nat.le_trans hBr (Below.size (And.left (by assumption)))); (rintro e wk ⟨cv2, er, -, rfl, hbm⟩); have hbm2 : Below wr.heap.size wr wk := Below.trans (And.left (by assumption)) (hbm.mono (Below.size (And.left (by assumption)))))
        | fail)
      all_goals
        have HOk := Lib.hid (owns_keep HO.out hbm2)
        have HBKk := Lib.hid (HBK.out.trans (hbm2.mono (by omega)))
        have hszk := hbm2.size
        clear hbm hbm2 q0 q1 q2 y0 HO HBK
        have hskip : Hid (∀ wz, wz = wk → wz.ownsRow (W + 1) 3 1 (.slice Av zs.length cv) zs.length (zs.map (.int .i64)) ∧ Below (W + 1) w1 wz) := Lib.hid fun wz e => by rw [e]; exact ⟨HOk.out, HBKk.out⟩
        by_cases he : er = 0
        rotate_left
        · have e1 : (er == 0) = false := by simp [he]
          clear he
          go_wp2_with fail
          exact ⟨⟨k + 1, zs, by omega, by go_num, by omega, HG, HOk.out, HBKk.out⟩, by simp [intOf]; omega⟩
        subst he
        by_cases h1 : 0 < cv2
        rotate_left
        · go_wp2_with fail
          exact ⟨⟨k + 1, zs, by omega, by go_num, by omega, HG, HOk.out, HBKk.out⟩, by simp [intOf]; omega⟩
        by_cases h2 : cv2 < N
        rotate_left
        · go_wp2_with fail
          exact ⟨⟨k + 1, zs, by omega, by go_num, by omega, HG, HOk.out, HBKk.out⟩, by simp [intOf]; omega⟩
        cases hzl : zs.length with
        | zero =>
          have HGN := Lib.hid (goodJ_snoc HG.out h1 h2 (fun q hq => by omega))
          have HZL := Lib.hid hzl
          rw [hzl] at HOk
          obtain rfl := List.eq_nil_of_length_eq_zero hzl
          clear hzl
          go_wp2_with (first
            | (at_builtin; go_loud (refine wpList_push ?_ (.tmp 55) (.tmp 57) 25 ?_ (W + 1) 3 1 8 Tryz.underlying25 info3 ?_ ?_ ?_ (.slice Av 0 cv) 0 ([] : List Value) ?_ HOk.out wk.heap.size ?_ ?_ ?_ ?_ ?_ ?_ ?_; (solve | (rfl)); (solve | (rfl)); (solve | (rfl)); (solve | (decide)); (solve | (decide)); (solve | (rfl)); (solve | (rfl)); (solve | (rfl)); (solve | (rfl)); (solve | (intro u hu; simp at hu; rw [hu]; rfl)); (solve | (omega)); (solve | (omega)); (intro A7 c7 w7 hp7; have HPU := Lib.hid hp7; clear hp7)))
            | fail)
          exact ⟨⟨k + 1, [cv2], by omega, by go_num, by simp, by simpa using HGN, HPU.out.own, HBKk.out.trans HPU.out.below⟩, by simp [intOf]; omega⟩
        | succ q =>
          have ho := HOk.out
          rw [hzl] at ho
          obtain ⟨g, cap, hv, hgl, hgh⟩ := ho.form (Nat.succ_pos q)
          injection hv with hv1 _ hv2
          subst hv1 hv2
          have hc := ho.cellAt q (by omega)
          have e0 : (zs.map (Value.int .i64))[q]? = some (.int .i64 (at0 zs q)) := by simp [at0, show q < zs.length by omega]
          rw [e0] at hc
          have HC := Lib.hid hc
          by_cases h3 : at0 zs q < cv2
          · have HGN := Lib.hid (goodJ_snoc HG.out h1 h2 (fun q' hq => (show q = q' by omega) ▸ h3))
            have HZL := Lib.hid hzl
            rw [hzl] at HOk
            generalize at0 zs q = lst at *
            have hqk : (q : Int) < (q : Int) + 1 := by omega
            have hq0 : ((q : Int) + 1 == 0) = false := by simp; omega
            have hq5 : q < 1000 := by have := HZL.out; omega
            clear ho e0 hzl
            go_wp2_with (first
              | (at_builtin; go_loud (refine wpList_push ?_ (.tmp 55) (.tmp 57) 25 ?_ (W + 1) 3 1 8 Tryz.underlying25 info3 ?_ ?_ ?_ (.slice (some ⟨g, 0, none⟩) (q + 1) cv) (q + 1) (zs.map (.int .i64)) ?_ HOk.out wk.heap.size ?_ ?_ ?_ ?_ ?_ ?_ ?_; (solve | (rfl)); (solve | (rfl)); (solve | (rfl)); (solve | (decide)); (solve | (decide)); (solve | (rfl)); (solve | (rfl)); (solve | (rfl)); (solve | (rfl)); (solve | (intro u hu; simp at hu; rw [hu]; rfl)); (solve | (omega)); (solve | (omega)); (intro A7 c7 w7 hp7; have HPU := Lib.hid hp7; clear hp7)))
              | fail)
            exact ⟨⟨k + 1, zs ++ [cv2], by omega, by go_num, by have := HZL.out; rw [List.length_append, List.length_singleton]; omega, HGN, by rw [List.map_append, List.length_append, HZL.out]; exact HPU.out.own, HBKk.out.trans HPU.out.below⟩, by simp [intOf]; omega⟩
          · rw [hzl] at HOk
            have HZL := Lib.hid hzl
            generalize at0 zs q = lst at *
            have hqk : (q : Int) < (q : Int) + 1 := by omega
            have hq0 : ((q : Int) + 1 == 0) = false := by simp; omega
            have hq5 : q < 1000 := by have := HZL.out; omega
            clear ho e0 hzl
            go_wp2_with fail
            exact ⟨⟨k + 1, zs, by omega, by go_num, by omega, HG, by rw [HZL.out]; exact HOk.out, HBKk.out⟩, by simp [intOf]; omega⟩
    · obtain rfl : k = J.length := by omega
      have HO := Lib.hid hown
      have HBK := Lib.hid hbk
      obtain ⟨A9, c9, rfl, hI9⟩ := owns_ints hown (by simp)
      have HI := Lib.hid hI9
      clear hown hbk hI9
      go_wp2_with fail
      go_ret
      exact ⟨zs, A9, c9, rfl, HI.out, hzk, HG.out, by rw [hW]; exact HB.out.trans (HBK.out.mono (by omega))⟩
end Go.Proofs.YtdmmcdbojmalfaaGreat
