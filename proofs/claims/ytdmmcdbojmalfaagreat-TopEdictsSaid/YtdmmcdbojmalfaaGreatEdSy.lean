/- TopEdicts: says: edicts say on the new road what they said on the old one. -/
import Derived.Test.YtdmmcdbojmalfaaGreatEdFr
import Derived.Deep.RegionHeld3
import Derived.IntWalk
namespace Go.Proofs.YtdmmcdbojmalfaaGreat
open Go.RowKit
/-- What the boxes of says hold. -/
structure SyBox (w : World) (W : Nat) (num L : Int) (AC AJ A AJ2 : Option Addr) (nC cC nJ cJ nE cE nJ2 cJ2 : Nat) (hour NL : Int) : Prop where
  l0 : w.cell? ⟨W, 0, none⟩ = some (.int .i64 num)
  l1 : w.cell? ⟨W, 1, none⟩ = some (.int .i64 L)
  l2 : w.cell? ⟨W, 2, none⟩ = some (.slice AC nC cC)
  l3 : w.cell? ⟨W, 3, none⟩ = some (.slice AJ nJ cJ)
  l4 : w.cell? ⟨W, 4, none⟩ = some (.slice A nE cE)
  l5 : w.cell? ⟨W, 5, none⟩ = some (.int .i64 hour)
  r0 : w.cell? ⟨W + 1, 0, none⟩ = some (.int .i64 num)
  r1 : w.cell? ⟨W + 1, 1, none⟩ = some (.int .i64 L)
  r2 : w.cell? ⟨W + 1, 2, none⟩ = some (.slice AC nC cC)
  n0 : w.cell? ⟨W + 1 + 1, 0, none⟩ = some (.int .i64 NL)
  n1 : w.cell? ⟨W + 1 + 1, 1, none⟩ = some (.slice AJ2 nJ2 cJ2)
  o0 : w.cell? ⟨W + 1 + 1 + 1, 0, none⟩ = some (.int .i64 L)
  o1 : w.cell? ⟨W + 1 + 1 + 1, 1, none⟩ = some (.slice AJ nJ cJ)
  hi : W + 4 ≤ w.heap.size
theorem SyBox.below {w w' : World} {W : Nat} {num L : Int} {AC AJ A AJ2 : Option Addr} {nC cC nJ cJ nE cE nJ2 cJ2 : Nat} {hour NL : Int} (h : SyBox w W num L AC AJ A AJ2 nC cC nJ cJ nE cE nJ2 cJ2 hour NL) (hb : Below (W + 4) w w') : SyBox w' W num L AC AJ A AJ2 nC cC nJ cJ nE cE nJ2 cJ2 hour NL := by
  have k := fun (b o : Nat) (hlt : b < W + 4) => hb.cell (p := ⟨b, o, none⟩) hlt
  exact ⟨(k W 0 (by omega)).trans h.l0, (k W 1 (by omega)).trans h.l1, (k W 2 (by omega)).trans h.l2, (k W 3 (by omega)).trans h.l3, (k W 4 (by omega)).trans h.l4, (k W 5 (by omega)).trans h.l5, (k (W + 1) 0 (by omega)).trans h.r0, (k (W + 1) 1 (by omega)).trans h.r1, (k (W + 1) 2 (by omega)).trans h.r2, (k (W + 1 + 1) 0 (by omega)).trans h.n0, (k (W + 1 + 1) 1 (by omega)).trans h.n1, (k (W + 1 + 1 + 1) 0 (by omega)).trans h.o0, (k (W + 1 + 1 + 1) 1 (by omega)).trans h.o1, Nat.le_trans h.hi hb.size⟩
theorem heldY {wB w' : World} {W G : Nat} {q : Nat} {x0 x1 x4 x5 xg : Value} (h4 : W + 4 ≤ wB.heap.size) (hG : G < wB.heap.size) (o0 : wB.cell? ⟨W + 1 + 1 + 1, 0, none⟩ = some x0) (o1 : wB.cell? ⟨W + 1 + 1 + 1, 1, none⟩ = some x1) (l4 : wB.cell? ⟨W, 4, none⟩ = some x4) (l5 : wB.cell? ⟨W, 5, none⟩ = some x5)
    (g0 : wB.cell? ⟨G, q, none⟩ = some xg) (h : Below wB.heap.size wB w') :
    Below wB.heap.size wB w' ∧ w'.cell? ⟨W + 1 + 1 + 1, 0, none⟩ = some x0 ∧ w'.cell? ⟨W + 1 + 1 + 1, 1, none⟩ = some x1 ∧ w'.cell? ⟨W, 4, none⟩ = some x4 ∧ w'.cell? ⟨W, 5, none⟩ = some x5 ∧ w'.cell? ⟨G, q, none⟩ = some xg :=
  ⟨h, (h.cell (p := ⟨W + 1 + 1 + 1, 0, none⟩) (by simp only; omega)).trans o0, (h.cell (p := ⟨W + 1 + 1 + 1, 1, none⟩) (by simp only; omega)).trans o1, (h.cell (p := ⟨W, 4, none⟩) (by simp only; omega)).trans l4, (h.cell (p := ⟨W, 5, none⟩) (by simp only; omega)).trans l5, (h.cell (p := ⟨G, q, none⟩) hG).trans g0⟩
set_option maxRecDepth 100000 in
set_option maxHeartbeats 16000000 in
theorem lSays (AC AJ A AJ2 A2 : Option Addr) (cC cJ cE cJ2 c2 B : Nat) (num : Int) (L NL : Nat) (cs : List Chg) (J J2 : List Int) (es S ES : List Edc) (hour topic dir : Int) (w : World)
    (hC : Chs w B AC cs) (hJ : Ints w B AJ J) (he : RowsK w B A 8 encE es) (hJ2 : Ints w B AJ2 J2) (he2 : RowsK w B A2 8 encE ES) (hB : B ≤ w.heap.size)
    (hro : RoadOk num L cs) (hNL : (NL : Int) = lenAt L cs cs.length) (hLb : 1 ≤ L ∧ L ≤ 400) (hNb : 1 ≤ NL ∧ NL ≤ 400)
    (hv : VEds L J es) (hve : ∀ x ∈ es, SmE x ∧ 0 ≤ x.fr ∧ x.til ≤ L) (hS : S.Perm es) (hSa : AscN S) (hv2 : VEds NL J2 ES) (hve2 : ∀ x ∈ ES, SmE x ∧ 0 ≤ x.fr ∧ x.til ≤ NL) (hSa2 : AscN ES)
    (hh : inB 0 hour 10000000 = true) (hd : dirB dir = true) (ht : inB 1 topic 2 = true)
    (hEq : ∀ i, i < NL → strF topic dir hour ES i = if frF cs L i = 0 then 0 else strF topic dir hour S (frF cs L i - 1).toNat) :
    Calls Tryz.prog 11 #[.agg #[.int .i64 num, .int .i64 L, .slice AC cs.length cC, .slice AJ J.length cJ, .slice A es.length cE, .int .i64 hour], .agg #[.int .i64 num, .int .i64 L, .slice AC cs.length cC], .agg #[.int .i64 NL, .slice AJ2 J2.length cJ2], .slice A2 ES.length c2, .int .i64 topic, .int .i64 dir] w
      fun e w' => e = .returned (.bool true) ∧ Below w.heap.size w w' := by
  obtain ⟨i0, hi, hz0, hz2, hz3⟩ := info_parts info3
  obtain ⟨W, hW⟩ : ∃ W, w.heap.size = W := ⟨_, rfl⟩
  have hb4 : Below W w ((((w.alloc (.cells #[.int .i64 num, .int .i64 L, .slice AC cs.length cC, .slice AJ J.length cJ, .slice A es.length cE, .int .i64 hour] 28)).alloc (.cells #[.int .i64 num, .int .i64 L, .slice AC cs.length cC] 24)).alloc (.cells #[.int .i64 NL, .slice AJ2 J2.length cJ2] 32)).alloc (.cells #[.int .i64 L, .slice AJ J.length cJ] 32)) := ((((Below.refl _ _).alloc (by omega) _).alloc (by simp; omega) _).alloc (by simp; omega) _).alloc (by simp; omega) _
  have hx4 : SyBox ((((w.alloc (.cells #[.int .i64 num, .int .i64 L, .slice AC cs.length cC, .slice AJ J.length cJ, .slice A es.length cE, .int .i64 hour] 28)).alloc (.cells #[.int .i64 num, .int .i64 L, .slice AC cs.length cC] 24)).alloc (.cells #[.int .i64 NL, .slice AJ2 J2.length cJ2] 32)).alloc (.cells #[.int .i64 L, .slice AJ J.length cJ] 32)) W num L AC AJ A AJ2 cs.length cC J.length cJ es.length cE J2.length cJ2 hour NL := by
    rw [← hW]
    constructor <;> simp [go_sem]
  have hsz4 : ((((w.alloc (.cells #[.int .i64 num, .int .i64 L, .slice AC cs.length cC, .slice AJ J.length cJ, .slice A es.length cE, .int .i64 hour] 28)).alloc (.cells #[.int .i64 num, .int .i64 L, .slice AC cs.length cC] 24)).alloc (.cells #[.int .i64 NL, .slice AJ2 J2.length cJ2] 32)).alloc (.cells #[.int .i64 L, .slice AJ J.length cJ] 32)).heap.size = W + 4 := by simp [hW]
  have hBW : B ≤ W := by omega
  have hC4 := hC.below (hb4.mono hBW)
  have hJ4 := hJ.below (hb4.mono hBW)
  have he4 := he.below (hb4.mono hBW)
  have hJ24 := hJ2.below (hb4.mono hBW)
  have he24 := he2.below (hb4.mono hBW)
  have HRO := Lib.hid hro
  have HNL := Lib.hid hNL
  have HV := Lib.hid hv
  have HVE := Lib.hid hve
  have HS := Lib.hid hS
  have HSA := Lib.hid hSa
  have HV2 := Lib.hid hv2
  have HVE2 := Lib.hid hve2
  have HSA2 := Lib.hid hSa2
  have HEQ := Lib.hid hEq
  have HB4 := Lib.hid hb4
  clear hC hJ he hJ2 he2 hB hro hNL hv hve hS hSa hv2 hve2 hSa2 hEq hb4
  go_enter Tryz.func11, Tryz.ntmps11
  go_upto_region 2 with fail
  generalize (((w.alloc (.cells #[.int .i64 num, .int .i64 L, .slice AC cs.length cC, .slice AJ J.length cJ, .slice A es.length cE, .int .i64 hour] 28)).alloc (.cells #[.int .i64 num, .int .i64 L, .slice AC cs.length cC] 24)).alloc (.cells #[.int .i64 NL, .slice AJ2 J2.length cJ2] 32)).alloc (.cells #[.int .i64 L, .slice AJ J.length cJ] 32) = w4 at *
  have n0 := hx4.n0
  have HX4 := Lib.hid hx4
  clear hx4
  go_upto_region 3 with (first
    | (at_make; go_loud (refine wpList_make_full _ rfl _ _ 25 rfl (W + 4) 3 i0 (.int .i64 0) 1 Tryz.underlying25 hi hz0 hz2 .i64 .i64 NL NL NL rfl rfl rfl rfl (by rw [hz3]; omega) (by unfold maxLen; omega) (by omega) ?_; intro w5 hown5 hgr5))
    | fail)
  have hI5 : IntsW w5 w4.heap.size NL (fun i => frF cs 0 i) := ⟨(hown5.lt _ rfl).2, fun m hm => ⟨by rw [hown5.cellAt m (by omega)]; rw [show (Value.int IntKind.i64 0).cells = #[Value.int .i64 0] from rfl, toList_madeCells_one]; simp [hm, frF], hown5.frozenAt m⟩⟩
  have hb45 : Below (W + 4) w4 w5 := (Below.refl (W + 4) w4).grown hgr5 (by omega) (by intro k hk; cases hk)
  have hs5 := hgr5.size
  have hG4 : W + 4 ≤ w5.heap.size := by omega
  rw [hsz4] at hI5
  clear hown5 hgr5 n0
  have hL40 := HRO.out.2.2.1
  go_wp2_with fail
  go_loopw [15] (fun i wr => ∃ m : Nat, m ≤ L ∧ i = .int .i64 m ∧ IntsW wr (W + 4) NL (fun i => frF cs m i) ∧ Below (W + 4) w4 wr) (fun i _ => L - (intOf i).toNat)
  case atStart => exact ⟨0, Nat.zero_le _, rfl, hI5, hb45⟩
  case round =>
    obtain ⟨m, hm, rfl, hI, hb⟩ := hrel
    clear hI5 hb45
    have hX := HX4.out.below hb
    have hszr := hX.hi
    by_cases hlt : m < L
    · have r0 := hX.r0
      have r1 := hX.r1
      have r2 := hX.r2
      have hltI : (m : Int) < (L : Int) := by omega
      have hver : VersOk cs 0 cs.length := ⟨⟨by omega, by omega⟩, by omega, by omega⟩
      have hspo : SpOk L cs ((m : Int), (m : Int) + 1) 0 := ⟨by simp only; omega, by simp only; omega, by simp only [lenAt]; omega⟩
      have hkc := lKept2 AC cC B num L cs ((m : Int), (m : Int) + 1) 0 cs.length wr (hC4.below (hb.mono (by omega))) (by omega) (by omega)
      have hin := fun c h => fwd_in HRO.out (m := (m : Int)) (c := c) ⟨by omega, hltI⟩ h
      rw [← HNL.out] at hin
      have HIN := Lib.hid hin
      have HI := Lib.hid hI
      have HBB := Lib.hid hb
      have HVS := Lib.hid (And.intro hver hspo)
      clear hI hb hX hin hver hspo
      go_wp2_with fail
      refine hkc.mono ?_
      rintro e wk ⟨-, -, -, r4, hbk⟩
      obtain ⟨us, Ak, ck, hK, rfl, hP, -⟩ := r4 HRO.out HVS.out.1 HVS.out.2
      have hus := kept_one HRO.out (m := (m : Int)) (us := us) (by simpa using hK)
      have HIk := Lib.hid (HI.out.below hbk)
      have HBk := Lib.hid (HBB.out.trans (hbk.mono (by omega)))
      have hszk := hbk.size
      clear hkc r4 hK hbk r0 r1 r2 HI HBB HVS
      cases hf : fwd cs (m : Int) with
      | none =>
        rw [hf] at hus
        have hus' : us = [] := hus
        subst hus'
        have HF := Lib.hid hf
        have fin := Lib.hid (HIk.out.congr (f' := fun i => frF cs (m + 1) i) fun i _ => by simp only [frF]; rw [if_neg (by rw [HF.out]; simp)])
        clear hf hus hP
        go_wp2_with fail
        exact ⟨⟨m + 1, by omega, by go_num, fin.out, HBk.out⟩, by simp [intOf]; omega⟩
      | some c0 =>
        obtain ⟨u1, u2⟩ := HIN.out c0 hf
        obtain ⟨c, rfl⟩ := Int.eq_ofNat_of_zero_le u1
        rw [hf] at hus
        have hus' : us = [((c : Int), (c : Int) + 1)] := hus
        subst hus'
        obtain ⟨bk, ok, rfl, hbl, hcc⟩ := hP.at_ (k := 0) (by simp)
        obtain ⟨k0, k1⟩ := hcc 0 (by simp)
        have e1 : atp [((c : Int), (c : Int) + 1)] 0 = ((c : Int), (c : Int) + 1) := rfl
        rw [e1] at k0 k1
        simp only [Nat.zero_mul, Nat.add_zero] at k0 k1
        have hcN : c < NL := by omega
        obtain ⟨g0, g1⟩ := HIk.out.2 c hcN
        have hfree : frF cs m c = 0 := frF_free HRO.out hf
        simp only [hfree] at g0
        have HF := Lib.hid hf
        have fin := Lib.hid ((HIk.out.store hcN ((m : Int) + 1)).congr (f' := fun i => frF cs (m + 1) i) fun i _ => by
          simp only [frF]
          rw [HF.out]
          by_cases e : i = c
          · subst e; rw [if_pos rfl, if_pos rfl]
          · rw [if_neg e, if_neg (fun hh => e (by injection hh with hh; omega))])
        have hgk := HIk.out.1
        clear hf hus hP hcc hfree e1
        go_wp2_with fail
        exact ⟨⟨m + 1, by omega, by go_num, fin.out, HBk.out.setCell (p := ⟨W + 4, c, none⟩) (Nat.le_refl _) _⟩, by simp [intOf]; omega⟩
    · obtain rfl : m = L := by omega
      obtain ⟨w6, rfl⟩ : ∃ w6 : World, w6 = wr := ⟨_, rfl⟩
      have HX6 := Lib.hid hX
      have HI6 := Lib.hid hI
      have HB6 := Lib.hid (HB4.out.trans (hb.mono (by omega)))
      have hJ6 := hJ4.below (hb.mono (by omega))
      have he6 := he4.below (hb.mono (by omega))
      have hJ26 := hJ24.below (hb.mono (by omega))
      have he26 := he24.below (hb.mono (by omega))
      have hG6 := hI.1
      have r1 := hX.r1
      clear hI hb hX hJ4 he4 hJ24 he24
      go_wp2_with fail
      clear r1
      have hb0 := Below.refl w6.heap.size w6
      go_loopw [19] (fun i wr => ∃ q : Nat, q ≤ NL ∧ i = .int .i64 q ∧ Below w6.heap.size w6 wr) (fun i _ => NL - (intOf i).toNat)
      case atStart => exact ⟨0, Nat.zero_le _, rfl, hb0⟩
      case round =>
        obtain ⟨q, hq, rfl, hbq⟩ := hrel
        clear hb0
        have hszq := hbq.size
        have hXq := HX6.out.below (hbq.mono (by omega))
        by_cases hltq : q < NL
        · have hqI : (q : Int) < (NL : Int) := by omega
          have n0 := hXq.n0
          have n1 := hXq.n1
          have l5 := hXq.l5
          have hmu := lMust AJ2 A2 cJ2 c2 B NL J2 ES ES hour dir topic q wr (hJ26.below (hbq.mono (by omega))) (he26.below (hbq.mono (by omega))) (by omega) HV2.out hh hd ht hltq (List.Perm.refl _) HSA2.out HVE2.out
          have HBQ := Lib.hid hbq
          have heq := HEQ.out q hltq
          clear hbq hXq
          go_wp2_with fail
          refine hmu.mono ?_
          rintro e w7 ⟨rfl, hb7⟩
          have HB7 := Lib.hid (HBQ.out.trans (hb7.mono hszq))
          have hsz7 := hb7.size
          have hX7 := HX6.out.below (HB7.out.mono (by omega))
          have g0 := (HI6.out.below HB7.out).2 q hltq
          replace g0 : w7.cell? ⟨W + 4, q, none⟩ = some (.int .i64 (frF cs m q)) := g0.1
          have hG7 : W + 4 < w7.heap.size := by omega
          clear hmu hb7 n0 n1 l5
          by_cases hz : frF cs m q = 0
          · rw [if_pos hz] at heq
            rw [heq]
            rw [hz] at g0
            clear heq hz hX7
            go_wp2_with fail
            exact ⟨⟨q + 1, by omega, by go_num, HB7.out⟩, by simp [intOf]; omega⟩
          · rw [if_neg hz] at heq
            obtain ⟨k, hk1, hk2, hk3⟩ := frF_pos hz
            rw [hk3] at heq g0
            rw [Int.add_sub_cancel, Int.toNat_natCast] at heq
            rw [heq]
            have s1 : IntKind.i64.wrap ((k : Int) + 1 - 1) = k := by rw [IntWalk.i64_in _ (by omega)]; omega
            have s0 : IntKind.i64.wrap (k : Int) = k := IntWalk.i64_in _ (by omega)
            have o0 := hX7.o0
            have o1 := hX7.o1
            have l4 := hX7.l4
            have l5 := hX7.l5
            have h4 := hX7.hi
            have HMU : Hid (∀ wz : World, Below w7.heap.size w7 wz → Calls Tryz.prog 24 #[.agg #[.int .i64 m, .slice AJ J.length cJ], .slice A es.length cE, .int .i64 hour, .int .i64 dir, .int .i64 topic, .int .i64 k] wz fun e w' => e = .returned (.tuple #[.int .i64 (strF topic dir hour S k), .int .i64 0]) ∧ Below wz.heap.size wz w') := Lib.hid fun wz hb =>
              lMust AJ A cJ cE B m J es S hour dir topic k wz ((hJ6.below (HB7.out.mono (by omega))).below (hb.mono (by omega))) ((he6.below (HB7.out.mono (by omega))).below (hb.mono (by omega))) (by have := hb.size; omega) HV.out hh hd ht hk1 HS.out HSA.out HVE.out
            clear heq hz hX7 hk2 hk3
            generalize strF topic dir hour S k = sv at *
            go_upto_region 20 with fail
            go_region_held3 (fun w' => Below w7.heap.size w7 w' ∧ w'.cell? ⟨W + 1 + 1 + 1, 0, none⟩ = some (.int .i64 m) ∧ w'.cell? ⟨W + 1 + 1 + 1, 1, none⟩ = some (.slice AJ J.length cJ) ∧ w'.cell? ⟨W, 4, none⟩ = some (.slice A es.length cE) ∧ w'.cell? ⟨W, 5, none⟩ = some (.int .i64 hour) ∧ w'.cell? ⟨W + 4, q, none⟩ = some (.int .i64 ((k : Int) + 1))) ((refine heldY h4 hG7 o0 o1 l4 l5 g0 ?_; first | assumption | exact hbm2 | exact Below.refl _ _ | exact (Below.refl _ _).drew | exact below_drewN (Below.refl _ _) _ | fail)) (first
              | (go_at_call 24; refine (HMU.out _ ?_).mono ?_; (solve | exact And.left (by assumption)); (rintro e w8 ⟨rfl, hbm⟩); have hbm2 : Below w7.heap.size w7 w8 := Below.trans (And.left (by assumption)) (hbm.mono (Below.size (And.left (by assumption)))))
              | fail)
            all_goals
              have HB8 := Lib.hid (HB7.out.trans (hbm2.mono (by omega)))
              clear hbm hbm2 o0 o1 l4 l5 g0 HMU
              go_wp2_with fail
              exact ⟨⟨q + 1, by omega, by go_num, HB8.out⟩, by simp [intOf]; omega⟩
        · obtain rfl : q = NL := by omega
          have n0 := hXq.n0
          have HBF := Lib.hid (HB6.out.trans (hbq.mono (by omega)))
          clear hbq hXq
          go_wp2_with fail
          go_ret
          exact ⟨rfl, by rw [hW]; exact HBF.out⟩
end Go.Proofs.YtdmmcdbojmalfaaGreat
