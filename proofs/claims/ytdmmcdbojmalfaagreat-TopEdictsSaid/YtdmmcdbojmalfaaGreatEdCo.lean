/- TopEdicts: Compare. -/
import Derived.Test.YtdmmcdbojmalfaaGreatEdPr
import Derived.Deep.RegionHeld3
import Derived.BigQuiet
namespace Go.Proofs.YtdmmcdbojmalfaaGreat
open Go.RowKit
theorem heldC {wB w' : World} {W E H G n cJ n2 c2 n3 c3 : Nat} {L hour : Int} {AJ A AS : Option Addr} (hW : W < wB.heap.size) (hE : E < wB.heap.size) (hH : H < wB.heap.size) (hG : G < wB.heap.size) (q0 : wB.cell? ⟨W, 0, none⟩ = some (.int .i64 L)) (q1 : wB.cell? ⟨W, 1, none⟩ = some (.slice AJ n cJ))
    (qG : wB.cell? ⟨G, 0, none⟩ = some (.slice AS n2 c2)) (qH : wB.cell? ⟨H, 0, none⟩ = some (.int .i64 hour)) (qE : wB.cell? ⟨E, 0, none⟩ = some (.slice A n3 c3)) (hb : Below wB.heap.size wB w') :
    Below wB.heap.size wB w' ∧ w'.cell? ⟨W, 0, none⟩ = some (.int .i64 L) ∧ w'.cell? ⟨W, 1, none⟩ = some (.slice AJ n cJ) ∧ w'.cell? ⟨G, 0, none⟩ = some (.slice AS n2 c2) ∧ w'.cell? ⟨H, 0, none⟩ = some (.int .i64 hour) ∧ w'.cell? ⟨E, 0, none⟩ = some (.slice A n3 c3) :=
  ⟨hb, (hb.cell (p := ⟨W, 0, none⟩) hW).trans q0, (hb.cell (p := ⟨W, 1, none⟩) hW).trans q1, (hb.cell (p := ⟨G, 0, none⟩) hG).trans qG, (hb.cell (p := ⟨H, 0, none⟩) hH).trans qH, (hb.cell (p := ⟨E, 0, none⟩) hE).trans qE⟩
/-- What is wanted of the signs for one direction and topic. -/
def SaysAll (topic dir hour : Int) (S : List Edc) (L : Nat) (J : List Int) (ss : List Sgn) : Prop :=
  ∀ ys : List Mee, ys.Perm (rowL L dir ss) → (ys.Pairwise fun a b => ¬ MLt b a) → ∀ k : Nat, k < L → SaysAt (stopF L (evRow L dir topic J ys)).1 k (wvF topic dir hour S L k)
set_option maxRecDepth 100000 in
set_option maxHeartbeats 8000000 in
theorem lComp1 {w0 w : World} {W E H G O L : Nat} {AJ A AS : Option Addr} {cJ c cS cO B : Nat} {J : List Int} {es S : List Edc} {ss : List Sgn} {hour : Int} (topic dir : Int)
    (hbw : Below w0.heap.size w0 w) (hx : LnBox w0 W L AJ J.length cJ) (hG : w0.cell? ⟨G, 0, none⟩ = some (.slice AS ss.length cS)) (hE : w0.cell? ⟨E, 0, none⟩ = some (.slice A es.length c)) (hH : w0.cell? ⟨H, 0, none⟩ = some (.int .i64 hour)) (hO : w0.cell? ⟨O, 0, none⟩ = some (.slice none 0 cO))
    (hGl : G < w0.heap.size) (hEl : E < w0.heap.size) (hHl : H < w0.heap.size) (hOl : O < w0.heap.size)
    (hJ : Ints w0 B AJ J) (hes : RowsK w0 B A 8 encE es) (hss : RowsK w0 B AS 9 encG ss) (hB0 : B ≤ w0.heap.size) (hL : 1 ≤ L ∧ L ≤ 100000) (hv : ∀ x ∈ es, SmE x ∧ 0 ≤ x.fr ∧ x.til ≤ L) (hn : es.length ≤ 50) (hS : S.Perm es) (hSa : AscN S) (hJn : J.length ≤ 50) (hJb : ∀ j, j < J.length → 0 ≤ at0 J j ∧ at0 J j ≤ 1000000)
    (ht : topic = 1 ∨ topic = 2) (hsg : SgOk hour ss) (hsay : SaysAll topic dir hour S L J ss) :
    Calls Tryz.prog 36 #[.int .i64 topic, .int .i64 dir, .pointer (some ⟨W, 0, none⟩), .pointer (some ⟨G, 0, none⟩), .pointer (some ⟨H, 0, none⟩), .pointer (some ⟨E, 0, none⟩), .pointer (some ⟨O, 0, none⟩)] w
      fun e w' => e = .returned (.tuple #[]) ∧ Below w0.heap.size w0 w' := by
  have q0 := (hbw.cell (p := ⟨W, 0, none⟩) hx.hi).trans hx.q0
  have q1 := (hbw.cell (p := ⟨W, 1, none⟩) hx.hi).trans hx.q1
  have qG := (hbw.cell (p := ⟨G, 0, none⟩) hGl).trans hG
  have qE := (hbw.cell (p := ⟨E, 0, none⟩) hEl).trans hE
  have qH := (hbw.cell (p := ⟨H, 0, none⟩) hHl).trans hH
  have hsz := hbw.size
  have hxl := hx.hi
  have lW : W < w.heap.size := by omega
  have lG : G < w.heap.size := by omega
  have lE : E < w.heap.size := by omega
  have lH : H < w.heap.size := by omega
  have hJ1 := hJ.below (hbw.mono hB0)
  have he1 := hes.below (hbw.mono hB0)
  have hs1 := hss.below (hbw.mono hB0)
  have hB : B ≤ w.heap.size := by omega
  have HSO : Hid (∀ wz : World, Below w.heap.size w wz → Calls Tryz.prog 37 #[.agg #[.int .i64 L, .slice AJ J.length cJ], .slice AS ss.length cS, .int .i64 hour, .int .i64 dir, .int .i64 topic] wz (StripRes L (fun m => wvF topic dir hour S L (metN L dir m)) wz)) := Lib.hid fun wz hb =>
    lStripOf AJ AS cJ cS B L J ss hour dir topic (wvF topic dir hour S L) wz (hJ1.below (hb.mono hB)) (hs1.below (hb.mono hB)) (Nat.le_trans hB hb.size) hsg ht hL hJn hJb hsay
  have HMS : Hid (∀ wz : World, Below w.heap.size w wz → Calls Tryz.prog 28 #[.agg #[.int .i64 L, .slice AJ J.length cJ], .slice A es.length c, .int .i64 hour, .int .i64 dir, .int .i64 topic] wz (StripRes L (strF topic dir hour S) wz)) := Lib.hid fun wz hb =>
    lMustStrip A c B L (.slice AJ J.length cJ) es S hour dir topic wz (he1.below (hb.mono hB)) (Nat.le_trans hB hb.size) hL hv hn hS hSa
  have HBW := Lib.hid hbw
  clear hbw hJ hes hss hv hS hSa hsay hJ1 he1 hs1 hsg
  go_enter Tryz.func36, Tryz.ntmps36
  go_upto_region 0 with fail
  go_region_held3 (fun w' => Below w.heap.size w w' ∧ w'.cell? ⟨W, 0, none⟩ = some (.int .i64 L) ∧ w'.cell? ⟨W, 1, none⟩ = some (.slice AJ J.length cJ) ∧ w'.cell? ⟨G, 0, none⟩ = some (.slice AS ss.length cS) ∧ w'.cell? ⟨H, 0, none⟩ = some (.int .i64 hour) ∧ w'.cell? ⟨E, 0, none⟩ = some (.slice A es.length c)) ((refine heldC lW lE lH lG q0 q1 qG qH qE ?_; first | assumption | exact hbm2 | exact hbk2 | exact Below.refl _ _ | exact (Below.refl _ _).drew | exact below_drewN (Below.refl _ _) _ | fail)) (first
    | (go_at_call 37; refine (HSO.out _ ?_).mono ?_; (solve | exact And.left (by assumption)); (rintro e wm ⟨g1, rfl, hg1, hI1, hbm⟩); have hbm2 : Below w.heap.size w wm := Below.trans (And.left (by assumption)) (hbm.mono (Below.size (And.left (by assumption)))))
    | (go_at_call 28; refine (HMS.out _ ?_).mono ?_; (solve | exact And.left (by assumption)); (rintro e wk ⟨g2, rfl, hg2, hI2, hbk⟩); have hbk2 : Below w.heap.size w wk := Below.trans (And.left (by assumption)) (hbk.mono (Below.size (And.left (by assumption)))))
    | fail)
  all_goals
    have hI1' := (hI1.congr (f' := strF topic dir hour S) fun m hm => by unfold wvF; rw [metN_metN hm]).below (hbk.mono (Nat.le_refl _))
    have hBK := Lib.hid (HBW.out.trans (hbk2.mono hsz))
    have qO := (hBK.out.cell (p := ⟨O, 0, none⟩) hOl).trans hO
    have hOk : O < wk.heap.size := Nat.lt_of_lt_of_le hOl hBK.out.size
    have HI1 := Lib.hid hI1'
    have HI2 := Lib.hid hI2
    have hd0 := Drew.refl wk
    clear hI1 hI1' hI2 hbk hbk2 hbm hbm2 HSO HMS q0 q1 qG qE qH hx hG hE hH hO
    go_wp2_with fail
    go_loopw [30] (fun i wr => ∃ k : Nat, k ≤ L ∧ i = .int .i64 k ∧ Drew wk wr) (fun i _ => L - (intOf i).toNat)
    case atStart => exact ⟨0, Nat.zero_le _, rfl, hd0⟩
    case round =>
      obtain ⟨k, hk, rfl, hd⟩ := hrel
      clear hd0
      by_cases hlt : k < L
      · have hltI : (k : Int) < (L : Int) := by omega
        have c1 := (hd.cell _).trans (HI1.out.2 k hlt).1
        have c2 := (hd.cell _).trans (HI2.out.2 k hlt).1
        generalize strF topic dir hour S k = z at *
        have HD := Lib.hid hd
        clear hd
        go_upto_region 5 with fail
        go_quiet (fail)
        go_wp2_with fail
        exact ⟨⟨k + 1, by omega, by go_num, HD.out.drewN _⟩, by simp [intOf]; omega⟩
      · obtain rfl : k = L := by omega
        have HD := Lib.hid hd
        clear hd
        go_wp2_with fail
        go_end0
        exact ⟨rfl, hBK.out.trans ((HD.out.below wk.heap.size).mono hBK.out.size)⟩
def GapRes (w : World) (e : Ending) (w' : World) : Prop := e = .returned (.tuple #[.slice none 0 0, .int .i64 0]) ∧ Below w.heap.size w w'
set_option maxRecDepth 100000 in
set_option maxHeartbeats 8000000 in
theorem lCompareT (AJ A AS : Option Addr) (cJ c cS B L : Nat) (J : List Int) (es S : List Edc) (ss : List Sgn) (hour : Int) (w : World) (hJ : Ints w B AJ J) (h : RowsK w B A 8 encE es) (hss : RowsK w B AS 9 encG ss) (hB : B ≤ w.heap.size)
    (hv : VEds L J es) (hve : ∀ x ∈ es, SmE x ∧ 0 ≤ x.fr ∧ x.til ≤ L) (hS : S.Perm es) (hSa : AscN S) (hh : inB 0 hour 10000000 = true) (hvs : VSgs L ss) (hsg : SgOk hour ss)
    (hsay : ∀ t d, (t = 1 ∨ t = 2) → (d = 1 ∨ d = -1) → SaysAll t d hour S L J ss) :
    Calls Tryz.prog 14 #[.agg #[.int .i64 L, .slice AJ J.length cJ], .slice AS ss.length cS, .slice A es.length c, .int .i64 hour] w (GapRes w) := by
  have hL : 1 ≤ L ∧ L ≤ 100000 := by have := hv.1.1; omega
  have hn : es.length ≤ 50 := hv.2.1
  have hjn : J.length ≤ 50 := hv.1.2.1
  have hjb : ∀ j, j < J.length → 0 ≤ at0 J j ∧ at0 J j ≤ 1000000 := fun j hj => by have := (hv.1.2.2 j hj).1; omega
  unfold GapRes
  obtain ⟨W, hW⟩ : ∃ W, w.heap.size = W := ⟨_, rfl⟩
  have hb3 : Below W w ((((w.alloc (.cells #[.int .i64 L, .slice AJ J.length cJ] 32)).alloc (.cells #[.slice AS ss.length cS] 42)).alloc (.cells #[.slice A es.length c] 26)).alloc (.cells #[.int .i64 hour] 3)) := ((((Below.refl _ _).alloc (by omega) _).alloc (by simp; omega) _).alloc (by simp; omega) _).alloc (by simp; omega) _
  have hx3 : LnBox ((((w.alloc (.cells #[.int .i64 L, .slice AJ J.length cJ] 32)).alloc (.cells #[.slice AS ss.length cS] 42)).alloc (.cells #[.slice A es.length c] 26)).alloc (.cells #[.int .i64 hour] 3)) W L AJ J.length cJ := by
    rw [← hW]; constructor <;> simp [go_sem]
  have hG3 : ((((w.alloc (.cells #[.int .i64 L, .slice AJ J.length cJ] 32)).alloc (.cells #[.slice AS ss.length cS] 42)).alloc (.cells #[.slice A es.length c] 26)).alloc (.cells #[.int .i64 hour] 3)).cell? ⟨W + 1, 0, none⟩ = some (.slice AS ss.length cS) := by
    rw [← hW]; simp [go_sem]
  have hE3 : ((((w.alloc (.cells #[.int .i64 L, .slice AJ J.length cJ] 32)).alloc (.cells #[.slice AS ss.length cS] 42)).alloc (.cells #[.slice A es.length c] 26)).alloc (.cells #[.int .i64 hour] 3)).cell? ⟨W + 1 + 1, 0, none⟩ = some (.slice A es.length c) := by
    rw [← hW]; simp [go_sem]
  have hH3 : ((((w.alloc (.cells #[.int .i64 L, .slice AJ J.length cJ] 32)).alloc (.cells #[.slice AS ss.length cS] 42)).alloc (.cells #[.slice A es.length c] 26)).alloc (.cells #[.int .i64 hour] 3)).cell? ⟨W + 1 + 1 + 1, 0, none⟩ = some (.int .i64 hour) := by
    rw [← hW]; simp [go_sem]
  have hsz3 : ((((w.alloc (.cells #[.int .i64 L, .slice AJ J.length cJ] 32)).alloc (.cells #[.slice AS ss.length cS] 42)).alloc (.cells #[.slice A es.length c] 26)).alloc (.cells #[.int .i64 hour] 3)).heap.size = W + 4 := by simp [hW]
  have hJ3 := (hJ.more (by omega : B ≤ W)).below hb3
  have he3 := (h.more (by omega : B ≤ W)).below hb3
  have hs3 := (hss.more (by omega : B ≤ W)).below hb3
  have HV := Lib.hid hv
  have HVE := Lib.hid hve
  have HS := Lib.hid hS
  have HSA := Lib.hid hSa
  have HVS := Lib.hid hvs
  have HSG := Lib.hid hsg
  have HSY := Lib.hid hsay
  have HJB := Lib.hid hjb
  have HB3 := Lib.hid hb3
  clear hJ h hss hB hv hve hS hSa hb3 hvs hsg hsay hjb
  go_enter Tryz.func14, Tryz.ntmps14
  go_upto_region 1 with fail
  generalize (((w.alloc (.cells #[.int .i64 L, .slice AJ J.length cJ] 32)).alloc (.cells #[.slice AS ss.length cS] 42)).alloc (.cells #[.slice A es.length c] 26)).alloc (.cells #[.int .i64 hour] 3) = w3 at *
  obtain ⟨q0, q1, hz⟩ := id hx3
  have hz1 : W + 1 < w3.heap.size := by omega
  have hz2 : W + 1 + 1 < w3.heap.size := by omega
  have hz3 : W + 1 + 1 + 1 < w3.heap.size := by omega
  have hal := lall AJ A AS cJ c cS W L J es w3 hour ss hJ3 hs3 he3 (by omega) HV.out HVS.out hh
  go_wp2_with fail
  refine hal.mono ?_
  rintro e w4 ⟨rfl, hb4⟩
  have hx4 := hx3.below hb4
  have hG4 := (hb4.cell (p := ⟨W + 1, 0, none⟩) hz1).trans hG3
  have hE4 := (hb4.cell (p := ⟨W + 1 + 1, 0, none⟩) hz2).trans hE3
  have hH4 := (hb4.cell (p := ⟨W + 1 + 1 + 1, 0, none⟩) hz3).trans hH3
  have hJ4 := hJ3.below (hb4.mono (by omega))
  have he4 := he3.below (hb4.mono (by omega))
  have hs4 := hs3.below (hb4.mono (by omega))
  have HB4 := Lib.hid (HB3.out.trans (hb4.mono (by omega)))
  have hsz4 := hb4.size
  clear hal hb4 hx3 hG3 hE3 hH3 hJ3 he3 hs3 q0 q1 hz hz1 hz2 hz3
  go_upto_region 5 with fail
  have hb5 : Below w4.heap.size w4 (w4.alloc (.cells #[.slice none 0 0] 46)) := (Below.refl _ _).alloc (Nat.le_refl _) _
  have hx5 := hx4.below hb5
  have hG5 := (hb5.cell (p := ⟨W + 1, 0, none⟩) (by simp only; omega)).trans hG4
  have hE5 := (hb5.cell (p := ⟨W + 1 + 1, 0, none⟩) (by simp only; omega)).trans hE4
  have hH5 := (hb5.cell (p := ⟨W + 1 + 1 + 1, 0, none⟩) (by simp only; omega)).trans hH4
  have hO5 : (w4.alloc (.cells #[.slice none 0 0] 46)).cell? ⟨w4.heap.size, 0, none⟩ = some (.slice none 0 0) := by simp [go_sem]
  have hOl5 : w4.heap.size < (w4.alloc (.cells #[.slice none 0 0] 46)).heap.size := by simp
  have hJ5 := hJ4.below (hb5.mono (by omega))
  have he5 := he4.below (hb5.mono (by omega))
  have hs5 := hs4.below (hb5.mono (by omega))
  have HB5 := Lib.hid (HB4.out.trans (hb5.mono (by omega)))
  have hOW : W + 4 ≤ w4.heap.size := by omega
  clear hb5 hx4 hG4 hE4 hH4 hJ4 he4 hs4
  generalize w4.alloc (.cells #[.slice none 0 0] 46) = w5 at *
  generalize w4.heap.size = O at *
  have hst : ∀ (t d : Int) (k : Nat) (w : World), (t = 1 ∧ d = 1 ∧ k = 0) ∨ (t = 1 ∧ d = -1 ∧ k = 1) ∨ (t = 2 ∧ d = 1 ∧ k = 2) ∨ (t = 2 ∧ d = -1 ∧ k = 3) → Below w5.heap.size w5 w → Calls Tryz.prog 36 #[.int .i64 t, .int .i64 d, .pointer (some ⟨W, 0, none⟩), .pointer (some ⟨W + 1, 0, none⟩), .pointer (some ⟨W + 1 + 1 + 1, 0, none⟩), .pointer (some ⟨W + 1 + 1, 0, none⟩), .pointer (some ⟨O, 0, none⟩)] w fun e w' => e = .returned (.tuple #[]) ∧ Below w5.heap.size w5 w' := by
    intro t d k wz hk hb
    have ht : t = 1 ∨ t = 2 := by rcases hk with h | h | h | h <;> simp [h.1]
    have hd : d = 1 ∨ d = -1 := by rcases hk with h | h | h | h <;> simp [h.2.1]
    exact lComp1 t d hb hx5 hG5 hE5 hH5 hO5 (by omega) (by omega) (by omega) (by omega) hJ5 he5 hs5 (by omega) hL HVE.out hn HS.out HSA.out hjn HJB.out ht HSG.out (HSY.out t d ht hd)
  have hea := lEachC (.pointer (some ⟨W, 0, none⟩)) (.pointer (some ⟨W + 1, 0, none⟩)) (.pointer (some ⟨W + 1 + 1 + 1, 0, none⟩)) (.pointer (some ⟨W + 1 + 1, 0, none⟩)) (.pointer (some ⟨O, 0, none⟩)) (fun k w => Below w5.heap.size w5 w) w5 (Below.refl _ _) hst
  clear hst hx5 hG5 hE5 hH5 hJ5 he5 hs5
  go_wp2_with fail
  refine hea.mono ?_
  rintro e w6 ⟨rfl, hb6⟩
  have qO := (hb6.cell (p := ⟨O, 0, none⟩) hOl5).trans hO5
  have HBF := Lib.hid (HB5.out.trans (hb6.mono (by omega)))
  clear hea hb6 hO5
  go_wp2_with fail
  go_ret2
  exact ⟨rfl, by rw [hW]; exact HBF.out⟩
end Go.Proofs.YtdmmcdbojmalfaaGreat
