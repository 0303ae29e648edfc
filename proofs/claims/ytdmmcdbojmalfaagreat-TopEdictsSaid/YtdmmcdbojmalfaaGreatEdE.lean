/- TopEdicts: ValidEdicts. -/
import Derived.Test.YtdmmcdbojmalfaaGreatEdD
namespace Go.Proofs.YtdmmcdbojmalfaaGreat
open Go.RowKit
def VEds (L : Int) (J : List Int) (es : List Edc) : Prop := VLine L J ∧ es.length ≤ 50 ∧ (∀ k (hk : k < es.length), VEd L es[k]) ∧ (es.map (·.num)).Nodup
set_option maxRecDepth 100000 in
set_option maxHeartbeats 4000000 in
theorem lVEds (AJ A : Option Addr) (cJ c B : Nat) (L : Int) (J : List Int) (es : List Edc) (w : World) (hJ : Ints w B AJ J) (h : RowsK w B A 8 encE es) (hB : B ≤ w.heap.size) (hJn : J.length ≤ 9223372036854775807) (hn : es.length ≤ 9223372036854775807) (hwf : ∀ x ∈ es, (Lit.int .i64 x.num).wf = true) :
    Calls Tryz.prog 8 #[.agg #[.int .i64 L, .slice AJ J.length cJ], .slice A es.length c] w (Tells (VEds L J es) w) := by
  have hb : Below w.heap.size w (w.alloc (.cells #[.int .i64 L, .slice AJ J.length cJ] 32)) := (Below.refl _ _).alloc (Nat.le_refl _) _
  have hJ1 := (hJ.more hB).below hb
  have h1 := (h.more hB).below hb
  have q0 : (w.alloc (.cells #[.int .i64 L, .slice AJ J.length cJ] 32)).cell? ⟨w.heap.size, 0, none⟩ = some (.int .i64 L) := by simp [go_sem]
  have q1 : (w.alloc (.cells #[.int .i64 L, .slice AJ J.length cJ] 32)).cell? ⟨w.heap.size, 1, none⟩ = some (.slice AJ J.length cJ) := by simp [go_sem]
  have hz : w.heap.size < (w.alloc (.cells #[.int .i64 L, .slice AJ J.length cJ] 32)).heap.size := by simp
  obtain ⟨W, hW⟩ : ∃ W, w.heap.size = W := ⟨_, rfl⟩
  rw [hW] at q0 q1 hb hz hJ1 h1
  have HB : Hid (Below W w (w.alloc (.cells #[.int .i64 L, .slice AJ J.length cJ] 32))) := Lib.hid hb
  have HWF := Lib.hid hwf
  clear hJ h hB hb hwf
  go_enter Tryz.func8, Tryz.ntmps8
  go_upto_region 1 with fail
  generalize w.alloc (.cells #[.int .i64 L, .slice AJ J.length cJ] 32) = w1 at *
  have hvl := lVLine AJ cJ W L J w1 hJ1 (by omega) hJn
  go_wp2_with fail
  refine hvl.mono ?_
  rintro e w2 ⟨b, rfl, hbv, hb2⟩
  have hHB := HB.out.trans (hb2.mono (by omega))
  have q0' := (hb2.cell (p := ⟨W, 0, none⟩) hz).trans q0
  have q1' := (hb2.cell (p := ⟨W, 1, none⟩) hz).trans q1
  have h2 := h1.below (hb2.mono (by omega))
  have hJ2 := hJ1.below (hb2.mono (by omega))
  have hz2 : W < w2.heap.size := by have := hb2.size; omega
  clear hvl q0 q1 h1 hJ1 hb2
  by_cases hv : VLine L J
  rotate_left
  · obtain rfl : b = false := by
      cases b with
      | false => rfl
      | true => exact absurd (hbv.1 rfl) hv
    have HN : Hid (¬ VEds L J es) := Lib.hid fun hh => hv hh.1
    clear hbv hv
    go_wp2_with fail
    go_ret
    exact tells_f HN.out (by rw [hW]; exact hHB)
  obtain rfl := hbv.2 hv
  have HV := Lib.hid hv
  clear hbv hv
  by_cases h50 : es.length ≤ 50
  rotate_left
  · have h50' : (50 : Int) < (es.length : Int) := by omega
    go_wp2_with fail
    go_ret
    exact tells_f (fun hh => h50 hh.2.1) (by rw [hW]; exact hHB)
  have h50' : ¬ (50 : Int) < (es.length : Int) := by omega
  go_wp2_with fail
  have hr0 := Below.refl w2.heap.size w2
  go_loopw [17] (fun i wr => ∃ k : Nat, k ≤ es.length ∧ i = .int .i64 k ∧ Below w2.heap.size w2 wr ∧ Hid (∀ j (hj : j < es.length), j < k → VEd L es[j])) (fun i _ => es.length - (intOf i).toNat)
  case atStart => exact ⟨0, Nat.zero_le _, rfl, hr0, Lib.hid fun j hj hh => absurd hh (Nat.not_lt_zero _)⟩
  case round =>
    obtain ⟨k, hk, rfl, hbk, HS⟩ := hrel
    clear hr0
    have hsz := hbk.size
    by_cases hlt : k < es.length
    · obtain ⟨b, o, rfl, hbb, hcc⟩ := (h2.below (hbk.mono (by omega))).at_ hlt
      have y0 := hcc k hlt 0 _ rfl
      have y1 := hcc k hlt 1 _ rfl
      have y2 := hcc k hlt 2 _ rfl
      have y3 := hcc k hlt 3 _ rfl
      have y4 := hcc k hlt 4 _ rfl
      have y5 := hcc k hlt 5 _ rfl
      have y6 := hcc k hlt 6 _ rfl
      have y7 := hcc k hlt 7 _ rfl
      simp only [Nat.add_zero] at y0
      have r0 := (hbk.cell (p := ⟨W, 0, none⟩) hz2).trans q0'
      have r1 := (hbk.cell (p := ⟨W, 1, none⟩) hz2).trans q1'
      have HX : Hid (∀ (v : VEd L es[k]) j (hj : j < es.length), j < k + 1 → VEd L es[j]) := Lib.hid fun v j hj hh => by
        by_cases e : j = k
        · subst e; exact v
        · exact HS.out j hj (by omega)
      have HNX : Hid (¬ VEd L es[k] → ¬ VEds L J es) := Lib.hid fun hh h => hh (h.2.2.1 k hlt)
      clear hcc
      generalize es[k] = x at *
      have hbA : Below wr.heap.size wr (wr.alloc (.cells #[.int .i64 x.num, .int .i64 x.topic, .int .i64 x.val, .int .i64 x.dir, .int .i64 x.fr, .int .i64 x.til, .int .i64 x.st, .int .i64 x.en] 65)) := (Below.refl _ _).alloc (Nat.le_refl _) _
      have HBA := Lib.hid (hbk.trans (hbA.mono hsz))
      have hz3 : W < wr.heap.size := by omega
      have hve := lVEd L (.slice AJ J.length cJ) x (wr.alloc (.cells #[.int .i64 x.num, .int .i64 x.topic, .int .i64 x.val, .int .i64 x.dir, .int .i64 x.fr, .int .i64 x.til, .int .i64 x.st, .int .i64 x.en] 65))
      clear hbA hbk
      go_wp2_with fail
      refine hve.mono ?_
      rintro e w5 ⟨bb, rfl, hbv, hb5⟩
      have hb25 := HBA.out.trans (hb5.mono (by have := HBA.out.size; simp at this ⊢; omega))
      clear hve hb5 y0 y1 y2 y3 y4 y5 y6 y7 r0 r1
      by_cases hv : VEd L x
      · obtain rfl := hbv.2 hv
        have HS2 := Lib.hid (HX.out hv)
        clear hbv hv
        go_wp2_with fail
        exact ⟨⟨k + 1, by omega, by go_num, hb25, HS2⟩, by simp [intOf]; omega⟩
      · obtain rfl : bb = false := by
          cases bb with
          | false => rfl
          | true => exact absurd (hbv.1 rfl) hv
        have HN := Lib.hid (HNX.out hv)
        clear hbv hv
        go_wp2_with fail
        go_ret
        exact tells_f HN.out (by rw [hW]; exact hHB.trans (hb25.mono (by omega)))
    · obtain rfl : k = es.length := by omega
      have h5 := h2.below (hbk.mono (by omega))
      have hdf := ldifE A c W es wr h5 (by omega) (by omega) HWF.out
      have hbw := hHB.trans (hbk.mono (by omega))
      clear hbk hHB
      go_wp2_with fail
      refine hdf.mono ?_
      rintro e w6 ⟨bb, rfl, hbv, hb6⟩
      have HT : Hid (bb = true ↔ VEds L J es) := Lib.hid ⟨fun h => ⟨HV.out, h50, fun j hj => HS.out j hj hj, hbv.1 h⟩, fun h => hbv.2 h.2.2.2⟩
      clear hdf hbv
      go_wp2_with fail
      go_ret
      exact ⟨bb, rfl, HT.out, by rw [hW]; exact hbw.trans (hb6.mono (by omega))⟩
end Go.Proofs.YtdmmcdbojmalfaaGreat
