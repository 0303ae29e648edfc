/- TopEdicts: what is asked; what signs say; comparisons. -/
import Derived.Test.YtdmmcdbojmalfaaGreatEdG
namespace Go.Proofs.YtdmmcdbojmalfaaGreat
open Go.RowKit
/-- A line in a box. -/
structure LnBox (w : World) (W : Nat) (L : Int) (AJ : Option Addr) (n cJ : Nat) : Prop where
  q0 : w.cell? ⟨W, 0, none⟩ = some (.int .i64 L)
  q1 : w.cell? ⟨W, 1, none⟩ = some (.slice AJ n cJ)
  hi : W < w.heap.size
theorem LnBox.new (w : World) (L : Int) (AJ : Option Addr) (n cJ : Nat) : LnBox (w.alloc (.cells #[.int .i64 L, .slice AJ n cJ] 32)) w.heap.size L AJ n cJ := ⟨by simp [go_sem], by simp [go_sem], by simp⟩
theorem LnBox.below {w w' : World} {W n cJ : Nat} {L : Int} {AJ : Option Addr} (h : LnBox w W L AJ n cJ) (hb : Below w.heap.size w w') : LnBox w' W L AJ n cJ :=
  ⟨(hb.cell (p := ⟨W, 0, none⟩) h.hi).trans h.q0, (hb.cell (p := ⟨W, 1, none⟩) h.hi).trans h.q1, Nat.lt_of_lt_of_le h.hi hb.size⟩
theorem tells_true {p : Prop} {w w' : World} {e : Ending} (h : Tells p w e w') (hp : p) : e = .returned (.bool true) ∧ Below w.heap.size w w' := by
  obtain ⟨b, rfl, hb, h2⟩ := h
  rw [hb.2 hp]
  exact ⟨rfl, h2⟩
section
variable (AJ A AS : Option Addr) (cJ c cS B : Nat) (L : Int) (J : List Int) (es : List Edc) (w : World)
theorem lVLineT (hJ : Ints w B AJ J) (hB : B ≤ w.heap.size) (hv : VLine L J) : Calls Tryz.prog 7 #[.agg #[.int .i64 L, .slice AJ J.length cJ]] w fun e w' => e = .returned (.bool true) ∧ Below w.heap.size w w' :=
  (lVLine AJ cJ B L J w hJ hB (by have := hv.2.1; omega)).mono fun _ _ h => tells_true h hv
theorem lVEdsT (hJ : Ints w B AJ J) (h : RowsK w B A 8 encE es) (hB : B ≤ w.heap.size) (hv : VEds L J es) : Calls Tryz.prog 8 #[.agg #[.int .i64 L, .slice AJ J.length cJ], .slice A es.length c] w fun e w' => e = .returned (.bool true) ∧ Below w.heap.size w w' :=
  (lVEds AJ A cJ c B L J es w hJ h hB (by have := hv.1.2.1; omega) (by have := hv.2.1; omega) (fun x hx => by
    obtain ⟨j, hj, rfl⟩ := List.getElem_of_mem hx
    have := inB_iff.1 (hv.2.2.1 j hj).1
    exact wf_i64 ⟨by omega, by omega⟩)).mono fun _ _ h => tells_true h hv
set_option maxRecDepth 100000 in
set_option maxHeartbeats 2000000 in
theorem lasked (hour dir topic : Int) (hJ : Ints w B AJ J) (hB : B ≤ w.heap.size) (hv : VLine L J) (hh : inB 0 hour 10000000 = true) (hd : dirB dir = true) (ht : inB 1 topic 2 = true) :
    Calls Tryz.prog 60 #[.agg #[.int .i64 L, .slice AJ J.length cJ], .slice none 0 0, .int .i64 hour, .int .i64 dir, .int .i64 topic] w fun e w' => e = .returned (.int .i64 0) ∧ Below w.heap.size w w' := by
  have hb : Below w.heap.size w (w.alloc (.cells #[.int .i64 L, .slice AJ J.length cJ] 32)) := (Below.refl _ _).alloc (Nat.le_refl _) _
  have hx := LnBox.new w L AJ J.length cJ
  have hJ1 := (hJ.more hB).below hb
  obtain ⟨W, hW⟩ : ∃ W, w.heap.size = W := ⟨_, rfl⟩
  rw [hW] at hx hb hJ1
  go_enter Tryz.func60, Tryz.ntmps60
  go_upto_region 1 with fail
  generalize w.alloc (.cells #[.int .i64 L, .slice AJ J.length cJ] 32) = w1 at *
  obtain ⟨q0, q1, hz⟩ := id hx
  have h1 := lVLineT AJ cJ W L J w1 hJ1 (by omega) hv
  go_wp2_with fail
  refine h1.mono ?_
  rintro e w2 ⟨rfl, hb2⟩
  have hx2 := hx.below hb2
  have hJ2 := hJ1.below (hb2.mono (by omega))
  have hb12 := hb.trans (hb2.mono (by omega))
  clear q0 q1 hz h1 hx hJ1 hb hb2
  obtain ⟨q0, q1, hz⟩ := id hx2
  have h2 := lVSgs AJ none cJ 0 W L J [] w2 hJ2 rows_nil (by omega) hv vsgs_nil
  go_wp2_with fail
  refine h2.mono ?_
  rintro e w3 ⟨rfl, hb3⟩
  have hb13 := hb12.trans (hb3.mono (by omega))
  clear h2 hb3 hx2 hJ2 q0 q1
  go_wp2_with (first
    | (go_at_call 20; refine (rwithin _ _ _ _).mono ?_; rintro e w' ⟨rfl, rfl⟩)
    | (go_at_call 44; refine (ldirection _ _).mono ?_; rintro e w' ⟨rfl, rfl⟩)
    | fail)
  go_ret
  exact ⟨rfl, by rw [hW]; exact hb13⟩
set_option maxRecDepth 100000 in
set_option maxHeartbeats 2000000 in
theorem lordered (hour dir topic : Int) (hJ : Ints w B AJ J) (h : RowsK w B A 8 encE es) (hB : B ≤ w.heap.size) (hv : VEds L J es) (hh : inB 0 hour 10000000 = true) (hd : dirB dir = true) (ht : inB 1 topic 2 = true) :
    Calls Tryz.prog 46 #[.agg #[.int .i64 L, .slice AJ J.length cJ], .slice A es.length c, .int .i64 hour, .int .i64 dir, .int .i64 topic] w fun e w' => e = .returned (.int .i64 0) ∧ Below w.heap.size w w' := by
  have hb : Below w.heap.size w (w.alloc (.cells #[.int .i64 L, .slice AJ J.length cJ] 32)) := (Below.refl _ _).alloc (Nat.le_refl _) _
  have hx := LnBox.new w L AJ J.length cJ
  have hJ1 := (hJ.more hB).below hb
  have he1 := (h.more hB).below hb
  obtain ⟨W, hW⟩ : ∃ W, w.heap.size = W := ⟨_, rfl⟩
  rw [hW] at hx hb hJ1 he1
  clear hJ h
  go_enter Tryz.func46, Tryz.ntmps46
  go_upto_region 1 with fail
  generalize w.alloc (.cells #[.int .i64 L, .slice AJ J.length cJ] 32) = w1 at *
  obtain ⟨q0, q1, hz⟩ := id hx
  have h1 := lVLineT AJ cJ W L J w1 hJ1 (by omega) hv.1
  go_wp2_with fail
  refine h1.mono ?_
  rintro e w2 ⟨rfl, hb2⟩
  have hx2 := hx.below hb2
  have hJ2 := hJ1.below (hb2.mono (by omega))
  have he2 := he1.below (hb2.mono (by omega))
  have hb12 := hb.trans (hb2.mono (by omega))
  clear q0 q1 hz h1 hx hJ1 he1 hb hb2
  obtain ⟨q0, q1, hz⟩ := id hx2
  have h2 := lVEdsT AJ A cJ c W L J es w2 hJ2 he2 (by omega) hv
  go_wp2_with fail
  refine h2.mono ?_
  rintro e w3 ⟨rfl, hb3⟩
  have hx3 := hx2.below hb3
  have hJ3 := hJ2.below (hb3.mono (by omega))
  have hb13 := hb12.trans (hb3.mono (by omega))
  clear h2 hb3 hx2 hJ2 q0 q1 hz he2 hb12
  obtain ⟨q0, q1, hz⟩ := id hx3
  have h3 := lasked AJ cJ W L J w3 hour dir topic hJ3 (by omega) hv.1 hh hd ht
  go_wp2_with fail
  refine h3.mono ?_
  rintro e w4 ⟨rfl, hb4⟩
  have hb14 := hb13.trans (hb4.mono (by omega))
  clear h3 hb4 hx3 hJ3 q0 q1 hb13
  go_wp2_with fail
  go_ret
  exact ⟨rfl, by rw [hW]; exact hb14⟩
set_option maxRecDepth 100000 in
set_option maxHeartbeats 2000000 in
theorem lall (hour : Int) (ss : List Sgn) (hJ : Ints w B AJ J) (hs : RowsK w B AS 9 encG ss) (h : RowsK w B A 8 encE es) (hB : B ≤ w.heap.size) (hv : VEds L J es) (hvs : VSgs L ss) (hh : inB 0 hour 10000000 = true) :
    Calls Tryz.prog 25 #[.agg #[.int .i64 L, .slice AJ J.length cJ], .slice AS ss.length cS, .slice A es.length c, .int .i64 hour] w fun e w' => e = .returned (.int .i64 0) ∧ Below w.heap.size w w' := by
  have hb : Below w.heap.size w (w.alloc (.cells #[.int .i64 L, .slice AJ J.length cJ] 32)) := (Below.refl _ _).alloc (Nat.le_refl _) _
  have hx := LnBox.new w L AJ J.length cJ
  have hJ1 := (hJ.more hB).below hb
  have he1 := (h.more hB).below hb
  have hs1 := (hs.more hB).below hb
  obtain ⟨W, hW⟩ : ∃ W, w.heap.size = W := ⟨_, rfl⟩
  rw [hW] at hx hb hJ1 he1 hs1
  clear hJ h hs
  go_enter Tryz.func25, Tryz.ntmps25
  go_upto_region 1 with fail
  generalize w.alloc (.cells #[.int .i64 L, .slice AJ J.length cJ] 32) = w1 at *
  obtain ⟨q0, q1, hz⟩ := id hx
  have h1 := lVLineT AJ cJ W L J w1 hJ1 (by omega) hv.1
  go_wp2_with fail
  refine h1.mono ?_
  rintro e w2 ⟨rfl, hb2⟩
  have hx2 := hx.below hb2
  have hJ2 := hJ1.below (hb2.mono (by omega))
  have he2 := he1.below (hb2.mono (by omega))
  have hs2 := hs1.below (hb2.mono (by omega))
  have hb12 := hb.trans (hb2.mono (by omega))
  clear q0 q1 hz h1 hx hJ1 he1 hs1 hb hb2
  obtain ⟨q0, q1, hz⟩ := id hx2
  have h2 := lVSgs AJ AS cJ cS W L J ss w2 hJ2 hs2 (by omega) hv.1 hvs
  go_wp2_with fail
  refine h2.mono ?_
  rintro e w3 ⟨rfl, hb3⟩
  have hx3 := hx2.below hb3
  have hJ3 := hJ2.below (hb3.mono (by omega))
  have he3 := he2.below (hb3.mono (by omega))
  have hb13 := hb12.trans (hb3.mono (by omega))
  clear h2 hb3 hx2 hJ2 q0 q1 hz he2 hs2 hb12
  obtain ⟨q0, q1, hz⟩ := id hx3
  have h3 := lVEdsT AJ A cJ c W L J es w3 hJ3 he3 (by omega) hv
  go_wp2_with fail
  refine h3.mono ?_
  rintro e w4 ⟨rfl, hb4⟩
  have hb14 := hb13.trans (hb4.mono (by omega))
  clear h3 hb4 hx3 hJ3 he3 q0 q1 hb13
  go_wp2_with (first
    | (go_at_call 20; refine (rwithin _ _ _ _).mono ?_; rintro e w' ⟨rfl, rfl⟩)
    | fail)
  go_ret
  exact ⟨rfl, by rw [hW]; exact hb14⟩
end
end Go.Proofs.YtdmmcdbojmalfaaGreat
