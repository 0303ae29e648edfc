/- TopEdicts: signs that are valid; what signs say; distances. -/
import Derived.Test.YtdmmcdbojmalfaaGreatEdE
namespace Go.Proofs.YtdmmcdbojmalfaaGreat
open Go.RowKit
/-- A sign as Propose makes it. -/
def VSg (L : Int) (s : Sgn) : Prop := inB 1 s.num 1000000000 = true ∧ (1 ≤ s.kind ∧ s.kind ≤ 4) ∧ ((s.kind = 1 ∧ inB 10 s.val 200 = true) ∨ (s.kind ≠ 1 ∧ s.val = 0)) ∧ inB 0 s.chain L = true ∧ dirB s.dir = true ∧ inB 1 s.rank 9 = true ∧ hrsB s.up s.down = true
set_option maxRecDepth 100000 in
set_option maxHeartbeats 1000000 in
theorem lvalued (kind v : Int) (w : World) (h : (1 ≤ kind ∧ kind ≤ 4) ∧ ((kind = 1 ∧ inB 10 v 200 = true) ∨ (kind ≠ 1 ∧ v = 0))) : Calls Tryz.prog 51 #[.int .i64 kind, .int .i64 v] w fun e w' => e = .returned (.bool true) ∧ w = w' := by
  obtain ⟨h1, h2⟩ := h
  rcases h2 with ⟨rfl, h3⟩ | ⟨hne, rfl⟩
  · clear h1
    go_enter Tryz.func51, Tryz.ntmps51
    go_wp2_with (first
      | (go_at_call 20; refine (rwithin _ _ _ _).mono ?_; rintro e w' ⟨rfl, rfl⟩)
      | fail)
    go_ret
    exact ⟨rfl, rfl⟩
  · have e1 : (kind == 1) = false := by simp [hne]
    have e6 : (kind == 6) = false := by simp; omega
    have e7 : (kind == 7) = false := by simp; omega
    have e8 : (kind == 8) = false := by simp; omega
    clear hne h1
    go_enter Tryz.func51, Tryz.ntmps51
    go_wp2
    go_ret
    exact ⟨rfl, rfl⟩
set_option maxRecDepth 100000 in
theorem lIndexF0 (A : Option Addr) (c : Nat) (f : Value) (w : World) : Calls Tryz.prog 63 #[.slice A 0 c, f] w fun e w' => e = .returned (.int .i64 (-1)) ∧ w = w' := by
  go_enter Tryz.func63, Tryz.ntmps63
  go_wp2
  refine wp_loop_rounds 1 ?_
  rw [rounds_succ]
  go_wp2
  go_ret
  exact ⟨rfl, rfl⟩
set_option maxRecDepth 100000 in
theorem lContF0 (A : Option Addr) (c : Nat) (f : Value) (w : World) : Calls Tryz.prog 52 #[.slice A 0 c, f] w fun e w' => e = .returned (.bool false) ∧ w = w' := by
  go_enter Tryz.func52, Tryz.ntmps52
  go_wp2_with (first
    | (go_at_call 63; refine (lIndexF0 _ _ _ _).mono ?_; rintro e w' ⟨rfl, rfl⟩)
    | fail)
  go_ret
  exact ⟨rfl, rfl⟩
set_option maxRecDepth 100000 in
set_option maxHeartbeats 4000000 in
theorem lVSg (L : Int) (Jv : Value) (s : Sgn) (w : World) (h : VSg L s) :
    Calls Tryz.prog 33 #[.agg #[.int .i64 L, Jv], .agg #[.int .i64 s.num, .int .i64 s.kind, .int .i64 s.val, .int .i64 s.chain, .int .i64 s.dir, .int .i64 s.rank, .int .i64 s.up, .int .i64 s.down, .slice none 0 0]] w fun e w' => e = .returned (.bool true) ∧ Below w.heap.size w w' := by
  have hb : Below w.heap.size w ((w.alloc (.cells #[.int .i64 L, Jv] 32)).alloc (.cells #[.int .i64 s.num, .int .i64 s.kind, .int .i64 s.val, .int .i64 s.chain, .int .i64 s.dir, .int .i64 s.rank, .int .i64 s.up, .int .i64 s.down, .slice none 0 0] 77)) := ((Below.refl _ _).alloc (Nat.le_refl _) _).alloc (by simp) _
  have HB := Lib.hid hb
  obtain ⟨a1, a2, a3, a4, a5, a6, a7⟩ := h
  have hk8 : inB 1 s.kind 8 = true := inB_t a2.1 (by omega)
  have hva := fun w => lvalued s.kind s.val w ⟨a2, a3⟩
  clear hb a3
  go_enter Tryz.func33, Tryz.ntmps33
  go_wp2_with (first
    | (go_at_call 20; refine (rwithin _ _ _ _).mono ?_; rintro e w' ⟨rfl, rfl⟩)
    | (go_at_call 44; refine (ldirection _ _).mono ?_; rintro e w' ⟨rfl, rfl⟩)
    | (go_at_call 45; refine (lhours _ _ _).mono ?_; rintro e w' ⟨rfl, rfl⟩)
    | (go_at_call 51; refine (hva _).mono ?_; rintro e w' ⟨rfl, rfl⟩)
    | (go_at_call 52; refine (lContF0 _ _ _ _).mono ?_; rintro e w' ⟨rfl, rfl⟩)
    | fail)
  go_ret
  exact ⟨rfl, HB.out⟩
def VSgs (L : Int) (ss : List Sgn) : Prop := ss.length ≤ 100 ∧ (∀ k (hk : k < ss.length), VSg L ss[k]) ∧ (ss.map (·.num)).Nodup
theorem vsgs_nil {L : Int} : VSgs L [] := ⟨by simp, fun k hk => absurd hk (Nat.not_lt_zero _), by simp⟩
set_option maxRecDepth 100000 in
set_option maxHeartbeats 4000000 in
theorem lVSgs (AJ A : Option Addr) (cJ c B : Nat) (L : Int) (J : List Int) (ss : List Sgn) (w : World) (hJ : Ints w B AJ J) (h : RowsK w B A 9 encG ss) (hB : B ≤ w.heap.size) (hv : VLine L J) (hs : VSgs L ss) :
    Calls Tryz.prog 13 #[.agg #[.int .i64 L, .slice AJ J.length cJ], .slice A ss.length c] w fun e w' => e = .returned (.bool true) ∧ Below w.heap.size w w' := by
  have hb : Below w.heap.size w (w.alloc (.cells #[.int .i64 L, .slice AJ J.length cJ] 32)) := (Below.refl _ _).alloc (Nat.le_refl _) _
  have hJ1 := (hJ.more hB).below hb
  have h1 := (h.more hB).below hb
  have q0 : (w.alloc (.cells #[.int .i64 L, .slice AJ J.length cJ] 32)).cell? ⟨w.heap.size, 0, none⟩ = some (.int .i64 L) := by simp [go_sem]
  have q1 : (w.alloc (.cells #[.int .i64 L, .slice AJ J.length cJ] 32)).cell? ⟨w.heap.size, 1, none⟩ = some (.slice AJ J.length cJ) := by simp [go_sem]
  have hz : w.heap.size < (w.alloc (.cells #[.int .i64 L, .slice AJ J.length cJ] 32)).heap.size := by simp
  obtain ⟨W, hW⟩ : ∃ W, w.heap.size = W := ⟨_, rfl⟩
  rw [hW] at q0 q1 hb hz hJ1 h1
  have HB : Hid (Below W w (w.alloc (.cells #[.int .i64 L, .slice AJ J.length cJ] 32))) := Lib.hid hb
  clear hJ h hB hb
  have hjn := hv.2.1
  obtain ⟨s1, s2, s3⟩ := hs
  have HS := Lib.hid s2
  have HN := Lib.hid s3
  clear s2 s3
  go_enter Tryz.func13, Tryz.ntmps13
  go_upto_region 1 with fail
  generalize w.alloc (.cells #[.int .i64 L, .slice AJ J.length cJ] 32) = w1 at *
  have hvl := lVLine AJ cJ W L J w1 hJ1 (by omega) (by omega)
  go_wp2_with fail
  refine hvl.mono ?_
  rintro e w2 ⟨b, rfl, hbv, hb2⟩
  have hHB := HB.out.trans (hb2.mono (by omega))
  have q0' := (hb2.cell (p := ⟨W, 0, none⟩) hz).trans q0
  have q1' := (hb2.cell (p := ⟨W, 1, none⟩) hz).trans q1
  have h2 := h1.below (hb2.mono (by omega))
  have hz2 : W < w2.heap.size := by have := hb2.size; omega
  obtain rfl := hbv.2 hv
  have h50' : ¬ (100 : Int) < (ss.length : Int) := by omega
  clear hvl q0 q1 h1 hJ1 hb2 hbv hv
  go_wp2_with fail
  have hr0 := Below.refl w2.heap.size w2
  go_loopw [17] (fun i wr => ∃ k : Nat, k ≤ ss.length ∧ i = .int .i64 k ∧ Below w2.heap.size w2 wr) (fun i _ => ss.length - (intOf i).toNat)
  case atStart => exact ⟨0, Nat.zero_le _, rfl, hr0⟩
  case round =>
    obtain ⟨k, hk, rfl, hbk⟩ := hrel
    clear hr0
    have hsz := hbk.size
    by_cases hlt : k < ss.length
    · obtain ⟨b, o, rfl, hbb, hcc⟩ := (h2.below (hbk.mono (by omega))).at_ hlt
      have y0 := hcc k hlt 0 _ rfl
      have y1 := hcc k hlt 1 _ rfl
      have y2 := hcc k hlt 2 _ rfl
      have y3 := hcc k hlt 3 _ rfl
      have y4 := hcc k hlt 4 _ rfl
      have y5 := hcc k hlt 5 _ rfl
      have y6 := hcc k hlt 6 _ rfl
      have y7 := hcc k hlt 7 _ rfl
      have y8 := hcc k hlt 8 _ rfl
      simp only [Nat.add_zero] at y0
      have r0 := (hbk.cell (p := ⟨W, 0, none⟩) hz2).trans q0'
      have r1 := (hbk.cell (p := ⟨W, 1, none⟩) hz2).trans q1'
      have hvx := HS.out k hlt
      clear hcc
      generalize ss[k] = x at *
      have hbA : Below wr.heap.size wr (wr.alloc (.cells #[.int .i64 x.num, .int .i64 x.kind, .int .i64 x.val, .int .i64 x.chain, .int .i64 x.dir, .int .i64 x.rank, .int .i64 x.up, .int .i64 x.down, .slice none 0 0] 77)) := (Below.refl _ _).alloc (Nat.le_refl _) _
      have HBA := Lib.hid (hbk.trans (hbA.mono hsz))
      have hz3 : W < wr.heap.size := by omega
      have hve := lVSg L (.slice AJ J.length cJ) x (wr.alloc (.cells #[.int .i64 x.num, .int .i64 x.kind, .int .i64 x.val, .int .i64 x.chain, .int .i64 x.dir, .int .i64 x.rank, .int .i64 x.up, .int .i64 x.down, .slice none 0 0] 77)) hvx
      clear hbA hbk hvx
      go_wp2_with fail
      refine hve.mono ?_
      rintro e w5 ⟨rfl, hb5⟩
      have hb25 := HBA.out.trans (hb5.mono (by have := HBA.out.size; simp at this ⊢; omega))
      clear hve hb5 y0 y1 y2 y3 y4 y5 y6 y7 y8 r0 r1
      go_wp2_with fail
      exact ⟨⟨k + 1, by omega, by go_num, hb25⟩, by simp [intOf]; omega⟩
    · obtain rfl : k = ss.length := by omega
      have h5 := h2.below (hbk.mono (by omega))
      have hdf := ldifS A c W ss wr h5 (by omega) (by omega) (fun x hx => by
        obtain ⟨j, hj, rfl⟩ := List.getElem_of_mem hx
        have := inB_iff.1 (HS.out j hj).1
        exact wf_i64 ⟨by omega, by omega⟩)
      have hbw := hHB.trans (hbk.mono (by omega))
      clear hbk hHB
      go_wp2_with fail
      refine hdf.mono ?_
      rintro e w6 ⟨bb, rfl, hbv, hb6⟩
      obtain rfl := hbv.2 HN.out
      clear hdf hbv
      go_wp2_with fail
      go_ret
      exact ⟨rfl, by rw [hW]; exact hbw.trans (hb6.mono (by omega))⟩
end Go.Proofs.YtdmmcdbojmalfaaGreat
