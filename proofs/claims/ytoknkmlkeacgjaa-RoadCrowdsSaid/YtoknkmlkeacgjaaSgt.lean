/- Contracts of validPost, post and of the program's Sight. -/
import Derived.Test.YtoknkmlkeacgjaaArg
import Derived.Test.YtoknkmlkeacgjaaAhd
import Derived.Deep.DeepCutAuto
namespace Go.Proofs.Ytoknkmlkeacgjaa
open Go.RowKit
def PostOk (p : Pst) : Prop := (0 ≤ p.chain ∧ p.chain ≤ 10000000) ∧ (p.dir = 1 ∨ p.dir = -1) ∧ (0 ≤ p.side ∧ p.side ≤ 1)
def PostRes (p : Pst) (w : World) (e : Ending) (w' : World) : Prop := (PostOk p → e = .returned (.bool true)) ∧ (¬ PostOk p → e = .returned (.bool false)) ∧ Below w.heap.size w w'
/-- A post in a box. -/
structure PsBox (W : World) (n : Nat) (p : Pst) : Prop where
  p0 : W.cell? ⟨n, 0, none⟩ = some (.int .i64 p.num)
  p1 : W.cell? ⟨n, 1, none⟩ = some (.int .i64 p.chain)
  p2 : W.cell? ⟨n, 2, none⟩ = some (.int .i64 p.dir)
  p3 : W.cell? ⟨n, 3, none⟩ = some (.int .i64 p.side)
  pz : n < W.heap.size
theorem PsBox.below {W W' : World} {n C : Nat} {p : Pst} (h : PsBox W n p) (hb : Below C W W') (hC : n < C) : PsBox W' n p :=
  ⟨(hb.cell (p := ⟨n, 0, none⟩) hC).trans h.p0, (hb.cell (p := ⟨n, 1, none⟩) hC).trans h.p1, (hb.cell (p := ⟨n, 2, none⟩) hC).trans h.p2, (hb.cell (p := ⟨n, 3, none⟩) hC).trans h.p3, Nat.lt_of_lt_of_le h.pz hb.size⟩
theorem PsBox.new (w : World) (p : Pst) (T : TypeId) {n : Nat} (hn : w.heap.size = n) : PsBox (w.alloc (.cells #[.int .i64 p.num, .int .i64 p.chain, .int .i64 p.dir, .int .i64 p.side] T)) n p := by
  subst hn
  exact ⟨by simp [go_sem], by simp [go_sem], by simp [go_sem], by simp [go_sem], by simp⟩
set_option maxRecDepth 100000 in
theorem lvalidPost (p : Pst) (w : World) : Calls Try.prog 64 #[.agg #[.int .i64 p.num, .int .i64 p.chain, .int .i64 p.dir, .int .i64 p.side]] w (PostRes p w) := by
  have hal : Below w.heap.size w (w.alloc (.cells #[.int .i64 p.num, .int .i64 p.chain, .int .i64 p.dir, .int .i64 p.side] 56)) := (Below.refl _ _).alloc (Nat.le_refl _) _
  by_cases h1 : 0 ≤ p.chain ∧ p.chain ≤ 10000000
  rotate_left
  · have i1 := inB_f h1
    go_enter Try.func64, Try.ntmps64
    go_wp2_with (first | (go_at_call 59; refine (lisChain _ _).mono ?_; rintro e w' ⟨rfl, rfl⟩) | (go_at_call 58; refine (lisDir _ _).mono ?_; rintro e w' ⟨rfl, rfl⟩) | (go_at_call 51; refine (lwithin _ _ _ _).mono ?_; rintro e w' ⟨rfl, rfl⟩))
    go_ret
    exact ⟨fun h => absurd h.1 h1, fun _ => rfl, hal⟩
  have i1 := inB_t h1.1 h1.2
  by_cases h2 : p.dir = 1 ∨ p.dir = -1
  rotate_left
  · have i2 := dirB_f h2
    have H2 := Lib.hid h2
    clear h2
    go_enter Try.func64, Try.ntmps64
    go_wp2_with (first | (go_at_call 59; refine (lisChain _ _).mono ?_; rintro e w' ⟨rfl, rfl⟩) | (go_at_call 58; refine (lisDir _ _).mono ?_; rintro e w' ⟨rfl, rfl⟩) | (go_at_call 51; refine (lwithin _ _ _ _).mono ?_; rintro e w' ⟨rfl, rfl⟩))
    go_ret
    exact ⟨fun h => absurd h.2.1 H2.out, fun _ => rfl, hal⟩
  have i2 := dirB_iff.2 h2
  have H2 := Lib.hid h2
  clear h2
  by_cases h3 : 0 ≤ p.side ∧ p.side ≤ 1
  · have i3 := inB_t h3.1 h3.2
    go_enter Try.func64, Try.ntmps64
    go_wp2_with (first | (go_at_call 59; refine (lisChain _ _).mono ?_; rintro e w' ⟨rfl, rfl⟩) | (go_at_call 58; refine (lisDir _ _).mono ?_; rintro e w' ⟨rfl, rfl⟩) | (go_at_call 51; refine (lwithin _ _ _ _).mono ?_; rintro e w' ⟨rfl, rfl⟩))
    go_ret
    exact ⟨fun _ => rfl, fun h => absurd ⟨h1, H2.out, h3⟩ h, hal⟩
  · have i3 := inB_f h3
    go_enter Try.func64, Try.ntmps64
    go_wp2_with (first | (go_at_call 59; refine (lisChain _ _).mono ?_; rintro e w' ⟨rfl, rfl⟩) | (go_at_call 58; refine (lisDir _ _).mono ?_; rintro e w' ⟨rfl, rfl⟩) | (go_at_call 51; refine (lwithin _ _ _ _).mono ?_; rintro e w' ⟨rfl, rfl⟩))
    go_ret
    exact ⟨fun h => absurd h.2.2 h3, fun _ => rfl, hal⟩
set_option maxRecDepth 100000 in
theorem rpost (p : Pst) (w : World) : Calls Try.prog 65 #[.agg #[.int .i64 p.num, .int .i64 p.chain, .int .i64 p.dir, .int .i64 p.side]] w (PostRes p w) := by
  have hal : Below w.heap.size w (w.alloc (.cells #[.int .i64 p.num, .int .i64 p.chain, .int .i64 p.dir, .int .i64 p.side] 56)) := (Below.refl _ _).alloc (Nat.le_refl _) _
  by_cases h1 : 0 ≤ p.chain ∧ p.chain ≤ 10000000
  rotate_left
  · have i1 := inB_f h1
    go_enter Try.func65, Try.ntmps65
    go_wp2_with (first | (go_at_call 55; refine (rfrom _ _ _ _).mono ?_; rintro e w' ⟨rfl, rfl⟩) | (go_at_call 60; refine (rdirection _ _).mono ?_; rintro e w' ⟨rfl, rfl⟩))
    go_ret
    exact ⟨fun h => absurd h.1 h1, fun _ => rfl, hal⟩
  have i1 := inB_t h1.1 h1.2
  by_cases h2 : p.dir = 1 ∨ p.dir = -1
  rotate_left
  · have i2 := dirB_f h2
    have H2 := Lib.hid h2
    clear h2
    go_enter Try.func65, Try.ntmps65
    go_wp2_with (first | (go_at_call 55; refine (rfrom _ _ _ _).mono ?_; rintro e w' ⟨rfl, rfl⟩) | (go_at_call 60; refine (rdirection _ _).mono ?_; rintro e w' ⟨rfl, rfl⟩))
    go_ret
    exact ⟨fun h => absurd h.2.1 H2.out, fun _ => rfl, hal⟩
  have i2 := dirB_iff.2 h2
  have H2 := Lib.hid h2
  clear h2
  by_cases h3 : 0 ≤ p.side ∧ p.side ≤ 1
  · have i3 := inB_t h3.1 h3.2
    go_enter Try.func65, Try.ntmps65
    go_wp2_with (first | (go_at_call 55; refine (rfrom _ _ _ _).mono ?_; rintro e w' ⟨rfl, rfl⟩) | (go_at_call 60; refine (rdirection _ _).mono ?_; rintro e w' ⟨rfl, rfl⟩))
    go_ret
    exact ⟨fun _ => rfl, fun h => absurd ⟨h1, H2.out, h3⟩ h, hal⟩
  · have i3 := inB_f h3
    go_enter Try.func65, Try.ntmps65
    go_wp2_with (first | (go_at_call 55; refine (rfrom _ _ _ _).mono ?_; rintro e w' ⟨rfl, rfl⟩) | (go_at_call 60; refine (rdirection _ _).mono ?_; rintro e w' ⟨rfl, rfl⟩))
    go_ret
    exact ⟨fun h => absurd h.2.2 h3, fun _ => rfl, hal⟩
def WallOk (x : Wal) : Prop := (0 ≤ x.side ∧ x.side ≤ 1) ∧ (0 ≤ x.fr ∧ x.fr ≤ 10000000) ∧ (0 ≤ x.to ∧ x.to ≤ 10000000) ∧ x.fr ≤ x.to
/-- From how far the wall lets the post be seen, for a car that comes up. -/
def wallD (p : Pst) (x : Wal) : Int := if p.dir = 1 then p.chain - x.to else x.fr - p.chain
def inWay (p : Pst) (x : Wal) : Prop := x.side = p.side ∧ (if p.dir = 1 then x.fr < p.chain else p.chain < x.to)
instance (p : Pst) (x : Wal) : Decidable (inWay p x) := by unfold inWay; infer_instance
def seenTo (p : Pst) (ws : List Wal) (f : Int) : Nat → Int
  | 0 => f
  | k + 1 => if inWay p (wlAt ws k) then min (seenTo p ws f k) (max (wallD p (wlAt ws k)) 0) else seenTo p ws f k
def far0 (p : Pst) (far : Int) : Int := if p.dir = 1 then min far p.chain else far
theorem seen_bd {p : Pst} {ws : List Wal} {f : Int} (h0 : 0 ≤ f) : ∀ k, 0 ≤ seenTo p ws f k ∧ seenTo p ws f k ≤ f
  | 0 => ⟨h0, Int.le_refl _⟩
  | k + 1 => by
    have ih := seen_bd (p := p) (ws := ws) h0 k
    simp only [seenTo]
    split
    · omega
    · exact ih
def SgAll (p : Pst) (ws : List Wal) (far : Int) : Prop := PostOk p ∧ (0 ≤ far ∧ far ≤ 10000) ∧ ws.length ≤ 200 ∧ ∀ j, j < ws.length → WallOk (wlAt ws j)
/-- What Sight returns. -/
def SgRes (p : Pst) (ws : List Wal) (far : Int) (w : World) (e : Ending) (w' : World) : Prop :=
  (SgAll p ws far → e = .returned (.tuple #[.int .i64 (seenTo p ws (far0 p far) ws.length), .int .i64 0])) ∧ (¬ SgAll p ws far → e = .returned (.tuple #[.int .i64 0, .int .i64 2])) ∧ Below w.heap.size w w'
set_option maxRecDepth 100000 in
set_option maxHeartbeats 4000000 in
theorem lSight (A : Option Addr) (c B : Nat) (p : Pst) (ws : List Wal) (far : Int) (w : World) (h : Walls w B A ws) (hB : B ≤ w.heap.size) (hn : ws.length ≤ 9223372036854775807) :
    Calls Try.prog 34 #[.agg #[.int .i64 p.num, .int .i64 p.chain, .int .i64 p.dir, .int .i64 p.side], .slice A ws.length c, .int .i64 far] w (SgRes p ws far w) := by
  have hal : Below w.heap.size w (w.alloc (.cells #[.int .i64 p.num, .int .i64 p.chain, .int .i64 p.dir, .int .i64 p.side] 56)) := (Below.refl _ _).alloc (Nat.le_refl _) _
  have hP := PsBox.new w p 56 rfl
  have hW := h.below (hal.mono hB)
  generalize hW1 : w.alloc (.cells #[.int .i64 p.num, .int .i64 p.chain, .int .i64 p.dir, .int .i64 p.side] 56) = w1 at *
  have HW := Lib.hid hW1
  clear hW1 h
  obtain ⟨p0, p1, p2, p3, pz⟩ := id hP
  go_enter Try.func34, Try.ntmps34
  go_upto_region 1 with fail
  rw [HW.out]
  clear HW
  go_wp2_with fail
  refine (lvalidPost p w1).mono ?_
  rintro e w2 ⟨r1, r2, hb2⟩
  have hP2 := hP.below hb2 pz
  have hal2 := hal.trans (hb2.mono hal.size)
  have hW2 := hW.below (hb2.mono (Nat.le_trans hB (Nat.le_of_lt pz)))
  clear p0 p1 p2 p3 pz hP hal hW hb2
  obtain ⟨p0, p1, p2, p3, pz⟩ := id hP2
  by_cases hp : PostOk p
  rotate_left
  · rw [r2 hp]
    have HP := Lib.hid hp
    clear r1 r2 hp
    go_wp2_with (first | (go_at_call 51; refine (lwithin _ _ _ _).mono ?_; rintro e w' ⟨rfl, rfl⟩) | (go_at_call 59; refine (lisChain _ _).mono ?_; rintro e w' ⟨rfl, rfl⟩))
    go_ret2
    exact ⟨fun hh => absurd hh.1 HP.out, fun _ => rfl, hal2⟩
  rw [r1 hp]
  have HP := Lib.hid hp
  obtain ⟨⟨c0, c1⟩, hdir, s0, s1⟩ := hp
  clear r1 r2
  by_cases hf : 0 ≤ far ∧ far ≤ 10000
  rotate_left
  · have j1 := inB_f hf
    clear hdir
    go_wp2_with (first | (go_at_call 51; refine (lwithin _ _ _ _).mono ?_; rintro e w' ⟨rfl, rfl⟩) | (go_at_call 59; refine (lisChain _ _).mono ?_; rintro e w' ⟨rfl, rfl⟩))
    go_ret2
    exact ⟨fun hh => absurd hh.2.1 hf, fun _ => rfl, hal2⟩
  have j1 := inB_t hf.1 hf.2
  obtain ⟨f0, f1⟩ := hf
  by_cases hl : ws.length ≤ 200
  rotate_left
  · clear hdir
    go_wp2_with (first | (go_at_call 51; refine (lwithin _ _ _ _).mono ?_; rintro e w' ⟨rfl, rfl⟩) | (go_at_call 59; refine (lisChain _ _).mono ?_; rintro e w' ⟨rfl, rfl⟩))
    go_ret2
    exact ⟨fun hh => absurd hh.2.2.1 hl, fun _ => rfl, hal2⟩
  have hsz2 := hP2.pz
  have hBz : B ≤ w2.heap.size := Nat.le_trans hB (Nat.le_of_lt pz)
  obtain ⟨num, chain, dir, side⟩ := p
  simp only at *
  rcases hdir with rfl | rfl
  · by_cases hfc : chain < far
    · go_upto_region 5 with (first | (go_at_call 51; refine (lwithin _ _ _ _).mono ?_; rintro e w' ⟨rfl, rfl⟩) | (go_at_call 59; refine (lisChain _ _).mono ?_; rintro e w' ⟨rfl, rfl⟩))
      clear j1
      have HF0 : Hid (far0 ⟨num, chain, 1, side⟩ far = chain) := by refine Lib.hid ?_; simp only [far0]; rw [if_pos trivial]; omega
      have hff : 0 ≤ chain ∧ chain ≤ 10000 := by omega
      clear hfc
      have HSB := Lib.hid (seen_bd (p := ⟨num, chain, 1, side⟩) (ws := ws) hff.1)
      obtain ⟨ff0, ff1⟩ := hff
      go_wp2_with fail
      go_loopw [2, 34] (fun fv i wr => ∃ k : Nat, k ≤ ws.length ∧ i = .int .i64 k ∧ fv = .int .i64 (seenTo ⟨num, chain, 1, side⟩ ws chain k) ∧ Hid (∀ j, j < k → WallOk (wlAt ws j)) ∧ Below w2.heap.size w2 wr) (fun _ i _ => ws.length - (intOf i).toNat)
      case atStart => exact ⟨0, Nat.zero_le _, rfl, rfl, hid_none, Below.refl _ _⟩
      case round =>
        obtain ⟨k, hk, rfl, rfl, ha, hb⟩ := hrel
        have hP3 := hP2.below hb hsz2
        clear p0 p1 p2 p3 pz
        obtain ⟨p0, p1, p2, p3, pz⟩ := id hP3
        simp only at p0 p1 p2 p3
        have hbs := hb.size
        obtain ⟨x0, x1⟩ := HSB.out k
        by_cases hlt : k < ws.length
        · obtain ⟨b, o, rfl, hbl, hc⟩ := (hW2.below (hb.mono hBz)).at_ hlt
          obtain ⟨u0, u1, u2⟩ := hc k hlt
          clear hc
          have hbw : b < wr.heap.size := by omega
          have hba := hb.alloc hbs (.cells #[.int .i64 (wlAt ws k).side, .int .i64 (wlAt ws k).fr, .int .i64 (wlAt ws k).to] 62)
          by_cases d1 : 0 ≤ (wlAt ws k).side ∧ (wlAt ws k).side ≤ 1
          rotate_left
          · have HN : Hid (¬ WallOk (wlAt ws k)) := fun h => d1 h.1
            have id1 := inB_f d1
            go_wp2_with (first | (go_at_call 51; refine (lwithin _ _ _ _).mono ?_; rintro e w' ⟨rfl, rfl⟩) | (go_at_call 59; refine (lisChain _ _).mono ?_; rintro e w' ⟨rfl, rfl⟩))
            go_ret2
            exact ⟨fun hh => absurd (hh.2.2.2 k hlt) HN.out, fun _ => rfl, hal2.trans (hba.mono hal2.size)⟩
          have id1 := inB_t d1.1 d1.2
          obtain ⟨d10, d11⟩ := d1
          by_cases d2 : 0 ≤ (wlAt ws k).fr ∧ (wlAt ws k).fr ≤ 10000000
          rotate_left
          · have HN : Hid (¬ WallOk (wlAt ws k)) := fun h => d2 h.2.1
            have id2 := inB_f d2
            go_wp2_with (first | (go_at_call 51; refine (lwithin _ _ _ _).mono ?_; rintro e w' ⟨rfl, rfl⟩) | (go_at_call 59; refine (lisChain _ _).mono ?_; rintro e w' ⟨rfl, rfl⟩))
            go_ret2
            exact ⟨fun hh => absurd (hh.2.2.2 k hlt) HN.out, fun _ => rfl, hal2.trans (hba.mono hal2.size)⟩
          have id2 := inB_t d2.1 d2.2
          obtain ⟨d20, d21⟩ := d2
          by_cases d3 : 0 ≤ (wlAt ws k).to ∧ (wlAt ws k).to ≤ 10000000
          rotate_left
          · have HN : Hid (¬ WallOk (wlAt ws k)) := fun h => d3 h.2.2.1
            have id3 := inB_f d3
            go_wp2_with (first | (go_at_call 51; refine (lwithin _ _ _ _).mono ?_; rintro e w' ⟨rfl, rfl⟩) | (go_at_call 59; refine (lisChain _ _).mono ?_; rintro e w' ⟨rfl, rfl⟩))
            go_ret2
            exact ⟨fun hh => absurd (hh.2.2.2 k hlt) HN.out, fun _ => rfl, hal2.trans (hba.mono hal2.size)⟩
          have id3 := inB_t d3.1 d3.2
          obtain ⟨d30, d31⟩ := d3
          by_cases d4 : (wlAt ws k).fr ≤ (wlAt ws k).to
          rotate_left
          · have HN : Hid (¬ WallOk (wlAt ws k)) := fun h => d4 h.2.2.2
            go_wp2_with (first | (go_at_call 51; refine (lwithin _ _ _ _).mono ?_; rintro e w' ⟨rfl, rfl⟩) | (go_at_call 59; refine (lisChain _ _).mono ?_; rintro e w' ⟨rfl, rfl⟩))
            go_ret2
            exact ⟨fun hh => absurd (hh.2.2.2 k hlt) HN.out, fun _ => rfl, hal2.trans (hba.mono hal2.size)⟩
          have HK : Hid (WallOk (wlAt ws k)) := ⟨⟨d10, d11⟩, ⟨d20, d21⟩, ⟨d30, d31⟩, d4⟩
          by_cases t1 : (wlAt ws k).side = side
          · by_cases t2 : (wlAt ws k).fr < chain
            · have HS : Hid (seenTo ⟨num, chain, 1, side⟩ ws chain (k + 1) = min (seenTo ⟨num, chain, 1, side⟩ ws chain k) (max (chain - (wlAt ws k).to) 0)) := by refine Lib.hid ?_; simp only [seenTo, wallD]; rw [if_pos (by simp [inWay, t1, t2])]; simp
              have t1b : ((wlAt ws k).side == side) = true := by simp [t1]
              clear t1
              go_wp2_with (first | (go_at_call 51; refine (lwithin _ _ _ _).mono ?_; rintro e w' ⟨rfl, rfl⟩) | (go_at_call 59; refine (lisChain _ _).mono ?_; rintro e w' ⟨rfl, rfl⟩))
              all_goals exact ⟨⟨k + 1, by omega, by go_num, by rw [HS.out]; (congr 1; simp only [Int.min_def, Int.max_def]; (repeat' split) <;> omega), hid_more ha HK.out, hba⟩, by simp [intOf]; omega⟩
            · have HS : Hid (seenTo ⟨num, chain, 1, side⟩ ws chain (k + 1) = seenTo ⟨num, chain, 1, side⟩ ws chain k) := by refine Lib.hid ?_; simp only [seenTo]; rw [if_neg (by simp [inWay, t1]; omega)]
              have t1b : ((wlAt ws k).side == side) = true := by simp [t1]
              clear t1
              go_wp2_with (first | (go_at_call 51; refine (lwithin _ _ _ _).mono ?_; rintro e w' ⟨rfl, rfl⟩) | (go_at_call 59; refine (lisChain _ _).mono ?_; rintro e w' ⟨rfl, rfl⟩))
              exact ⟨⟨k + 1, by omega, by go_num, by rw [HS.out], hid_more ha HK.out, hba⟩, by simp [intOf]; omega⟩
          · have HS : Hid (seenTo ⟨num, chain, 1, side⟩ ws chain (k + 1) = seenTo ⟨num, chain, 1, side⟩ ws chain k) := by refine Lib.hid ?_; simp only [seenTo]; rw [if_neg (by simp [inWay, t1])]
            have t1b : ((wlAt ws k).side == side) = false := by simp [t1]
            go_wp2_with (first | (go_at_call 51; refine (lwithin _ _ _ _).mono ?_; rintro e w' ⟨rfl, rfl⟩) | (go_at_call 59; refine (lisChain _ _).mono ?_; rintro e w' ⟨rfl, rfl⟩))
            exact ⟨⟨k + 1, by omega, by go_num, by rw [HS.out], hid_more ha HK.out, hba⟩, by simp [intOf]; omega⟩
        · obtain rfl : k = ws.length := by omega
          go_wp2
          go_ret2
          have hall : SgAll ⟨num, chain, 1, side⟩ ws far := ⟨HP.out, ⟨f0, f1⟩, hl, ha.out⟩
          exact ⟨fun _ => by rw [HF0.out]; rfl, fun hh => absurd hall hh, hal2.trans (hb.mono hal2.size)⟩
    · go_upto_region 5 with (first | (go_at_call 51; refine (lwithin _ _ _ _).mono ?_; rintro e w' ⟨rfl, rfl⟩) | (go_at_call 59; refine (lisChain _ _).mono ?_; rintro e w' ⟨rfl, rfl⟩))
      clear j1
      have HF0 : Hid (far0 ⟨num, chain, 1, side⟩ far = far) := by refine Lib.hid ?_; simp only [far0]; rw [if_pos trivial]; omega
      have hff : 0 ≤ far ∧ far ≤ 10000 := by omega
      clear hfc
      have HSB := Lib.hid (seen_bd (p := ⟨num, chain, 1, side⟩) (ws := ws) hff.1)
      obtain ⟨ff0, ff1⟩ := hff
      go_wp2_with fail
      go_loopw [2, 34] (fun fv i wr => ∃ k : Nat, k ≤ ws.length ∧ i = .int .i64 k ∧ fv = .int .i64 (seenTo ⟨num, chain, 1, side⟩ ws far k) ∧ Hid (∀ j, j < k → WallOk (wlAt ws j)) ∧ Below w2.heap.size w2 wr) (fun _ i _ => ws.length - (intOf i).toNat)
      case atStart => exact ⟨0, Nat.zero_le _, rfl, rfl, hid_none, Below.refl _ _⟩
      case round =>
        obtain ⟨k, hk, rfl, rfl, ha, hb⟩ := hrel
        have hP3 := hP2.below hb hsz2
        clear p0 p1 p2 p3 pz
        obtain ⟨p0, p1, p2, p3, pz⟩ := id hP3
        simp only at p0 p1 p2 p3
        have hbs := hb.size
        obtain ⟨x0, x1⟩ := HSB.out k
        by_cases hlt : k < ws.length
        · obtain ⟨b, o, rfl, hbl, hc⟩ := (hW2.below (hb.mono hBz)).at_ hlt
          obtain ⟨u0, u1, u2⟩ := hc k hlt
          clear hc
          have hbw : b < wr.heap.size := by omega
          have hba := hb.alloc hbs (.cells #[.int .i64 (wlAt ws k).side, .int .i64 (wlAt ws k).fr, .int .i64 (wlAt ws k).to] 62)
          by_cases d1 : 0 ≤ (wlAt ws k).side ∧ (wlAt ws k).side ≤ 1
          rotate_left
          · have HN : Hid (¬ WallOk (wlAt ws k)) := fun h => d1 h.1
            have id1 := inB_f d1
            go_wp2_with (first | (go_at_call 51; refine (lwithin _ _ _ _).mono ?_; rintro e w' ⟨rfl, rfl⟩) | (go_at_call 59; refine (lisChain _ _).mono ?_; rintro e w' ⟨rfl, rfl⟩))
            go_ret2
            exact ⟨fun hh => absurd (hh.2.2.2 k hlt) HN.out, fun _ => rfl, hal2.trans (hba.mono hal2.size)⟩
          have id1 := inB_t d1.1 d1.2
          obtain ⟨d10, d11⟩ := d1
          by_cases d2 : 0 ≤ (wlAt ws k).fr ∧ (wlAt ws k).fr ≤ 10000000
          rotate_left
          · have HN : Hid (¬ WallOk (wlAt ws k)) := fun h => d2 h.2.1
            have id2 := inB_f d2
            go_wp2_with (first | (go_at_call 51; refine (lwithin _ _ _ _).mono ?_; rintro e w' ⟨rfl, rfl⟩) | (go_at_call 59; refine (lisChain _ _).mono ?_; rintro e w' ⟨rfl, rfl⟩))
            go_ret2
            exact ⟨fun hh => absurd (hh.2.2.2 k hlt) HN.out, fun _ => rfl, hal2.trans (hba.mono hal2.size)⟩
          have id2 := inB_t d2.1 d2.2
          obtain ⟨d20, d21⟩ := d2
          by_cases d3 : 0 ≤ (wlAt ws k).to ∧ (wlAt ws k).to ≤ 10000000
          rotate_left
          · have HN : Hid (¬ WallOk (wlAt ws k)) := fun h => d3 h.2.2.1
            have id3 := inB_f d3
            go_wp2_with (first | (go_at_call 51; refine (lwithin _ _ _ _).mono ?_; rintro e w' ⟨rfl, rfl⟩) | (go_at_call 59; refine (lisChain _ _).mono ?_; rintro e w' ⟨rfl, rfl⟩))
            go_ret2
            exact ⟨fun hh => absurd (hh.2.2.2 k hlt) HN.out, fun _ => rfl, hal2.trans (hba.mono hal2.size)⟩
          have id3 := inB_t d3.1 d3.2
          obtain ⟨d30, d31⟩ := d3
          by_cases d4 : (wlAt ws k).fr ≤ (wlAt ws k).to
          rotate_left
          · have HN : Hid (¬ WallOk (wlAt ws k)) := fun h => d4 h.2.2.2
            go_wp2_with (first | (go_at_call 51; refine (lwithin _ _ _ _).mono ?_; rintro e w' ⟨rfl, rfl⟩) | (go_at_call 59; refine (lisChain _ _).mono ?_; rintro e w' ⟨rfl, rfl⟩))
            go_ret2
            exact ⟨fun hh => absurd (hh.2.2.2 k hlt) HN.out, fun _ => rfl, hal2.trans (hba.mono hal2.size)⟩
          have HK : Hid (WallOk (wlAt ws k)) := ⟨⟨d10, d11⟩, ⟨d20, d21⟩, ⟨d30, d31⟩, d4⟩
          by_cases t1 : (wlAt ws k).side = side
          · by_cases t2 : (wlAt ws k).fr < chain
            · have HS : Hid (seenTo ⟨num, chain, 1, side⟩ ws far (k + 1) = min (seenTo ⟨num, chain, 1, side⟩ ws far k) (max (chain - (wlAt ws k).to) 0)) := by refine Lib.hid ?_; simp only [seenTo, wallD]; rw [if_pos (by simp [inWay, t1, t2])]; simp
              have t1b : ((wlAt ws k).side == side) = true := by simp [t1]
              clear t1
              go_wp2_with (first | (go_at_call 51; refine (lwithin _ _ _ _).mono ?_; rintro e w' ⟨rfl, rfl⟩) | (go_at_call 59; refine (lisChain _ _).mono ?_; rintro e w' ⟨rfl, rfl⟩))
              all_goals exact ⟨⟨k + 1, by omega, by go_num, by rw [HS.out]; (congr 1; simp only [Int.min_def, Int.max_def]; (repeat' split) <;> omega), hid_more ha HK.out, hba⟩, by simp [intOf]; omega⟩
            · have HS : Hid (seenTo ⟨num, chain, 1, side⟩ ws far (k + 1) = seenTo ⟨num, chain, 1, side⟩ ws far k) := by refine Lib.hid ?_; simp only [seenTo]; rw [if_neg (by simp [inWay, t1]; omega)]
              have t1b : ((wlAt ws k).side == side) = true := by simp [t1]
              clear t1
              go_wp2_with (first | (go_at_call 51; refine (lwithin _ _ _ _).mono ?_; rintro e w' ⟨rfl, rfl⟩) | (go_at_call 59; refine (lisChain _ _).mono ?_; rintro e w' ⟨rfl, rfl⟩))
              exact ⟨⟨k + 1, by omega, by go_num, by rw [HS.out], hid_more ha HK.out, hba⟩, by simp [intOf]; omega⟩
          · have HS : Hid (seenTo ⟨num, chain, 1, side⟩ ws far (k + 1) = seenTo ⟨num, chain, 1, side⟩ ws far k) := by refine Lib.hid ?_; simp only [seenTo]; rw [if_neg (by simp [inWay, t1])]
            have t1b : ((wlAt ws k).side == side) = false := by simp [t1]
            go_wp2_with (first | (go_at_call 51; refine (lwithin _ _ _ _).mono ?_; rintro e w' ⟨rfl, rfl⟩) | (go_at_call 59; refine (lisChain _ _).mono ?_; rintro e w' ⟨rfl, rfl⟩))
            exact ⟨⟨k + 1, by omega, by go_num, by rw [HS.out], hid_more ha HK.out, hba⟩, by simp [intOf]; omega⟩
        · obtain rfl : k = ws.length := by omega
          go_wp2
          go_ret2
          have hall : SgAll ⟨num, chain, 1, side⟩ ws far := ⟨HP.out, ⟨f0, f1⟩, hl, ha.out⟩
          exact ⟨fun _ => by rw [HF0.out]; rfl, fun hh => absurd hall hh, hal2.trans (hb.mono hal2.size)⟩
  · go_upto_region 5 with (first | (go_at_call 51; refine (lwithin _ _ _ _).mono ?_; rintro e w' ⟨rfl, rfl⟩) | (go_at_call 59; refine (lisChain _ _).mono ?_; rintro e w' ⟨rfl, rfl⟩))
    clear j1
    have HF0 : Hid (far0 ⟨num, chain, -1, side⟩ far = far) := by refine Lib.hid ?_; simp only [far0]; (try rw [if_neg (by decide)])
    have hff : 0 ≤ far ∧ far ≤ 10000 := by omega
    skip
    have HSB := Lib.hid (seen_bd (p := ⟨num, chain, -1, side⟩) (ws := ws) hff.1)
    obtain ⟨ff0, ff1⟩ := hff
    go_wp2_with fail
    go_loopw [2, 34] (fun fv i wr => ∃ k : Nat, k ≤ ws.length ∧ i = .int .i64 k ∧ fv = .int .i64 (seenTo ⟨num, chain, -1, side⟩ ws far k) ∧ Hid (∀ j, j < k → WallOk (wlAt ws j)) ∧ Below w2.heap.size w2 wr) (fun _ i _ => ws.length - (intOf i).toNat)
    case atStart => exact ⟨0, Nat.zero_le _, rfl, rfl, hid_none, Below.refl _ _⟩
    case round =>
      obtain ⟨k, hk, rfl, rfl, ha, hb⟩ := hrel
      have hP3 := hP2.below hb hsz2
      clear p0 p1 p2 p3 pz
      obtain ⟨p0, p1, p2, p3, pz⟩ := id hP3
      simp only at p0 p1 p2 p3
      have hbs := hb.size
      obtain ⟨x0, x1⟩ := HSB.out k
      by_cases hlt : k < ws.length
      · obtain ⟨b, o, rfl, hbl, hc⟩ := (hW2.below (hb.mono hBz)).at_ hlt
        obtain ⟨u0, u1, u2⟩ := hc k hlt
        clear hc
        have hbw : b < wr.heap.size := by omega
        have hba := hb.alloc hbs (.cells #[.int .i64 (wlAt ws k).side, .int .i64 (wlAt ws k).fr, .int .i64 (wlAt ws k).to] 62)
        by_cases d1 : 0 ≤ (wlAt ws k).side ∧ (wlAt ws k).side ≤ 1
        rotate_left
        · have HN : Hid (¬ WallOk (wlAt ws k)) := fun h => d1 h.1
          have id1 := inB_f d1
          go_wp2_with (first | (go_at_call 51; refine (lwithin _ _ _ _).mono ?_; rintro e w' ⟨rfl, rfl⟩) | (go_at_call 59; refine (lisChain _ _).mono ?_; rintro e w' ⟨rfl, rfl⟩))
          go_ret2
          exact ⟨fun hh => absurd (hh.2.2.2 k hlt) HN.out, fun _ => rfl, hal2.trans (hba.mono hal2.size)⟩
        have id1 := inB_t d1.1 d1.2
        obtain ⟨d10, d11⟩ := d1
        by_cases d2 : 0 ≤ (wlAt ws k).fr ∧ (wlAt ws k).fr ≤ 10000000
        rotate_left
        · have HN : Hid (¬ WallOk (wlAt ws k)) := fun h => d2 h.2.1
          have id2 := inB_f d2
          go_wp2_with (first | (go_at_call 51; refine (lwithin _ _ _ _).mono ?_; rintro e w' ⟨rfl, rfl⟩) | (go_at_call 59; refine (lisChain _ _).mono ?_; rintro e w' ⟨rfl, rfl⟩))
          go_ret2
          exact ⟨fun hh => absurd (hh.2.2.2 k hlt) HN.out, fun _ => rfl, hal2.trans (hba.mono hal2.size)⟩
        have id2 := inB_t d2.1 d2.2
        obtain ⟨d20, d21⟩ := d2
        by_cases d3 : 0 ≤ (wlAt ws k).to ∧ (wlAt ws k).to ≤ 10000000
        rotate_left
        · have HN : Hid (¬ WallOk (wlAt ws k)) := fun h => d3 h.2.2.1
          have id3 := inB_f d3
          go_wp2_with (first | (go_at_call 51; refine (lwithin _ _ _ _).mono ?_; rintro e w' ⟨rfl, rfl⟩) | (go_at_call 59; refine (lisChain _ _).mono ?_; rintro e w' ⟨rfl, rfl⟩))
          go_ret2
          exact ⟨fun hh => absurd (hh.2.2.2 k hlt) HN.out, fun _ => rfl, hal2.trans (hba.mono hal2.size)⟩
        have id3 := inB_t d3.1 d3.2
        obtain ⟨d30, d31⟩ := d3
        by_cases d4 : (wlAt ws k).fr ≤ (wlAt ws k).to
        rotate_left
        · have HN : Hid (¬ WallOk (wlAt ws k)) := fun h => d4 h.2.2.2
          go_wp2_with (first | (go_at_call 51; refine (lwithin _ _ _ _).mono ?_; rintro e w' ⟨rfl, rfl⟩) | (go_at_call 59; refine (lisChain _ _).mono ?_; rintro e w' ⟨rfl, rfl⟩))
          go_ret2
          exact ⟨fun hh => absurd (hh.2.2.2 k hlt) HN.out, fun _ => rfl, hal2.trans (hba.mono hal2.size)⟩
        have HK : Hid (WallOk (wlAt ws k)) := ⟨⟨d10, d11⟩, ⟨d20, d21⟩, ⟨d30, d31⟩, d4⟩
        by_cases t1 : (wlAt ws k).side = side
        · by_cases t2 : chain < (wlAt ws k).to
          · have HS : Hid (seenTo ⟨num, chain, -1, side⟩ ws far (k + 1) = min (seenTo ⟨num, chain, -1, side⟩ ws far k) (max ((wlAt ws k).fr - chain) 0)) := by refine Lib.hid ?_; simp only [seenTo, wallD]; rw [if_pos (by simp [inWay, t1, t2])]; simp
            have t1b : ((wlAt ws k).side == side) = true := by simp [t1]
            clear t1
            go_wp2_with (first | (go_at_call 51; refine (lwithin _ _ _ _).mono ?_; rintro e w' ⟨rfl, rfl⟩) | (go_at_call 59; refine (lisChain _ _).mono ?_; rintro e w' ⟨rfl, rfl⟩))
            go_quiet (fail)
            go_wp2_with fail
            all_goals exact ⟨⟨k + 1, by omega, by go_num, by rw [HS.out]; (congr 1; simp only [Int.min_def, Int.max_def]; (repeat' split) <;> omega), hid_more ha HK.out, (below_drewN hba _)⟩, by simp [intOf]; omega⟩
          · have HS : Hid (seenTo ⟨num, chain, -1, side⟩ ws far (k + 1) = seenTo ⟨num, chain, -1, side⟩ ws far k) := by refine Lib.hid ?_; simp only [seenTo]; rw [if_neg (by simp [inWay, t1]; omega)]
            have t1b : ((wlAt ws k).side == side) = true := by simp [t1]
            clear t1
            go_wp2_with (first | (go_at_call 51; refine (lwithin _ _ _ _).mono ?_; rintro e w' ⟨rfl, rfl⟩) | (go_at_call 59; refine (lisChain _ _).mono ?_; rintro e w' ⟨rfl, rfl⟩))
            go_quiet (fail)
            go_wp2_with fail
            exact ⟨⟨k + 1, by omega, by go_num, by rw [HS.out], hid_more ha HK.out, (below_drewN hba _)⟩, by simp [intOf]; omega⟩
        · have HS : Hid (seenTo ⟨num, chain, -1, side⟩ ws far (k + 1) = seenTo ⟨num, chain, -1, side⟩ ws far k) := by refine Lib.hid ?_; simp only [seenTo]; rw [if_neg (by simp [inWay, t1])]
          have t1b : ((wlAt ws k).side == side) = false := by simp [t1]
          go_wp2_with (first | (go_at_call 51; refine (lwithin _ _ _ _).mono ?_; rintro e w' ⟨rfl, rfl⟩) | (go_at_call 59; refine (lisChain _ _).mono ?_; rintro e w' ⟨rfl, rfl⟩))
          go_quiet (fail)
          go_wp2_with fail
          exact ⟨⟨k + 1, by omega, by go_num, by rw [HS.out], hid_more ha HK.out, (below_drewN hba _)⟩, by simp [intOf]; omega⟩
      · obtain rfl : k = ws.length := by omega
        go_wp2
        go_ret2
        have hall : SgAll ⟨num, chain, -1, side⟩ ws far := ⟨HP.out, ⟨f0, f1⟩, hl, ha.out⟩
        exact ⟨fun _ => by rw [HF0.out]; rfl, fun hh => absurd hall hh, hal2.trans (hb.mono hal2.size)⟩
end Go.Proofs.Ytoknkmlkeacgjaa
