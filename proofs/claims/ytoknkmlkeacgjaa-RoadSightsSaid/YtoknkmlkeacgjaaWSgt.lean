/- Contract of the reference's Sight, and the walk of RoadSights. -/
import Derived.Test.YtoknkmlkeacgjaaSgt
import Derived.Test.YtoknkmlkeacgjaaAwk
import Derived.Deep.RegionHeld3
namespace Go.Proofs.Ytoknkmlkeacgjaa
open Go.RowKit
theorem seen_iff {p : Pst} {ws : List Wal} {f x : Int} (hx : 1 ≤ x) : ∀ k, seenTo p ws f k < x ↔ (f < x ∨ ∃ j, j < k ∧ inWay p (wlAt ws j) ∧ wallD p (wlAt ws j) < x)
  | 0 => by simp [seenTo]
  | k + 1 => by
    have ih := seen_iff (p := p) (ws := ws) (f := f) hx k
    simp only [seenTo]
    have hs : (∃ j, j < k + 1 ∧ inWay p (wlAt ws j) ∧ wallD p (wlAt ws j) < x) ↔ ((∃ j, j < k ∧ inWay p (wlAt ws j) ∧ wallD p (wlAt ws j) < x) ∨ (inWay p (wlAt ws k) ∧ wallD p (wlAt ws k) < x)) := by
      constructor
      · rintro ⟨j, hj, h⟩
        by_cases e : j = k
        · subst e; exact .inr h
        · exact .inl ⟨j, by omega, h⟩
      · rintro (⟨j, hj, h⟩ | h)
        · exact ⟨j, by omega, h⟩
        · exact ⟨k, by omega, h⟩
    rw [hs]
    split
    · next hi =>
      have e : min (seenTo p ws f k) (max (wallD p (wlAt ws k)) 0) < x ↔ (seenTo p ws f k < x ∨ wallD p (wlAt ws k) < x) := by omega
      rw [e, ih]
      simp only [hi, true_and, or_assoc]
    · next hi =>
      rw [ih]
      simp only [hi, false_and, or_false]
theorem wallD_p (n c s : Int) (x : Wal) : wallD ⟨n, c, 1, s⟩ x = c - x.to := by simp [wallD]
theorem wallD_m (n c s : Int) (x : Wal) : wallD ⟨n, c, -1, s⟩ x = x.fr - c := by simp [wallD]
def hideB (x : Wal) (low high : Int) : Bool := decide (low < high) && (decide (x.fr < high) && decide (low < x.to))
theorem rhides (x : Wal) (low high : Int) (w : World) : Calls Try.prog 66 #[.agg #[.int .i64 x.side, .int .i64 x.fr, .int .i64 x.to], .int .i64 low, .int .i64 high] w fun e w' => e = .returned (.bool (hideB x low high)) ∧ Below w.heap.size w w' := by
  have hal : Below w.heap.size w (w.alloc (.cells #[.int .i64 x.side, .int .i64 x.fr, .int .i64 x.to] 62)) := (Below.refl _ _).alloc (Nat.le_refl _) _
  unfold hideB
  by_cases h1 : low < high
  · by_cases h2 : x.fr < high
    · by_cases h3 : low < x.to
      · go_enter Try.func66, Try.ntmps66
        go_wp2
        go_ret
        exact ⟨by first | (simp; done) | (simp; omega) | (simp; intros; omega), hal⟩
      · go_enter Try.func66, Try.ntmps66
        go_wp2
        go_ret
        exact ⟨by first | (simp; done) | (simp; omega) | (simp; intros; omega), hal⟩
    · go_enter Try.func66, Try.ntmps66
      go_wp2
      go_ret
      exact ⟨by first | (simp; done) | (simp; omega) | (simp; intros; omega), hal⟩
  · go_enter Try.func66, Try.ntmps66
    go_wp2
    go_ret
    exact ⟨by first | (simp; done) | (simp; omega) | (simp; intros; omega), hal⟩
theorem heldW {w2 w' : World} {n b i : Nat} {p : Pst} {v0 v1 v2 : Value} (hP : PsBox w2 n p) (hb : b < w2.heap.size) (u0 : w2.cell? ⟨b, i, none⟩ = some v0) (u1 : w2.cell? ⟨b, i + 1, none⟩ = some v1) (u2 : w2.cell? ⟨b, i + 2, none⟩ = some v2) (h : Below w2.heap.size w2 w') :
    Below w2.heap.size w2 w' ∧ w'.cell? ⟨n, 1, none⟩ = some (.int .i64 p.chain) ∧ w'.cell? ⟨n, 3, none⟩ = some (.int .i64 p.side) ∧ w'.cell? ⟨b, i, none⟩ = some v0 ∧ w'.cell? ⟨b, i + 1, none⟩ = some v1 ∧ w'.cell? ⟨b, i + 2, none⟩ = some v2 :=
  have h' := hP.below h hP.pz
  ⟨h, h'.p1, h'.p3, (h.cell (p := ⟨b, i, none⟩) hb).trans u0, (h.cell (p := ⟨b, i + 1, none⟩) hb).trans u1, (h.cell (p := ⟨b, i + 2, none⟩) hb).trans u2⟩
set_option maxRecDepth 100000 in
set_option maxHeartbeats 4000000 in
theorem rSight (A : Option Addr) (c B : Nat) (p : Pst) (ws : List Wal) (far : Int) (w : World) (h : Walls w B A ws) (hB : B ≤ w.heap.size) (hn : ws.length ≤ 9223372036854775807) :
    Calls Try.prog 35 #[.agg #[.int .i64 p.num, .int .i64 p.chain, .int .i64 p.dir, .int .i64 p.side], .slice A ws.length c, .int .i64 far] w (SgRes p ws far w) := by
  have hal : Below w.heap.size w (w.alloc (.cells #[.int .i64 p.num, .int .i64 p.chain, .int .i64 p.dir, .int .i64 p.side] 56)) := (Below.refl _ _).alloc (Nat.le_refl _) _
  have hP := PsBox.new w p 56 rfl
  have hW := h.below (hal.mono hB)
  generalize hW1 : w.alloc (.cells #[.int .i64 p.num, .int .i64 p.chain, .int .i64 p.dir, .int .i64 p.side] 56) = w1 at *
  have HW := Lib.hid hW1
  clear hW1 h
  obtain ⟨p0, p1, p2, p3, pz⟩ := id hP
  go_enter Try.func35, Try.ntmps35
  go_upto_region 1 with fail
  rw [HW.out]
  clear HW
  go_wp2_with fail
  refine (rpost p w1).mono ?_
  rintro e w2 ⟨r1, r2, hb2⟩
  have hP2 := hP.below hb2 pz
  have hal2 := hal.trans (hb2.mono hal.size)
  have hW2 := hW.below (hb2.mono (Nat.le_trans hB (Nat.le_of_lt pz)))
  clear p0 p1 p2 p3 pz hP hal hW hb2
  obtain ⟨p0, p1, p2, p3, pz⟩ := id hP2
  by_cases hp : PostOk p
  rotate_left
  · rw [r2 hp]
    have HP := Lib.hid hp
    clear r1 r2 hp
    go_wp2_with (go_at_call 55; refine (rfrom _ _ _ _).mono ?_; rintro e w' ⟨rfl, rfl⟩)
    go_ret2
    exact ⟨fun hh => absurd hh.1 HP.out, fun _ => rfl, hal2⟩
  rw [r1 hp]
  have HP := Lib.hid hp
  obtain ⟨⟨c0, c1⟩, hdir, s0, s1⟩ := hp
  clear r1 r2
  by_cases hf : 0 ≤ far ∧ far ≤ 10000
  rotate_left
  · have j1 := inB_f hf
    clear hdir
    go_wp2_with (go_at_call 55; refine (rfrom _ _ _ _).mono ?_; rintro e w' ⟨rfl, rfl⟩)
    go_ret2
    exact ⟨fun hh => absurd hh.2.1 hf, fun _ => rfl, hal2⟩
  have j1 := inB_t hf.1 hf.2
  obtain ⟨f0, f1⟩ := hf
  by_cases hl : ws.length ≤ 200
  rotate_left
  · clear hdir
    go_wp2_with (go_at_call 55; refine (rfrom _ _ _ _).mono ?_; rintro e w' ⟨rfl, rfl⟩)
    go_ret2
    exact ⟨fun hh => absurd hh.2.2.1 hl, fun _ => rfl, hal2⟩
  have hsz2 := hP2.pz
  have hBz : B ≤ w2.heap.size := Nat.le_trans hB (Nat.le_of_lt pz)
  have HDIR := Lib.hid hdir
  clear hdir
  go_wp2_with (go_at_call 55; refine (rfrom _ _ _ _).mono ?_; rintro e w' ⟨rfl, rfl⟩)
  clear j1
  go_loopw [8] (fun i wr => ∃ k : Nat, k ≤ ws.length ∧ i = .int .i64 k ∧ Hid (∀ j, j < k → WallOk (wlAt ws j)) ∧ Below w2.heap.size w2 wr) (fun i _ => ws.length - (intOf i).toNat)
  case atStart => exact ⟨0, Nat.zero_le _, rfl, hid_none, Below.refl _ _⟩
  case round =>
    obtain ⟨k, hk, rfl, ha, hb⟩ := hrel
    have hP3 := hP2.below hb hsz2
    clear p0 p1 p2 p3 pz
    obtain ⟨p0, p1, p2, p3, pz⟩ := id hP3
    have hbs := hb.size
    by_cases hlt : k < ws.length
    · obtain ⟨b, o, rfl, hbl, hc⟩ := (hW2.below (hb.mono hBz)).at_ hlt
      obtain ⟨u0, u1, u2⟩ := hc k hlt
      clear hc
      have hbw : b < wr.heap.size := by omega
      have hba := hb.alloc hbs (.cells #[.int .i64 (wlAt ws k).side, .int .i64 (wlAt ws k).fr, .int .i64 (wlAt ws k).to] 62)
      by_cases d1 : 0 ≤ (wlAt ws k).side ∧ (wlAt ws k).side ≤ 1
      rotate_left
      · have HN : Hid (¬ WallOk (wlAt ws k)) := fun h => d1 h.1
        have id1 := inB_f d1
        go_wp2_with (go_at_call 55; refine (rfrom _ _ _ _).mono ?_; rintro e w' ⟨rfl, rfl⟩)
        go_ret2
        exact ⟨fun hh => absurd (hh.2.2.2 k hlt) HN.out, fun _ => rfl, hal2.trans (hba.mono hal2.size)⟩
      have id1 := inB_t d1.1 d1.2
      obtain ⟨d10, d11⟩ := d1
      by_cases d2 : 0 ≤ (wlAt ws k).fr
      rotate_left
      · have HN : Hid (¬ WallOk (wlAt ws k)) := fun h => d2 h.2.1.1
        go_wp2_with (go_at_call 55; refine (rfrom _ _ _ _).mono ?_; rintro e w' ⟨rfl, rfl⟩)
        go_ret2
        exact ⟨fun hh => absurd (hh.2.2.2 k hlt) HN.out, fun _ => rfl, hal2.trans (hba.mono hal2.size)⟩
      by_cases d4 : (wlAt ws k).fr ≤ (wlAt ws k).to
      rotate_left
      · have HN : Hid (¬ WallOk (wlAt ws k)) := fun h => d4 h.2.2.2
        go_wp2_with (go_at_call 55; refine (rfrom _ _ _ _).mono ?_; rintro e w' ⟨rfl, rfl⟩)
        go_ret2
        exact ⟨fun hh => absurd (hh.2.2.2 k hlt) HN.out, fun _ => rfl, hal2.trans (hba.mono hal2.size)⟩
      by_cases d3 : (wlAt ws k).to ≤ 10000000
      rotate_left
      · have HN : Hid (¬ WallOk (wlAt ws k)) := fun h => d3 h.2.2.1.2
        go_wp2_with (go_at_call 55; refine (rfrom _ _ _ _).mono ?_; rintro e w' ⟨rfl, rfl⟩)
        go_ret2
        exact ⟨fun hh => absurd (hh.2.2.2 k hlt) HN.out, fun _ => rfl, hal2.trans (hba.mono hal2.size)⟩
      have HK : Hid (WallOk (wlAt ws k)) := ⟨⟨d10, d11⟩, ⟨d2, by omega⟩, ⟨by omega, d3⟩, d4⟩
      go_wp2_with (go_at_call 55; refine (rfrom _ _ _ _).mono ?_; rintro e w' ⟨rfl, rfl⟩)
      exact ⟨⟨k + 1, by omega, by go_num, hid_more ha HK.out, hba⟩, by simp [intOf]; omega⟩
    · obtain rfl : k = ws.length := by omega
      have HALL : Hid (SgAll p ws far) := ⟨HP.out, ⟨f0, f1⟩, hl, ha.out⟩
      have hal3 := hal2.trans (hb.mono hal2.size)
      have hW3 := hW2.below (hb.mono hBz)
      obtain ⟨w3, rfl⟩ : ∃ w3 : World, w3 = wr := ⟨_, rfl⟩
      have hBz3 : B ≤ w3.heap.size := Nat.le_trans hBz hb.size
      have hsz3 := hP3.pz
      have hfar : 0 ≤ far0 p far ∧ far0 p far ≤ far := by unfold far0; split <;> omega
      have hS := seen_bd (p := p) (ws := ws) hfar.1 ws.length
      have hSI : ∀ x : Int, 1 ≤ x → (seenTo p ws (far0 p far) ws.length < x ↔ (far0 p far < x ∨ ∃ j, j < ws.length ∧ inWay p (wlAt ws j) ∧ wallD p (wlAt ws j) < x)) := fun x hx => seen_iff hx _
      have HR : Hid (∀ (e : Ending) (w' : World), e = .returned (.tuple #[.int .i64 (seenTo p ws (far0 p far) ws.length), .int .i64 0]) → Below w.heap.size w w' → SgRes p ws far w e w') := fun e w' he hb => ⟨fun _ => he, fun hh => absurd HALL.out hh, hb⟩
      have HWO := Lib.hid ha.out
      have HSI := Lib.hid hSI
      generalize hSS : seenTo p ws (far0 p far) ws.length = S at *
      obtain ⟨S0, S1⟩ : 0 ≤ S ∧ S ≤ far := by omega
      clear hS hSI hSS ha hlt hk hb hbs hfar
      obtain ⟨num, chain, dir, side⟩ := p
      (try simp only at *)
      have hdir := HDIR.out
      (try simp only at hdir)
      rcases hdir with rfl | rfl
      · have HF0 : Hid (far0 ⟨num, chain, 1, side⟩ far = min far chain) := by refine Lib.hid ?_; simp only [far0]; rw [if_pos trivial]
        go_wp2_with fail
        go_loopw [10] (fun xv wr => ∃ k : Nat, (k : Int) ≤ S ∧ xv = .int .i64 ((k : Int) + 1) ∧ Below w3.heap.size w3 wr) (fun xv _ => (far + 2 - intOf xv).toNat)
        case atStart => exact ⟨0, by omega, rfl, Below.refl _ _⟩
        case round =>
          obtain ⟨k, hk, rfl, hb⟩ := hrel
          have hP4 := hP3.below hb hsz3
          clear p0 p1 p2 p3 pz
          obtain ⟨p0, p1, p2, p3, pz⟩ := id hP4
          (try simp only at p0 p1 p2 p3)
          have hbs := hb.size
          have hal4 := hal3.trans (hb.mono hal3.size)
          by_cases hkf : (k : Int) + 1 ≤ far
          rotate_left
          · obtain rfl : far = S := by omega
            go_wp2
            go_ret2
            exact HR.out _ _ rfl hal4
          by_cases hcar : chain - ((k : Int) + 1) < 0
          · have hSk : S = k := by
              have h1 := (HSI.out ((k : Int) + 1) (by omega)).2 (.inl (by rw [HF0.out]; omega))
              omega
            subst hSk
            go_wp2
            go_ret2
            exact HR.out _ _ rfl hal4
          go_wp2_with fail
          obtain ⟨w4, rfl⟩ : ∃ w4 : World, w4 = wr := ⟨_, rfl⟩
          have hW4 := hW3.below (hb.mono hBz3)
          have hBz4 : B ≤ w4.heap.size := Nat.le_trans hBz3 hb.size
          have hsz4 := hP4.pz
          go_loopw [12] (fun jv wr => ∃ j : Nat, j ≤ ws.length ∧ jv = .int .i64 j ∧ Hid (∀ i, i < j → ¬ (inWay ⟨num, chain, 1, side⟩ (wlAt ws i) ∧ wallD ⟨num, chain, 1, side⟩ (wlAt ws i) < (k : Int) + 1)) ∧ Below w4.heap.size w4 wr) (fun jv _ => ws.length - (intOf jv).toNat)
          case atStart => exact ⟨0, Nat.zero_le _, rfl, hid_none, Below.refl _ _⟩
          case round =>
            obtain ⟨j, hj, rfl, ha, hb5⟩ := hrel
            have hP5 := hP4.below hb5 hsz4
            clear p0 p1 p2 p3 pz
            obtain ⟨p0, p1, p2, p3, pz⟩ := id hP5
            (try simp only at p0 p1 p2 p3)
            have hal5 := hal4.trans (hb5.mono hal4.size)
            have hbs5 := hb5.size
            by_cases hlt : j < ws.length
            · obtain ⟨b, o, rfl, hbl, hc⟩ := (hW4.below (hb5.mono hBz4)).at_ hlt
              obtain ⟨u0, u1, u2⟩ := hc j hlt
              have hwo := HWO.out j hlt
              obtain ⟨⟨y0, y1⟩, ⟨y2, y3⟩, ⟨y4, y5⟩, y6⟩ := hwo
              clear hc
              have hbw : b < wr.heap.size := by omega
              have v1 : (0 : Int) ≤ (j : Int) := by omega
              have v2 : (j : Int) < (ws.length : Int) := by omega
              go_upto_region 18 with fail
              by_cases t1 : (wlAt ws j).side = side
              · have t1b : ((wlAt ws j).side == side) = true := by simp [t1]
                have T1 := Lib.hid t1
                clear t1
                have hmin : min (chain - ((k : Int) + 1)) chain = chain - ((k : Int) + 1) := by omega
                have hmax : max (chain - ((k : Int) + 1)) chain = chain := by omega
                go_cut [101] (fun tv wx => tv = .bool (hideB (wlAt ws j) (chain - ((k : Int) + 1)) (chain)) ∧ Below wr.heap.size wr wx)
                case first =>
                  go_region_held3 (fun w' => Below wr.heap.size wr w' ∧ w'.cell? ⟨w.heap.size, 1, none⟩ = some (.int .i64 chain) ∧ w'.cell? ⟨w.heap.size, 3, none⟩ = some (.int .i64 side) ∧ w'.cell? ⟨b, o + j * 3, none⟩ = some (.int .i64 (wlAt ws j).side) ∧ w'.cell? ⟨b, o + j * 3 + 1, none⟩ = some (.int .i64 (wlAt ws j).fr) ∧ w'.cell? ⟨b, o + j * 3 + 2, none⟩ = some (.int .i64 (wlAt ws j).to)) ((refine heldW hP5 hbw u0 u1 u2 ?_; first | assumption | exact hbm2 | exact Below.refl _ _ | exact (Below.refl _ _).drew | exact below_drewN (Below.refl _ _) _ | fail)) (first
                    | (go_at_call 66; refine (rhides (wlAt ws j) _ _ _).mono ?_; (rintro e wm ⟨rfl, hbm⟩); have hbm2 : Below wr.heap.size wr wm := Below.trans (And.left (by assumption)) (hbm.mono (Below.size (And.left (by assumption)))))
                    | fail)
                  all_goals (go_wp2_with fail; go_meet)
                  all_goals exact ⟨rfl, hbm2⟩
                case rest =>
                  obtain ⟨rfl, hbc⟩ := hcut
                  have hb6 := hb5.trans (hbc.mono hb5.size)
                  have hal6 := hal4.trans (hb6.mono hal4.size)
                  cases hv : hideB (wlAt ws j) (chain - ((k : Int) + 1)) (chain) with
                  | true =>
                    have hSk : S = k := by
                      have h1 : (chain - ((k : Int) + 1) : Int) < chain ∧ (wlAt ws j).fr < chain ∧ chain - ((k : Int) + 1) < (wlAt ws j).to := by simpa [hideB] using hv
                      have h2 := (HSI.out ((k : Int) + 1) (by omega)).2 (.inr ⟨j, hlt, ⟨T1.out, by simpa using h1.2.1⟩, by rw [wallD_p]; omega⟩)
                      omega
                    clear hmin hmax hv
                    subst hSk
                    go_wp2
                    go_ret2
                    exact HR.out _ _ rfl hal6
                  | false =>
                    have HK : Hid (¬ (inWay ⟨num, chain, 1, side⟩ (wlAt ws j) ∧ wallD ⟨num, chain, 1, side⟩ (wlAt ws j) < (k : Int) + 1)) := by
                      rintro ⟨⟨_, h1⟩, h2⟩
                      rw [wallD_p] at h2
                      have h1b : (wlAt ws j).fr < chain := by simpa using h1
                      have h3 : hideB (wlAt ws j) (chain - ((k : Int) + 1)) (chain) = true := by simp [hideB]; omega
                      rw [hv] at h3
                      cases h3
                    clear hmin hmax hv
                    go_wp2_with fail
                    exact ⟨⟨j + 1, by omega, by go_num, hid_more ha HK.out, hb6⟩, by simp [intOf]; omega⟩
              · have t1b : ((wlAt ws j).side == side) = false := by simp [t1]
                have HK : Hid (¬ (inWay ⟨num, chain, 1, side⟩ (wlAt ws j) ∧ wallD ⟨num, chain, 1, side⟩ (wlAt ws j) < (k : Int) + 1)) := fun h => t1 h.1.1
                clear t1
                go_quiet (fail)
                go_wp2_with fail
                exact ⟨⟨j + 1, by omega, by go_num, hid_more ha HK.out, below_drewN hb5 _⟩, by simp [intOf]; omega⟩
            · obtain rfl : j = ws.length := by omega
              have hSk : ((k + 1 : Nat) : Int) ≤ S := by
                by_cases h0 : S < (k : Int) + 1
                · rcases (HSI.out ((k : Int) + 1) (by omega)).1 h0 with h1 | ⟨i, hi, h1, h2⟩
                  · rw [HF0.out] at h1
                    omega
                  · exact absurd ⟨h1, h2⟩ (ha.out i hi)
                · omega
              have hb6 := hb.trans (hb5.mono hb.size)
              go_wp2_with fail
              exact ⟨⟨k + 1, hSk, by go_num, hb6⟩, by simp [intOf]; omega⟩
      · have HF0 : Hid (far0 ⟨num, chain, -1, side⟩ far = far) := by refine Lib.hid ?_; simp only [far0]; (try rw [if_neg (by decide)])
        go_wp2_with fail
        go_loopw [10] (fun xv wr => ∃ k : Nat, (k : Int) ≤ S ∧ xv = .int .i64 ((k : Int) + 1) ∧ Below w3.heap.size w3 wr) (fun xv _ => (far + 2 - intOf xv).toNat)
        case atStart => exact ⟨0, by omega, rfl, Below.refl _ _⟩
        case round =>
          obtain ⟨k, hk, rfl, hb⟩ := hrel
          have hP4 := hP3.below hb hsz3
          clear p0 p1 p2 p3 pz
          obtain ⟨p0, p1, p2, p3, pz⟩ := id hP4
          (try simp only at p0 p1 p2 p3)
          have hbs := hb.size
          have hal4 := hal3.trans (hb.mono hal3.size)
          by_cases hkf : (k : Int) + 1 ≤ far
          rotate_left
          · obtain rfl : far = S := by omega
            go_wp2
            go_ret2
            exact HR.out _ _ rfl hal4
          have hcar : ¬ chain + ((k : Int) + 1) < 0 := by omega
          go_wp2_with fail
          obtain ⟨w4, rfl⟩ : ∃ w4 : World, w4 = wr := ⟨_, rfl⟩
          have hW4 := hW3.below (hb.mono hBz3)
          have hBz4 : B ≤ w4.heap.size := Nat.le_trans hBz3 hb.size
          have hsz4 := hP4.pz
          go_loopw [12] (fun jv wr => ∃ j : Nat, j ≤ ws.length ∧ jv = .int .i64 j ∧ Hid (∀ i, i < j → ¬ (inWay ⟨num, chain, -1, side⟩ (wlAt ws i) ∧ wallD ⟨num, chain, -1, side⟩ (wlAt ws i) < (k : Int) + 1)) ∧ Below w4.heap.size w4 wr) (fun jv _ => ws.length - (intOf jv).toNat)
          case atStart => exact ⟨0, Nat.zero_le _, rfl, hid_none, Below.refl _ _⟩
          case round =>
            obtain ⟨j, hj, rfl, ha, hb5⟩ := hrel
            have hP5 := hP4.below hb5 hsz4
            clear p0 p1 p2 p3 pz
            obtain ⟨p0, p1, p2, p3, pz⟩ := id hP5
            (try simp only at p0 p1 p2 p3)
            have hal5 := hal4.trans (hb5.mono hal4.size)
            have hbs5 := hb5.size
            by_cases hlt : j < ws.length
            · obtain ⟨b, o, rfl, hbl, hc⟩ := (hW4.below (hb5.mono hBz4)).at_ hlt
              obtain ⟨u0, u1, u2⟩ := hc j hlt
              have hwo := HWO.out j hlt
              obtain ⟨⟨y0, y1⟩, ⟨y2, y3⟩, ⟨y4, y5⟩, y6⟩ := hwo
              clear hc
              have hbw : b < wr.heap.size := by omega
              have v1 : (0 : Int) ≤ (j : Int) := by omega
              have v2 : (j : Int) < (ws.length : Int) := by omega
              go_upto_region 18 with fail
              by_cases t1 : (wlAt ws j).side = side
              · have t1b : ((wlAt ws j).side == side) = true := by simp [t1]
                have T1 := Lib.hid t1
                clear t1
                have hmin : min (chain + ((k : Int) + 1)) chain = chain := by omega
                have hmax : max (chain + ((k : Int) + 1)) chain = chain + ((k : Int) + 1) := by omega
                go_cut [101] (fun tv wx => tv = .bool (hideB (wlAt ws j) (chain) (chain + ((k : Int) + 1))) ∧ Below wr.heap.size wr wx)
                case first =>
                  go_region_held3 (fun w' => Below wr.heap.size wr w' ∧ w'.cell? ⟨w.heap.size, 1, none⟩ = some (.int .i64 chain) ∧ w'.cell? ⟨w.heap.size, 3, none⟩ = some (.int .i64 side) ∧ w'.cell? ⟨b, o + j * 3, none⟩ = some (.int .i64 (wlAt ws j).side) ∧ w'.cell? ⟨b, o + j * 3 + 1, none⟩ = some (.int .i64 (wlAt ws j).fr) ∧ w'.cell? ⟨b, o + j * 3 + 2, none⟩ = some (.int .i64 (wlAt ws j).to)) ((refine heldW hP5 hbw u0 u1 u2 ?_; first | assumption | exact hbm2 | exact Below.refl _ _ | exact (Below.refl _ _).drew | exact below_drewN (Below.refl _ _) _ | fail)) (first
                    | (go_at_call 66; refine (rhides (wlAt ws j) _ _ _).mono ?_; (rintro e wm ⟨rfl, hbm⟩); have hbm2 : Below wr.heap.size wr wm := Below.trans (And.left (by assumption)) (hbm.mono (Below.size (And.left (by assumption)))))
                    | fail)
                  all_goals (go_wp2_with fail; go_meet)
                  all_goals exact ⟨rfl, hbm2⟩
                case rest =>
                  obtain ⟨rfl, hbc⟩ := hcut
                  have hb6 := hb5.trans (hbc.mono hb5.size)
                  have hal6 := hal4.trans (hb6.mono hal4.size)
                  cases hv : hideB (wlAt ws j) (chain) (chain + ((k : Int) + 1)) with
                  | true =>
                    have hSk : S = k := by
                      have h1 : (chain : Int) < chain + ((k : Int) + 1) ∧ (wlAt ws j).fr < chain + ((k : Int) + 1) ∧ chain < (wlAt ws j).to := by simpa [hideB] using hv
                      have h2 := (HSI.out ((k : Int) + 1) (by omega)).2 (.inr ⟨j, hlt, ⟨T1.out, by simpa using h1.2.2⟩, by rw [wallD_m]; omega⟩)
                      omega
                    clear hmin hmax hv
                    subst hSk
                    go_wp2
                    go_ret2
                    exact HR.out _ _ rfl hal6
                  | false =>
                    have HK : Hid (¬ (inWay ⟨num, chain, -1, side⟩ (wlAt ws j) ∧ wallD ⟨num, chain, -1, side⟩ (wlAt ws j) < (k : Int) + 1)) := by
                      rintro ⟨⟨_, h1⟩, h2⟩
                      rw [wallD_m] at h2
                      have h1b : chain < (wlAt ws j).to := by simpa using h1
                      have h3 : hideB (wlAt ws j) (chain) (chain + ((k : Int) + 1)) = true := by simp [hideB]; omega
                      rw [hv] at h3
                      cases h3
                    clear hmin hmax hv
                    go_wp2_with fail
                    exact ⟨⟨j + 1, by omega, by go_num, hid_more ha HK.out, hb6⟩, by simp [intOf]; omega⟩
              · have t1b : ((wlAt ws j).side == side) = false := by simp [t1]
                have HK : Hid (¬ (inWay ⟨num, chain, -1, side⟩ (wlAt ws j) ∧ wallD ⟨num, chain, -1, side⟩ (wlAt ws j) < (k : Int) + 1)) := fun h => t1 h.1.1
                clear t1
                go_quiet (fail)
                go_wp2_with fail
                exact ⟨⟨j + 1, by omega, by go_num, hid_more ha HK.out, below_drewN hb5 _⟩, by simp [intOf]; omega⟩
            · obtain rfl : j = ws.length := by omega
              have hSk : ((k + 1 : Nat) : Int) ≤ S := by
                by_cases h0 : S < (k : Int) + 1
                · rcases (HSI.out ((k : Int) + 1) (by omega)).1 h0 with h1 | ⟨i, hi, h1, h2⟩
                  · rw [HF0.out] at h1
                    omega
                  · exact absurd ⟨h1, h2⟩ (ha.out i hi)
                · omega
              have hb6 := hb.trans (hb5.mono hb.size)
              go_wp2_with fail
              exact ⟨⟨k + 1, hSk, by go_num, hb6⟩, by simp [intOf]; omega⟩
set_option maxRecDepth 100000 in
set_option maxHeartbeats 2000000 in
theorem wSights (A : Option Addr) (c B : Nat) (p : Pst) (ws : List Wal) (far : Int) (w : World) (h : Walls w B A ws) (hB : B ≤ w.heap.size) (hn : ws.length ≤ 9223372036854775807) :
    Calls Try.prog 10 #[.agg #[.int .i64 p.num, .int .i64 p.chain, .int .i64 p.dir, .int .i64 p.side], .slice A ws.length c, .int .i64 far] w fun e w' => e = .returned (.bool true) ∧ Below w.heap.size w w' := by
  have hal : Below w.heap.size w (w.alloc (.cells #[.int .i64 p.num, .int .i64 p.chain, .int .i64 p.dir, .int .i64 p.side] 56)) := (Below.refl _ _).alloc (Nat.le_refl _) _
  have hP := PsBox.new w p 56 rfl
  have hW := h.below (hal.mono hB)
  generalize hW1 : w.alloc (.cells #[.int .i64 p.num, .int .i64 p.chain, .int .i64 p.dir, .int .i64 p.side] 56) = w1 at *
  have HW := Lib.hid hW1
  clear hW1 h
  obtain ⟨p0, p1, p2, p3, pz⟩ := id hP
  have hBz : B ≤ w1.heap.size := by omega
  have key : ∃ x er : Int, ∀ (w w' : World) (e : Ending), SgRes p ws far w e w' → e = .returned (.tuple #[.int .i64 x, .int .i64 er]) ∧ Below w.heap.size w w' := by
    by_cases h : SgAll p ws far
    · exact ⟨_, _, fun w w' e hh => ⟨hh.1 h, hh.2.2⟩⟩
    · exact ⟨_, _, fun w w' e hh => ⟨hh.2.1 h, hh.2.2⟩⟩
  obtain ⟨x, er, key⟩ := key
  have HK := Lib.hid key
  clear key
  by_cases hl : 20 < ws.length
  · go_enter Try.func10, Try.ntmps10
    go_upto_region 1 with fail
    rw [HW.out]
    go_wp2_with fail
    refine (lAwake _).mono ?_
    rintro e w9 ⟨rfl, hb9⟩
    go_wp2
    go_ret
    exact ⟨rfl, hal.trans (hb9.mono hal.size)⟩
  go_enter Try.func10, Try.ntmps10
  go_upto_region 1 with fail
  rw [HW.out]
  go_wp2_with fail
  refine (lSight A c B p ws far w1 hW hBz hn).mono ?_
  intro e w2 hh
  obtain ⟨rfl, hb2⟩ := HK.out _ _ _ hh
  clear hh
  have hP2 := hP.below hb2 pz
  have hal2 := hal.trans (hb2.mono hal.size)
  have hW2 := hW.below (hb2.mono hBz)
  have hBz2 : B ≤ w2.heap.size := Nat.le_trans hBz hb2.size
  clear p0 p1 p2 p3 pz
  obtain ⟨p0, p1, p2, p3, pz⟩ := id hP2
  go_wp2_with fail
  refine (rSight A c B p ws far w2 hW2 hBz2 hn).mono ?_
  intro e w3 hh
  obtain ⟨rfl, hb3⟩ := HK.out _ _ _ hh
  clear hh
  have hal3 := hal2.trans (hb3.mono hal2.size)
  go_wp2_with fail
  refine (lAwake _).mono ?_
  rintro e w9 ⟨rfl, hb9⟩
  go_wp2
  go_ret
  exact ⟨rfl, hal3.trans (hb9.mono hal3.size)⟩
end Go.Proofs.Ytoknkmlkeacgjaa
