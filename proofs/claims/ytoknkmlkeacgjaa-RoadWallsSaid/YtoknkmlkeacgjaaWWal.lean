/- The walk of RoadWalls. -/
import Derived.Test.YtoknkmlkeacgjaaSgt
import Derived.Test.YtoknkmlkeacgjaaAwk
import Derived.Deep.RegionHeld3
namespace Go.Proofs.Ytoknkmlkeacgjaa
open Go.RowKit
theorem wl_take (ws : List Wal) {m j : Nat} (hj : j < m) : wlAt (ws.take m) j = wlAt ws j := by simp [wlAt, hj]
theorem Walls.take {w : World} {B : Nat} {A : Option Addr} {ws : List Wal} (h : Walls w B A ws) (m : Nat) : Walls w B A (ws.take m) := by
  rcases h with rfl | ⟨b, off, hA, hb, hc⟩
  · exact .inl (by simp)
  · refine .inr ⟨b, off, hA, hb, fun j hj => ?_⟩
    have h1 : j < m ∧ j < ws.length := by have hq : j < min m ws.length := (by simpa using hj); omega
    rw [wl_take ws h1.1]
    exact hc j h1.2
theorem seen_take {p : Pst} {ws : List Wal} {f : Int} {m : Nat} : ∀ k, k ≤ m → seenTo p (ws.take m) f k = seenTo p ws f k
  | 0, _ => rfl
  | k + 1, hk => by simp only [seenTo]; rw [wl_take ws (by omega), seen_take k (by omega)]
theorem seen_le {p : Pst} {ws : List Wal} {f : Int} (k : Nat) : seenTo p ws f (k + 1) ≤ seenTo p ws f k := by
  simp only [seenTo]
  split <;> omega
theorem seen_free {p : Pst} {ws : List Wal} {f : Int} : ∀ k, (∀ j, j < k → ¬ inWay p (wlAt ws j)) → seenTo p ws f k = f
  | 0, _ => rfl
  | k + 1, h => by simp only [seenTo]; rw [if_neg (h k (by omega)), seen_free k fun j hj => h j (by omega)]
theorem sg_take {p : Pst} {ws : List Wal} {far : Int} {m : Nat} (h : SgAll p ws far) (hm : m ≤ ws.length) : SgAll p (ws.take m) far := by
  obtain ⟨a, b, c, d⟩ := h
  refine ⟨a, b, by simp; omega, fun j hj => ?_⟩
  have h1 : j < m ∧ j < ws.length := by have hq : j < min m ws.length := (by simpa using hj); omega
  rw [wl_take ws h1.1]
  exact d j h1.2
theorem sg_any (p : Pst) (ws : List Wal) (far : Int) : ∃ x er : Int, ∀ (w w' : World) (e : Ending), SgRes p ws far w e w' → e = .returned (.tuple #[.int .i64 x, .int .i64 er]) ∧ Below w.heap.size w w' := by
  by_cases h : SgAll p ws far
  · exact ⟨_, _, fun w w' e hh => ⟨hh.1 h, hh.2.2⟩⟩
  · exact ⟨_, _, fun w w' e hh => ⟨hh.2.1 h, hh.2.2⟩⟩
theorem heldP {w2 w' : World} {n : Nat} {p : Pst} (hP : PsBox w2 n p) (h : Below w2.heap.size w2 w') :
    Below w2.heap.size w2 w' ∧ w'.cell? ⟨n, 0, none⟩ = some (.int .i64 p.num) ∧ w'.cell? ⟨n, 1, none⟩ = some (.int .i64 p.chain) ∧ w'.cell? ⟨n, 2, none⟩ = some (.int .i64 p.dir) ∧ w'.cell? ⟨n, 3, none⟩ = some (.int .i64 p.side) :=
  have h' := hP.below h hP.pz
  ⟨h, h'.p0, h'.p1, h'.p2, h'.p3⟩
theorem walls_cap {H : Type} {enc : TypeId × Value → H} {W : World} {base : Nat} {held : Bool} {A : Option Addr} {n c : Nat} {d : DataW H} {p : List MemPlace} (h : DataW.Trod enc Try.prog W base (fun _ => true) held 57 (.slice A n c) d p) : n ≤ c := by
  obtain ⟨fuel, hf⟩ := h
  rcases Go.Deep.open_slice Try.underlying57 hf with ⟨hcs, _⟩ | ⟨a, len, cap, m, n', D, Pl, hcs, _, hl, _⟩
  · injection hcs with hcs
    injection hcs with _ h1 h2
    omega
  · injection hcs with hcs
    injection hcs with _ h1 h2
    omega
set_option maxRecDepth 100000 in
set_option maxHeartbeats 4000000 in
theorem wWalls (A : Option Addr) (c B : Nat) (p : Pst) (ws : List Wal) (fr : Nat) (hfr : fr < 65536) (w : World) (h : Walls w B A ws) (hB : B ≤ w.heap.size) (hn : ws.length ≤ 9223372036854775807) (hcap : ws.length ≤ c) :
    Calls Try.prog 11 #[.agg #[.int .i64 p.num, .int .i64 p.chain, .int .i64 p.dir, .int .i64 p.side], .slice A ws.length c, .int .u16 fr] w fun e w' => e = .returned (.bool true) ∧ Below w.heap.size w w' := by
  have hal : Below w.heap.size w (w.alloc (.cells #[.int .i64 p.num, .int .i64 p.chain, .int .i64 p.dir, .int .i64 p.side] 56)) := (Below.refl _ _).alloc (Nat.le_refl _) _
  have hP := PsBox.new w p 56 rfl
  have hW := h.below (hal.mono hB)
  generalize hW1 : w.alloc (.cells #[.int .i64 p.num, .int .i64 p.chain, .int .i64 p.dir, .int .i64 p.side] 56) = w1 at *
  have HW := Lib.hid hW1
  clear hW1 h
  obtain ⟨p0, p1, p2, p3, pz⟩ := id hP
  have hBz : B ≤ w1.heap.size := by omega
  by_cases hl0 : ws.length = 0
  · go_enter Try.func11, Try.ntmps11
    go_upto_region 1 with fail
    rw [HW.out]
    go_wp2_with fail
    refine (lAwake _).mono ?_
    rintro e w9 ⟨rfl, hb9⟩
    go_wp2
    go_ret
    exact ⟨rfl, hal.trans (hb9.mono hal.size)⟩
  by_cases hl1 : 20 < ws.length
  · go_enter Try.func11, Try.ntmps11
    go_upto_region 1 with fail
    rw [HW.out]
    go_wp2_with fail
    refine (lAwake _).mono ?_
    rintro e w9 ⟨rfl, hb9⟩
    go_wp2
    go_ret
    exact ⟨rfl, hal.trans (hb9.mono hal.size)⟩
  obtain ⟨m, hm⟩ : ∃ m, ws.length = m + 1 := ⟨ws.length - 1, by omega⟩
  have HM := Lib.hid hm
  obtain ⟨b, o, rfl, hbl, hcc⟩ := hW.at_ (k := 0) (by omega)
  clear hcc
  have hr : 0 ≤ (fr : Int) % 10001 ∧ (fr : Int) % 10001 ≤ 10000 := by omega
  obtain ⟨r0, r1⟩ := hr
  have hc1 := fun w h hB => lSight (some ⟨b, o, none⟩) c B p ws ((fr : Int) % 10001) w h hB hn
  have hc2 := fun w h hB => lSight (some ⟨b, o, none⟩) m B p (ws.take m) ((fr : Int) % 10001) w h hB (by simp; omega)
  rw [show (ws.take m).length = m by simp [hm]] at hc2
  rw [hm] at hc1 hl1 hn hcap
  have hm20 : m + 1 ≤ 20 := by omega
  clear hl0 hl1
  have HC1 := Lib.hid hc1
  have HC2 := Lib.hid hc2
  clear hc1 hc2
  rw [hm]
  clear hm
  go_enter Try.func11, Try.ntmps11
  go_upto_region 1 with fail
  rw [HW.out]
  clear HW
  have g1 : (((m : Int) + 1) == 0) = false := by simp; omega
  have g2 : decide ((20 : Int) < (m : Int) + 1) = false := by simp; omega
  have hmc : m + 1 ≤ c := by omega
  have hmc2 : m ≤ c := by omega
  go_wp2_with fail
  obtain ⟨x, er, hx⟩ := sg_any p ws ((fr : Int) % 10001)
  have HX := Lib.hid hx
  clear hx
  refine (HC1.out w1 hW hBz).mono ?_
  intro e w2 hh
  have HR1 := Lib.hid hh
  obtain ⟨rfl, hb2⟩ := HX.out _ _ _ hh
  clear hh
  have hP2 := hP.below hb2 pz
  have hal2 := hal.trans (hb2.mono hal.size)
  have hW2 := hW.below (hb2.mono hBz)
  have hBz2 : B ≤ w2.heap.size := Nat.le_trans hBz hb2.size
  clear p0 p1 p2 p3 pz
  obtain ⟨p0, p1, p2, p3, pz⟩ := id hP2
  go_upto_region 5 with fail
  have s1 : IntKind.i64.wrap ((m : Int) + 1 - 1) = m := by rw [IntWalk.i64_in _ (by omega)]; omega
  have s0 : IntKind.i64.wrap (m : Int) = m := IntWalk.i64_in _ (by omega)
  have s2 : (0 : Int) ≤ (m : Int) := by omega
  have s3 : (m : Int) ≤ (c : Int) := by omega
  have s4 : (m : Int) ≤ (m : Int) := Int.le_refl _
  obtain ⟨y, er', hy⟩ := sg_any p (ws.take m) ((fr : Int) % 10001)
  have HY := Lib.hid hy
  clear hy
  go_cut [10, 11] (fun t10 t11 wx => t10 = .int .i64 y ∧ t11 = .int .i64 er' ∧ Hid (∃ (wa : World) (e : Ending), e = .returned (.tuple #[.int .i64 y, .int .i64 er']) ∧ SgRes p (ws.take m) ((fr : Int) % 10001) wa e wx) ∧ Below w2.heap.size w2 wx)
  case first =>
    by_cases hm0 : m = 0
    · subst hm0
      clear s0 s1 s2 s3 s4
      have z0 : IntKind.i64.wrap (0 : Int) = 0 := by decide
      have z1 : IntKind.i64.wrap ((0 : Int) + 1 - 1) = 0 := by decide
      have z2 : IntKind.i64.wrap ((1 : Int) - 1) = 0 := by decide
      have z3 : (0 : Int) ≤ (c : Int) := by omega
      have z4 : (0 : Int) ≤ 0 := Int.le_refl _
      go_region_held3 (fun w' => Below w2.heap.size w2 w' ∧ w'.cell? ⟨w.heap.size, 0, none⟩ = some (.int .i64 p.num) ∧ w'.cell? ⟨w.heap.size, 1, none⟩ = some (.int .i64 p.chain) ∧ w'.cell? ⟨w.heap.size, 2, none⟩ = some (.int .i64 p.dir) ∧ w'.cell? ⟨w.heap.size, 3, none⟩ = some (.int .i64 p.side)) ((refine heldP hP2 ?_; first | assumption | exact hbm2 | exact Below.refl _ _ | exact (Below.refl _ _).drew | exact below_drewN (Below.refl _ _) _ | fail)) (first
        | (go_at_call 34; refine (HC2.out _ ?_ ?_).mono ?_; (solve | exact (hW2.take 0).below (Below.mono (And.left (by assumption)) hBz2)); (solve | exact Nat.le_trans hBz2 (Below.size (And.left (by assumption)))); (intro e wm hh; obtain ⟨he, hbm⟩ := HY.out _ _ _ hh; have HH := Lib.hid (⟨_, e, he, hh⟩ : ∃ (wa : World) (e : Ending), e = .returned (.tuple #[.int .i64 y, .int .i64 er']) ∧ SgRes p (ws.take 0) ((fr : Int) % 10001) wa e wm); subst he); have hbm2 : Below w2.heap.size w2 wm := Below.trans (And.left (by assumption)) (hbm.mono (Below.size (And.left (by assumption)))))
        | fail)
      all_goals (go_wp2_with fail; go_meet; exact ⟨rfl, rfl, HH, hbm2⟩)
    · skip
      go_region_held3 (fun w' => Below w2.heap.size w2 w' ∧ w'.cell? ⟨w.heap.size, 0, none⟩ = some (.int .i64 p.num) ∧ w'.cell? ⟨w.heap.size, 1, none⟩ = some (.int .i64 p.chain) ∧ w'.cell? ⟨w.heap.size, 2, none⟩ = some (.int .i64 p.dir) ∧ w'.cell? ⟨w.heap.size, 3, none⟩ = some (.int .i64 p.side)) ((refine heldP hP2 ?_; first | assumption | exact hbm2 | exact Below.refl _ _ | exact (Below.refl _ _).drew | exact below_drewN (Below.refl _ _) _ | fail)) (first
        | (go_at_call 34; refine (HC2.out _ ?_ ?_).mono ?_; (solve | exact (hW2.take m).below (Below.mono (And.left (by assumption)) hBz2)); (solve | exact Nat.le_trans hBz2 (Below.size (And.left (by assumption)))); (intro e wm hh; obtain ⟨he, hbm⟩ := HY.out _ _ _ hh; have HH := Lib.hid (⟨_, e, he, hh⟩ : ∃ (wa : World) (e : Ending), e = .returned (.tuple #[.int .i64 y, .int .i64 er']) ∧ SgRes p (ws.take m) ((fr : Int) % 10001) wa e wm); subst he); have hbm2 : Below w2.heap.size w2 wm := Below.trans (And.left (by assumption)) (hbm.mono (Below.size (And.left (by assumption)))))
        | fail)
      all_goals (go_wp2_with fail; go_meet; exact ⟨rfl, rfl, HH, hbm2⟩)
  case rest =>
    obtain ⟨rfl, rfl, HR2, hb3⟩ := hcut
    obtain ⟨w3, rfl⟩ : ∃ w3 : World, w3 = wc := ⟨_, rfl⟩
    have hP3 := hP2.below hb3 hP2.pz
    have hal3 := hal2.trans (hb3.mono hal2.size)
    have hW3 := hW2.below (hb3.mono hBz2)
    clear p0 p1 p2 p3 pz
    obtain ⟨p0, p1, p2, p3, pz⟩ := id hP3
    clear s0 s1 s2 s3 s4
    have hBz3 : B ≤ w3.heap.size := Nat.le_trans hBz2 hb3.size
    by_cases hg : SgAll p ws ((fr : Int) % 10001)
    rotate_left
    · have h2 := HR1.out.2.1 hg
      injection h2 with h2
      injection h2 with h2
      have h3 : x = 0 ∧ er = 2 := by simpa using h2
      obtain ⟨rfl, rfl⟩ := h3
      clear h2
      go_wp2_with fail
      refine (lAwake _).mono ?_
      rintro e w9 ⟨rfl, hb9⟩
      go_wp2
      go_ret
      exact ⟨rfl, hal3.trans (hb9.mono hal3.size)⟩
    have hx := HR1.out.1 hg
    injection hx with hx
    injection hx with hx
    have hx3 : x = seenTo p ws (far0 p ((fr : Int) % 10001)) ws.length ∧ er = 0 := by simpa using hx
    obtain ⟨hx3, rfl⟩ := hx3
    have hy : y = seenTo p (ws.take m) (far0 p ((fr : Int) % 10001)) (ws.take m).length ∧ er' = 0 := by
      obtain ⟨wa, e, he, hh⟩ := HR2.out
      have h2 := he.symm.trans (hh.1 (sg_take hg (by have := HM.out; omega)))
      injection h2 with h2
      injection h2 with h2
      simpa using h2
    obtain ⟨hy3, rfl⟩ := hy
    clear hx HR1 HR2 HX HY HC1 HC2
    rw [HM.out] at hx3
    rw [show (ws.take m).length = m by have := HM.out; simp; omega, seen_take m (Nat.le_refl _)] at hy3
    have hle : x ≤ y := by rw [hx3, hy3]; exact seen_le m
    have hfar : 0 ≤ far0 p ((fr : Int) % 10001) ∧ far0 p ((fr : Int) % 10001) ≤ (fr : Int) % 10001 := by
      have hc := hg.1.1
      unfold far0
      split <;> omega
    have hx0 : 0 ≤ x := by rw [hx3]; exact (seen_bd hfar.1 _).1
    have hyn : y ≤ (fr : Int) % 10001 := by rw [hy3]; exact Int.le_trans (seen_bd hfar.1 _).2 hfar.2
    have hfree : (∀ j, j < m + 1 → ¬ inWay p (wlAt ws j)) → x = far0 p ((fr : Int) % 10001) ∧ y = far0 p ((fr : Int) % 10001) := fun h => ⟨by rw [hx3]; exact seen_free _ h, by rw [hy3]; exact seen_free _ fun j hj => h j (by omega)⟩
    have HFREE := Lib.hid hfree
    have hdir := hg.1.2.1
    have hch := hg.1.1
    clear hfree hx3 hy3 hfar hg
    obtain ⟨num, chain, dir, side⟩ := p
    simp only at *
    obtain ⟨ch0, ch1⟩ := hch
    generalize (fr : Int) % 10001 = n at *
    rcases hdir with rfl | rfl
    · by_cases hnc : chain < n
      · have HF0 : Hid (far0 ⟨num, chain, 1, side⟩ n = chain) := by refine Lib.hid ?_; simp only [far0]; rw [if_pos trivial]; omega
        go_wp2_with fail
        rw [show min n chain = chain by omega]
        go_loopw [13] (fun i wr => ∃ k : Nat, k ≤ m + 1 ∧ i = .int .i64 k ∧ Hid (∀ j, j < k → ¬ inWay ⟨num, chain, 1, side⟩ (wlAt ws j)) ∧ Below w3.heap.size w3 wr) (fun i _ => m + 1 - (intOf i).toNat)
        case atStart => exact ⟨0, Nat.zero_le _, rfl, hid_none, Below.refl _ _⟩
        case round =>
          obtain ⟨k, hk, rfl, ha, hb⟩ := hrel
          have hP4 := hP3.below hb hP3.pz
          clear p0 p1 p2 p3 pz
          obtain ⟨p0, p1, p2, p3, pz⟩ := id hP4
          simp only at p0 p1 p2 p3
          have hbs := hb.size
          by_cases hlt : k < m + 1
          · obtain ⟨b', o', hA, hbl', hc⟩ := (hW3.below (hb.mono hBz3)).at_ (k := k) (by have := HM.out; omega)
            obtain ⟨u0, u1, u2⟩ := hc k (by have := HM.out; omega)
            injection hA with hA
            injection hA with hA1 hA2
            subst hA1 hA2
            clear hc
            have hbw : b < wr.heap.size := by omega
            have hba := hb.alloc hbs (.cells #[.int .i64 (wlAt ws k).side, .int .i64 (wlAt ws k).fr, .int .i64 (wlAt ws k).to] 62)
            have hal4 := hal3.trans (hba.mono hal3.size)
            by_cases t1 : (wlAt ws k).side = side
            · have t1b : ((wlAt ws k).side == side) = true := by simp [t1]
              by_cases t2 : (wlAt ws k).fr < chain
              · clear t1
                go_wp2_with fail
                refine (lAwake _).mono ?_
                rintro e w9 ⟨rfl, hb9⟩
                go_wp2
                go_ret
                exact ⟨rfl, hal4.trans (hb9.mono hal4.size)⟩
              · have HK : Hid (¬ inWay ⟨num, chain, 1, side⟩ (wlAt ws k)) := by refine Lib.hid ?_; simp [inWay, t1]; omega
                clear t1
                go_wp2_with fail
                exact ⟨⟨k + 1, by omega, by go_num, hid_more ha HK.out, hba⟩, by simp [intOf]; omega⟩
            · have t1b : ((wlAt ws k).side == side) = false := by simp [t1]
              have HK : Hid (¬ inWay ⟨num, chain, 1, side⟩ (wlAt ws k)) := by refine Lib.hid ?_; simp [inWay, t1]
              go_wp2_with fail
              exact ⟨⟨k + 1, by omega, by go_num, hid_more ha HK.out, hba⟩, by simp [intOf]; omega⟩
          · obtain rfl : k = m + 1 := by omega
            obtain ⟨e1, e2⟩ := HFREE.out ha.out
            rw [HF0.out] at e1 e2
            have hal4 := hal3.trans (hb.mono hal3.size)
            have E1 := Lib.hid e1
            have E2 := Lib.hid e2
            clear e1 e2 hle hx0 hyn
            rw [E1.out, E2.out]
            go_wp2_with fail
            refine (lAwake _).mono ?_
            rintro e w9 ⟨rfl, hb9⟩
            go_wp2
            go_ret
            exact ⟨rfl, hal4.trans (hb9.mono hal4.size)⟩
      · have HF0 : Hid (far0 ⟨num, chain, 1, side⟩ n = n) := by refine Lib.hid ?_; simp only [far0]; rw [if_pos trivial]; omega
        go_wp2_with fail
        rw [show min n chain = n by omega]
        go_loopw [13] (fun i wr => ∃ k : Nat, k ≤ m + 1 ∧ i = .int .i64 k ∧ Hid (∀ j, j < k → ¬ inWay ⟨num, chain, 1, side⟩ (wlAt ws j)) ∧ Below w3.heap.size w3 wr) (fun i _ => m + 1 - (intOf i).toNat)
        case atStart => exact ⟨0, Nat.zero_le _, rfl, hid_none, Below.refl _ _⟩
        case round =>
          obtain ⟨k, hk, rfl, ha, hb⟩ := hrel
          have hP4 := hP3.below hb hP3.pz
          clear p0 p1 p2 p3 pz
          obtain ⟨p0, p1, p2, p3, pz⟩ := id hP4
          simp only at p0 p1 p2 p3
          have hbs := hb.size
          by_cases hlt : k < m + 1
          · obtain ⟨b', o', hA, hbl', hc⟩ := (hW3.below (hb.mono hBz3)).at_ (k := k) (by have := HM.out; omega)
            obtain ⟨u0, u1, u2⟩ := hc k (by have := HM.out; omega)
            injection hA with hA
            injection hA with hA1 hA2
            subst hA1 hA2
            clear hc
            have hbw : b < wr.heap.size := by omega
            have hba := hb.alloc hbs (.cells #[.int .i64 (wlAt ws k).side, .int .i64 (wlAt ws k).fr, .int .i64 (wlAt ws k).to] 62)
            have hal4 := hal3.trans (hba.mono hal3.size)
            by_cases t1 : (wlAt ws k).side = side
            · have t1b : ((wlAt ws k).side == side) = true := by simp [t1]
              by_cases t2 : (wlAt ws k).fr < chain
              · clear t1
                go_wp2_with fail
                refine (lAwake _).mono ?_
                rintro e w9 ⟨rfl, hb9⟩
                go_wp2
                go_ret
                exact ⟨rfl, hal4.trans (hb9.mono hal4.size)⟩
              · have HK : Hid (¬ inWay ⟨num, chain, 1, side⟩ (wlAt ws k)) := by refine Lib.hid ?_; simp [inWay, t1]; omega
                clear t1
                go_wp2_with fail
                exact ⟨⟨k + 1, by omega, by go_num, hid_more ha HK.out, hba⟩, by simp [intOf]; omega⟩
            · have t1b : ((wlAt ws k).side == side) = false := by simp [t1]
              have HK : Hid (¬ inWay ⟨num, chain, 1, side⟩ (wlAt ws k)) := by refine Lib.hid ?_; simp [inWay, t1]
              go_wp2_with fail
              exact ⟨⟨k + 1, by omega, by go_num, hid_more ha HK.out, hba⟩, by simp [intOf]; omega⟩
          · obtain rfl : k = m + 1 := by omega
            obtain ⟨e1, e2⟩ := HFREE.out ha.out
            rw [HF0.out] at e1 e2
            have hal4 := hal3.trans (hb.mono hal3.size)
            have E1 := Lib.hid e1
            have E2 := Lib.hid e2
            clear e1 e2 hle hx0 hyn
            rw [E1.out, E2.out]
            go_wp2_with fail
            refine (lAwake _).mono ?_
            rintro e w9 ⟨rfl, hb9⟩
            go_wp2
            go_ret
            exact ⟨rfl, hal4.trans (hb9.mono hal4.size)⟩
    · have HF0 : Hid (far0 ⟨num, chain, -1, side⟩ n = n) := by refine Lib.hid ?_; simp only [far0]; (try rw [if_neg (by decide)])
      go_wp2_with fail
      go_loopw [13] (fun i wr => ∃ k : Nat, k ≤ m + 1 ∧ i = .int .i64 k ∧ Hid (∀ j, j < k → ¬ inWay ⟨num, chain, -1, side⟩ (wlAt ws j)) ∧ Below w3.heap.size w3 wr) (fun i _ => m + 1 - (intOf i).toNat)
      case atStart => exact ⟨0, Nat.zero_le _, rfl, hid_none, Below.refl _ _⟩
      case round =>
        obtain ⟨k, hk, rfl, ha, hb⟩ := hrel
        have hP4 := hP3.below hb hP3.pz
        clear p0 p1 p2 p3 pz
        obtain ⟨p0, p1, p2, p3, pz⟩ := id hP4
        simp only at p0 p1 p2 p3
        have hbs := hb.size
        by_cases hlt : k < m + 1
        · obtain ⟨b', o', hA, hbl', hc⟩ := (hW3.below (hb.mono hBz3)).at_ (k := k) (by have := HM.out; omega)
          obtain ⟨u0, u1, u2⟩ := hc k (by have := HM.out; omega)
          injection hA with hA
          injection hA with hA1 hA2
          subst hA1 hA2
          clear hc
          have hbw : b < wr.heap.size := by omega
          have hba := hb.alloc hbs (.cells #[.int .i64 (wlAt ws k).side, .int .i64 (wlAt ws k).fr, .int .i64 (wlAt ws k).to] 62)
          have hal4 := hal3.trans (hba.mono hal3.size)
          by_cases t1 : (wlAt ws k).side = side
          · have t1b : ((wlAt ws k).side == side) = true := by simp [t1]
            by_cases t2 : chain < (wlAt ws k).to
            · clear t1
              go_wp2_with fail
              refine (lAwake _).mono ?_
              rintro e w9 ⟨rfl, hb9⟩
              go_wp2
              go_ret
              exact ⟨rfl, hal4.trans (hb9.mono hal4.size)⟩
            · have HK : Hid (¬ inWay ⟨num, chain, -1, side⟩ (wlAt ws k)) := by refine Lib.hid ?_; simp [inWay, t1]; omega
              clear t1
              go_wp2_with fail
              exact ⟨⟨k + 1, by omega, by go_num, hid_more ha HK.out, hba⟩, by simp [intOf]; omega⟩
          · have t1b : ((wlAt ws k).side == side) = false := by simp [t1]
            have HK : Hid (¬ inWay ⟨num, chain, -1, side⟩ (wlAt ws k)) := by refine Lib.hid ?_; simp [inWay, t1]
            go_wp2_with fail
            exact ⟨⟨k + 1, by omega, by go_num, hid_more ha HK.out, hba⟩, by simp [intOf]; omega⟩
        · obtain rfl : k = m + 1 := by omega
          obtain ⟨e1, e2⟩ := HFREE.out ha.out
          rw [HF0.out] at e1 e2
          have hal4 := hal3.trans (hb.mono hal3.size)
          have E1 := Lib.hid e1
          have E2 := Lib.hid e2
          clear e1 e2 hle hx0 hyn
          rw [E1.out, E2.out]
          go_wp2_with fail
          refine (lAwake _).mono ?_
          rintro e w9 ⟨rfl, hb9⟩
          go_wp2
          go_ret
          exact ⟨rfl, hal4.trans (hb9.mono hal4.size)⟩
end Go.Proofs.Ytoknkmlkeacgjaa
