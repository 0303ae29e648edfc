/- Contracts of the reference's Bright, of seen and of light.Bright. -/
import Derived.Test.YtihhfelhdgmceaaBri1
namespace Go.Proofs.Ytihhfelhdgmceaa
open Go.RowKit
set_option maxHeartbeats 1000000 in
theorem rBright (A0 A1 A2 : Option Addr) (c0 c1 c2 B : Nat) (t : Tb) (s : Sc) (d : Int) (w : World) (h : Tab w B A0 A1 A2 t) (hB : B ≤ w.heap.size) (ht : TabOk t) (hs : SceneOk s) (d0 : 1 ≤ d) (d1 : d ≤ 400) :
    Calls Try.prog 37 #[.agg #[.slice A0 t.obs.length c0, .slice A1 t.ent.length c1, .slice A2 t.r.length c2], .agg #[.int .i64 s.rise, .int .i64 s.side, .int .i64 s.turn, .int .i64 s.power], .int .i64 d] w fun x w' => x = .returned (.int .i64 (brightF t s d)) ∧ Below w.heap.size w w' := by
  have hT := Boxed.new (c0 := c0) (c1 := c1) (c2 := c2) h hB
  have hal := boxed_world (w := w) (v := #[.slice A0 t.obs.length c0, .slice A1 t.ent.length c1, .slice A2 t.r.length c2])
  generalize hW : w.alloc (.cells #[.slice A0 t.obs.length c0, .slice A1 t.ent.length c1, .slice A2 t.r.length c2] 25) = w0 at hT hal
  have hz : w0.heap.size = w.heap.size + 1 := by rw [← hW]; simp
  have HW := Lib.hid hW
  have hS := ScBox.new w0 s 40
  have hb1 : Below w0.heap.size w0 (w0.alloc (.cells #[.int .i64 s.rise, .int .i64 s.side, .int .i64 s.turn, .int .i64 s.power] 40)) := (Below.refl _ _).alloc (Nat.le_refl _) _
  generalize hW1 : w0.alloc (.cells #[.int .i64 s.rise, .int .i64 s.side, .int .i64 s.turn, .int .i64 s.power] 40) = w1 at hS hb1
  have HW1 := Lib.hid hW1
  replace hT := hT.below hb1 hT.sz
  replace hal := hal.trans (hb1.mono (by omega))
  rw [hz] at hS
  clear h hW hb1 hz hW1
  obtain ⟨⟨r0, r1⟩, ⟨s0, s1⟩, ⟨t0, t1⟩, p0, p1⟩ := hs
  have u1 := upF_bd (a := 1000 * s.rise) (b := d) (by omega) d0
  have u2 := upF_bd (a := 1000 * s.side) (b := d) (by omega) d0
  obtain ⟨u3, u4⟩ := u1
  obtain ⟨u5, u6⟩ := u2
  obtain ⟨cb0, cb1⟩ := coefF_bd ht (upF (1000 * s.rise) d) (upF (1000 * s.side) d + s.turn)
  obtain ⟨m0, m1⟩ := sq_bd d0 d1
  obtain ⟨m2, m3⟩ := pc_bd p0 p1 cb0 cb1
  have q0 := fun x => ext_cell hT.sz hT.q0 x
  have q1 := fun x => ext_cell hT.sz hT.q1 x
  have q2 := fun x => ext_cell hT.sz hT.q2 x
  have e0 := fun x => ext_cell hS.sz hS.q0 x
  have e1 := fun x => ext_cell hS.sz hS.q1 x
  have e2 := fun x => ext_cell hS.sz hS.q2 x
  have e3 := fun x => ext_cell hS.sz hS.q3 x
  have HT := Lib.hid fun x => (hT.below (ext_below w1.heap.size w1 x) hT.sz)
  have HZ : Hid (∀ x, B ≤ (ext w1.heap.size w1 x).heap.size) := fun x => Nat.le_trans (Nat.le_trans hT.lt (Nat.le_of_lt hT.sz)) (ext_size _ _ x)
  clear hB
  go_enter Try.func37, Try.ntmps37
  go_wp2_with fail
  rw [HW.out, HW1.out]
  refine wp_region_ext w1.heap.size (by kernel_rfl) (by kernel_rfl) ?_
  repeat (go_big_quiet_step (first
    | (go_at_call 69; exact ext_call_same (rup _ _ _ (by omega) (by omega) d0 (by omega)))
    | (go_at_call 23; exact ext_call (Nat.le_refl _) (rCoefficient _ _ _ _ _ _ B _ _ _ _ (HT.out _).tab (HZ.out _) ht))))
  refine wpQuiet_nil ?_
  intro w2 hw2
  have hb : Below w1.heap.size w1 w2 := by obtain ⟨y, rfl⟩ := hw2; exact ext_below _ _ _
  clear hw2 q0 q1 q2 e0 e1 e2 e3
  replace hal := hal.trans (hb.mono (by have := hT.sz; omega))
  go_wp2
  go_ret
  exact ⟨ret_int (by unfold brightF; rw [Int.mul_comm s.rise, Int.mul_comm s.side]), hal⟩
noncomputable def seenF (t : Tb) (s : Sc) : Int := if tabB t then (if sceneB s then 0 else 31) else 30
theorem seenF_t {t : Tb} {s : Sc} (h : TabOk t) (h' : SceneOk s) : seenF t s = 0 := by simp [seenF, tabB_t h, sceneB_iff.2 h']
theorem sceneB_f {s : Sc} (h : ¬ SceneOk s) : sceneB s = false := by
  cases hh : sceneB s with
  | false => rfl
  | true => exact absurd (sceneB_iff.1 hh) h
theorem seenF_s {t : Tb} {s : Sc} (h : TabOk t) (h' : ¬ SceneOk s) : seenF t s = 31 := by simp [seenF, tabB_t h, sceneB_f h']
theorem seenF_f {t : Tb} {s : Sc} (h : ¬ TabOk t) : seenF t s = 30 := by simp [seenF, tabB_f h]
theorem lseen (A0 A1 A2 : Option Addr) (c0 c1 c2 B : Nat) (t : Tb) (s : Sc) (w : World) (h : Tab w B A0 A1 A2 t) (hB : B ≤ w.heap.size) (hn : Small t) :
    Calls Try.prog 67 #[.agg #[.slice A0 t.obs.length c0, .slice A1 t.ent.length c1, .slice A2 t.r.length c2], .agg #[.int .i64 s.rise, .int .i64 s.side, .int .i64 s.turn, .int .i64 s.power]] w fun x w' => x = .returned (.int .i64 (seenF t s)) ∧ Below w.heap.size w w' := by
  have hT := Boxed.new (c0 := c0) (c1 := c1) (c2 := c2) h hB
  have hal := boxed_world (w := w) (v := #[.slice A0 t.obs.length c0, .slice A1 t.ent.length c1, .slice A2 t.r.length c2])
  generalize hW : w.alloc (.cells #[.slice A0 t.obs.length c0, .slice A1 t.ent.length c1, .slice A2 t.r.length c2] 25) = w0 at hT hal
  have hz : w0.heap.size = w.heap.size + 1 := by rw [← hW]; simp
  have HW := Lib.hid hW
  have hS := ScBox.new w0 s 40
  have hb1 : Below w0.heap.size w0 (w0.alloc (.cells #[.int .i64 s.rise, .int .i64 s.side, .int .i64 s.turn, .int .i64 s.power] 40)) := (Below.refl _ _).alloc (Nat.le_refl _) _
  generalize hW1 : w0.alloc (.cells #[.int .i64 s.rise, .int .i64 s.side, .int .i64 s.turn, .int .i64 s.power] 40) = w1 at hS hb1
  have HW1 := Lib.hid hW1
  replace hT := hT.below hb1 hT.sz
  replace hal := hal.trans (hb1.mono (by omega))
  rw [hz] at hS
  clear h hW hb1 hz hW1
  obtain ⟨q0, q1, q2⟩ := And.intro hT.q0 (And.intro hT.q1 hT.q2)
  obtain ⟨v0, v1, v2, v3, _⟩ := id hS
  by_cases ht : TabOk t
  · have e1 := tabB_t ht
    by_cases hs : SceneOk s
    · have e2 := sceneB_iff.2 hs
      have HV := Lib.hid (seenF_t ht hs)
      go_enter Try.func67, Try.ntmps67
      go_wp2_with fail
      rw [HW.out, HW1.out]
      refine (lValidTable _ _ _ _ _ _ B _ _ hT.tab (by have := hT.lt; have := hT.sz; omega) hn).mono ?_
      rintro x w2 ⟨rfl, hb⟩
      replace hal := hal.trans (hb.mono hal.size)
      replace hS := hS.below hb hS.sz
      clear v0 v1 v2 v3 q0 q1 q2 hb
      obtain ⟨v0, v1, v2, v3, _⟩ := id hS
      go_wp2_with fail
      refine (lValidScene s _).mono ?_
      rintro x w3 ⟨rfl, hb⟩
      go_wp2
      go_ret
      exact ⟨ret_int HV.out.symm, hal.trans (hb.mono hal.size)⟩
    · have e2 := sceneB_f hs
      have HV := Lib.hid (seenF_s ht hs)
      go_enter Try.func67, Try.ntmps67
      go_wp2_with fail
      rw [HW.out, HW1.out]
      refine (lValidTable _ _ _ _ _ _ B _ _ hT.tab (by have := hT.lt; have := hT.sz; omega) hn).mono ?_
      rintro x w2 ⟨rfl, hb⟩
      replace hal := hal.trans (hb.mono hal.size)
      replace hS := hS.below hb hS.sz
      clear v0 v1 v2 v3 q0 q1 q2 hb
      obtain ⟨v0, v1, v2, v3, _⟩ := id hS
      go_wp2_with fail
      refine (lValidScene s _).mono ?_
      rintro x w3 ⟨rfl, hb⟩
      go_wp2
      go_ret
      exact ⟨ret_int HV.out.symm, hal.trans (hb.mono hal.size)⟩
  · have e1 := tabB_f ht
    have HV := Lib.hid (seenF_f (s := s) ht)
    go_enter Try.func67, Try.ntmps67
    go_wp2_with fail
    rw [HW.out, HW1.out]
    refine (lValidTable _ _ _ _ _ _ B _ _ hT.tab (by have := hT.lt; have := hT.sz; omega) hn).mono ?_
    rintro x w2 ⟨rfl, hb⟩
    go_wp2
    go_ret
    exact ⟨ret_int HV.out.symm, hal.trans (hb.mono hal.size)⟩
def BriRes (t : Tb) (s : Sc) (d : Int) (w : World) (x : Ending) (w' : World) : Prop :=
  (seenF t s ≠ 0 → x = pair 0 (seenF t s)) ∧ (seenF t s = 0 → ¬ (1 ≤ d ∧ d ≤ 400) → x = pair 0 2) ∧ (seenF t s = 0 → (1 ≤ d ∧ d ≤ 400) → x = pair (brightF t s d) 0) ∧ Below w.heap.size w w'
theorem seenF_z {t : Tb} {s : Sc} (h : seenF t s = 0) : TabOk t ∧ SceneOk s := by
  by_cases ht : TabOk t
  · by_cases hs : SceneOk s
    · exact ⟨ht, hs⟩
    · rw [seenF_s ht hs] at h; omega
  · rw [seenF_f ht] at h; omega
theorem lBright (A0 A1 A2 : Option Addr) (c0 c1 c2 B : Nat) (t : Tb) (s : Sc) (d : Int) (w : World) (h : Tab w B A0 A1 A2 t) (hB : B ≤ w.heap.size) (hn : Small t) :
    Calls Try.prog 36 #[.agg #[.slice A0 t.obs.length c0, .slice A1 t.ent.length c1, .slice A2 t.r.length c2], .agg #[.int .i64 s.rise, .int .i64 s.side, .int .i64 s.turn, .int .i64 s.power], .int .i64 d] w (BriRes t s d w) := by
  have hT := Boxed.new (c0 := c0) (c1 := c1) (c2 := c2) h hB
  have hal := boxed_world (w := w) (v := #[.slice A0 t.obs.length c0, .slice A1 t.ent.length c1, .slice A2 t.r.length c2])
  generalize hW : w.alloc (.cells #[.slice A0 t.obs.length c0, .slice A1 t.ent.length c1, .slice A2 t.r.length c2] 25) = w0 at hT hal
  have hz : w0.heap.size = w.heap.size + 1 := by rw [← hW]; simp
  have HW := Lib.hid hW
  have hS := ScBox.new w0 s 40
  have hb1 : Below w0.heap.size w0 (w0.alloc (.cells #[.int .i64 s.rise, .int .i64 s.side, .int .i64 s.turn, .int .i64 s.power] 40)) := (Below.refl _ _).alloc (Nat.le_refl _) _
  generalize hW1 : w0.alloc (.cells #[.int .i64 s.rise, .int .i64 s.side, .int .i64 s.turn, .int .i64 s.power] 40) = w1 at hS hb1
  have HW1 := Lib.hid hW1
  replace hT := hT.below hb1 hT.sz
  replace hal := hal.trans (hb1.mono (by omega))
  rw [hz] at hS
  clear h hW hb1 hz hW1
  obtain ⟨q0, q1, q2⟩ := And.intro hT.q0 (And.intro hT.q1 hT.q2)
  obtain ⟨v0, v1, v2, v3, _⟩ := id hS
  by_cases hz : seenF t s = 0
  · have HZ := Lib.hid hz
    obtain ⟨ht, hs⟩ := seenF_z hz
    clear hz
    by_cases hd : 1 ≤ d ∧ d ≤ 400
    · have hi := inB_t hd.1 hd.2
      go_enter Try.func36, Try.ntmps36
      go_wp2_with fail
      rw [HW.out, HW1.out]
      refine (lseen _ _ _ _ _ _ B _ s _ hT.tab (by have := hT.lt; have := hT.sz; omega) hn).mono ?_
      rintro x w2 ⟨rfl, hb⟩
      rw [HZ.out]
      replace hal := hal.trans (hb.mono hal.size)
      replace hT := hT.below hb hT.sz
      replace hS := hS.below hb hS.sz
      clear v0 v1 v2 v3 q0 q1 q2 hb
      obtain ⟨q0, q1, q2⟩ := And.intro hT.q0 (And.intro hT.q1 hT.q2)
      obtain ⟨v0, v1, v2, v3, _⟩ := id hS
      go_wp2_with (go_at_call 58; refine (lwithin _ _ _ _).mono ?_; rintro e w' ⟨rfl, rfl⟩)
      refine (lbright _ _ _ _ _ _ B _ _ _ _ hT.tab (by have := hT.lt; have := hT.sz; omega) ht hs hd.1 hd.2).mono ?_
      rintro x w3 ⟨rfl, hb⟩
      go_wp2
      go_ret2
      exact ⟨fun h => absurd HZ.out h, fun _ h => absurd hd h, fun _ _ => rfl, hal.trans (hb.mono hal.size)⟩
    · have hi := inB_f hd
      go_enter Try.func36, Try.ntmps36
      go_wp2_with fail
      rw [HW.out, HW1.out]
      refine (lseen _ _ _ _ _ _ B _ s _ hT.tab (by have := hT.lt; have := hT.sz; omega) hn).mono ?_
      rintro x w2 ⟨rfl, hb⟩
      rw [HZ.out]
      go_wp2_with (go_at_call 58; refine (lwithin _ _ _ _).mono ?_; rintro e w' ⟨rfl, rfl⟩)
      go_ret2
      exact ⟨fun h => absurd HZ.out h, fun _ _ => rfl, fun _ h => absurd h hd, hal.trans (hb.mono hal.size)⟩
  · have HZ := Lib.hid hz
    have hne : (seenF t s != 0) = true := by rw [bne_iff_ne]; exact hz
    clear hz
    go_enter Try.func36, Try.ntmps36
    go_wp2_with fail
    rw [HW.out, HW1.out]
    refine (lseen _ _ _ _ _ _ B _ s _ hT.tab (by have := hT.lt; have := hT.sz; omega) hn).mono ?_
    rintro x w2 ⟨rfl, hb⟩
    go_wp2
    go_ret2
    exact ⟨fun _ => rfl, fun h => absurd h HZ.out, fun h => absurd h HZ.out, hal.trans (hb.mono hal.size)⟩
end Go.Proofs.Ytihhfelhdgmceaa
