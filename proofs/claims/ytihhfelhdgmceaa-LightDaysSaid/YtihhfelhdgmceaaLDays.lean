/- Statement LightDays: for every face the law returns true: Value is below least on the day that Due returns and on no earlier one, it does not rise between measures, and a greater Keep gives no earlier day. No condition. -/
import Derived.Test.YtihhfelhdgmceaaDayp
import Derived.Test.YtihhfelhdgmceaaFirst
import Derived.Test.YtihhfelhdgmceaaFrame7
import Derived.Deep.DeepCutAuto
namespace Go.Proofs.Ytihhfelhdgmceaa
open Go.RowKit
/-- A face in a box. -/
structure DBox (W : World) (n : Nat) (s : Sc) (side : Int) (A : Option Addr) (l c : Nat) (day least : Int) : Prop where
  q0 : W.cell? ⟨n, 0, none⟩ = some (.int .i64 s.rise)
  q1 : W.cell? ⟨n, 1, none⟩ = some (.int .i64 s.side)
  q2 : W.cell? ⟨n, 2, none⟩ = some (.int .i64 s.turn)
  q3 : W.cell? ⟨n, 3, none⟩ = some (.int .i64 s.power)
  q4 : W.cell? ⟨n, 4, none⟩ = some (.int .i64 side)
  q5 : W.cell? ⟨n, 5, none⟩ = some (.slice A l c)
  q6 : W.cell? ⟨n, 6, none⟩ = some (.int .i64 day)
  q7 : W.cell? ⟨n, 7, none⟩ = some (.int .i64 least)
  sz : n < W.heap.size
theorem DBox.below {W W' : World} {n C : Nat} {s : Sc} {side : Int} {A : Option Addr} {l c : Nat} {day least : Int} (h : DBox W n s side A l c day least) (hb : Below C W W') (hC : n < C) : DBox W' n s side A l c day least :=
  ⟨(hb.cell hC).trans h.q0, (hb.cell hC).trans h.q1, (hb.cell hC).trans h.q2, (hb.cell hC).trans h.q3, (hb.cell hC).trans h.q4, (hb.cell hC).trans h.q5, (hb.cell hC).trans h.q6, (hb.cell hC).trans h.q7, Nat.lt_of_lt_of_le h.sz hb.size⟩
theorem DBox.new (w : World) (s : Sc) (side : Int) (A : Option Addr) (l c : Nat) (day least : Int) (T : TypeId) :
    DBox (w.alloc (.cells #[.int .i64 s.rise, .int .i64 s.side, .int .i64 s.turn, .int .i64 s.power, .int .i64 side, .slice A l c, .int .i64 day, .int .i64 least] T)) w.heap.size s side A l c day least :=
  ⟨by simp [go_sem], by simp [go_sem], by simp [go_sem], by simp [go_sem], by simp [go_sem], by simp [go_sem], by simp [go_sem], by simp [go_sem], by simp⟩
theorem ScBox.set {W : World} {b : Nat} {s : Sc} (h : ScBox W b s) {n : Nat} (hn : n < 4) (v : Int) : ScBox (W.setCell ⟨b, n, none⟩ (.int .i64 v)) b (setK s n v) := by
  obtain ⟨h0, h1, h2, h3, hz⟩ := h
  obtain rfl | rfl | rfl | rfl : n = 0 ∨ n = 1 ∨ n = 2 ∨ n = 3 := by omega
  all_goals exact ⟨by simp [go_sem, h0, setK], by simp [go_sem, h1, setK], by simp [go_sem, h2, setK], by simp [go_sem, h3, setK], by simpa using hz⟩
theorem lValue_ok (s : Sc) (side : Int) (A : Option Addr) (c B : Nat) (xs : List (Int × Int)) (day : Int) (w : World) (h : Pairs w B A xs) (hB : B ≤ w.heap.size) (hn : xs.length ≤ 100) (ho : ValOk s side xs day) :
    Calls Try.prog 48 #[.agg #[.int .i64 s.rise, .int .i64 s.side, .int .i64 s.turn, .int .i64 s.power], .int .i64 side, .slice A xs.length c, .int .i64 day] w fun e w' => e = .returned (.tuple #[.int .i64 (valF s side xs day), .int .i64 0]) ∧ Below w.heap.size w w' :=
  (lValue _ _ _ _ _ _ _ _ h hB hn).mono fun _ _ hr => ⟨hr.1 ho, hr.2.2⟩
set_option maxRecDepth 100000 in
set_option maxHeartbeats 4000000 in
theorem wDays (s : Sc) (side : Int) (A : Option Addr) (c : Nat) (xs : List (Int × Int)) (day least : Int) (more ahead : Nat) (hmo : more < 65536) (hah : ahead < 65536) (w : World) (h : Pairs w w.heap.size A xs) (hn : xs.length ≤ 9223372036854775807) :
    Calls Try.prog 17 #[.agg #[.int .i64 s.rise, .int .i64 s.side, .int .i64 s.turn, .int .i64 s.power, .int .i64 side, .slice A xs.length c, .int .i64 day, .int .i64 least], .int .u16 more, .int .u16 ahead] w fun x w' => x = .returned (.bool true) ∧ Below w.heap.size w w' := by
  have hF := DBox.new w s side A xs.length c day least 84
  have hal : Below w.heap.size w (w.alloc (.cells #[.int .i64 s.rise, .int .i64 s.side, .int .i64 s.turn, .int .i64 s.power, .int .i64 side, .slice A xs.length c, .int .i64 day, .int .i64 least] 84)) := (Below.refl _ _).alloc (Nat.le_refl _) _
  generalize hW : w.alloc (.cells #[.int .i64 s.rise, .int .i64 s.side, .int .i64 s.turn, .int .i64 s.power, .int .i64 side, .slice A xs.length c, .int .i64 day, .int .i64 least] 84) = w0 at hF hal
  have HW := Lib.hid hW
  have hP : Pairs w0 w.heap.size A xs := h.below hal
  clear hW h
  obtain ⟨q0, q1, q2, q3, q4, q5, q6, q7, _⟩ := id hF
  by_cases h50 : xs.length ≤ 50
  · have h100 : xs.length ≤ 100 := by omega
    go_enter Try.func17, Try.ntmps17
    go_wp2_with fail
    rw [HW.out]
    refine (rMeasures _ _ _ _ w.heap.size _ _ hP hal.size h100).mono ?_
    clear HW
    rintro e w1 ⟨rfl, hb⟩
    replace hP := hP.below (hb.mono hal.size)
    replace hal := hal.trans (hb.mono hal.size)
    replace hF := hF.below hb hF.sz
    clear q0 q1 q2 q3 q4 q5 q6 q7 hb
    obtain ⟨q0, q1, q2, q3, q4, q5, q6, q7, _⟩ := id hF
    by_cases hgood : MeasOk s side xs ∧ 0 ≤ least ∧ least ≤ 100000
    · obtain ⟨hm, hl0, hl1⟩ := hgood
      have e1 := measB_t hm
      rw [e1]
      clear e1
      have HM := Lib.hid hm
      have l1 := hm.2.1
      obtain ⟨b, off, rfl, hbb, hc⟩ := hP.at_ (k := xs.length - 1) (by omega)
      obtain ⟨u0, u1⟩ := hc (xs.length - 1) (by omega)
      obtain ⟨n, rfl⟩ := Int.eq_ofNat_of_zero_le hm.1.1
      have hn3 : n < 4 := by have := hm.1.2; omega
      obtain ⟨k0, k1⟩ := hm.2.2.2.1 n hn3
      obtain ⟨d0, d1⟩ := (hm.2.2.2.2 (xs.length - 1) (by omega)).1
      clear hm hc u1
      go_wp2_with fail
      refine (lDue _ _ _ _ w.heap.size _ _ _ hP hal.size h100).mono ?_
      rintro e w2 hr
      obtain ⟨dd, ok, er, hi, rfl, hb⟩ := hr
      have hok : DueOk s n xs least := ⟨HM.out, hl0, hl1⟩
      clear u0
      replace hP := hP.below (hb.mono hal.size)
      replace hal := hal.trans (hb.mono hal.size)
      replace hF := hF.below hb hF.sz
      clear q0 q1 q2 q3 q4 q5 q6 q7 hb
      obtain ⟨q0, q1, q2, q3, q4, q5, q6, q7, _⟩ := id hF
      rcases hi with ⟨hno, _⟩ | ⟨_, rfl, hi⟩
      · exact absurd hok hno
      · clear hok
        rcases hi with ⟨i, hat, rfl, rfl⟩ | ⟨hno, rfl, rfl⟩
        · have HA := Lib.hid hat
          obtain ⟨hvo, hvl⟩ := val_due HM.out hat
          have t1 := hat.1
          have t0 : (atp xs (xs.length - 1)).1 ≤ dueDay xs i := by unfold dueDay; omega
          clear hat
          go_wp2_with fail
          refine (lValue_ok _ _ _ _ w.heap.size _ _ _ hP hal.size h100 hvo).mono ?_
          rintro e w3 ⟨rfl, hb⟩
          clear hvo
          replace hP := hP.below (hb.mono hal.size)
          replace hal := hal.trans (hb.mono hal.size)
          replace hF := hF.below hb hF.sz
          clear q0 q1 q2 q3 q4 q5 q6 q7 hb
          obtain ⟨q0, q1, q2, q3, q4, q5, q6, q7, _⟩ := id hF
          by_cases hend : (atp xs (xs.length - 1)).1 ≤ dueDay xs i - 1
          · have HE := Lib.hid (val_ahead HM.out HA.out hend)
            have b1 : (atp xs (xs.length - 1)).1 ≤ max (atp xs (xs.length - 1)).1 (dueDay xs i - 1 - (ahead : Int) % 800) := by omega
            have b2 : max (atp xs (xs.length - 1)).1 (dueDay xs i - 1 - (ahead : Int) % 800) ≤ (dueDay xs i - 1) := by omega
            have b3 := Lib.hid (val_late HM.out b1 (by omega)).1
            have b4 := Lib.hid (val_down HM.out b1 b2 (by omega))
            go_wp2_with fail
            generalize max (atp xs (xs.length - 1)).1 (dueDay xs i - 1 - (ahead : Int) % 800) = d2 at b1 b2 b3 b4 ⊢
            refine (lValue_ok _ _ _ _ w.heap.size _ _ _ hP hal.size h100 b3.out).mono ?_
            rintro e w4 ⟨rfl, hb⟩
            replace hP := hP.below (hb.mono hal.size)
            replace hal := hal.trans (hb.mono hal.size)
            replace hF := hF.below hb hF.sz
            clear q0 q1 q2 q3 q4 q5 q6 q7 hb
            obtain ⟨q0, q1, q2, q3, q4, q5, q6, q7, _⟩ := id hF
            go_wp2_with fail
            refine (lValue_ok _ _ _ _ w.heap.size _ _ _ hP hal.size h100 (val_late HM.out hend (by omega)).1).mono ?_
            rintro e w6 ⟨rfl, hb⟩
            replace hP := hP.below (hb.mono hal.size)
            replace hal := hal.trans (hb.mono hal.size)
            replace hF := hF.below hb hF.sz
            clear q0 q1 q2 q3 q4 q5 q6 q7 hb
            obtain ⟨q0, q1, q2, q3, q4, q5, q6, q7, _⟩ := id hF
            have b5 := b4.out
            have b6 := HE.out
            have hS5 := ScBox.new w6 s 81
            have hb : Below w6.heap.size w6 (w6.alloc (.cells #[.int .i64 s.rise, .int .i64 s.side, .int .i64 s.turn, .int .i64 s.power] 81)) := (Below.refl _ _).alloc (Nat.le_refl _) _
            have f5 : (w6.alloc (.cells #[.int .i64 s.rise, .int .i64 s.side, .int .i64 s.turn, .int .i64 s.power] 81)).frozen? ⟨w6.heap.size, n, none⟩ = false := by simp [go_sem]
            generalize hW5 : w6.alloc (.cells #[.int .i64 s.rise, .int .i64 s.side, .int .i64 s.turn, .int .i64 s.power] 81) = w5 at hS5 hb f5
            have HW5 := Lib.hid hW5
            clear hW5
            go_wp2_with fail
            rw [HW5.out]
            clear HW5
            have hWl := hal.size
            have hFz := hF.sz
            replace hP := hP.below (hb.mono hal.size)
            replace hal := hal.trans (hb.mono hal.size)
            replace hF := hF.below hb hF.sz
            clear q0 q1 q2 q3 q4 q5 q6 q7 hb
            obtain ⟨q0, q1, q2, q3, q4, q5, q6, q7, _⟩ := id hF
            have v5 := hS5.at_ hn3
            have hz5 := hS5.sz
            go_cut [] (fun wx => Drew (w5.setCell ⟨w6.heap.size, n, none⟩ (.int .i64 (min 1000 (keepAt s n + (more : Int) % 200)))) wx)
            case first =>
              go_region
              all_goals (go_wp2_with fail; go_meet; exact (Drew.refl _).drew)
            case rest =>
              have hS6 := (hS5.set hn3 (min 1000 (keepAt s n + (more : Int) % 200))).below (hcut.below (w6.heap.size + 1)) (Nat.lt_succ_self _)
              have hb := ((Below.refl w6.heap.size w5).setCell (p := ⟨w6.heap.size, n, none⟩) (Nat.le_refl _) (.int .i64 (min 1000 (keepAt s n + (more : Int) % 200)))).trans (hcut.below _)
              clear hcut
              have kv0 : 0 ≤ (min 1000 (keepAt s n + (more : Int) % 200)) := by omega
              have kv1 : (min 1000 (keepAt s n + (more : Int) % 200)) ≤ 1000 := by omega
              have kv2 : keepAt s n ≤ (min 1000 (keepAt s n + (more : Int) % 200)) := by omega
              generalize (min 1000 (keepAt s n + (more : Int) % 200)) = v at hS6 hb kv0 kv1 kv2
              replace hP := hP.below (hb.mono hWl)
              replace hal := hal.trans (hb.mono hWl)
              replace hF := hF.below hb hFz
              clear q0 q1 q2 q3 q4 q5 q6 q7 hb v5 f5
              obtain ⟨q0, q1, q2, q3, q4, q5, q6, q7, _⟩ := id hF
              obtain ⟨r0, r1, r2, r3, _⟩ := id hS6
              go_wp2_with fail
              refine (lDue _ _ _ _ w.heap.size _ _ _ hP hal.size h100).mono ?_
              rintro e w7 hr
              obtain ⟨dd2, ok2, er2, hi2, rfl, hb⟩ := hr
              clear r0 r1 r2 r3
              replace hP := hP.below (hb.mono hal.size)
              replace hal := hal.trans (hb.mono hal.size)
              replace hF := hF.below hb hF.sz
              clear q0 q1 q2 q3 q4 q5 q6 q7 hb
              obtain ⟨q0, q1, q2, q3, q4, q5, q6, q7, _⟩ := id hF
              rcases hi2 with ⟨hno2, _⟩ | ⟨_, rfl, hi2⟩
              · exact absurd ⟨meas_set HM.out kv0 kv1, hl0, hl1⟩ hno2
              · rcases hi2 with ⟨j, hat2, rfl, rfl⟩ | ⟨hno2, rfl, rfl⟩
                · have hle := (due_later HM.out kv2 hat2).2 i HA.out
                  clear hat2
                  go_wp2_with fail
                  refine (lfirst _).mono ?_
                  rintro e w9 ⟨rfl, hb5⟩
                  go_wp2
                  go_ret
                  exact ⟨rfl, hal.trans (hb5.mono hal.size)⟩
                · clear hno2
                  go_wp2_with fail
                  refine (lfirst _).mono ?_
                  rintro e w9 ⟨rfl, hb5⟩
                  go_wp2
                  go_ret
                  exact ⟨rfl, hal.trans (hb5.mono hal.size)⟩
          · have hS5 := ScBox.new w3 s 81
            have hb : Below w3.heap.size w3 (w3.alloc (.cells #[.int .i64 s.rise, .int .i64 s.side, .int .i64 s.turn, .int .i64 s.power] 81)) := (Below.refl _ _).alloc (Nat.le_refl _) _
            have f5 : (w3.alloc (.cells #[.int .i64 s.rise, .int .i64 s.side, .int .i64 s.turn, .int .i64 s.power] 81)).frozen? ⟨w3.heap.size, n, none⟩ = false := by simp [go_sem]
            generalize hW5 : w3.alloc (.cells #[.int .i64 s.rise, .int .i64 s.side, .int .i64 s.turn, .int .i64 s.power] 81) = w5 at hS5 hb f5
            have HW5 := Lib.hid hW5
            clear hW5
            go_wp2_with fail
            rw [HW5.out]
            clear HW5
            have hWl := hal.size
            have hFz := hF.sz
            replace hP := hP.below (hb.mono hal.size)
            replace hal := hal.trans (hb.mono hal.size)
            replace hF := hF.below hb hF.sz
            clear q0 q1 q2 q3 q4 q5 q6 q7 hb
            obtain ⟨q0, q1, q2, q3, q4, q5, q6, q7, _⟩ := id hF
            have v5 := hS5.at_ hn3
            have hz5 := hS5.sz
            go_cut [] (fun wx => Drew (w5.setCell ⟨w3.heap.size, n, none⟩ (.int .i64 (min 1000 (keepAt s n + (more : Int) % 200)))) wx)
            case first =>
              go_region
              all_goals (go_wp2_with fail; go_meet; exact (Drew.refl _).drew)
            case rest =>
              have hS6 := (hS5.set hn3 (min 1000 (keepAt s n + (more : Int) % 200))).below (hcut.below (w3.heap.size + 1)) (Nat.lt_succ_self _)
              have hb := ((Below.refl w3.heap.size w5).setCell (p := ⟨w3.heap.size, n, none⟩) (Nat.le_refl _) (.int .i64 (min 1000 (keepAt s n + (more : Int) % 200)))).trans (hcut.below _)
              clear hcut
              have kv0 : 0 ≤ (min 1000 (keepAt s n + (more : Int) % 200)) := by omega
              have kv1 : (min 1000 (keepAt s n + (more : Int) % 200)) ≤ 1000 := by omega
              have kv2 : keepAt s n ≤ (min 1000 (keepAt s n + (more : Int) % 200)) := by omega
              generalize (min 1000 (keepAt s n + (more : Int) % 200)) = v at hS6 hb kv0 kv1 kv2
              replace hP := hP.below (hb.mono hWl)
              replace hal := hal.trans (hb.mono hWl)
              replace hF := hF.below hb hFz
              clear q0 q1 q2 q3 q4 q5 q6 q7 hb v5 f5
              obtain ⟨q0, q1, q2, q3, q4, q5, q6, q7, _⟩ := id hF
              obtain ⟨r0, r1, r2, r3, _⟩ := id hS6
              go_wp2_with fail
              refine (lDue _ _ _ _ w.heap.size _ _ _ hP hal.size h100).mono ?_
              rintro e w7 hr
              obtain ⟨dd2, ok2, er2, hi2, rfl, hb⟩ := hr
              clear r0 r1 r2 r3
              replace hP := hP.below (hb.mono hal.size)
              replace hal := hal.trans (hb.mono hal.size)
              replace hF := hF.below hb hF.sz
              clear q0 q1 q2 q3 q4 q5 q6 q7 hb
              obtain ⟨q0, q1, q2, q3, q4, q5, q6, q7, _⟩ := id hF
              rcases hi2 with ⟨hno2, _⟩ | ⟨_, rfl, hi2⟩
              · exact absurd ⟨meas_set HM.out kv0 kv1, hl0, hl1⟩ hno2
              · rcases hi2 with ⟨j, hat2, rfl, rfl⟩ | ⟨hno2, rfl, rfl⟩
                · have hle := (due_later HM.out kv2 hat2).2 i HA.out
                  clear hat2
                  go_wp2_with fail
                  refine (lfirst _).mono ?_
                  rintro e w9 ⟨rfl, hb5⟩
                  go_wp2
                  go_ret
                  exact ⟨rfl, hal.trans (hb5.mono hal.size)⟩
                · clear hno2
                  go_wp2_with fail
                  refine (lfirst _).mono ?_
                  rintro e w9 ⟨rfl, hb5⟩
                  go_wp2
                  go_ret
                  exact ⟨rfl, hal.trans (hb5.mono hal.size)⟩
        · have HN := Lib.hid hno
          have HE := Lib.hid (val_never HM.out hno d1)
          clear hno
          have b1 : (atp xs (xs.length - 1)).1 ≤ max (atp xs (xs.length - 1)).1 (100000 - (ahead : Int) % 800) := by omega
          have b2 : max (atp xs (xs.length - 1)).1 (100000 - (ahead : Int) % 800) ≤ 100000 := by omega
          have b3 := Lib.hid (val_late HM.out b1 (by omega)).1
          have b4 := Lib.hid (val_down HM.out b1 b2 (Int.le_refl _))
          go_wp2_with fail
          generalize max (atp xs (xs.length - 1)).1 (100000 - (ahead : Int) % 800) = d2 at b1 b2 b3 b4 ⊢
          refine (lValue_ok _ _ _ _ w.heap.size _ _ _ hP hal.size h100 b3.out).mono ?_
          rintro e w4 ⟨rfl, hb⟩
          replace hP := hP.below (hb.mono hal.size)
          replace hal := hal.trans (hb.mono hal.size)
          replace hF := hF.below hb hF.sz
          clear q0 q1 q2 q3 q4 q5 q6 q7 hb
          obtain ⟨q0, q1, q2, q3, q4, q5, q6, q7, _⟩ := id hF
          go_wp2_with fail
          refine (lValue_ok _ _ _ _ w.heap.size _ _ _ hP hal.size h100 (val_late HM.out d1 (Int.le_refl _)).1).mono ?_
          rintro e w6 ⟨rfl, hb⟩
          replace hP := hP.below (hb.mono hal.size)
          replace hal := hal.trans (hb.mono hal.size)
          replace hF := hF.below hb hF.sz
          clear q0 q1 q2 q3 q4 q5 q6 q7 hb
          obtain ⟨q0, q1, q2, q3, q4, q5, q6, q7, _⟩ := id hF
          have b5 := b4.out
          have b6 := HE.out
          have hS5 := ScBox.new w6 s 81
          have hb : Below w6.heap.size w6 (w6.alloc (.cells #[.int .i64 s.rise, .int .i64 s.side, .int .i64 s.turn, .int .i64 s.power] 81)) := (Below.refl _ _).alloc (Nat.le_refl _) _
          have f5 : (w6.alloc (.cells #[.int .i64 s.rise, .int .i64 s.side, .int .i64 s.turn, .int .i64 s.power] 81)).frozen? ⟨w6.heap.size, n, none⟩ = false := by simp [go_sem]
          generalize hW5 : w6.alloc (.cells #[.int .i64 s.rise, .int .i64 s.side, .int .i64 s.turn, .int .i64 s.power] 81) = w5 at hS5 hb f5
          have HW5 := Lib.hid hW5
          clear hW5
          go_wp2_with fail
          rw [HW5.out]
          clear HW5
          have hWl := hal.size
          have hFz := hF.sz
          replace hP := hP.below (hb.mono hal.size)
          replace hal := hal.trans (hb.mono hal.size)
          replace hF := hF.below hb hF.sz
          clear q0 q1 q2 q3 q4 q5 q6 q7 hb
          obtain ⟨q0, q1, q2, q3, q4, q5, q6, q7, _⟩ := id hF
          have v5 := hS5.at_ hn3
          have hz5 := hS5.sz
          go_cut [] (fun wx => Drew (w5.setCell ⟨w6.heap.size, n, none⟩ (.int .i64 (min 1000 (keepAt s n + (more : Int) % 200)))) wx)
          case first =>
            go_region
            all_goals (go_wp2_with fail; go_meet; exact (Drew.refl _).drew)
          case rest =>
            have hS6 := (hS5.set hn3 (min 1000 (keepAt s n + (more : Int) % 200))).below (hcut.below (w6.heap.size + 1)) (Nat.lt_succ_self _)
            have hb := ((Below.refl w6.heap.size w5).setCell (p := ⟨w6.heap.size, n, none⟩) (Nat.le_refl _) (.int .i64 (min 1000 (keepAt s n + (more : Int) % 200)))).trans (hcut.below _)
            clear hcut
            have kv0 : 0 ≤ (min 1000 (keepAt s n + (more : Int) % 200)) := by omega
            have kv1 : (min 1000 (keepAt s n + (more : Int) % 200)) ≤ 1000 := by omega
            have kv2 : keepAt s n ≤ (min 1000 (keepAt s n + (more : Int) % 200)) := by omega
            generalize (min 1000 (keepAt s n + (more : Int) % 200)) = v at hS6 hb kv0 kv1 kv2
            replace hP := hP.below (hb.mono hWl)
            replace hal := hal.trans (hb.mono hWl)
            replace hF := hF.below hb hFz
            clear q0 q1 q2 q3 q4 q5 q6 q7 hb v5 f5
            obtain ⟨q0, q1, q2, q3, q4, q5, q6, q7, _⟩ := id hF
            obtain ⟨r0, r1, r2, r3, _⟩ := id hS6
            go_wp2_with fail
            refine (lDue _ _ _ _ w.heap.size _ _ _ hP hal.size h100).mono ?_
            rintro e w7 hr
            obtain ⟨dd2, ok2, er2, hi2, rfl, hb⟩ := hr
            clear r0 r1 r2 r3
            replace hP := hP.below (hb.mono hal.size)
            replace hal := hal.trans (hb.mono hal.size)
            replace hF := hF.below hb hF.sz
            clear q0 q1 q2 q3 q4 q5 q6 q7 hb
            obtain ⟨q0, q1, q2, q3, q4, q5, q6, q7, _⟩ := id hF
            rcases hi2 with ⟨hno2, _⟩ | ⟨_, rfl, hi2⟩
            · exact absurd ⟨meas_set HM.out kv0 kv1, hl0, hl1⟩ hno2
            · rcases hi2 with ⟨j, hat2, rfl, rfl⟩ | ⟨hno2, rfl, rfl⟩
              · exact absurd HN.out (due_later HM.out kv2 hat2).1
              · clear hno2
                go_wp2_with fail
                refine (lfirst _).mono ?_
                rintro e w9 ⟨rfl, hb5⟩
                go_wp2
                go_ret
                exact ⟨rfl, hal.trans (hb5.mono hal.size)⟩
    · have HG := Lib.hid hgood
      by_cases hm : MeasOk s side xs
      · rw [measB_t hm]
        by_cases hl0 : 0 ≤ least
        · have hl1 : 100000 < least := by
            have := HG.out
            by_cases h : least ≤ 100000
            · exact absurd ⟨hm, hl0, h⟩ this
            · omega
          clear hm
          go_wp2_with fail
          refine (lfirst _).mono ?_
          rintro e w9 ⟨rfl, hb5⟩
          go_wp2
          go_ret
          exact ⟨rfl, hal.trans (hb5.mono hal.size)⟩
        · clear hm
          go_wp2_with fail
          refine (lfirst _).mono ?_
          rintro e w9 ⟨rfl, hb5⟩
          go_wp2
          go_ret
          exact ⟨rfl, hal.trans (hb5.mono hal.size)⟩
      · rw [measB_f hm]
        clear hm
        go_wp2_with fail
        refine (lfirst _).mono ?_
        rintro e w9 ⟨rfl, hb5⟩
        go_wp2
        go_ret
        exact ⟨rfl, hal.trans (hb5.mono hal.size)⟩
  · go_enter Try.func17, Try.ntmps17
    go_wp2_with fail
    rw [HW.out]
    refine (lfirst _).mono ?_
    rintro e w5 ⟨rfl, hb5⟩
    go_wp2
    go_ret
    exact ⟨rfl, hal.trans (hb5.mono hal.size)⟩
namespace LawDays
open Go.ChangeShapes Go.WideShapes Go.ChangeAt Go.RowKit
set_option maxRecDepth 100000 in
theorem lifted (os : Os) (started : os.Started) (H : Type) (enc : TypeId × Value → H) :
    ReturnsInHanded {} Try.checked os 17 .any (Rows.lightDaysSpec.pre6 enc Try.prog Try.f17 Rows.lightDaysRow.domain false) (Rows.lightDaysSpec.post enc Try.prog Try.f17 false true false false) := by
  refine returnsInHanded_of_change (C := Try.checked) own started (by kernel_rfl) Try.func17
    (ChangeSpec.witness6 (enc := enc) (C := Try.checked) false ⟨#[], #[.agg #[.int .i64 0, .int .i64 0, .int .i64 0, .int .i64 0, .int .i64 0, .slice none 0 0, .int .i64 0, .int .i64 0], .int .u16 0, .int .u16 0], []⟩ 8 (by kernel_rfl) (by kernel_rfl) (by kernel_rfl) (by kernel_rfl)) ?_
  intro W base args ds gs before hval hW hcnd _
  refine law_contract rfl rfl (by simp; decide +kernel) (fun ds hds => ?_) W base args ds gs before hW fun p hA => ?_
  · match ds, hds with
    | [d1, d2, d3], _ => rfl
  · obtain ⟨v0, v1, v2, d0, d1, d2, p0, p1, p2, rfl, rfl, rfl, h0, h1, h2⟩ := trodAll_three hA
    obtain ⟨s, side, A, c, xs, day, least, rfl, hP, hn⟩ := face_arg (hval 0 84 _ rfl rfl) h0
    obtain ⟨m', rfl, rfl, rfl, wm⟩ := open_int Try.underlying61 (hval 1 61 _ rfl rfl) h1
    obtain ⟨m, rfl⟩ := Int.eq_ofNat_of_zero_le (bounds_u16 wm).1
    obtain ⟨a', rfl, rfl, rfl, wa⟩ := open_int Try.underlying61 (hval 2 61 _ rfl rfl) h2
    obtain ⟨a, rfl⟩ := Int.eq_ofNat_of_zero_le (bounds_u16 wa).1
    exact wDays s side A c xs day least m a (by have := (bounds_u16 wm).2; omega) (by have := (bounds_u16 wa).2; omega) W hP hn
theorem proved : Rows.LightDaysSaid :=
  OpenClaim.holds_of_wide 17 Try.f17 rfl rfl rfl rfl rfl rfl rfl ⟨rfl, rfl, rfl, rfl, rfl⟩ rfl rfl rfl rfl rfl (by kernel_rfl) Try.func17 (by kernel_rfl)
    (of_decide_eq_true (by kernel_rfl)) (by unfold Func.isWrapper; rw [if_neg (of_decide_eq_false (by kernel_rfl))]; exact ⟨rfl, rfl⟩)
    (fun os started H enc _ => lifted os started H enc)
end LawDays
end Go.Proofs.Ytihhfelhdgmceaa
