/- Statement LightBrights: for every table, scene and distance the law returns true: Bright answers as the reference does. No condition. -/
import Derived.Test.YtihhfelhdgmceaaBri2
import Derived.Test.YtihhfelhdgmceaaFirst
import Derived.Test.YtihhfelhdgmceaaLong
import Derived.Test.YtihhfelhdgmceaaFrame3
namespace Go.Proofs.Ytihhfelhdgmceaa
open Go.RowKit
theorem wBrights (A0 A1 A2 : Option Addr) (c0 c1 c2 : Nat) (t : Tb) (s : Sc) (d : Int) (w : World) (h : Tab w w.heap.size A0 A1 A2 t) (hf : Fits t) :
    Calls Try.prog 11 #[.agg #[.slice A0 t.obs.length c0, .slice A1 t.ent.length c1, .slice A2 t.r.length c2], .agg #[.int .i64 s.rise, .int .i64 s.side, .int .i64 s.turn, .int .i64 s.power], .int .i64 d] w fun x w' => x = .returned (.bool true) ∧ Below w.heap.size w w' := by
  obtain ⟨n0, n1, n2, n3⟩ := hf
  have hT := Boxed.new (c0 := c0) (c1 := c1) (c2 := c2) h (Nat.le_refl _)
  have hal := boxed_world (w := w) (v := #[.slice A0 t.obs.length c0, .slice A1 t.ent.length c1, .slice A2 t.r.length c2])
  generalize hW : w.alloc (.cells #[.slice A0 t.obs.length c0, .slice A1 t.ent.length c1, .slice A2 t.r.length c2] 25) = w0 at hT hal
  have hz : w0.heap.size = w.heap.size + 1 := by rw [← hW]; simp
  have HW := Lib.hid hW
  have hS := ScBox.new w0 s 40
  have hb1 : Below w0.heap.size w0 (w0.alloc (.cells #[.int .i64 s.rise, .int .i64 s.side, .int .i64 s.turn, .int .i64 s.power] 40)) := (Below.refl _ _).alloc (Nat.le_refl _) _
  generalize hW1 : w0.alloc (.cells #[.int .i64 s.rise, .int .i64 s.side, .int .i64 s.turn, .int .i64 s.power] 40) = w1 at hS hb1
  have HW1 := Lib.hid hW1
  replace hT := hT.below hb1 hT.sz
  replace hal := hal.trans (hb1.mono (by omega))
  rw [hz] at hS
  clear h hW hb1 hz hW1
  obtain ⟨q0, q1, q2⟩ := And.intro hT.q0 (And.intro hT.q1 hT.q2)
  obtain ⟨v0, v1, v2, v3, _⟩ := id hS
  go_enter Try.func11, Try.ntmps11
  go_wp2_with fail
  rw [HW.out, HW1.out]
  refine (llong _ _ _ _ _ _ w.heap.size _ _ hT.tab (Nat.le_of_lt hT.sz) n0 n1 n2 n3).mono ?_
  clear n0 n1 n2 n3 HW HW1
  rintro x w2 ⟨b, rfl, hbs, hb⟩
  have HB := Lib.hid hbs
  clear hbs
  replace hal := hal.trans (hb.mono hal.size)
  replace hT := hT.below hb hT.sz
  replace hS := hS.below hb hS.sz
  clear v0 v1 v2 v3 q0 q1 q2 hb
  obtain ⟨q0, q1, q2⟩ := And.intro hT.q0 (And.intro hT.q1 hT.q2)
  obtain ⟨v0, v1, v2, v3, _⟩ := id hS
  cases b with
  | true =>
    go_wp2_with fail
    refine (lfirst _).mono ?_
    rintro x w9 ⟨rfl, hb⟩
    go_wp2
    go_ret
    exact ⟨rfl, hal.trans (hb.mono hal.size)⟩
  | false =>
    have hn := HB.out.1 rfl
    go_wp2_with fail
    refine (lBright _ _ _ _ _ _ w.heap.size _ s d _ hT.tab (Nat.le_of_lt hT.sz) hn).mono ?_
    rintro x w3 ⟨g1, g2, g3, hb⟩
    replace hal := hal.trans (hb.mono hal.size)
    replace hT := hT.below hb hT.sz
    replace hS := hS.below hb hS.sz
    clear v0 v1 v2 v3 q0 q1 q2 hb
    obtain ⟨q0, q1, q2⟩ := And.intro hT.q0 (And.intro hT.q1 hT.q2)
    obtain ⟨v0, v1, v2, v3, _⟩ := id hS
    by_cases ht : TabOk t
    · have e1 := tabB_t ht
      by_cases hs : SceneOk s
      · have e2 := sceneB_iff.2 hs
        have hz := seenF_t ht hs
        by_cases hd : 1 ≤ d ∧ d ≤ 400
        · rw [g3 hz hd]
          clear g1 g2 g3 hz
          have d1 := hd.1
          have d2 := hd.2
          simp only [pair]
          go_wp2_with fail
          refine (rValidTable _ _ _ _ _ _ w.heap.size _ _ hT.tab (Nat.le_of_lt hT.sz) hn).mono ?_
          rintro x w4 ⟨rfl, hb⟩
          replace hal := hal.trans (hb.mono hal.size)
          replace hT := hT.below hb hT.sz
          replace hS := hS.below hb hS.sz
          clear v0 v1 v2 v3 q0 q1 q2 hb
          obtain ⟨q0, q1, q2⟩ := And.intro hT.q0 (And.intro hT.q1 hT.q2)
          obtain ⟨v0, v1, v2, v3, _⟩ := id hS
          go_wp2_with fail
          refine (rValidScene s _).mono ?_
          rintro x w5 ⟨rfl, hb⟩
          replace hal := hal.trans (hb.mono hal.size)
          replace hT := hT.below hb hT.sz
          replace hS := hS.below hb hS.sz
          clear v0 v1 v2 v3 q0 q1 q2 hb
          obtain ⟨q0, q1, q2⟩ := And.intro hT.q0 (And.intro hT.q1 hT.q2)
          obtain ⟨v0, v1, v2, v3, _⟩ := id hS
          go_wp2_with fail
          refine (rBright _ _ _ _ _ _ w.heap.size _ _ _ _ hT.tab (Nat.le_of_lt hT.sz) ht hs hd.1 hd.2).mono ?_
          rintro x w6 ⟨rfl, hb⟩
          replace hal := hal.trans (hb.mono hal.size)
          replace hT := hT.below hb hT.sz
          replace hS := hS.below hb hS.sz
          clear v0 v1 v2 v3 q0 q1 q2 hb
          obtain ⟨q0, q1, q2⟩ := And.intro hT.q0 (And.intro hT.q1 hT.q2)
          obtain ⟨v0, v1, v2, v3, _⟩ := id hS
          go_wp2_with fail
          refine (lfirst _).mono ?_
          rintro x w9 ⟨rfl, hb⟩
          go_wp2
          go_ret
          exact ⟨rfl, hal.trans (hb.mono hal.size)⟩
        · rw [g2 hz hd]
          clear g1 g2 g3 hz
          simp only [pair]
          have HD := Lib.hid hd
          by_cases d1 : d < 1
          · clear hd
            go_wp2_with fail
            refine (rValidTable _ _ _ _ _ _ w.heap.size _ _ hT.tab (Nat.le_of_lt hT.sz) hn).mono ?_
            rintro x w4 ⟨rfl, hb⟩
            replace hal := hal.trans (hb.mono hal.size)
            replace hT := hT.below hb hT.sz
            replace hS := hS.below hb hS.sz
            clear v0 v1 v2 v3 q0 q1 q2 hb
            obtain ⟨q0, q1, q2⟩ := And.intro hT.q0 (And.intro hT.q1 hT.q2)
            obtain ⟨v0, v1, v2, v3, _⟩ := id hS
            go_wp2_with fail
            refine (rValidScene s _).mono ?_
            rintro x w5 ⟨rfl, hb⟩
            replace hal := hal.trans (hb.mono hal.size)
            replace hT := hT.below hb hT.sz
            replace hS := hS.below hb hS.sz
            clear v0 v1 v2 v3 q0 q1 q2 hb
            obtain ⟨q0, q1, q2⟩ := And.intro hT.q0 (And.intro hT.q1 hT.q2)
            obtain ⟨v0, v1, v2, v3, _⟩ := id hS
            go_wp2_with fail
            refine (lfirst _).mono ?_
            rintro x w9 ⟨rfl, hb⟩
            go_wp2
            go_ret
            exact ⟨rfl, hal.trans (hb.mono hal.size)⟩
          · have d2 : 400 < d := by omega
            clear hd
            go_wp2_with fail
            refine (rValidTable _ _ _ _ _ _ w.heap.size _ _ hT.tab (Nat.le_of_lt hT.sz) hn).mono ?_
            rintro x w4 ⟨rfl, hb⟩
            replace hal := hal.trans (hb.mono hal.size)
            replace hT := hT.below hb hT.sz
            replace hS := hS.below hb hS.sz
            clear v0 v1 v2 v3 q0 q1 q2 hb
            obtain ⟨q0, q1, q2⟩ := And.intro hT.q0 (And.intro hT.q1 hT.q2)
            obtain ⟨v0, v1, v2, v3, _⟩ := id hS
            go_wp2_with fail
            refine (rValidScene s _).mono ?_
            rintro x w5 ⟨rfl, hb⟩
            replace hal := hal.trans (hb.mono hal.size)
            replace hT := hT.below hb hT.sz
            replace hS := hS.below hb hS.sz
            clear v0 v1 v2 v3 q0 q1 q2 hb
            obtain ⟨q0, q1, q2⟩ := And.intro hT.q0 (And.intro hT.q1 hT.q2)
            obtain ⟨v0, v1, v2, v3, _⟩ := id hS
            go_wp2_with fail
            refine (lfirst _).mono ?_
            rintro x w9 ⟨rfl, hb⟩
            go_wp2
            go_ret
            exact ⟨rfl, hal.trans (hb.mono hal.size)⟩
      · have e2 := sceneB_f hs
        have hz := Lib.hid (seenF_s ht hs)
        rw [g1 (by rw [hz.out]; decide), hz.out]
        clear g1 g2 g3
        simp only [pair]
        go_wp2_with fail
        refine (rValidTable _ _ _ _ _ _ w.heap.size _ _ hT.tab (Nat.le_of_lt hT.sz) hn).mono ?_
        rintro x w4 ⟨rfl, hb⟩
        replace hal := hal.trans (hb.mono hal.size)
        replace hT := hT.below hb hT.sz
        replace hS := hS.below hb hS.sz
        clear v0 v1 v2 v3 q0 q1 q2 hb
        obtain ⟨q0, q1, q2⟩ := And.intro hT.q0 (And.intro hT.q1 hT.q2)
        obtain ⟨v0, v1, v2, v3, _⟩ := id hS
        go_wp2_with fail
        refine (rValidScene s _).mono ?_
        rintro x w5 ⟨rfl, hb⟩
        replace hal := hal.trans (hb.mono hal.size)
        replace hT := hT.below hb hT.sz
        replace hS := hS.below hb hS.sz
        clear v0 v1 v2 v3 q0 q1 q2 hb
        obtain ⟨q0, q1, q2⟩ := And.intro hT.q0 (And.intro hT.q1 hT.q2)
        obtain ⟨v0, v1, v2, v3, _⟩ := id hS
        go_wp2_with fail
        refine (lfirst _).mono ?_
        rintro x w9 ⟨rfl, hb⟩
        go_wp2
        go_ret
        exact ⟨rfl, hal.trans (hb.mono hal.size)⟩
    · have e1 := tabB_f ht
      have hz := Lib.hid (seenF_f (s := s) ht)
      rw [g1 (by rw [hz.out]; decide), hz.out]
      clear g1 g2 g3
      simp only [pair]
      go_wp2_with fail
      refine (rValidTable _ _ _ _ _ _ w.heap.size _ _ hT.tab (Nat.le_of_lt hT.sz) hn).mono ?_
      rintro x w4 ⟨rfl, hb⟩
      replace hal := hal.trans (hb.mono hal.size)
      replace hT := hT.below hb hT.sz
      replace hS := hS.below hb hS.sz
      clear v0 v1 v2 v3 q0 q1 q2 hb
      obtain ⟨q0, q1, q2⟩ := And.intro hT.q0 (And.intro hT.q1 hT.q2)
      obtain ⟨v0, v1, v2, v3, _⟩ := id hS
      go_wp2_with fail
      refine (lfirst _).mono ?_
      rintro x w9 ⟨rfl, hb⟩
      go_wp2
      go_ret
      exact ⟨rfl, hal.trans (hb.mono hal.size)⟩
namespace LawBrights
open Go.ChangeShapes Go.WideShapes Go.ChangeAt Go.RowKit
set_option maxRecDepth 100000 in
theorem lifted (os : Os) (started : os.Started) (H : Type) (enc : TypeId × Value → H) :
    ReturnsInHanded {} Try.checked os 11 .any (Rows.lightBrightsSpec.pre6 enc Try.prog Try.f11 Rows.lightBrightsRow.domain false) (Rows.lightBrightsSpec.post enc Try.prog Try.f11 false true false false) := by
  refine returnsInHanded_of_change (C := Try.checked) own started (by kernel_rfl) Try.func11
    (ChangeSpec.witness6 (enc := enc) (C := Try.checked) false ⟨#[], #[.agg #[.slice none 0 0, .slice none 0 0, .slice none 0 0], .agg #[.int .i64 0, .int .i64 0, .int .i64 0, .int .i64 0], .int .i64 0], []⟩ 8 (by kernel_rfl) (by kernel_rfl) (by kernel_rfl) (by kernel_rfl)) ?_
  intro W base args ds gs before hval hW hcnd _
  refine law_contract rfl rfl (by simp; decide +kernel) (fun ds hds => ?_) W base args ds gs before hW fun p hA => ?_
  · match ds, hds with
    | [d1, d2, d3], _ => rfl
  · obtain ⟨v0, v1, v2, d0, d1, d2, p0, p1, p2, rfl, rfl, rfl, h0, h1, h2⟩ := trodAll_three hA
    obtain ⟨A0, A1, A2, c0, c1, c2, t, rfl, hT, hf⟩ := table_arg (hval 0 25 _ rfl rfl) h0
    obtain ⟨s, rfl⟩ := scene_arg (hval 1 40 _ rfl rfl) h1
    obtain ⟨d, rfl, rfl, rfl, wd⟩ := open_int Try.underlying3 (hval 2 3 _ rfl rfl) h2
    exact wBrights _ _ _ _ _ _ t s d W hT hf
theorem proved : Rows.LightBrightsSaid :=
  OpenClaim.holds_of_wide 11 Try.f11 rfl rfl rfl rfl rfl rfl rfl ⟨rfl, rfl, rfl, rfl, rfl⟩ rfl rfl rfl rfl rfl (by kernel_rfl) Try.func11 (by kernel_rfl)
    (of_decide_eq_true (by kernel_rfl)) (by unfold Func.isWrapper; rw [if_neg (of_decide_eq_false (by kernel_rfl))]; exact ⟨rfl, rfl⟩)
    (fun os started H enc _ => lifted os started H enc)
end LawBrights
end Go.Proofs.Ytihhfelhdgmceaa
