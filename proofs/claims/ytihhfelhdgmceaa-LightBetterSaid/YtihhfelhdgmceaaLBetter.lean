/- Statement LightBetter: for every two tables the law returns true: Better answers as the reference does. No condition. -/
import Derived.Test.YtihhfelhdgmceaaBet2
import Derived.Test.YtihhfelhdgmceaaFirst
import Derived.Test.YtihhfelhdgmceaaLong
import Derived.Test.YtihhfelhdgmceaaFrame2
namespace Go.Proofs.Ytihhfelhdgmceaa
open Go.RowKit
set_option maxHeartbeats 1000000 in
theorem wBetter (A0 A1 A2 D0 D1 D2 : Option Addr) (c0 c1 c2 d0 d1 d2 : Nat) (t u : Tb) (w : World) (h : Tab w w.heap.size A0 A1 A2 t) (h' : Tab w w.heap.size D0 D1 D2 u) (hf : Fits t) (hf' : Fits u) :
    Calls Try.prog 13 #[.agg #[.slice A0 t.obs.length c0, .slice A1 t.ent.length c1, .slice A2 t.r.length c2], .agg #[.slice D0 u.obs.length d0, .slice D1 u.ent.length d1, .slice D2 u.r.length d2]] w fun x w' => x = .returned (.bool true) ∧ Below w.heap.size w w' := by
  obtain ⟨n0, n1, n2, n3⟩ := hf
  obtain ⟨k0, k1, k2, k3⟩ := hf'
  have hT := Boxed.new (c0 := c0) (c1 := c1) (c2 := c2) h (Nat.le_refl _)
  have hal := boxed_world (w := w) (v := #[.slice A0 t.obs.length c0, .slice A1 t.ent.length c1, .slice A2 t.r.length c2])
  generalize hW : w.alloc (.cells #[.slice A0 t.obs.length c0, .slice A1 t.ent.length c1, .slice A2 t.r.length c2] 25) = w0 at hT hal
  have hz : w0.heap.size = w.heap.size + 1 := by rw [← hW]; simp
  have HW := Lib.hid hW
  have hU := Boxed.new (c0 := d0) (c1 := d1) (c2 := d2) (w := w0) (B := w.heap.size) (h'.keep fun p hp => hal.cell hp) (by omega)
  have hb1 := boxed_world (w := w0) (v := #[.slice D0 u.obs.length d0, .slice D1 u.ent.length d1, .slice D2 u.r.length d2])
  generalize hW1 : w0.alloc (.cells #[.slice D0 u.obs.length d0, .slice D1 u.ent.length d1, .slice D2 u.r.length d2] 25) = w1 at hU hb1
  have HW1 := Lib.hid hW1
  replace hT := hT.below hb1 hT.sz
  replace hal := hal.trans (hb1.mono (by omega))
  rw [hz] at hU
  clear h h' hW hb1 hz hW1
  obtain ⟨q0, q1, q2⟩ := And.intro hT.q0 (And.intro hT.q1 hT.q2)
  obtain ⟨u0, u1, u2⟩ := And.intro hU.q0 (And.intro hU.q1 hU.q2)
  go_enter Try.func13, Try.ntmps13
  go_wp2_with fail
  rw [HW.out, HW1.out]
  refine (llong _ _ _ _ _ _ w.heap.size _ _ hT.tab (Nat.le_of_lt hT.sz) n0 n1 n2 n3).mono ?_
  clear n0 n1 n2 n3 HW HW1
  rintro x w2 ⟨b, rfl, hbs, hb⟩
  have HB := Lib.hid hbs
  clear hbs
  replace hal := hal.trans (hb.mono hal.size)
  replace hT := hT.below hb hT.sz
  replace hU := hU.below hb hU.sz
  clear q0 q1 q2 u0 u1 u2 hb
  obtain ⟨q0, q1, q2⟩ := And.intro hT.q0 (And.intro hT.q1 hT.q2)
  obtain ⟨u0, u1, u2⟩ := And.intro hU.q0 (And.intro hU.q1 hU.q2)
  cases b with
  | true =>
    go_wp2_with fail
    refine (lfirst _).mono ?_
    rintro x w9 ⟨rfl, hb⟩
    go_wp2
    go_ret
    exact ⟨rfl, hal.trans (hb.mono hal.size)⟩
  | false =>
    have hn := HB.out.1 rfl
    go_wp2_with fail
    refine (llong _ _ _ _ _ _ w.heap.size _ _ hU.tab (by have := hU.sz; omega) k0 k1 k2 k3).mono ?_
    clear k0 k1 k2 k3 HB
    rintro x w3 ⟨b, rfl, hbs, hb⟩
    have HB := Lib.hid hbs
    clear hbs
    replace hal := hal.trans (hb.mono hal.size)
    replace hT := hT.below hb hT.sz
    replace hU := hU.below hb hU.sz
    clear q0 q1 q2 u0 u1 u2 hb
    obtain ⟨q0, q1, q2⟩ := And.intro hT.q0 (And.intro hT.q1 hT.q2)
    obtain ⟨u0, u1, u2⟩ := And.intro hU.q0 (And.intro hU.q1 hU.q2)
    cases b with
    | true =>
      go_wp2_with fail
      refine (lfirst _).mono ?_
      rintro x w9 ⟨rfl, hb⟩
      go_wp2
      go_ret
      exact ⟨rfl, hal.trans (hb.mono hal.size)⟩
    | false =>
      have hn' := HB.out.1 rfl
      go_wp2_with fail
      refine (lBetter _ _ _ _ _ _ _ _ _ _ _ _ w.heap.size _ _ _ hT.tab hU.tab (Nat.le_of_lt hT.sz) hn hn').mono ?_
      rintro x w4 ⟨b1, er1, h1, rfl, hb⟩
      have H1 := Lib.hid h1
      clear h1
      replace hal := hal.trans (hb.mono hal.size)
      replace hT := hT.below hb hT.sz
      replace hU := hU.below hb hU.sz
      clear q0 q1 q2 u0 u1 u2 hb
      obtain ⟨q0, q1, q2⟩ := And.intro hT.q0 (And.intro hT.q1 hT.q2)
      obtain ⟨u0, u1, u2⟩ := And.intro hU.q0 (And.intro hU.q1 hU.q2)
      go_wp2_with fail
      refine (rBetter _ _ _ _ _ _ _ _ _ _ _ _ w.heap.size _ _ _ hT.tab hU.tab (Nat.le_of_lt hT.sz) hn hn').mono ?_
      rintro x w5 ⟨b2, er2, h2, rfl, hb⟩
      obtain ⟨rfl, rfl⟩ := betIs_one H1.out h2
      clear h2 H1
      replace hal := hal.trans (hb.mono hal.size)
      replace hT := hT.below hb hT.sz
      replace hU := hU.below hb hU.sz
      clear q0 q1 q2 u0 u1 u2 hb
      obtain ⟨q0, q1, q2⟩ := And.intro hT.q0 (And.intro hT.q1 hT.q2)
      obtain ⟨u0, u1, u2⟩ := And.intro hU.q0 (And.intro hU.q1 hU.q2)
      go_wp2_with fail
      refine (lfirst _).mono ?_
      rintro x w9 ⟨rfl, hb⟩
      go_wp2
      go_ret
      exact ⟨rfl, hal.trans (hb.mono hal.size)⟩
namespace LawBetter
open Go.ChangeShapes Go.WideShapes Go.ChangeAt Go.RowKit
set_option maxRecDepth 100000 in
theorem lifted (os : Os) (started : os.Started) (H : Type) (enc : TypeId × Value → H) :
    ReturnsInHanded {} Try.checked os 13 .any (Rows.lightBetterSpec.pre6 enc Try.prog Try.f13 Rows.lightBetterRow.domain false) (Rows.lightBetterSpec.post enc Try.prog Try.f13 false true false false) := by
  refine returnsInHanded_of_change (C := Try.checked) own started (by kernel_rfl) Try.func13
    (ChangeSpec.witness6 (enc := enc) (C := Try.checked) false ⟨#[], #[.agg #[.slice none 0 0, .slice none 0 0, .slice none 0 0], .agg #[.slice none 0 0, .slice none 0 0, .slice none 0 0]], []⟩ 8 (by kernel_rfl) (by kernel_rfl) (by kernel_rfl) (by kernel_rfl)) ?_
  intro W base args ds gs before hval hW hcnd _
  refine law_contract rfl rfl (by simp; decide +kernel) (fun ds hds => ?_) W base args ds gs before hW fun p hA => ?_
  · match ds, hds with
    | [d1, d2], _ => rfl
  · obtain ⟨v0, v1, d0, d1, p0, p1, rfl, rfl, rfl, h0, h1⟩ := trodAll_two hA
    obtain ⟨A0, A1, A2, c0, c1, c2, t, rfl, hT, hf⟩ := table_arg (hval 0 25 _ rfl rfl) h0
    obtain ⟨A0', A1', A2', c0', c1', c2', u, rfl, hT', hf'⟩ := table_arg (hval 1 25 _ rfl rfl) h1
    exact wBetter _ _ _ _ _ _ _ _ _ _ _ _ t u W hT hT' hf hf'
theorem proved : Rows.LightBetterSaid :=
  OpenClaim.holds_of_wide 13 Try.f13 rfl rfl rfl rfl rfl rfl rfl ⟨rfl, rfl, rfl, rfl, rfl⟩ rfl rfl rfl rfl rfl (by kernel_rfl) Try.func13 (by kernel_rfl)
    (of_decide_eq_true (by kernel_rfl)) (by unfold Func.isWrapper; rw [if_neg (of_decide_eq_false (by kernel_rfl))]; exact ⟨rfl, rfl⟩)
    (fun os started H enc _ => lifted os started H enc)
end LawBetter
end Go.Proofs.Ytihhfelhdgmceaa
