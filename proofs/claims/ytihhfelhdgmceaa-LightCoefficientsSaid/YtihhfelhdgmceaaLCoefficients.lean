/- Statement LightCoefficients: for every table and any two slopes the law returns true: Coefficient answers as the reference does. No condition. -/
import Derived.Test.YtihhfelhdgmceaaFirst
import Derived.Test.YtihhfelhdgmceaaLong
import Derived.Test.YtihhfelhdgmceaaCo2
import Derived.Test.YtihhfelhdgmceaaBoxed
import Derived.Test.YtihhfelhdgmceaaFrame
namespace Go.Proofs.Ytihhfelhdgmceaa
open Go.RowKit
theorem wCoefficients (A0 A1 A2 : Option Addr) (c0 c1 c2 : Nat) (t : Tb) (o e : Int) (w : World) (h : Tab w w.heap.size A0 A1 A2 t) (hf : Fits t) :
    Calls Try.prog 3 #[.agg #[.slice A0 t.obs.length c0, .slice A1 t.ent.length c1, .slice A2 t.r.length c2], .int .i64 o, .int .i64 e] w fun x w' => x = .returned (.bool true) ∧ Below w.heap.size w w' := by
  obtain ⟨n0, n1, n2, n3⟩ := hf
  have hT := Boxed.new (c0 := c0) (c1 := c1) (c2 := c2) h (Nat.le_refl _)
  have hal := boxed_world (w := w) (v := #[.slice A0 t.obs.length c0, .slice A1 t.ent.length c1, .slice A2 t.r.length c2])
  clear h
  go_enter Try.func3, Try.ntmps3
  go_wp2_with fail
  refine (llong _ _ _ _ _ _ w.heap.size _ _ hT.tab (by simp) n0 n1 n2 n3).mono ?_
  clear n0 n1 n2 n3
  rintro x w1 ⟨b, rfl, hbs, hb⟩
  have HB := Lib.hid hbs
  clear hbs
  replace hT := hT.below hb (by simp)
  replace hal := hal.trans (hb.mono (by simp))
  clear hb
  cases b with
  | true =>
    go_wp2_with fail
    refine (lfirst _).mono ?_
    rintro x w2 ⟨rfl, hb⟩
    go_wp2
    go_ret
    exact ⟨rfl, hal.trans (hb.mono hal.size)⟩
  | false =>
    have hn := HB.out.1 rfl
    obtain ⟨q0, q1, q2⟩ := And.intro hT.q0 (And.intro hT.q1 hT.q2)
    go_wp2_with fail
    refine (lCoefficient _ _ _ _ _ _ w.heap.size _ _ _ _ hT.tab (Nat.le_of_lt hT.sz) hn).mono ?_
    rintro x w2 ⟨g1, g2, g3, hb⟩
    replace hal := hal.trans (hb.mono (Nat.le_of_lt hT.sz))
    replace hT := hT.below hb hT.sz
    clear hb q0 q1 q2
    obtain ⟨q0, q1, q2⟩ := And.intro hT.q0 (And.intro hT.q1 hT.q2)
    by_cases ht : TabOk t
    · have e1 := tabB_t ht
      by_cases h0 : o < 0 ∨ e < 0
      · rw [g2 ht h0]
        have H0 := Lib.hid h0
        clear g1 g2 g3 h0
        simp only [pair]
        by_cases ho : o < 0
        · go_wp2_with fail
          refine (rValidTable _ _ _ _ _ _ w.heap.size _ _ hT.tab (Nat.le_of_lt hT.sz) hn).mono ?_
          rintro x w3 ⟨rfl, hb⟩
          replace hal := hal.trans (hb.mono (Nat.le_of_lt hT.sz))
          replace hT := hT.below hb hT.sz
          clear hb q0 q1 q2
          obtain ⟨q0, q1, q2⟩ := And.intro hT.q0 (And.intro hT.q1 hT.q2)
          go_wp2_with fail
          refine (lfirst _).mono ?_
          rintro x w5 ⟨rfl, hb⟩
          go_wp2
          go_ret
          exact ⟨rfl, hal.trans (hb.mono hal.size)⟩
        · have he : e < 0 := by have := H0.out; omega
          go_wp2_with fail
          refine (rValidTable _ _ _ _ _ _ w.heap.size _ _ hT.tab (Nat.le_of_lt hT.sz) hn).mono ?_
          rintro x w3 ⟨rfl, hb⟩
          replace hal := hal.trans (hb.mono (Nat.le_of_lt hT.sz))
          replace hT := hT.below hb hT.sz
          clear hb q0 q1 q2
          obtain ⟨q0, q1, q2⟩ := And.intro hT.q0 (And.intro hT.q1 hT.q2)
          go_wp2_with fail
          refine (lfirst _).mono ?_
          rintro x w5 ⟨rfl, hb⟩
          go_wp2
          go_ret
          exact ⟨rfl, hal.trans (hb.mono hal.size)⟩
      · rw [g3 ht h0]
        have o0 : 0 ≤ o := by omega
        have e0 : 0 ≤ e := by omega
        clear g1 g2 g3 h0
        simp only [pair]
        go_wp2_with fail
        refine (rValidTable _ _ _ _ _ _ w.heap.size _ _ hT.tab (Nat.le_of_lt hT.sz) hn).mono ?_
        rintro x w3 ⟨rfl, hb⟩
        replace hal := hal.trans (hb.mono (Nat.le_of_lt hT.sz))
        replace hT := hT.below hb hT.sz
        clear hb q0 q1 q2
        obtain ⟨q0, q1, q2⟩ := And.intro hT.q0 (And.intro hT.q1 hT.q2)
        go_wp2_with fail
        refine (rCoefficient _ _ _ _ _ _ w.heap.size _ _ _ _ hT.tab (Nat.le_of_lt hT.sz) ht).mono ?_
        rintro x w4 ⟨rfl, hb⟩
        replace hal := hal.trans (hb.mono (Nat.le_of_lt hT.sz))
        clear hb q0 q1 q2
        go_wp2_with fail
        refine (lfirst _).mono ?_
        rintro x w5 ⟨rfl, hb⟩
        go_wp2
        go_ret
        exact ⟨rfl, hal.trans (hb.mono hal.size)⟩
    · have e1 := tabB_f ht
      rw [g1 ht]
      clear g1 g2 g3
      simp only [pair]
      go_wp2_with fail
      refine (rValidTable _ _ _ _ _ _ w.heap.size _ _ hT.tab (Nat.le_of_lt hT.sz) hn).mono ?_
      rintro x w3 ⟨rfl, hb⟩
      replace hal := hal.trans (hb.mono (Nat.le_of_lt hT.sz))
      clear hb q0 q1 q2
      go_wp2_with fail
      refine (lfirst _).mono ?_
      rintro x w5 ⟨rfl, hb⟩
      go_wp2
      go_ret
      exact ⟨rfl, hal.trans (hb.mono hal.size)⟩

namespace LawCoefficients
open Go.ChangeShapes Go.WideShapes Go.ChangeAt Go.RowKit
set_option maxRecDepth 100000 in
theorem lifted (os : Os) (started : os.Started) (H : Type) (enc : TypeId × Value → H) :
    ReturnsInHanded {} Try.checked os 3 .any (Rows.lightCoefficientsSpec.pre6 enc Try.prog Try.f3 Rows.lightCoefficientsRow.domain false) (Rows.lightCoefficientsSpec.post enc Try.prog Try.f3 false true false false) := by
  refine returnsInHanded_of_change (C := Try.checked) own started (by kernel_rfl) Try.func3
    (ChangeSpec.witness6 (enc := enc) (C := Try.checked) false ⟨#[], #[.agg #[.slice none 0 0, .slice none 0 0, .slice none 0 0], .int .i64 0, .int .i64 0], []⟩ 8 (by kernel_rfl) (by kernel_rfl) (by kernel_rfl) (by kernel_rfl)) ?_
  intro W base args ds gs before hval hW hcnd _
  refine law_contract rfl rfl (by simp; decide +kernel) (fun ds hds => ?_) W base args ds gs before hW fun p hA => ?_
  · match ds, hds with
    | [d1, d2, d3], _ => rfl
  · obtain ⟨v0, v1, v2, d0, d1, d2, p0, p1, p2, rfl, rfl, rfl, h0, h1, h2⟩ := trodAll_three hA
    obtain ⟨A0, A1, A2, c0, c1, c2, t, rfl, hT, hf⟩ := table_arg (hval 0 25 _ rfl rfl) h0
    obtain ⟨o, rfl, rfl, rfl, _⟩ := open_int Try.underlying3 (hval 1 3 _ rfl rfl) h1
    obtain ⟨e, rfl, rfl, rfl, _⟩ := open_int Try.underlying3 (hval 2 3 _ rfl rfl) h2
    exact wCoefficients _ _ _ _ _ _ t o e W hT hf
theorem proved : Rows.LightCoefficientsSaid :=
  OpenClaim.holds_of_wide 3 Try.f3 rfl rfl rfl rfl rfl rfl rfl ⟨rfl, rfl, rfl, rfl, rfl⟩ rfl rfl rfl rfl rfl (by kernel_rfl) Try.func3 (by kernel_rfl)
    (of_decide_eq_true (by kernel_rfl)) (by unfold Func.isWrapper; rw [if_neg (of_decide_eq_false (by kernel_rfl))]; exact ⟨rfl, rfl⟩)
    (fun os started H enc _ => lifted os started H enc)
end LawCoefficients
end Go.Proofs.Ytihhfelhdgmceaa
