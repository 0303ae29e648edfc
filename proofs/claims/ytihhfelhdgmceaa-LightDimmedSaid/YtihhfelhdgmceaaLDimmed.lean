/- Statement LightDimmed: for every table, keep and years the law returns true: Dimmed answers as the reference does. No condition. -/
import Derived.Test.YtihhfelhdgmceaaDim3
import Derived.Test.YtihhfelhdgmceaaSame
import Derived.Test.YtihhfelhdgmceaaFirst
import Derived.Test.YtihhfelhdgmceaaLong
import Derived.Test.YtihhfelhdgmceaaFrame3
namespace Go.Proofs.Ytihhfelhdgmceaa
open Go.RowKit
theorem dim_small {t u : Tb} {keep years er : Int} (hn : Small t) (h : DimIs t keep years er u) : Small u := by
  by_cases ht : TabOk t
  · by_cases ha : ageOk keep years
    · obtain ⟨_, rfl⟩ := h.2.2 ht ha
      obtain ⟨n1, n2, n3, n4⟩ := hn
      refine ⟨n1, n2, by simpa [dimT, dimTo] using n3, fun i hi => ?_⟩
      have hi' : i < t.r.length := by simpa [dimT, dimTo] using hi
      have : at1 (dimT t keep years.toNat).r i = (at1 t.r i).map (agedF keep years.toNat) := by simp [dimT, dimTo, at1, hi']
      rw [this, List.length_map]
      exact n4 i hi'
    · obtain ⟨_, rfl⟩ := h.2.1 ht ha
      exact ⟨by simp [noT], by simp [noT], by simp [noT], fun i hi => by simp [noT] at hi⟩
  · obtain ⟨_, rfl⟩ := h.1 ht
    exact ⟨by simp [noT], by simp [noT], by simp [noT], fun i hi => by simp [noT] at hi⟩
set_option maxRecDepth 100000 in
set_option maxHeartbeats 4000000 in
theorem wDimmed (A0 A1 A2 : Option Addr) (c0 c1 c2 : Nat) (t : Tb) (keep years : Int) (w : World) (h : Tab w w.heap.size A0 A1 A2 t) (hf : Fits t) :
    Calls Try.prog 12 #[.agg #[.slice A0 t.obs.length c0, .slice A1 t.ent.length c1, .slice A2 t.r.length c2], .int .i64 keep, .int .i64 years] w fun x w' => x = .returned (.bool true) ∧ Below w.heap.size w w' := by
  obtain ⟨n0, n1, n2, n3⟩ := hf
  have hT := Boxed.new (c0 := c0) (c1 := c1) (c2 := c2) h (Nat.le_refl _)
  have hal := boxed_world (w := w) (v := #[.slice A0 t.obs.length c0, .slice A1 t.ent.length c1, .slice A2 t.r.length c2])
  generalize hW : w.alloc (.cells #[.slice A0 t.obs.length c0, .slice A1 t.ent.length c1, .slice A2 t.r.length c2] 25) = w0 at hT hal
  have HW := Lib.hid hW
  clear h hW
  obtain ⟨q0, q1, q2⟩ := And.intro hT.q0 (And.intro hT.q1 hT.q2)
  go_enter Try.func12, Try.ntmps12
  go_wp2_with fail
  rw [HW.out]
  refine (llong _ _ _ _ _ _ w.heap.size _ _ hT.tab (Nat.le_of_lt hT.sz) n0 n1 n2 n3).mono ?_
  clear n0 n1 n2 n3 HW
  rintro x w2 ⟨b, rfl, hbs, hb⟩
  have HB := Lib.hid hbs
  clear hbs
  replace hal := hal.trans (hb.mono hal.size)
  replace hT := hT.below hb hT.sz
  clear q0 q1 q2 hb
  obtain ⟨q0, q1, q2⟩ := And.intro hT.q0 (And.intro hT.q1 hT.q2)
  cases b with
  | true =>
    go_wp2_with fail
    refine (lfirst _).mono ?_
    rintro x w9 ⟨rfl, hb⟩
    go_wp2
    go_ret
    exact ⟨rfl, hal.trans (hb.mono hal.size)⟩
  | false =>
    have hn := HB.out.1 rfl
    go_wp2_with fail
    refine (lDimmed _ _ _ _ _ _ w.heap.size _ keep years _ hT.tab (Nat.le_of_lt hT.sz) hn).mono ?_
    rintro x w3 ⟨er, u, D0, D1, D2, d0, d1, d2, hD, rfl, hDt, hb⟩
    have HD := Lib.hid hD
    replace hal := hal.trans (hb.mono hal.size)
    replace hT := hT.below hb hT.sz
    clear q0 q1 q2 hb
    obtain ⟨q0, q1, q2⟩ := And.intro hT.q0 (And.intro hT.q1 hT.q2)
    have hU := Boxed.new (c0 := d0) (c1 := d1) (c2 := d2) hDt (Nat.le_refl _)
    have hb := boxed_world (w := w3) (v := #[.slice D0 u.obs.length d0, .slice D1 u.ent.length d1, .slice D2 u.r.length d2])
    have hz3 := hT.sz
    generalize hW3 : w3.alloc (.cells #[.slice D0 u.obs.length d0, .slice D1 u.ent.length d1, .slice D2 u.r.length d2] 25) = w4 at hU hb
    have HW3 := Lib.hid hW3
    clear hW3
    go_wp2_with fail
    rw [HW3.out]
    replace hT := hT.below hb hz3
    replace hal := hal.trans (hb.mono hal.size)
    clear q0 q1 q2 hb HW3
    obtain ⟨q0, q1, q2⟩ := And.intro hT.q0 (And.intro hT.q1 hT.q2)
    refine (rDimmed _ _ _ _ _ _ w.heap.size _ keep years _ hT.tab (Nat.le_of_lt hT.sz) hn).mono ?_
    rintro x w5 ⟨er', u', E0, E1, E2, e0, e1, e2, hE, rfl, hEt, hb⟩
    obtain ⟨rfl, rfl⟩ := dimIs_one HD.out hE
    have hns := dim_small hn HD.out
    clear hE hD
    replace hal := hal.trans (hb.mono hal.size)
    replace hU := hU.below hb hU.sz
    clear q0 q1 q2 hb hT
    obtain ⟨q0, q1, q2⟩ := And.intro hU.q0 (And.intro hU.q1 hU.q2)
    have hV := Boxed.new (c0 := e0) (c1 := e1) (c2 := e2) hEt (Nat.le_refl _)
    have hb := boxed_world (w := w5) (v := #[.slice E0 u.obs.length e0, .slice E1 u.ent.length e1, .slice E2 u.r.length e2])
    have hz5 := hU.sz
    generalize hW5 : w5.alloc (.cells #[.slice E0 u.obs.length e0, .slice E1 u.ent.length e1, .slice E2 u.r.length e2] 25) = w6 at hV hb
    have HW5 := Lib.hid hW5
    clear hW5
    have r0 := (hb.cell hz5).trans q0
    have r1 := (hb.cell hz5).trans q1
    have r2 := (hb.cell hz5).trans q2
    obtain ⟨s0, s1, s2⟩ := And.intro hV.q0 (And.intro hV.q1 hV.q2)
    go_wp2_with fail
    rw [HW5.out]
    replace hU := hU.below hb hz5
    replace hal := hal.trans (hb.mono hal.size)
    clear HW5 hb
    refine (rSameTable _ _ _ _ _ _ _ _ _ _ _ _ _ _ _ _ hU.tab hV.tab (Nat.le_of_lt hU.sz) (Nat.le_of_lt hV.sz) hns).mono ?_
    rintro x w7 ⟨rfl, hb⟩
    go_wp2_with fail
    refine (lfirst _).mono ?_
    rintro x w9 ⟨rfl, hb9⟩
    go_wp2
    go_ret
    have hb3 := hal.trans (hb.mono hal.size)
    exact ⟨rfl, hb3.trans (hb9.mono hb3.size)⟩
namespace LawDimmed
open Go.ChangeShapes Go.WideShapes Go.ChangeAt Go.RowKit
set_option maxRecDepth 100000 in
theorem lifted (os : Os) (started : os.Started) (H : Type) (enc : TypeId × Value → H) :
    ReturnsInHanded {} Try.checked os 12 .any (Rows.lightDimmedSpec.pre6 enc Try.prog Try.f12 Rows.lightDimmedRow.domain false) (Rows.lightDimmedSpec.post enc Try.prog Try.f12 false true false false) := by
  refine returnsInHanded_of_change (C := Try.checked) own started (by kernel_rfl) Try.func12
    (ChangeSpec.witness6 (enc := enc) (C := Try.checked) false ⟨#[], #[.agg #[.slice none 0 0, .slice none 0 0, .slice none 0 0], .int .i64 0, .int .i64 0], []⟩ 8 (by kernel_rfl) (by kernel_rfl) (by kernel_rfl) (by kernel_rfl)) ?_
  intro W base args ds gs before hval hW hcnd _
  refine law_contract rfl rfl (by simp; decide +kernel) (fun ds hds => ?_) W base args ds gs before hW fun p hA => ?_
  · match ds, hds with
    | [d1, d2, d3], _ => rfl
  · obtain ⟨v0, v1, v2, d0, d1, d2, p0, p1, p2, rfl, rfl, rfl, h0, h1, h2⟩ := trodAll_three hA
    obtain ⟨A0, A1, A2, c0, c1, c2, t, rfl, hT, hf⟩ := table_arg (hval 0 25 _ rfl rfl) h0
    obtain ⟨keep, rfl, rfl, rfl, wkeep⟩ := open_int Try.underlying3 (hval 1 3 _ rfl rfl) h1
    obtain ⟨years, rfl, rfl, rfl, wyears⟩ := open_int Try.underlying3 (hval 2 3 _ rfl rfl) h2
    exact wDimmed _ _ _ _ _ _ t keep years W hT hf
theorem proved : Rows.LightDimmedSaid :=
  OpenClaim.holds_of_wide 12 Try.f12 rfl rfl rfl rfl rfl rfl rfl ⟨rfl, rfl, rfl, rfl, rfl⟩ rfl rfl rfl rfl rfl (by kernel_rfl) Try.func12 (by kernel_rfl)
    (of_decide_eq_true (by kernel_rfl)) (by unfold Func.isWrapper; rw [if_neg (of_decide_eq_false (by kernel_rfl))]; exact ⟨rfl, rfl⟩)
    (fun os started H enc _ => lifted os started H enc)
end LawDimmed
end Go.Proofs.Ytihhfelhdgmceaa
