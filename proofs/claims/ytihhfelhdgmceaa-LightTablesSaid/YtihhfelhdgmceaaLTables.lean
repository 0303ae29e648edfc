/- Statement LightTables: for every table and scene the law returns true: ValidTable and ValidScene answer as the reference does. No condition. -/
import Derived.Test.YtihhfelhdgmceaaFirst
import Derived.Test.YtihhfelhdgmceaaLong
import Derived.Test.YtihhfelhdgmceaaVr
import Derived.Test.YtihhfelhdgmceaaBoxed
import Derived.Test.YtihhfelhdgmceaaExt
import Derived.Test.YtihhfelhdgmceaaFrame3
namespace Go.Proofs.Ytihhfelhdgmceaa
open Go.RowKit
theorem wTables (A0 A1 A2 : Option Addr) (c0 c1 c2 : Nat) (t : Tb) (s : Sc) (w : World) (h : Tab w w.heap.size A0 A1 A2 t) (hf : Fits t) :
    Calls Try.prog 6 #[.agg #[.slice A0 t.obs.length c0, .slice A1 t.ent.length c1, .slice A2 t.r.length c2], .agg #[.int .i64 s.rise, .int .i64 s.side, .int .i64 s.turn, .int .i64 s.power]] w fun x w' => x = .returned (.bool true) ∧ Below w.heap.size w w' := by
  obtain ⟨n0, n1, n2, n3⟩ := hf
  have hT := Boxed.new (c0 := c0) (c1 := c1) (c2 := c2) h (Nat.le_refl _)
  have hal := boxed_world (w := w) (v := #[.slice A0 t.obs.length c0, .slice A1 t.ent.length c1, .slice A2 t.r.length c2])
  generalize hW : w.alloc (.cells #[.slice A0 t.obs.length c0, .slice A1 t.ent.length c1, .slice A2 t.r.length c2] 25) = w0 at hT hal
  have hz : w0.heap.size = w.heap.size + 1 := by rw [← hW]; simp
  have HW := Lib.hid hW
  have hS := ScBox.new w0 s 40
  have hb1 : Below w0.heap.size w0 (w0.alloc (.cells #[.int .i64 s.rise, .int .i64 s.side, .int .i64 s.turn, .int .i64 s.power] 40)) := (Below.refl _ _).alloc (Nat.le_refl _) _
  generalize hW1 : w0.alloc (.cells #[.int .i64 s.rise, .int .i64 s.side, .int .i64 s.turn, .int .i64 s.power] 40) = w1 at hS hb1
  have HW1 := Lib.hid hW1
  replace hT := hT.below hb1 hT.sz
  replace hal := hal.trans (hb1.mono (by omega))
  rw [hz] at hS
  clear h hW hb1 hz hW1
  go_enter Try.func6, Try.ntmps6
  go_wp2_with fail
  rw [HW.out, HW1.out]
  refine (llong _ _ _ _ _ _ w.heap.size _ _ hT.tab (by have := hT.sz; omega) n0 n1 n2 n3).mono ?_
  clear n0 n1 n2 n3 HW HW1
  rintro x w2 ⟨b, rfl, hbs, hb⟩
  have HB := Lib.hid hbs
  clear hbs
  replace hal := hal.trans (hb.mono (by have := hT.sz; omega))
  replace hT := hT.below hb hT.sz
  replace hS := hS.below hb hS.sz
  clear hb
  cases b with
  | true =>
    go_wp2_with fail
    refine (lfirst _).mono ?_
    rintro x w2 ⟨rfl, hb⟩
    go_wp2
    go_ret
    exact ⟨rfl, hal.trans (hb.mono hal.size)⟩
  | false =>
    have hn := HB.out.1 rfl
    have q0 := fun x => ext_cell hT.sz hT.q0 x
    have q1 := fun x => ext_cell hT.sz hT.q1 x
    have q2 := fun x => ext_cell hT.sz hT.q2 x
    have s0 := fun x => ext_cell hS.sz hS.q0 x
    have s1 := fun x => ext_cell hS.sz hS.q1 x
    have s2 := fun x => ext_cell hS.sz hS.q2 x
    have s3 := fun x => ext_cell hS.sz hS.q3 x
    have HT := Lib.hid fun x => (hT.below (ext_below w2.heap.size w2 x) hT.sz)
    go_wp2_with fail
    refine wp_region_ext w2.heap.size (by kernel_rfl) (by kernel_rfl) ?_
    repeat (quiet_step (first
      | (go_at_call 26; exact ext_call (Nat.le_refl _) (lValidTable _ _ _ _ _ _ w.heap.size _ _ (HT.out _).tab (Nat.le_of_lt (HT.out _).sz) hn))
      | (go_at_call 22; exact ext_call (Nat.le_refl _) (rValidTable _ _ _ _ _ _ w.heap.size _ _ (HT.out _).tab (Nat.le_of_lt (HT.out _).sz) hn))
      | (go_at_call 27; exact ext_call (Nat.le_refl _) (lValidScene s _))
      | (go_at_call 28; exact ext_call (Nat.le_refl _) (rValidScene s _))
      | (go_at_call 20; exact ext_call (Nat.le_refl _) (lfirst _))))
    refine wpQuiet_nil ?_
    intro wf hwf
    obtain ⟨x, rfl⟩ := hwf
    go_wp2
    go_ret
    exact ⟨rfl, hal.trans ((ext_below _ _ _).mono hal.size)⟩
namespace LawTables
open Go.ChangeShapes Go.WideShapes Go.ChangeAt Go.RowKit
set_option maxRecDepth 100000 in
theorem lifted (os : Os) (started : os.Started) (H : Type) (enc : TypeId × Value → H) :
    ReturnsInHanded {} Try.checked os 6 .any (Rows.lightTablesSpec.pre6 enc Try.prog Try.f6 Rows.lightTablesRow.domain false) (Rows.lightTablesSpec.post enc Try.prog Try.f6 false true false false) := by
  refine returnsInHanded_of_change (C := Try.checked) own started (by kernel_rfl) Try.func6
    (ChangeSpec.witness6 (enc := enc) (C := Try.checked) false ⟨#[], #[.agg #[.slice none 0 0, .slice none 0 0, .slice none 0 0], .agg #[.int .i64 0, .int .i64 0, .int .i64 0, .int .i64 0]], []⟩ 8 (by kernel_rfl) (by kernel_rfl) (by kernel_rfl) (by kernel_rfl)) ?_
  intro W base args ds gs before hval hW hcnd _
  refine law_contract rfl rfl (by simp; decide +kernel) (fun ds hds => ?_) W base args ds gs before hW fun p hA => ?_
  · match ds, hds with
    | [d1, d2], _ => rfl
  · obtain ⟨v0, v1, d0, d1, p0, p1, rfl, rfl, rfl, h0, h1⟩ := trodAll_two hA
    obtain ⟨A0, A1, A2, c0, c1, c2, t, rfl, hT, hf⟩ := table_arg (hval 0 25 _ rfl rfl) h0
    obtain ⟨s, rfl⟩ := scene_arg (hval 1 40 _ rfl rfl) h1
    exact wTables _ _ _ _ _ _ t s W hT hf
theorem proved : Rows.LightTablesSaid :=
  OpenClaim.holds_of_wide 6 Try.f6 rfl rfl rfl rfl rfl rfl rfl ⟨rfl, rfl, rfl, rfl, rfl⟩ rfl rfl rfl rfl rfl (by kernel_rfl) Try.func6 (by kernel_rfl)
    (of_decide_eq_true (by kernel_rfl)) (by unfold Func.isWrapper; rw [if_neg (of_decide_eq_false (by kernel_rfl))]; exact ⟨rfl, rfl⟩)
    (fun os started H enc _ => lifted os started H enc)
end LawTables
end Go.Proofs.Ytihhfelhdgmceaa
