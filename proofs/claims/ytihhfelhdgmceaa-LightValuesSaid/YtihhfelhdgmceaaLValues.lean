/- Statement LightValues: for every face the law returns true: Value and Due answer as the reference's. No condition. -/
import Derived.Test.YtihhfelhdgmceaaVal2
import Derived.Test.YtihhfelhdgmceaaVal3
import Derived.Test.YtihhfelhdgmceaaFirst
import Derived.Test.YtihhfelhdgmceaaFrame7
namespace Go.Proofs.Ytihhfelhdgmceaa
open Go.RowKit
/-- A face in a box. -/
structure FBox (W : World) (n : Nat) (s : Sc) (side : Int) (A : Option Addr) (l c : Nat) (day least : Int) : Prop where
  q0 : W.cell? ⟨n, 0, none⟩ = some (.int .i64 s.rise)
  q1 : W.cell? ⟨n, 1, none⟩ = some (.int .i64 s.side)
  q2 : W.cell? ⟨n, 2, none⟩ = some (.int .i64 s.turn)
  q3 : W.cell? ⟨n, 3, none⟩ = some (.int .i64 s.power)
  q4 : W.cell? ⟨n, 4, none⟩ = some (.int .i64 side)
  q5 : W.cell? ⟨n, 5, none⟩ = some (.slice A l c)
  q6 : W.cell? ⟨n, 6, none⟩ = some (.int .i64 day)
  q7 : W.cell? ⟨n, 7, none⟩ = some (.int .i64 least)
  sz : n < W.heap.size
theorem FBox.below {W W' : World} {n C : Nat} {s : Sc} {side : Int} {A : Option Addr} {l c : Nat} {day least : Int} (h : FBox W n s side A l c day least) (hb : Below C W W') (hC : n < C) : FBox W' n s side A l c day least :=
  ⟨(hb.cell hC).trans h.q0, (hb.cell hC).trans h.q1, (hb.cell hC).trans h.q2, (hb.cell hC).trans h.q3, (hb.cell hC).trans h.q4, (hb.cell hC).trans h.q5, (hb.cell hC).trans h.q6, (hb.cell hC).trans h.q7, Nat.lt_of_lt_of_le h.sz hb.size⟩
theorem FBox.new (w : World) (s : Sc) (side : Int) (A : Option Addr) (l c : Nat) (day least : Int) (T : TypeId) :
    FBox (w.alloc (.cells #[.int .i64 s.rise, .int .i64 s.side, .int .i64 s.turn, .int .i64 s.power, .int .i64 side, .slice A l c, .int .i64 day, .int .i64 least] T)) w.heap.size s side A l c day least :=
  ⟨by simp [go_sem], by simp [go_sem], by simp [go_sem], by simp [go_sem], by simp [go_sem], by simp [go_sem], by simp [go_sem], by simp [go_sem], by simp⟩
/-- What Value returns. -/
def ValIs (s : Sc) (side : Int) (xs : List (Int × Int)) (day v er : Int) : Prop := (ValOk s side xs day ∧ v = valF s side xs day ∧ er = 0) ∨ (¬ ValOk s side xs day ∧ v = 0 ∧ er = 2)
theorem valIs_one {s : Sc} {side : Int} {xs : List (Int × Int)} {day v er v' er' : Int} (h : ValIs s side xs day v er) (h' : ValIs s side xs day v' er') : v = v' ∧ er = er' := by
  rcases h with ⟨h1, h2, h3⟩ | ⟨h1, h2, h3⟩ <;> rcases h' with ⟨g1, g2, g3⟩ | ⟨g1, g2, g3⟩
  · exact ⟨h2.trans g2.symm, h3.trans g3.symm⟩
  · exact absurd h1 g1
  · exact absurd g1 h1
  · exact ⟨h2.trans g2.symm, h3.trans g3.symm⟩
theorem valRes_is {s : Sc} {side : Int} {xs : List (Int × Int)} {day : Int} {w w' : World} {e : Ending} (h : ValRes s side xs day w e w') : ∃ v er, ValIs s side xs day v er ∧ e = .returned (.tuple #[.int .i64 v, .int .i64 er]) ∧ Below w.heap.size w w' := by
  by_cases ho : ValOk s side xs day
  · exact ⟨_, 0, .inl ⟨ho, rfl, rfl⟩, h.1 ho, h.2.2⟩
  · exact ⟨0, 2, .inr ⟨ho, rfl, rfl⟩, h.2.1 ho, h.2.2⟩
theorem wValues (s : Sc) (side : Int) (A : Option Addr) (c : Nat) (xs : List (Int × Int)) (day least : Int) (w : World) (h : Pairs w w.heap.size A xs) (hn : xs.length ≤ 9223372036854775807) :
    Calls Try.prog 16 #[.agg #[.int .i64 s.rise, .int .i64 s.side, .int .i64 s.turn, .int .i64 s.power, .int .i64 side, .slice A xs.length c, .int .i64 day, .int .i64 least]] w fun x w' => x = .returned (.bool true) ∧ Below w.heap.size w w' := by
  have hF := FBox.new w s side A xs.length c day least 84
  have hal : Below w.heap.size w (w.alloc (.cells #[.int .i64 s.rise, .int .i64 s.side, .int .i64 s.turn, .int .i64 s.power, .int .i64 side, .slice A xs.length c, .int .i64 day, .int .i64 least] 84)) := (Below.refl _ _).alloc (Nat.le_refl _) _
  generalize hW : w.alloc (.cells #[.int .i64 s.rise, .int .i64 s.side, .int .i64 s.turn, .int .i64 s.power, .int .i64 side, .slice A xs.length c, .int .i64 day, .int .i64 least] 84) = w0 at hF hal
  have HW := Lib.hid hW
  have hP : Pairs w0 w.heap.size A xs := h.below hal
  clear hW h
  obtain ⟨q0, q1, q2, q3, q4, q5, q6, q7, _⟩ := id hF
  by_cases h100 : xs.length ≤ 100
  · go_enter Try.func16, Try.ntmps16
    go_wp2_with fail
    rw [HW.out]
    refine (lValue _ _ _ _ w.heap.size _ _ _ hP hal.size h100).mono ?_
    clear HW
    rintro e w1 hr
    obtain ⟨v, er, h1, rfl, hb⟩ := valRes_is hr
    have H1 := Lib.hid h1
    replace hP := hP.below (hb.mono hal.size)
    replace hal := hal.trans (hb.mono hal.size)
    replace hF := hF.below hb hF.sz
    clear q0 q1 q2 q3 q4 q5 q6 q7 hr h1 hb
    obtain ⟨q0, q1, q2, q3, q4, q5, q6, q7, _⟩ := id hF
    go_wp2_with fail
    refine (rValue _ _ _ _ w.heap.size _ _ _ hP hal.size h100).mono ?_
    rintro e w2 hr
    obtain ⟨v', er', h1, rfl, hb⟩ := valRes_is hr
    obtain ⟨rfl, rfl⟩ := valIs_one H1.out h1
    replace hP := hP.below (hb.mono hal.size)
    replace hal := hal.trans (hb.mono hal.size)
    replace hF := hF.below hb hF.sz
    clear q0 q1 q2 q3 q4 q5 q6 q7 hr h1 hb
    obtain ⟨q0, q1, q2, q3, q4, q5, q6, q7, _⟩ := id hF
    go_wp2_with fail
    refine (lDue _ _ _ _ w.heap.size _ _ _ hP hal.size h100).mono ?_
    rintro e w3 hr
    obtain ⟨d, b, er2, h1, rfl, hb⟩ := id hr
    have H2 := Lib.hid h1
    replace hP := hP.below (hb.mono hal.size)
    replace hal := hal.trans (hb.mono hal.size)
    replace hF := hF.below hb hF.sz
    clear q0 q1 q2 q3 q4 q5 q6 q7 hr h1 hb
    obtain ⟨q0, q1, q2, q3, q4, q5, q6, q7, _⟩ := id hF
    go_wp2_with fail
    refine (rDue _ _ _ _ w.heap.size _ _ _ hP hal.size h100).mono ?_
    rintro e w4 hr
    obtain ⟨d', b', er2', h1, rfl, hb⟩ := id hr
    obtain ⟨rfl, rfl, rfl⟩ := dueIs_one H2.out h1
    replace hP := hP.below (hb.mono hal.size)
    replace hal := hal.trans (hb.mono hal.size)
    replace hF := hF.below hb hF.sz
    clear q0 q1 q2 q3 q4 q5 q6 q7 hr h1 hb
    go_wp2_with fail
    refine (lfirst _).mono ?_
    rintro e w5 ⟨rfl, hb5⟩
    go_wp2
    go_ret
    exact ⟨rfl, hal.trans (hb5.mono hal.size)⟩
  · go_enter Try.func16, Try.ntmps16
    go_wp2_with fail
    rw [HW.out]
    refine (lfirst _).mono ?_
    rintro e w5 ⟨rfl, hb5⟩
    go_wp2
    go_ret
    exact ⟨rfl, hal.trans (hb5.mono hal.size)⟩
namespace LawValues
open Go.ChangeShapes Go.WideShapes Go.ChangeAt Go.RowKit
set_option maxRecDepth 100000 in
theorem lifted (os : Os) (started : os.Started) (H : Type) (enc : TypeId × Value → H) :
    ReturnsInHanded {} Try.checked os 16 .any (Rows.lightValuesSpec.pre6 enc Try.prog Try.f16 Rows.lightValuesRow.domain false) (Rows.lightValuesSpec.post enc Try.prog Try.f16 false true false false) := by
  refine returnsInHanded_of_change (C := Try.checked) own started (by kernel_rfl) Try.func16
    (ChangeSpec.witness6 (enc := enc) (C := Try.checked) false ⟨#[], #[.agg #[.int .i64 0, .int .i64 0, .int .i64 0, .int .i64 0, .int .i64 0, .slice none 0 0, .int .i64 0, .int .i64 0]], []⟩ 8 (by kernel_rfl) (by kernel_rfl) (by kernel_rfl) (by kernel_rfl)) ?_
  intro W base args ds gs before hval hW hcnd _
  refine law_contract rfl rfl (by simp; decide +kernel) (fun ds hds => ?_) W base args ds gs before hW fun p hA => ?_
  · match ds, hds with
    | [d1], _ => rfl
  · obtain ⟨v0, d0, rfl, rfl, h0⟩ := trodAll_one hA
    obtain ⟨s, side, A, c, xs, day, least, rfl, hP, hn⟩ := face_arg (hval 0 84 _ rfl rfl) h0
    exact wValues s side A c xs day least W hP hn
theorem proved : Rows.LightValuesSaid :=
  OpenClaim.holds_of_wide 16 Try.f16 rfl rfl rfl rfl rfl rfl rfl ⟨rfl, rfl, rfl, rfl, rfl⟩ rfl rfl rfl rfl rfl (by kernel_rfl) Try.func16 (by kernel_rfl)
    (of_decide_eq_true (by kernel_rfl)) (by unfold Func.isWrapper; rw [if_neg (of_decide_eq_false (by kernel_rfl))]; exact ⟨rfl, rfl⟩)
    (fun os started H enc _ => lifted os started H enc)
end LawValues
end Go.Proofs.Ytihhfelhdgmceaa
