/- Statement LightReadings: for every list of spans and every speed the law returns true: Reading answers as the reference does. No condition. -/
import Derived.Test.YtihhfelhdgmceaaFirst
import Derived.Test.YtihhfelhdgmceaaFrame4
namespace Go.Proofs.Ytihhfelhdgmceaa
open Go.RowKit
theorem wReadings (A : Option Addr) (c : Nat) (xs : List (Int × Int)) (speed : Int) (w : World) (h : Pairs w w.heap.size A xs) (hn : xs.length ≤ 9223372036854775807) :
    Calls Try.prog 7 #[.slice A xs.length c, .int .i64 speed] w fun x w' => x = .returned (.bool true) ∧ Below w.heap.size w w' := by
  by_cases hl : xs.length ≤ 1000
  · go_enter Try.func7, Try.ntmps7
    go_wp2_with fail
    refine (lReading _ _ w.heap.size _ _ _ h (Nat.le_refl _) hl).mono ?_
    rintro x w1 ⟨g1, g2, hb⟩
    have h1 := h.below hb
    have hz := hb.size
    by_cases hok : (1 ≤ speed ∧ speed ≤ 300) ∧ (∀ k, k < xs.length → spanAt xs k)
    · rw [g1 hok]
      clear g1 g2
      have HOK := Lib.hid hok
      clear hok
      go_wp2_with fail
      refine (rReading _ _ w.heap.size _ _ _ h1 hz hl).mono ?_
      rintro x w2 ⟨g1, g2, hb2⟩
      rw [g1 HOK.out]
      clear g1 g2 HOK
      replace hb := hb.trans (hb2.mono hz)
      clear hb2
      go_wp2_with fail
      refine (lfirst _).mono ?_
      rintro x w5 ⟨rfl, hb5⟩
      go_wp2
      go_ret
      exact ⟨rfl, hb.trans (hb5.mono hb.size)⟩
    · rw [g2 hok]
      clear g1 g2
      have HOK := Lib.hid hok
      clear hok
      go_wp2_with fail
      refine (rReading _ _ w.heap.size _ _ _ h1 hz hl).mono ?_
      rintro x w2 ⟨g1, g2, hb2⟩
      rw [g2 HOK.out]
      clear g1 g2 HOK
      replace hb := hb.trans (hb2.mono hz)
      clear hb2
      go_wp2_with fail
      refine (lfirst _).mono ?_
      rintro x w5 ⟨rfl, hb5⟩
      go_wp2
      go_ret
      exact ⟨rfl, hb.trans (hb5.mono hb.size)⟩
  · go_enter Try.func7, Try.ntmps7
    go_wp2_with fail
    refine (lfirst _).mono ?_
    rintro x w5 ⟨rfl, hb5⟩
    go_wp2
    go_ret
    exact ⟨rfl, hb5⟩
namespace LawReadings
open Go.ChangeShapes Go.WideShapes Go.ChangeAt Go.RowKit
set_option maxRecDepth 100000 in
theorem lifted (os : Os) (started : os.Started) (H : Type) (enc : TypeId × Value → H) :
    ReturnsInHanded {} Try.checked os 7 .any (Rows.lightReadingsSpec.pre6 enc Try.prog Try.f7 Rows.lightReadingsRow.domain false) (Rows.lightReadingsSpec.post enc Try.prog Try.f7 false true false false) := by
  refine returnsInHanded_of_change (C := Try.checked) own started (by kernel_rfl) Try.func7
    (ChangeSpec.witness6 (enc := enc) (C := Try.checked) false ⟨#[], #[.slice none 0 0, .int .i64 0], []⟩ 8 (by kernel_rfl) (by kernel_rfl) (by kernel_rfl) (by kernel_rfl)) ?_
  intro W base args ds gs before hval hW hcnd _
  refine law_contract rfl rfl (by simp; decide +kernel) (fun ds hds => ?_) W base args ds gs before hW fun p hA => ?_
  · match ds, hds with
    | [d1, d2], _ => rfl
  · obtain ⟨v0, v1, d0, d1, p0, p1, rfl, rfl, rfl, h0, h1⟩ := trodAll_two hA
    obtain ⟨A, c, xs, rfl, hP, hn, _⟩ := spans_arg (hval 0 43 _ rfl rfl) h0
    obtain ⟨speed, rfl, rfl, rfl, wspeed⟩ := open_int Try.underlying3 (hval 1 3 _ rfl rfl) h1
    exact wReadings A c xs speed W hP hn
theorem proved : Rows.LightReadingsSaid :=
  OpenClaim.holds_of_wide 7 Try.f7 rfl rfl rfl rfl rfl rfl rfl ⟨rfl, rfl, rfl, rfl, rfl⟩ rfl rfl rfl rfl rfl (by kernel_rfl) Try.func7 (by kernel_rfl)
    (of_decide_eq_true (by kernel_rfl)) (by unfold Func.isWrapper; rw [if_neg (of_decide_eq_false (by kernel_rfl))]; exact ⟨rfl, rfl⟩)
    (fun os started H enc _ => lifted os started H enc)
end LawReadings
end Go.Proofs.Ytihhfelhdgmceaa
