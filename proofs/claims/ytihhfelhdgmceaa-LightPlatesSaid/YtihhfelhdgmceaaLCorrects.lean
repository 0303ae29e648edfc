/- Statement LightCorrects: for every row of readings the law returns true: Corrected answers as the reference does. No condition. -/
import Derived.Test.YtihhfelhdgmceaaCor3
import Derived.Test.YtihhfelhdgmceaaBet1
import Derived.Test.YtihhfelhdgmceaaFirst
import Derived.Test.YtihhfelhdgmceaaFrame8
namespace Go.Proofs.Ytihhfelhdgmceaa
open Go.RowKit
/-- A row in a box. -/
structure RBox (W : World) (n : Nat) (A : Option Addr) (k c : Nat) (f l : Int × Int) (r : Int) : Prop where
  q0 : W.cell? ⟨n, 0, none⟩ = some (.slice A k c)
  q1 : W.cell? ⟨n, 1, none⟩ = some (.int .i64 f.1)
  q2 : W.cell? ⟨n, 2, none⟩ = some (.int .i64 f.2)
  q3 : W.cell? ⟨n, 3, none⟩ = some (.int .i64 l.1)
  q4 : W.cell? ⟨n, 4, none⟩ = some (.int .i64 l.2)
  q5 : W.cell? ⟨n, 5, none⟩ = some (.int .i64 r)
  sz : n < W.heap.size
theorem RBox.below {W W' : World} {n C : Nat} {A : Option Addr} {k c : Nat} {f l : Int × Int} {r : Int} (h : RBox W n A k c f l r) (hb : Below C W W') (hC : n < C) : RBox W' n A k c f l r :=
  ⟨(hb.cell hC).trans h.q0, (hb.cell hC).trans h.q1, (hb.cell hC).trans h.q2, (hb.cell hC).trans h.q3, (hb.cell hC).trans h.q4, (hb.cell hC).trans h.q5, Nat.lt_of_lt_of_le h.sz hb.size⟩
theorem RBox.new (w : World) (A : Option Addr) (k c : Nat) (f l : Int × Int) (r : Int) (T : TypeId) :
    RBox (w.alloc (.cells #[.slice A k c, .int .i64 f.1, .int .i64 f.2, .int .i64 l.1, .int .i64 l.2, .int .i64 r] T)) w.heap.size A k c f l r :=
  ⟨by simp [go_sem], by simp [go_sem], by simp [go_sem], by simp [go_sem], by simp [go_sem], by simp [go_sem], by simp⟩
/-- The list and the error that Corrected returns. -/
def CorIs (xs : List (Int × Int)) (f l : Int × Int) (r : Int) (er : Int) (ys : List Int) : Prop :=
  (¬ CorOk xs f l r → er = 2 ∧ ys = []) ∧ (CorOk xs f l r → (farFrom f.2 r = true ∨ farFrom l.2 r = true) → er = 32 ∧ ys = []) ∧
  (CorOk xs f l r → ¬ (farFrom f.2 r = true ∨ farFrom l.2 r = true) → er = 0 ∧ ys = corTo xs f l r xs.length)
theorem corIs_one {xs : List (Int × Int)} {f l : Int × Int} {r er er' : Int} {ys ys' : List Int} (h : CorIs xs f l r er ys) (h' : CorIs xs f l r er' ys') : er = er' ∧ ys = ys' := by
  by_cases ho : CorOk xs f l r
  · by_cases hf : farFrom f.2 r = true ∨ farFrom l.2 r = true
    · obtain ⟨a, b⟩ := h.2.1 ho hf; obtain ⟨a', b'⟩ := h'.2.1 ho hf; exact ⟨a.trans a'.symm, b.trans b'.symm⟩
    · obtain ⟨a, b⟩ := h.2.2 ho hf; obtain ⟨a', b'⟩ := h'.2.2 ho hf; exact ⟨a.trans a'.symm, b.trans b'.symm⟩
  · obtain ⟨a, b⟩ := h.1 ho; obtain ⟨a', b'⟩ := h'.1 ho; exact ⟨a.trans a'.symm, b.trans b'.symm⟩
theorem corRes_is {xs : List (Int × Int)} {f l : Int × Int} {r : Int} {w w' : World} {e : Ending} (h : CorRes xs f l r w e w') :
    ∃ (er : Int) (ys : List Int) (A : Option Addr) (c : Nat), CorIs xs f l r er ys ∧ ys.length ≤ xs.length ∧ e = .returned (.tuple #[.slice A ys.length c, .int .i64 er]) ∧ Ints w' w'.heap.size A ys ∧ Below w.heap.size w w' := by
  obtain ⟨h1, h2, h3, hb⟩ := h
  by_cases ho : CorOk xs f l r
  · by_cases hf : farFrom f.2 r = true ∨ farFrom l.2 r = true
    · exact ⟨32, [], none, 0, ⟨fun h => absurd ho h, fun _ _ => ⟨rfl, rfl⟩, fun _ h => absurd hf h⟩, by simp, h2 ho hf, .inl rfl, hb⟩
    · obtain ⟨A, c, he, hI⟩ := h3 ho hf
      exact ⟨0, _, A, c, ⟨fun h => absurd ho h, fun _ h => absurd h hf, fun _ _ => ⟨rfl, rfl⟩⟩, by rw [corTo_length]; exact Nat.le_refl _, by rw [he, corTo_length], hI, hb⟩
  · exact ⟨2, [], none, 0, ⟨fun _ => ⟨rfl, rfl⟩, fun h => absurd h ho, fun h => absurd h ho⟩, by simp, h1 ho, .inl rfl, hb⟩
theorem sameB_self (xs : List Int) : sameB xs xs = true := by simp [sameB]
set_option maxRecDepth 100000 in
set_option maxHeartbeats 4000000 in
theorem wCorrects (A : Option Addr) (c : Nat) (xs : List (Int × Int)) (f l : Int × Int) (r : Int) (w : World) (h : Pairs w w.heap.size A xs) (hn : xs.length ≤ 9223372036854775807) :
    Calls Try.prog 9 #[.agg #[.slice A xs.length c, .int .i64 f.1, .int .i64 f.2, .int .i64 l.1, .int .i64 l.2, .int .i64 r]] w fun x w' => x = .returned (.bool true) ∧ Below w.heap.size w w' := by
  have hF := RBox.new w A xs.length c f l r 56
  have hal : Below w.heap.size w (w.alloc (.cells #[.slice A xs.length c, .int .i64 f.1, .int .i64 f.2, .int .i64 l.1, .int .i64 l.2, .int .i64 r] 56)) := (Below.refl _ _).alloc (Nat.le_refl _) _
  generalize hW : w.alloc (.cells #[.slice A xs.length c, .int .i64 f.1, .int .i64 f.2, .int .i64 l.1, .int .i64 l.2, .int .i64 r] 56) = w0 at hF hal
  have HW := Lib.hid hW
  have hP : Pairs w0 w.heap.size A xs := h.below hal
  clear hW h
  obtain ⟨q0, q1, q2, q3, q4, q5, _⟩ := id hF
  by_cases h200 : xs.length ≤ 200
  · go_enter Try.func9, Try.ntmps9
    go_wp2_with fail
    rw [HW.out]
    refine (lCorrected _ _ w.heap.size _ _ _ _ _ hP hal.size h200).mono ?_
    clear HW
    rintro e w1 hr
    obtain ⟨er, ys, A1, c1, h1, hy, rfl, hI, hb⟩ := corRes_is hr
    have H1 := Lib.hid h1
    replace hP := hP.below (hb.mono hal.size)
    replace hal := hal.trans (hb.mono hal.size)
    replace hF := hF.below hb hF.sz
    clear q0 q1 q2 q3 q4 q5 hr h1 hb
    obtain ⟨q0, q1, q2, q3, q4, q5, _⟩ := id hF
    go_wp2_with fail
    refine (rCorrected _ _ w.heap.size _ _ _ _ _ hP hal.size h200).mono ?_
    rintro e w2 hr
    obtain ⟨er', ys', A2, c2, h1, _, rfl, hI', hb⟩ := corRes_is hr
    obtain ⟨rfl, rfl⟩ := corIs_one H1.out h1
    replace hI := hI.below hb
    replace hal := hal.trans (hb.mono hal.size)
    clear q0 q1 q2 q3 q4 q5 hr h1 hb
    go_wp2_with fail
    refine (rSameInts _ _ _ _ _ _ _ _ _ hI hI' (by omega) (by omega)).mono ?_
    rintro e w3 ⟨rfl, hd⟩
    rw [sameB_self]
    go_wp2_with fail
    refine (lfirst _).mono ?_
    rintro x w5 ⟨rfl, hb5⟩
    go_wp2
    go_ret
    have hb3 := hal.trans (hd.below _)
    exact ⟨rfl, hb3.trans (hb5.mono hb3.size)⟩
  · go_enter Try.func9, Try.ntmps9
    go_wp2_with fail
    rw [HW.out]
    refine (lfirst _).mono ?_
    rintro x w5 ⟨rfl, hb5⟩
    go_wp2
    go_ret
    exact ⟨rfl, hal.trans (hb5.mono hal.size)⟩
namespace LawCorrects
open Go.ChangeShapes Go.WideShapes Go.ChangeAt Go.RowKit
set_option maxRecDepth 100000 in
theorem lifted (os : Os) (started : os.Started) (H : Type) (enc : TypeId × Value → H) :
    ReturnsInHanded {} Try.checked os 9 .any (Rows.lightCorrectsSpec.pre6 enc Try.prog Try.f9 Rows.lightCorrectsRow.domain false) (Rows.lightCorrectsSpec.post enc Try.prog Try.f9 false true false false) := by
  refine returnsInHanded_of_change (C := Try.checked) own started (by kernel_rfl) Try.func9
    (ChangeSpec.witness6 (enc := enc) (C := Try.checked) false ⟨#[], #[.agg #[.slice none 0 0, .int .i64 0, .int .i64 0, .int .i64 0, .int .i64 0, .int .i64 0]], []⟩ 8 (by kernel_rfl) (by kernel_rfl) (by kernel_rfl) (by kernel_rfl)) ?_
  intro W base args ds gs before hval hW hcnd _
  refine law_contract rfl rfl (by simp; decide +kernel) (fun ds hds => ?_) W base args ds gs before hW fun p hA => ?_
  · match ds, hds with
    | [d1], _ => rfl
  · obtain ⟨v0, d0, rfl, rfl, h0⟩ := trodAll_one hA
    obtain ⟨A, c, xs, f, l, rf, rfl, hP, hn⟩ := row_arg (hval 0 56 _ rfl rfl) h0
    exact wCorrects A c xs f l rf W hP hn
theorem proved : Rows.LightCorrectsSaid :=
  OpenClaim.holds_of_wide 9 Try.f9 rfl rfl rfl rfl rfl rfl rfl ⟨rfl, rfl, rfl, rfl, rfl⟩ rfl rfl rfl rfl rfl (by kernel_rfl) Try.func9 (by kernel_rfl)
    (of_decide_eq_true (by kernel_rfl)) (by unfold Func.isWrapper; rw [if_neg (of_decide_eq_false (by kernel_rfl))]; exact ⟨rfl, rfl⟩)
    (fun os started H enc _ => lifted os started H enc)
end LawCorrects
end Go.Proofs.Ytihhfelhdgmceaa
