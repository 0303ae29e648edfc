/- Statement LightLegible: for every view the law returns true: Legible answers as the reference does. No condition. -/
import Derived.Test.YtihhfelhdgmceaaLeg3
import Derived.Test.YtihhfelhdgmceaaFirst
import Derived.Test.YtihhfelhdgmceaaLong
import Derived.Test.YtihhfelhdgmceaaFrame9
namespace Go.Proofs.Ytihhfelhdgmceaa
open Go.RowKit
/-- A view in a box. -/
structure VBox (W : World) (n B : Nat) (A0 A1 A2 : Option Addr) (c0 c1 c2 : Nat) (t : Tb) (s : Sc) (need letter : Int) : Prop where
  tab : Tab W B A0 A1 A2 t
  q0 : W.cell? ⟨n, 0, none⟩ = some (.slice A0 t.obs.length c0)
  q1 : W.cell? ⟨n, 1, none⟩ = some (.slice A1 t.ent.length c1)
  q2 : W.cell? ⟨n, 2, none⟩ = some (.slice A2 t.r.length c2)
  q3 : W.cell? ⟨n, 3, none⟩ = some (.int .i64 s.rise)
  q4 : W.cell? ⟨n, 4, none⟩ = some (.int .i64 s.side)
  q5 : W.cell? ⟨n, 5, none⟩ = some (.int .i64 s.turn)
  q6 : W.cell? ⟨n, 6, none⟩ = some (.int .i64 s.power)
  q7 : W.cell? ⟨n, 7, none⟩ = some (.int .i64 need)
  q8 : W.cell? ⟨n, 8, none⟩ = some (.int .i64 letter)
  lt : B ≤ n
  sz : n < W.heap.size
theorem VBox.below {W W' : World} {n B C : Nat} {A0 A1 A2 : Option Addr} {c0 c1 c2 : Nat} {t : Tb} {s : Sc} {need letter : Int} (h : VBox W n B A0 A1 A2 c0 c1 c2 t s need letter) (hb : Below C W W') (hC : n < C) : VBox W' n B A0 A1 A2 c0 c1 c2 t s need letter :=
  ⟨h.tab.keep fun p hp => hb.cell (by have := h.lt; omega), (hb.cell hC).trans h.q0, (hb.cell hC).trans h.q1, (hb.cell hC).trans h.q2, (hb.cell hC).trans h.q3, (hb.cell hC).trans h.q4, (hb.cell hC).trans h.q5, (hb.cell hC).trans h.q6, (hb.cell hC).trans h.q7, (hb.cell hC).trans h.q8, h.lt, Nat.lt_of_lt_of_le h.sz hb.size⟩
theorem VBox.new {w : World} {A0 A1 A2 : Option Addr} {c0 c1 c2 : Nat} {t : Tb} {s : Sc} {need letter : Int} {T : TypeId} (h : Tab w w.heap.size A0 A1 A2 t) :
    VBox (w.alloc (.cells #[.slice A0 t.obs.length c0, .slice A1 t.ent.length c1, .slice A2 t.r.length c2, .int .i64 s.rise, .int .i64 s.side, .int .i64 s.turn, .int .i64 s.power, .int .i64 need, .int .i64 letter] T)) w.heap.size w.heap.size A0 A1 A2 c0 c1 c2 t s need letter :=
  ⟨h.keep fun p hp => by exact ((Below.refl w.heap.size w).alloc (Nat.le_refl _) _).cell hp, by simp [go_sem], by simp [go_sem], by simp [go_sem], by simp [go_sem], by simp [go_sem], by simp [go_sem], by simp [go_sem], by simp [go_sem], by simp [go_sem], Nat.le_refl _, by simp⟩
/-- The list and the error that Legible returns. -/
def LegIs (t : Tb) (s : Sc) (need letter : Int) (er : Int) (ps : List (Int × Int)) : Prop :=
  (seenF t s ≠ 0 → er = seenF t s ∧ ps = []) ∧ (seenF t s = 0 → ¬ LegArg need letter → er = 2 ∧ ps = []) ∧ (seenF t s = 0 → LegArg need letter → er = 0 ∧ ps = spansTo (legOk t s need letter) 400)
theorem legIs_one {t : Tb} {s : Sc} {need letter er er' : Int} {ps ps' : List (Int × Int)} (h : LegIs t s need letter er ps) (h' : LegIs t s need letter er' ps') : er = er' ∧ ps = ps' := by
  by_cases ho : seenF t s = 0
  · by_cases hf : LegArg need letter
    · obtain ⟨a, b⟩ := h.2.2 ho hf; obtain ⟨a', b'⟩ := h'.2.2 ho hf; exact ⟨a.trans a'.symm, b.trans b'.symm⟩
    · obtain ⟨a, b⟩ := h.2.1 ho hf; obtain ⟨a', b'⟩ := h'.2.1 ho hf; exact ⟨a.trans a'.symm, b.trans b'.symm⟩
  · obtain ⟨a, b⟩ := h.1 ho; obtain ⟨a', b'⟩ := h'.1 ho; exact ⟨a.trans a'.symm, b.trans b'.symm⟩
theorem legRes_is {t : Tb} {s : Sc} {need letter : Int} {w w' : World} {e : Ending} (h : LegRes t s need letter w e w') :
    ∃ (er : Int) (ps : List (Int × Int)) (A : Option Addr) (c : Nat), LegIs t s need letter er ps ∧ ps.length ≤ 400 ∧ e = .returned (.tuple #[.slice A ps.length c, .int .i64 er]) ∧ Pairs w' w'.heap.size A ps ∧ Below w.heap.size w w' := by
  obtain ⟨h1, h2, h3, hb⟩ := h
  by_cases ho : seenF t s = 0
  · by_cases hf : LegArg need letter
    · obtain ⟨A, c, he, hI⟩ := h3 ho hf
      exact ⟨0, _, A, c, ⟨fun h => absurd ho h, fun _ h => absurd hf h, fun _ _ => ⟨rfl, rfl⟩⟩, spansTo_length _ _, he, hI, hb⟩
    · exact ⟨2, [], none, 0, ⟨fun h => absurd ho h, fun _ _ => ⟨rfl, rfl⟩, fun _ h => absurd h hf⟩, by simp, h2 ho hf, .inl rfl, hb⟩
  · exact ⟨_, [], none, 0, ⟨fun _ => ⟨rfl, rfl⟩, fun h => absurd h ho, fun h => absurd h ho⟩, by simp, h1 ho, .inl rfl, hb⟩
set_option maxRecDepth 100000 in
set_option maxHeartbeats 4000000 in
theorem wLegible (A0 A1 A2 : Option Addr) (c0 c1 c2 : Nat) (t : Tb) (s : Sc) (need letter : Int) (w : World) (h : Tab w w.heap.size A0 A1 A2 t) (hf : Fits t) :
    Calls Try.prog 15 #[.agg #[.slice A0 t.obs.length c0, .slice A1 t.ent.length c1, .slice A2 t.r.length c2, .int .i64 s.rise, .int .i64 s.side, .int .i64 s.turn, .int .i64 s.power, .int .i64 need, .int .i64 letter]] w fun x w' => x = .returned (.bool true) ∧ Below w.heap.size w w' := by
  obtain ⟨n0, n1, n2, n3⟩ := hf
  have hF := VBox.new (c0 := c0) (c1 := c1) (c2 := c2) (s := s) (need := need) (letter := letter) (T := 74) h
  have hal : Below w.heap.size w (w.alloc (.cells #[.slice A0 t.obs.length c0, .slice A1 t.ent.length c1, .slice A2 t.r.length c2, .int .i64 s.rise, .int .i64 s.side, .int .i64 s.turn, .int .i64 s.power, .int .i64 need, .int .i64 letter] 74)) := (Below.refl _ _).alloc (Nat.le_refl _) _
  generalize hW : w.alloc (.cells #[.slice A0 t.obs.length c0, .slice A1 t.ent.length c1, .slice A2 t.r.length c2, .int .i64 s.rise, .int .i64 s.side, .int .i64 s.turn, .int .i64 s.power, .int .i64 need, .int .i64 letter] 74) = w0 at hF hal
  have HW := Lib.hid hW
  clear hW h
  obtain ⟨-, q0, q1, q2, q3, q4, q5, q6, q7, q8, -, _⟩ := id hF
  go_enter Try.func15, Try.ntmps15
  go_wp2_with fail
  rw [HW.out]
  refine (llong _ _ _ _ _ _ w.heap.size _ _ hF.tab (Nat.le_of_lt hF.sz) n0 n1 n2 n3).mono ?_
  clear n0 n1 n2 n3 HW
  rintro x w2 ⟨b, rfl, hbs, hb⟩
  have HB := Lib.hid hbs
  clear hbs
  replace hal := hal.trans (hb.mono hal.size)
  replace hF := hF.below hb hF.sz
  clear q0 q1 q2 q3 q4 q5 q6 q7 q8 hb
  obtain ⟨-, q0, q1, q2, q3, q4, q5, q6, q7, q8, -, _⟩ := id hF
  cases b with
  | true =>
    go_wp2_with fail
    refine (lfirst _).mono ?_
    rintro x w9 ⟨rfl, hb⟩
    go_wp2
    go_ret
    exact ⟨rfl, hal.trans (hb.mono hal.size)⟩
  | false =>
    have hn := HB.out.1 rfl
    go_wp2_with fail
    refine (lLegible _ _ _ _ _ _ w.heap.size _ s _ _ _ hF.tab (Nat.le_of_lt hF.sz) hn).mono ?_
    rintro e w1 hr
    obtain ⟨er, ps, A, c, h1, hy, rfl, hI, hb⟩ := legRes_is hr
    have H1 := Lib.hid h1
    replace hal := hal.trans (hb.mono hal.size)
    replace hF := hF.below hb hF.sz
    clear q0 q1 q2 q3 q4 q5 q6 q7 q8 hr h1 hb
    obtain ⟨-, q0, q1, q2, q3, q4, q5, q6, q7, q8, -, _⟩ := id hF
    go_wp2_with fail
    refine (rLegible _ _ _ _ _ _ w.heap.size _ s _ _ _ hF.tab (Nat.le_of_lt hF.sz) hn).mono ?_
    rintro e w3 hr
    obtain ⟨er', ps', A', c', h1, _, rfl, hI', hb⟩ := legRes_is hr
    obtain ⟨rfl, rfl⟩ := legIs_one H1.out h1
    replace hI := hI.below hb
    replace hal := hal.trans (hb.mono hal.size)
    clear q0 q1 q2 q3 q4 q5 q6 q7 q8 hr h1 hb
    go_wp2_with fail
    refine (rSameSpans _ _ _ _ _ _ _ _ hI hI' (by omega)).mono ?_
    rintro e w4 ⟨rfl, hd⟩
    go_wp2_with fail
    refine (lfirst _).mono ?_
    rintro x w5 ⟨rfl, hb5⟩
    go_wp2
    go_ret
    have hb3 := hal.trans (hd.below _)
    exact ⟨rfl, hb3.trans (hb5.mono hb3.size)⟩
namespace LawLegible
open Go.ChangeShapes Go.WideShapes Go.ChangeAt Go.RowKit
set_option maxRecDepth 100000 in
theorem lifted (os : Os) (started : os.Started) (H : Type) (enc : TypeId × Value → H) :
    ReturnsInHanded {} Try.checked os 15 .any (Rows.lightLegibleSpec.pre6 enc Try.prog Try.f15 Rows.lightLegibleRow.domain false) (Rows.lightLegibleSpec.post enc Try.prog Try.f15 false true false false) := by
  refine returnsInHanded_of_change (C := Try.checked) own started (by kernel_rfl) Try.func15
    (ChangeSpec.witness6 (enc := enc) (C := Try.checked) false ⟨#[], #[.agg #[.slice none 0 0, .slice none 0 0, .slice none 0 0, .int .i64 0, .int .i64 0, .int .i64 0, .int .i64 0, .int .i64 0, .int .i64 0]], []⟩ 8 (by kernel_rfl) (by kernel_rfl) (by kernel_rfl) (by kernel_rfl)) ?_
  intro W base args ds gs before hval hW hcnd _
  refine law_contract rfl rfl (by simp; decide +kernel) (fun ds hds => ?_) W base args ds gs before hW fun p hA => ?_
  · match ds, hds with
    | [d1], _ => rfl
  · obtain ⟨v0, d0, rfl, rfl, h0⟩ := trodAll_one hA
    obtain ⟨A0, A1, A2, c0, c1, c2, t, s, need, letter, rfl, hT, hf⟩ := view_arg (hval 0 74 _ rfl rfl) h0
    exact wLegible A0 A1 A2 c0 c1 c2 t s need letter W hT hf
theorem proved : Rows.LightLegibleSaid :=
  OpenClaim.holds_of_wide 15 Try.f15 rfl rfl rfl rfl rfl rfl rfl ⟨rfl, rfl, rfl, rfl, rfl⟩ rfl rfl rfl rfl rfl (by kernel_rfl) Try.func15 (by kernel_rfl)
    (of_decide_eq_true (by kernel_rfl)) (by unfold Func.isWrapper; rw [if_neg (of_decide_eq_false (by kernel_rfl))]; exact ⟨rfl, rfl⟩)
    (fun os started H enc _ => lifted os started H enc)
end LawLegible
end Go.Proofs.Ytihhfelhdgmceaa
