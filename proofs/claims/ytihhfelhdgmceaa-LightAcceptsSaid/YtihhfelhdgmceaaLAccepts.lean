/- Statement LightAccepts: for every list of values, every least value and any five places the law returns true: Accepted and Inside answer as the reference does. No condition. -/
import Derived.Test.YtihhfelhdgmceaaAccept
import Derived.Test.YtihhfelhdgmceaaFirst
import Derived.Test.YtihhfelhdgmceaaFrame5
import Derived.Test.YtihhfelhdgmceaaFrame6
namespace Go.Proofs.Ytihhfelhdgmceaa
open Go.RowKit
/-- Five places in the block n, a box in the block m. -/
structure Q5 (W : World) (n : Nat) (x : Bx) (p : Int × Int) : Prop where
  a0 : W.cell? ⟨n, 0, none⟩ = some (.int .i64 x.a.1)
  a1 : W.cell? ⟨n, 1, none⟩ = some (.int .i64 x.a.2)
  b0 : W.cell? ⟨n, 2, none⟩ = some (.int .i64 x.b.1)
  b1 : W.cell? ⟨n, 3, none⟩ = some (.int .i64 x.b.2)
  c0 : W.cell? ⟨n, 4, none⟩ = some (.int .i64 x.c.1)
  c1 : W.cell? ⟨n, 5, none⟩ = some (.int .i64 x.c.2)
  d0 : W.cell? ⟨n, 6, none⟩ = some (.int .i64 x.d.1)
  d1 : W.cell? ⟨n, 7, none⟩ = some (.int .i64 x.d.2)
  p0 : W.cell? ⟨n, 8, none⟩ = some (.int .i64 p.1)
  p1 : W.cell? ⟨n, 9, none⟩ = some (.int .i64 p.2)
  sz : n < W.heap.size
theorem Q5.below {W W' : World} {n C : Nat} {x : Bx} {p : Int × Int} (h : Q5 W n x p) (hb : Below C W W') (hn : n < C) : Q5 W' n x p :=
  ⟨(hb.cell hn).trans h.a0, (hb.cell hn).trans h.a1, (hb.cell hn).trans h.b0, (hb.cell hn).trans h.b1, (hb.cell hn).trans h.c0, (hb.cell hn).trans h.c1, (hb.cell hn).trans h.d0, (hb.cell hn).trans h.d1, (hb.cell hn).trans h.p0, (hb.cell hn).trans h.p1, Nat.lt_of_lt_of_le h.sz hb.size⟩
theorem Q5.new (w : World) (x : Bx) (p : Int × Int) (T : TypeId) : Q5 (w.alloc (.cells #[.int .i64 x.a.1, .int .i64 x.a.2, .int .i64 x.b.1, .int .i64 x.b.2, .int .i64 x.c.1, .int .i64 x.c.2, .int .i64 x.d.1, .int .i64 x.d.2, .int .i64 p.1, .int .i64 p.2] T)) w.heap.size x p := by
  constructor <;> simp [go_sem]
/-- A box in the block n. -/
structure Qb (W : World) (n : Nat) (x : Bx) : Prop where
  a0 : W.cell? ⟨n, 0, none⟩ = some (.int .i64 x.a.1)
  a1 : W.cell? ⟨n, 1, none⟩ = some (.int .i64 x.a.2)
  b0 : W.cell? ⟨n, 2, none⟩ = some (.int .i64 x.b.1)
  b1 : W.cell? ⟨n, 3, none⟩ = some (.int .i64 x.b.2)
  c0 : W.cell? ⟨n, 4, none⟩ = some (.int .i64 x.c.1)
  c1 : W.cell? ⟨n, 5, none⟩ = some (.int .i64 x.c.2)
  d0 : W.cell? ⟨n, 6, none⟩ = some (.int .i64 x.d.1)
  d1 : W.cell? ⟨n, 7, none⟩ = some (.int .i64 x.d.2)
  sz : n < W.heap.size
theorem Qb.below {W W' : World} {n C : Nat} {x : Bx} (h : Qb W n x) (hb : Below C W W') (hn : n < C) : Qb W' n x :=
  ⟨(hb.cell hn).trans h.a0, (hb.cell hn).trans h.a1, (hb.cell hn).trans h.b0, (hb.cell hn).trans h.b1, (hb.cell hn).trans h.c0, (hb.cell hn).trans h.c1, (hb.cell hn).trans h.d0, (hb.cell hn).trans h.d1, Nat.lt_of_lt_of_le h.sz hb.size⟩
theorem Qb.new (w : World) (x : Bx) (T : TypeId) : Qb (w.alloc (.cells #[.int .i64 x.a.1, .int .i64 x.a.2, .int .i64 x.b.1, .int .i64 x.b.2, .int .i64 x.c.1, .int .i64 x.c.2, .int .i64 x.d.1, .int .i64 x.d.2] T)) w.heap.size x := by
  constructor <;> simp [go_sem]
def InsIs (x : Bx) (p : Int × Int) (b : Bool) (er : Int) : Prop := (¬ BoxOk x p → b = false ∧ er = 2) ∧ (BoxOk x p → (b = true ↔ ∀ j, j < 4 → inn x p j) ∧ er = 0)
theorem insIs_one {x : Bx} {p : Int × Int} {b b' : Bool} {er er' : Int} (h : InsIs x p b er) (h' : InsIs x p b' er') : b = b' ∧ er = er' := by
  by_cases ho : BoxOk x p
  · obtain ⟨h1, h2⟩ := h.2 ho
    obtain ⟨h3, h4⟩ := h'.2 ho
    exact ⟨Bool.eq_iff_iff.2 (h1.trans h3.symm), h2.trans h4.symm⟩
  · obtain ⟨h1, h2⟩ := h.1 ho
    obtain ⟨h3, h4⟩ := h'.1 ho
    exact ⟨h1.trans h3.symm, h2.trans h4.symm⟩
theorem insRes_is {x : Bx} {p : Int × Int} {w w' : World} {e : Ending} (h : InsRes x p w e w') : ∃ (b : Bool) (er : Int), InsIs x p b er ∧ e = .returned (.tuple #[.bool b, .int .i64 er]) ∧ Below w.heap.size w w' := by
  obtain ⟨h1, h2, h3⟩ := h
  by_cases ho : BoxOk x p
  · obtain ⟨b, hb, he⟩ := h2 ho
    exact ⟨b, 0, ⟨fun h => absurd ho h, fun _ => ⟨hb, rfl⟩⟩, he, h3⟩
  · exact ⟨false, 2, ⟨fun _ => ⟨rfl, rfl⟩, fun h => absurd h ho⟩, h1 ho, h3⟩
set_option maxRecDepth 100000 in
set_option maxHeartbeats 4000000 in
theorem wAccepts (A : Option Addr) (c : Nat) (xs : List Int) (least : Int) (x : Bx) (p : Int × Int) (w : World) (h : Ints w w.heap.size A xs) (hn : xs.length ≤ 9223372036854775807) :
    Calls Try.prog 14 #[.slice A xs.length c, .int .i64 least, .agg #[.int .i64 x.a.1, .int .i64 x.a.2, .int .i64 x.b.1, .int .i64 x.b.2, .int .i64 x.c.1, .int .i64 x.c.2, .int .i64 x.d.1, .int .i64 x.d.2, .int .i64 p.1, .int .i64 p.2]] w fun e w' => e = .returned (.bool true) ∧ Below w.heap.size w w' := by
  have hQ := Q5.new w x p 70
  have hal : Below w.heap.size w (w.alloc (.cells #[.int .i64 x.a.1, .int .i64 x.a.2, .int .i64 x.b.1, .int .i64 x.b.2, .int .i64 x.c.1, .int .i64 x.c.2, .int .i64 x.d.1, .int .i64 x.d.2, .int .i64 p.1, .int .i64 p.2] 70)) := (Below.refl _ _).alloc (Nat.le_refl _) _
  generalize hW : w.alloc (.cells #[.int .i64 x.a.1, .int .i64 x.a.2, .int .i64 x.b.1, .int .i64 x.b.2, .int .i64 x.c.1, .int .i64 x.c.2, .int .i64 x.d.1, .int .i64 x.d.2, .int .i64 p.1, .int .i64 p.2] 70) = w0 at hQ hal
  have HW := Lib.hid hW
  clear hW
  have hi := h.below hal
  by_cases hl : xs.length ≤ 200
  · go_enter Try.func14, Try.ntmps14
    go_wp2_with fail
    rw [HW.out]
    refine (lAccepted _ _ _ _ _ _ hi hl).mono ?_
    rintro e w1 ⟨b1, er1, h1, rfl, rfl⟩
    go_wp2_with fail
    refine (rAccepted _ _ _ _ _ _ hi hl).mono ?_
    rintro e w1 ⟨b2, er2, h2, rfl, rfl⟩
    obtain ⟨rfl, rfl⟩ := accIs_one h1 h2
    clear h1 h2 HW
    obtain ⟨a0, a1, b0, b1', c0, c1, d0, d1, p0, p1, _⟩ := id hQ
    go_wp2_with fail
    clear a0 a1 b0 b1' c0 c1 d0 d1 p0 p1
    have hB := Qb.new w0 x 48
    have hb : Below w0.heap.size w0 (w0.alloc (.cells #[.int .i64 x.a.1, .int .i64 x.a.2, .int .i64 x.b.1, .int .i64 x.b.2, .int .i64 x.c.1, .int .i64 x.c.2, .int .i64 x.d.1, .int .i64 x.d.2] 48)) := (Below.refl _ _).alloc (Nat.le_refl _) _
    generalize w0.alloc (.cells #[.int .i64 x.a.1, .int .i64 x.a.2, .int .i64 x.b.1, .int .i64 x.b.2, .int .i64 x.c.1, .int .i64 x.c.2, .int .i64 x.d.1, .int .i64 x.d.2] 48) = w1 at hB hb ⊢
    replace hQ := hQ.below hb hQ.sz
    replace hal := hal.trans (hb.mono hal.size)
    clear hb hi
    refine (lInside x p _).mono ?_
    rintro e w2 hr
    obtain ⟨b3, er3, h3, rfl, hb⟩ := insRes_is hr
    have H3 := Lib.hid h3
    clear hr h3
    replace hQ := hQ.below hb hQ.sz
    replace hB := hB.below hb hB.sz
    replace hal := hal.trans (hb.mono hal.size)
    clear hb
    have p0 := hQ.p0
    have p1 := hQ.p1
    obtain ⟨a0, a1, b0, b1', c0, c1, d0, d1, _⟩ := id hB
    go_wp2_with fail
    refine (rInside x p _).mono ?_
    rintro e w3 hr
    obtain ⟨b4, er4, h4, rfl, hb⟩ := insRes_is hr
    obtain ⟨rfl, rfl⟩ := insIs_one H3.out h4
    clear hr h4 H3 p0 p1 a0 a1 b0 b1' c0 c1 d0 d1
    replace hal := hal.trans (hb.mono hal.size)
    go_wp2_with fail
    refine (lfirst _).mono ?_
    rintro e w5 ⟨rfl, hb5⟩
    go_wp2
    go_ret
    exact ⟨rfl, hal.trans (hb5.mono hal.size)⟩
  · go_enter Try.func14, Try.ntmps14
    go_wp2_with fail
    rw [HW.out]
    refine (lfirst _).mono ?_
    rintro e w5 ⟨rfl, hb5⟩
    go_wp2
    go_ret
    exact ⟨rfl, hal.trans (hb5.mono hal.size)⟩
namespace LawAccepts
open Go.ChangeShapes Go.WideShapes Go.ChangeAt Go.RowKit
set_option maxRecDepth 100000 in
theorem lifted (os : Os) (started : os.Started) (H : Type) (enc : TypeId × Value → H) :
    ReturnsInHanded {} Try.checked os 14 .any (Rows.lightAcceptsSpec.pre6 enc Try.prog Try.f14 Rows.lightAcceptsRow.domain false) (Rows.lightAcceptsSpec.post enc Try.prog Try.f14 false true false false) := by
  refine returnsInHanded_of_change (C := Try.checked) own started (by kernel_rfl) Try.func14
    (ChangeSpec.witness6 (enc := enc) (C := Try.checked) false ⟨#[], #[.slice none 0 0, .int .i64 0, .agg #[.int .i64 0, .int .i64 0, .int .i64 0, .int .i64 0, .int .i64 0, .int .i64 0, .int .i64 0, .int .i64 0, .int .i64 0, .int .i64 0]], []⟩ 8 (by kernel_rfl) (by kernel_rfl) (by kernel_rfl) (by kernel_rfl)) ?_
  intro W base args ds gs before hval hW hcnd _
  refine law_contract rfl rfl (by simp; decide +kernel) (fun ds hds => ?_) W base args ds gs before hW fun p hA => ?_
  · match ds, hds with
    | [d1, d2, d3], _ => rfl
  · obtain ⟨v0, v1, v2, d0, d1, d2, p0, p1, p2, rfl, rfl, rfl, h0, h1, h2⟩ := trodAll_three hA
    obtain ⟨A, c, xs, rfl, hI, hn, _⟩ := ints_arg (hval 0 22 _ rfl rfl) h0
    obtain ⟨least, rfl, rfl, rfl, wleast⟩ := open_int Try.underlying3 (hval 1 3 _ rfl rfl) h1
    obtain ⟨x, q, rfl⟩ := box5_arg (hval 2 70 _ rfl rfl) h2
    exact wAccepts A c xs least x q W hI hn
theorem proved : Rows.LightAcceptsSaid :=
  OpenClaim.holds_of_wide 14 Try.f14 rfl rfl rfl rfl rfl rfl rfl ⟨rfl, rfl, rfl, rfl, rfl⟩ rfl rfl rfl rfl rfl (by kernel_rfl) Try.func14 (by kernel_rfl)
    (of_decide_eq_true (by kernel_rfl)) (by unfold Func.isWrapper; rw [if_neg (of_decide_eq_false (by kernel_rfl))]; exact ⟨rfl, rfl⟩)
    (fun os started H enc _ => lifted os started H enc)
end LawAccepts
end Go.Proofs.Ytihhfelhdgmceaa
