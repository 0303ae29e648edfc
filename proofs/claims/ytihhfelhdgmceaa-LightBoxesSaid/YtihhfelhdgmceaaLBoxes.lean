/- Statement LightBoxes: for every box and any two numbers the law returns true: the corners of a box, and the places halfway between two of them, are inside. No condition. -/
import Derived.Test.YtihhfelhdgmceaaBoxm
import Derived.Test.YtihhfelhdgmceaaFirst
import Derived.Test.YtihhfelhdgmceaaFrame5
namespace Go.Proofs.Ytihhfelhdgmceaa
open Go.RowKit
/-- A box in the block n. -/
structure Q4 (W : World) (n : Nat) (x : Bx) : Prop where
  a0 : W.cell? ⟨n, 0, none⟩ = some (.int .i64 x.a.1)
  a1 : W.cell? ⟨n, 1, none⟩ = some (.int .i64 x.a.2)
  b0 : W.cell? ⟨n, 2, none⟩ = some (.int .i64 x.b.1)
  b1 : W.cell? ⟨n, 3, none⟩ = some (.int .i64 x.b.2)
  c0 : W.cell? ⟨n, 4, none⟩ = some (.int .i64 x.c.1)
  c1 : W.cell? ⟨n, 5, none⟩ = some (.int .i64 x.c.2)
  d0 : W.cell? ⟨n, 6, none⟩ = some (.int .i64 x.d.1)
  d1 : W.cell? ⟨n, 7, none⟩ = some (.int .i64 x.d.2)
  sz : n < W.heap.size
theorem Q4.below {W W' : World} {n C : Nat} {x : Bx} (h : Q4 W n x) (hb : Below C W W') (hn : n < C) : Q4 W' n x :=
  ⟨(hb.cell hn).trans h.a0, (hb.cell hn).trans h.a1, (hb.cell hn).trans h.b0, (hb.cell hn).trans h.b1, (hb.cell hn).trans h.c0, (hb.cell hn).trans h.c1, (hb.cell hn).trans h.d0, (hb.cell hn).trans h.d1, Nat.lt_of_lt_of_le h.sz hb.size⟩
theorem Q4.at_ {W : World} {n : Nat} {x : Bx} (h : Q4 W n x) {j : Nat} (hj : j < 4) : W.cell? ⟨n, j * 2, none⟩ = some (.int .i64 (x.V j).1) ∧ W.cell? ⟨n, j * 2 + 1, none⟩ = some (.int .i64 (x.V j).2) := by
  obtain rfl | rfl | rfl | rfl : j = 0 ∨ j = 1 ∨ j = 2 ∨ j = 3 := by omega
  · exact ⟨h.a0, h.a1⟩
  · exact ⟨h.b0, h.b1⟩
  · exact ⟨h.c0, h.c1⟩
  · exact ⟨h.d0, h.d1⟩
theorem Q4.new (w : World) (x : Bx) (T : TypeId) : Q4 (w.alloc (.cells #[.int .i64 x.a.1, .int .i64 x.a.2, .int .i64 x.b.1, .int .i64 x.b.2, .int .i64 x.c.1, .int .i64 x.c.2, .int .i64 x.d.1, .int .i64 x.d.2] T)) w.heap.size x := by
  constructor <;> simp [go_sem]
set_option maxRecDepth 100000 in
set_option maxHeartbeats 4000000 in
theorem wBoxes (x : Bx) (i k : Nat) (hi : i < 256) (hk : k < 256) (w : World) :
    Calls Try.prog 8 #[.agg #[.int .i64 x.a.1, .int .i64 x.a.2, .int .i64 x.b.1, .int .i64 x.b.2, .int .i64 x.c.1, .int .i64 x.c.2, .int .i64 x.d.1, .int .i64 x.d.2], .int .u8 i, .int .u8 k] w fun e w' => e = .returned (.bool true) ∧ Below w.heap.size w w' := by
  have hQ := Q4.new w x 48
  have hal : Below w.heap.size w (w.alloc (.cells #[.int .i64 x.a.1, .int .i64 x.a.2, .int .i64 x.b.1, .int .i64 x.b.2, .int .i64 x.c.1, .int .i64 x.c.2, .int .i64 x.d.1, .int .i64 x.d.2] 48)) := (Below.refl _ _).alloc (Nat.le_refl _) _
  generalize hW : w.alloc (.cells #[.int .i64 x.a.1, .int .i64 x.a.2, .int .i64 x.b.1, .int .i64 x.b.2, .int .i64 x.c.1, .int .i64 x.c.2, .int .i64 x.d.1, .int .i64 x.d.2] 48) = w0 at hQ hal
  have HW := Lib.hid hW
  clear hW
  obtain ⟨i1, hi1⟩ : ∃ i1 : Nat, (i : Int) % 4 = (i1 : Int) := ⟨i % 4, by omega⟩
  obtain ⟨k1, hk1⟩ : ∃ k1 : Nat, (k : Int) % 4 = (k1 : Int) := ⟨k % 4, by omega⟩
  have l1 : i1 < 4 := by omega
  have l2 : k1 < 4 := by omega
  obtain ⟨e0, e1⟩ := hQ.at_ l1
  obtain ⟨e2, e3⟩ := hQ.at_ l2
  have sz := hQ.sz
  have sz0 : w.heap.size < w0.heap.size + 1 := by omega
  have sz1 : w.heap.size < w0.heap.size + 1 + 1 := by omega
  go_enter Try.func8, Try.ntmps8
  go_upto_region 1 with fail
  rw [HW.out]
  go_cut [7, 8] (fun s7 s8 wx => ∃ g7 g8 : Nat, s7 = .pointer (some ⟨g7, 0, none⟩) ∧ s8 = .pointer (some ⟨g8, 0, none⟩) ∧
    (wx.cell? ⟨g7, 0, none⟩ = some (.int .i64 (x.V i1).1) ∧ wx.cell? ⟨g7, 1, none⟩ = some (.int .i64 (x.V i1).2)) ∧ (wx.cell? ⟨g8, 0, none⟩ = some (.int .i64 (x.V k1).1) ∧ wx.cell? ⟨g8, 1, none⟩ = some (.int .i64 (x.V k1).2)) ∧
    (g7 < wx.heap.size ∧ g8 < wx.heap.size) ∧ Below w0.heap.size w0 wx)
  case first =>
    go_region
    all_goals
      go_wp2_with fail
      go_meet
      refine ⟨_, _, rfl, rfl, ⟨by simp [go_sem], by simp [go_sem]⟩, ⟨by simp [go_sem], by simp [go_sem]⟩, ⟨by simp <;> omega, by simp <;> omega⟩, ?_⟩
      exact (((Below.refl _ _).alloc (Nat.le_refl _) _).alloc (by simp) _).drew
  case rest =>
    clear e0 e1 e2 e3 hi1 hk1 sz sz0 sz1 HW
    obtain ⟨g7, g8, rfl, rfl, ⟨e0, e1⟩, ⟨e2, e3⟩, ⟨z7, z8⟩, hbc⟩ := hcut
    replace hQ := hQ.below hbc hQ.sz
    replace hal := hal.trans (hbc.mono hal.size)
    clear hbc
    obtain ⟨a0, a1, b0, b1, c0, c1, d0, d1, _⟩ := id hQ
    go_wp2_with fail
    refine (lInside x (x.V i1) _).mono ?_
    rintro e w1 ⟨h1, h2, hb⟩
    clear a0 a1 b0 b1 c0 c1 d0 d1
    replace e0 := (hb.cell z7).trans e0
    replace e1 := (hb.cell z7).trans e1
    replace e2 := (hb.cell z8).trans e2
    replace e3 := (hb.cell z8).trans e3
    replace z7 := Nat.lt_of_lt_of_le z7 hb.size
    replace z8 := Nat.lt_of_lt_of_le z8 hb.size
    replace hal := hal.trans (hb.mono hal.size)
    replace hQ := hQ.below hb hQ.sz
    clear hb
    obtain ⟨a0, a1, b0, b1, c0, c1, d0, d1, _⟩ := id hQ
    by_cases hok : BoxOk x (x.V i1)
    · obtain ⟨b, hbi, rfl⟩ := h2 hok
      obtain rfl : b = true := hbi.2 (corner_in hok.2.2 i1 l1)
      have HOK := Lib.hid hok
      clear h1 h2 hbi hok
      go_wp2_with fail
      refine (rInside x (x.V i1) _).mono ?_
      rintro e w2 ⟨h1, h2, hb⟩
      obtain ⟨b, hbi, rfl⟩ := h2 HOK.out
      obtain rfl : b = true := hbi.2 (corner_in HOK.out.2.2 i1 l1)
      clear h1 h2 hbi a0 a1 b0 b1 c0 c1 d0 d1
      replace e0 := (hb.cell z7).trans e0
      replace e1 := (hb.cell z7).trans e1
      replace e2 := (hb.cell z8).trans e2
      replace e3 := (hb.cell z8).trans e3
      replace hal := hal.trans (hb.mono hal.size)
      replace hQ := hQ.below hb hQ.sz
      clear hb
      obtain ⟨a0, a1, b0, b1, c0, c1, d0, d1, _⟩ := id hQ
      have pi := HOK.out.2.1 i1 l1
      have pk := HOK.out.2.1 k1 l2
      obtain ⟨⟨u1, u2⟩, u3, u4⟩ := pi
      obtain ⟨⟨u5, u6⟩, u7, u8⟩ := pk
      by_cases m1 : ((x.V i1).1 + (x.V k1).1) % 2 = 0
      · by_cases m2 : ((x.V i1).2 + (x.V k1).2) % 2 = 0
        · have n1 : ((((x.V i1).1 + (x.V k1).1) % 2) != (0 : Int)) = false := by simp [m1]
          have n2 : ((((x.V i1).2 + (x.V k1).2) % 2) != (0 : Int)) = false := by simp [m2]
          have HM := Lib.hid (mid_in (m := (((x.V i1).1 + (x.V k1).1) / 2, ((x.V i1).2 + (x.V k1).2) / 2)) HOK.out.2.2 l1 l2 (by dsimp only; omega) (by dsimp only; omega))
          have HP : Hid (placed (((x.V i1).1 + (x.V k1).1) / 2, ((x.V i1).2 + (x.V k1).2) / 2)) := ⟨⟨by dsimp only; omega, by dsimp only; omega⟩, by dsimp only; omega, by dsimp only; omega⟩
          clear m1 m2
          go_wp2_with fail
          refine (lInside x (((x.V i1).1 + (x.V k1).1) / 2, ((x.V i1).2 + (x.V k1).2) / 2) _).mono ?_
          rintro e w3 ⟨h1, h2, hb⟩
          obtain ⟨b, hbi, rfl⟩ := h2 ⟨HP.out, HOK.out.2.1, HOK.out.2.2⟩
          obtain rfl : b = true := hbi.2 HM.out
          replace hal := hal.trans (hb.mono hal.size)
          clear h1 h2 hbi hb
          go_wp2_with fail
          refine (lfirst _).mono ?_
          rintro e w5 ⟨rfl, hb5⟩
          go_wp2
          go_ret
          exact ⟨rfl, hal.trans (hb5.mono hal.size)⟩
        · have n1 : ((((x.V i1).1 + (x.V k1).1) % 2) != (0 : Int)) = false := by simp [m1]
          have n2 : ((((x.V i1).2 + (x.V k1).2) % 2) != (0 : Int)) = true := by simp [m2]
          clear m1 m2
          go_wp2_with fail
          refine (lfirst _).mono ?_
          rintro e w5 ⟨rfl, hb5⟩
          go_wp2
          go_ret
          exact ⟨rfl, hal.trans (hb5.mono hal.size)⟩
      · have n1 : ((((x.V i1).1 + (x.V k1).1) % 2) != (0 : Int)) = true := by simp [m1]
        clear m1
        go_wp2_with fail
        refine (lfirst _).mono ?_
        rintro e w5 ⟨rfl, hb5⟩
        go_wp2
        go_ret
        exact ⟨rfl, hal.trans (hb5.mono hal.size)⟩
    · rw [h1 hok]
      have HOK := Lib.hid hok
      clear h1 h2 hok
      go_wp2_with fail
      refine (rInside x (x.V i1) _).mono ?_
      rintro e w2 ⟨h1, h2, hb⟩
      rw [h1 HOK.out]
      replace hal := hal.trans (hb.mono hal.size)
      clear h1 h2 hb
      go_wp2_with fail
      refine (lfirst _).mono ?_
      rintro e w5 ⟨rfl, hb5⟩
      go_wp2
      go_ret
      exact ⟨rfl, hal.trans (hb5.mono hal.size)⟩
namespace LawBoxes
open Go.ChangeShapes Go.WideShapes Go.ChangeAt Go.RowKit
set_option maxRecDepth 100000 in
theorem lifted (os : Os) (started : os.Started) (H : Type) (enc : TypeId × Value → H) :
    ReturnsInHanded {} Try.checked os 8 .any (Rows.lightBoxesSpec.pre6 enc Try.prog Try.f8 Rows.lightBoxesRow.domain false) (Rows.lightBoxesSpec.post enc Try.prog Try.f8 false true false false) := by
  refine returnsInHanded_of_change (C := Try.checked) own started (by kernel_rfl) Try.func8
    (ChangeSpec.witness6 (enc := enc) (C := Try.checked) false ⟨#[], #[.agg #[.int .i64 0, .int .i64 0, .int .i64 0, .int .i64 0, .int .i64 0, .int .i64 0, .int .i64 0, .int .i64 0], .int .u8 0, .int .u8 0], []⟩ 8 (by kernel_rfl) (by kernel_rfl) (by kernel_rfl) (by kernel_rfl)) ?_
  intro W base args ds gs before hval hW hcnd _
  refine law_contract rfl rfl (by simp; decide +kernel) (fun ds hds => ?_) W base args ds gs before hW fun p hA => ?_
  · match ds, hds with
    | [d1, d2, d3], _ => rfl
  · obtain ⟨v0, v1, v2, d0, d1, d2, p0, p1, p2, rfl, rfl, rfl, h0, h1, h2⟩ := trodAll_three hA
    obtain ⟨x, rfl⟩ := box_arg (hval 0 48 _ rfl rfl) h0
    obtain ⟨i', rfl, rfl, rfl, wi⟩ := open_int Try.underlying5 (hval 1 5 _ rfl rfl) h1
    obtain ⟨i, rfl⟩ := Int.eq_ofNat_of_zero_le (bounds_u8 wi).1
    obtain ⟨k', rfl, rfl, rfl, wk⟩ := open_int Try.underlying5 (hval 2 5 _ rfl rfl) h2
    obtain ⟨k, rfl⟩ := Int.eq_ofNat_of_zero_le (bounds_u8 wk).1
    exact wBoxes x i k (by have := (bounds_u8 wi).2; omega) (by have := (bounds_u8 wk).2; omega) W
theorem proved : Rows.LightBoxesSaid :=
  OpenClaim.holds_of_wide 8 Try.f8 rfl rfl rfl rfl rfl rfl rfl ⟨rfl, rfl, rfl, rfl, rfl⟩ rfl rfl rfl rfl rfl (by kernel_rfl) Try.func8 (by kernel_rfl)
    (of_decide_eq_true (by kernel_rfl)) (by unfold Func.isWrapper; rw [if_neg (of_decide_eq_false (by kernel_rfl))]; exact ⟨rfl, rfl⟩)
    (fun os started H enc _ => lifted os started H enc)
end LawBoxes
end Go.Proofs.Ytihhfelhdgmceaa
