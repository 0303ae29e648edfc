/- LightBoxes, LightAccepts: what the program's Inside answers at a box and a place. No condition. -/
import Derived.Test.YtihhfelhdgmceaaRins
import Derived.Deep.RegionLawGrows
import Derived.OwnWalk
import Derived.Deep.AppendLies
import Derived.Test.YtihhfelhdgmceaaExt
namespace Go.Proofs.Ytihhfelhdgmceaa
open Go.RowKit
theorem info47 : (Try.prog.info? 47).map (fun i => (i.zero, i.size, i.bytes)) = some (some (.agg #[.int .i64 0, .int .i64 0]), 2, 16) := by kernel_rfl
/-- The cells of a box. -/
def Bx.cells (x : Bx) : List Value := [.int .i64 x.a.1, .int .i64 x.a.2, .int .i64 x.b.1, .int .i64 x.b.2, .int .i64 x.c.1, .int .i64 x.c.2, .int .i64 x.d.1, .int .i64 x.d.2]
theorem Q8.row {W : World} {n : Nat} {x : Bx} {p : Int × Int} (h : Q8 W n x p) : ∀ b, some (⟨n, 0, none⟩ : Addr) = some b → ∀ j u, x.cells[j]? = some u → W.cell? (b.add j) = some u := by
  intro b hb j u hu
  injection hb with hb
  subst hb
  have hj : j < 8 := by have := (List.getElem?_eq_some_iff.1 hu).1; simpa [Bx.cells] using this
  rw [Go.WideShapes.add_plain, Nat.zero_add]
  obtain rfl | rfl | rfl | rfl | rfl | rfl | rfl | rfl : j = 0 ∨ j = 1 ∨ j = 2 ∨ j = 3 ∨ j = 4 ∨ j = 5 ∨ j = 6 ∨ j = 7 := by omega
  all_goals (simp only [Bx.cells, List.getElem?_cons_zero, List.getElem?_cons_succ, Option.some.injEq] at hu; subst hu)
  · exact h.a0
  · exact h.a1
  · exact h.b0
  · exact h.b1
  · exact h.c0
  · exact h.c1
  · exact h.d0
  · exact h.d1
theorem two_new {W : World} {g : Nat} {u v : Value} (h0 : W.cell? ⟨g, 0, none⟩ = some u) (h1 : W.cell? ⟨g, 1, none⟩ = some v) : ∀ j y, ([u, v] : List Value)[j]? = some y → W.cell? ((⟨g, 0, none⟩ : Addr).add j) = some y := by
  intro j y hy
  have hj : j < 2 := by have := (List.getElem?_eq_some_iff.1 hy).1; simpa using this
  rw [Go.WideShapes.add_plain, Nat.zero_add]
  obtain rfl | rfl : j = 0 ∨ j = 1 := by omega
  all_goals (simp only [List.getElem?_cons_zero, List.getElem?_cons_succ, Option.some.injEq] at hy; subst hy)
  · exact h0
  · exact h1
/-- The places that the first loop looks at. -/
def Bx.five (x : Bx) (p : Int × Int) (j : Nat) : Int × Int := if j < 4 then x.V j else p
theorem Bx.five_cells (x : Bx) (p : Int × Int) {k : Nat} (hk : k < 5) : (x.cells ++ [.int .i64 p.1, .int .i64 p.2])[k * 2]? = some (.int .i64 (x.five p k).1) ∧ (x.cells ++ [.int .i64 p.1, .int .i64 p.2])[k * 2 + 1]? = some (.int .i64 (x.five p k).2) := by
  obtain rfl | rfl | rfl | rfl | rfl : k = 0 ∨ k = 1 ∨ k = 2 ∨ k = 3 ∨ k = 4 := by omega
  all_goals exact ⟨rfl, rfl⟩
set_option maxRecDepth 100000 in
set_option maxHeartbeats 4000000 in
theorem lInside (x : Bx) (p : Int × Int) (w : World) :
    Calls Try.prog 31 #[.agg #[.int .i64 x.a.1, .int .i64 x.a.2, .int .i64 x.b.1, .int .i64 x.b.2, .int .i64 x.c.1, .int .i64 x.c.2, .int .i64 x.d.1, .int .i64 x.d.2], .agg #[.int .i64 p.1, .int .i64 p.2]] w (InsRes x p w) := by
  have hQ := Q8.new w x p 48 47
  have hal : Below w.heap.size w ((w.alloc (.cells #[.int .i64 x.a.1, .int .i64 x.a.2, .int .i64 x.b.1, .int .i64 x.b.2, .int .i64 x.c.1, .int .i64 x.c.2, .int .i64 x.d.1, .int .i64 x.d.2] 48)).alloc (.cells #[.int .i64 p.1, .int .i64 p.2] 47)) :=
    ((Below.refl _ _).alloc (Nat.le_refl _) _).alloc (by simp) _
  generalize hW : (w.alloc (.cells #[.int .i64 x.a.1, .int .i64 x.a.2, .int .i64 x.b.1, .int .i64 x.b.2, .int .i64 x.c.1, .int .i64 x.c.2, .int .i64 x.d.1, .int .i64 x.d.2] 48)).alloc (.cells #[.int .i64 p.1, .int .i64 p.2] 47) = w0 at hQ hal
  have HW := Lib.hid hW
  clear hW
  obtain ⟨i0, hi, hz0, hz1, hz2⟩ := info_parts info47
  obtain ⟨_, _, _, _, _, _, _, _, p0, p1, sz⟩ := id hQ
  have H1 := hQ.below (W' := (w0.alloc (.cells #[.int .i64 p.1, .int .i64 p.2] 47)).drew) (C := w0.heap.size) (((Below.refl _ _).alloc (Nat.le_refl _) _).drew) hQ.sz
  have HROW := Lib.hid H1.row
  go_enter Try.func31, Try.ntmps31
  go_upto_region 1 with fail
  rw [HW.out]
  go_cut [15, 16, 17] (fun s15 s16 s17 wx => ∃ g cap : Nat, s15 = .slice (some ⟨g, 0, none⟩) 5 cap ∧ s16 = .int .i64 5 ∧ s17 = .int .i64 ((0 : Nat) : Int) ∧ Hid (∀ j u, (x.cells ++ [.int .i64 p.1, .int .i64 p.2])[j]? = some u → wx.cell? ((⟨g, 0, none⟩ : Addr).add j) = some u) ∧
     g < wx.heap.size ∧ Below w0.heap.size w0 wx)
  case first =>
    go_region_law (first
      | (refine step_append_grows rfl (.tmp 12) (.tmp 14) 107 rfl 47 i0 _ 2 16 Try.underlying107 hi hz0 hz1 hz2 rfl (by decide) (some ⟨w.heap.size, 0, none⟩) 4 4 x.cells (by simp [Act.eval]) (by simp) rfl HROW.out ⟨w0.heap.size, 0, none⟩ 1 1 [.int .i64 p.1, .int .i64 p.2] (by simp [Act.eval]) rfl (two_new (by simp [go_sem]) (by simp [go_sem])) (by simp [Value.oneCell']) (by omega) (by decide) (by omega) ?_
         intro v' w' hown hgrow
         obtain ⟨g, cap, hv, hb, hlt⟩ := hown.form (by omega)
         rw [hv]))
    all_goals
      go_wp2_with fail
      go_meet
      refine ⟨g, cap, rfl, rfl, rfl, hown.cells (by rw [hv]; rfl), hlt, ?_⟩
      exact (((Below.refl _ _).alloc (Nat.le_refl _) _).drew).grown hgrow (by simp) (by simp)
  case rest =>
    obtain ⟨g, cap, rfl, rfl, rfl, hrow, hg, hbc⟩ := hcut
    replace hQ := hQ.below hbc hQ.sz
    replace hal := hal.trans (hbc.mono hal.size)
    clear p0 p1 sz hbc H1 HROW HW hi hz0 hz1 hz2
    go_wp2_with fail
    go_loopw [17] (fun i wr => ∃ k : Nat, k ≤ 5 ∧ i = .int .i64 k ∧ Hid (∀ j, j < k → placed (x.five p j)) ∧ Q8 wr w.heap.size x p ∧ Below wc.heap.size wc wr) (fun i _ => 5 - (intOf i).toNat)
    case atStart => exact ⟨0, by omega, rfl, hid_none, hQ, Below.refl _ _⟩
    case round =>
      clear hQ
      obtain ⟨k, hk, rfl, ha, hQ, hb0⟩ := hrel
      replace hal := hal.trans (hb0.mono hal.size)
      by_cases hlt : k < 5
      · obtain ⟨f0, f1⟩ := x.five_cells p hlt
        have e0 := hrow.out _ _ f0
        have e1 := hrow.out _ _ f1
        rw [Go.WideShapes.add_plain, Nat.zero_add] at e0 e1
        have E0 : wr.cell? ⟨g, k * 2, none⟩ = some (.int .i64 (x.five p k).1) := (hb0.cell (p := ⟨g, k * 2, none⟩) hg).trans e0
        have E1 : wr.cell? ⟨g, k * 2 + 1, none⟩ = some (.int .i64 (x.five p k).2) := (hb0.cell (p := ⟨g, k * 2 + 1, none⟩) hg).trans e1
        clear f0 f1 e0 e1
        by_cases g1 : 0 ≤ (x.five p k).1 ∧ (x.five p k).1 ≤ 10000
        · have i1 := inB_t g1.1 g1.2
          by_cases g2 : 0 ≤ (x.five p k).2 ∧ (x.five p k).2 ≤ 10000
          · have i2 := inB_t g2.1 g2.2
            have HP : Hid (placed (x.five p k)) := ⟨g1, g2⟩
            go_wp2_with (go_at_call 58; refine (lwithin _ _ _ _).mono ?_; rintro e w' ⟨rfl, rfl⟩)
            exact ⟨⟨k + 1, by omega, by go_num, hid_more ha HP.out, hQ.below ((Below.refl _ _).alloc (Nat.le_refl _) _) hQ.sz, hb0.alloc hb0.size _⟩, by simp [intOf]; omega⟩
          · have i2 := inB_f g2
            have HN : Hid (¬ BoxOk x p) := fun h => g2 (by
              by_cases h4 : k < 4
              · have := (h.2.1 k h4).2; simpa [Bx.five, h4] using this
              · have := h.1.2; simpa [Bx.five, h4] using this)
            go_wp2_with (go_at_call 58; refine (lwithin _ _ _ _).mono ?_; rintro e w' ⟨rfl, rfl⟩)
            go_ret2
            exact ⟨fun _ => rfl, fun h => absurd h HN.out, hal.alloc hal.size _⟩
        · have i1 := inB_f g1
          have HN : Hid (¬ BoxOk x p) := fun h => g1 (by
            by_cases h4 : k < 4
            · have := (h.2.1 k h4).1; simpa [Bx.five, h4] using this
            · have := h.1.1; simpa [Bx.five, h4] using this)
          go_wp2_with (go_at_call 58; refine (lwithin _ _ _ _).mono ?_; rintro e w' ⟨rfl, rfl⟩)
          go_ret2
          exact ⟨fun _ => rfl, fun h => absurd h HN.out, hal.alloc hal.size _⟩
      · have hp : placed p := by have := ha.out 4 (by omega); simpa [Bx.five] using this
        have HPL : Hid (∀ j, j < 4 → placed (x.V j)) := fun j hj => by have := ha.out j (by omega); simpa [Bx.five, hj] using this
        obtain ⟨k0, rfl⟩ : ∃ k0, k0 = k := ⟨_, rfl⟩
        clear ha hrow
        go_wp2_with fail
        go_loopw [8, 32] (fun iv i wr => ∃ (k : Nat) (bb : Bool), k ≤ 4 ∧ i = .int .i64 k ∧ iv = .bool bb ∧ Hid (bb = true ↔ ∀ j, j < k → inn x p j) ∧ Hid (∀ j, j < k → cvx x j) ∧ Q8 wr w.heap.size x p ∧ Below w.heap.size w wr) (fun _ i _ => 4 - (intOf i).toNat)
        case atStart => exact ⟨0, true, by omega, rfl, rfl, ⟨fun _ j hj => absurd hj (by omega), fun _ => rfl⟩, hid_none, hQ, hal⟩
        case round =>
          clear hQ hal hb0
          obtain ⟨k, bb, hk, rfl, rfl, hin, ha, hQ, hal⟩ := hrel
          obtain ⟨_, _, _, _, _, _, _, _, p0, p1, sz⟩ := id hQ
          have sz0 : w.heap.size < wr.heap.size := by omega
          have sz1 : w.heap.size < wr.heap.size + 1 := by omega
          have sz2 : w.heap.size < wr.heap.size + 1 + 1 := by omega
          by_cases hlt : k < 4
          · obtain ⟨k1, hk1⟩ : ∃ k1 : Nat, ((k : Int) + 1) % 4 = (k1 : Int) := ⟨(k + 1) % 4, by omega⟩
            obtain ⟨k2, hk2⟩ : ∃ k2 : Nat, ((k : Int) + 2) % 4 = (k2 : Int) := ⟨(k + 2) % 4, by omega⟩
            have l1 : k1 < 4 := by omega
            have l2 : k2 < 4 := by omega
            have V1 := Lib.hid (V_mod (x := x) (i := k + 1) (j := k1) (by omega))
            have V2 := Lib.hid (V_mod (x := x) (i := k + 2) (j := k2) (by omega))
            obtain ⟨e0, e1⟩ := hQ.at_ hlt
            obtain ⟨e2, e3⟩ := hQ.at_ l1
            go_upto_region 11 with fail
            go_cut [9, 10, 11] (fun s9 s10 s11 wx => ∃ g10 g11 : Nat, s9 = .int .i64 k ∧ s10 = .pointer (some ⟨g10, 0, none⟩) ∧ s11 = .pointer (some ⟨g11, 0, none⟩) ∧
              (wx.cell? ⟨g10, 0, none⟩ = some (.int .i64 (x.V k).1) ∧ wx.cell? ⟨g10, 1, none⟩ = some (.int .i64 (x.V k).2)) ∧ (wx.cell? ⟨g11, 0, none⟩ = some (.int .i64 (x.V k1).1) ∧ wx.cell? ⟨g11, 1, none⟩ = some (.int .i64 (x.V k1).2)) ∧
              (g10 < wx.heap.size ∧ g11 < wx.heap.size) ∧ Below wr.heap.size wr wx)
            case first =>
              go_region
              all_goals
                go_wp2_with fail
                go_meet
                refine ⟨_, _, rfl, rfl, rfl, ⟨by simp [go_sem], by simp [go_sem]⟩, ⟨by simp [go_sem], by simp [go_sem]⟩, ⟨by simp <;> omega, by simp <;> omega⟩, ?_⟩
                exact (((Below.refl _ _).alloc (Nat.le_refl _) _).alloc (by simp) _).drew
            case rest =>
              clear e0 e1 e2 e3 hk1 sz0 sz1 sz2
              obtain ⟨g10, g11, rfl, rfl, rfl, ⟨e0, e1⟩, ⟨e2, e3⟩, ⟨z10, z11⟩, hbc⟩ := hcut
              have pk := HPL.out k hlt
              have pk1 := HPL.out k1 l1
              have pk2 := HPL.out k2 l2
              replace hQ := hQ.below hbc hQ.sz
              replace hal := hal.trans (hbc.mono hal.size)
              clear p0 p1 sz hbc
              have CV : Hid (cvx x k ↔ 0 < turnF (x.V k) (x.V k1) (x.V k2)) := by unfold cvx; rw [V1.out, V2.out]; exact Iff.rfl
              have IN : Hid (inn x p k ↔ 0 ≤ turnF (x.V k) (x.V k1) p) := by unfold inn; rw [V1.out]; exact Iff.rfl
              have hnw : w.heap.size < wc.heap.size := by have := hQ.sz; omega
              obtain ⟨f4, f5⟩ := hQ.at_ l2
              have y0 := fun y => ext_cell z10 e0 y
              have y1 := fun y => ext_cell z10 e1 y
              have y2 := fun y => ext_cell z11 e2 y
              have y3 := fun y => ext_cell z11 e3 y
              have y4 := fun y => ext_cell hnw f4 y
              have y5 := fun y => ext_cell hnw f5 y
              clear f4 f5
              go_wp2_with fail
              refine wp_region_ext wc.heap.size (by kernel_rfl) (by kernel_rfl) ?_
              repeat (first | go_big_quiet_step ((go_at_call 62; exact ext_call (Nat.le_refl _) (lturn _ _ _ _ pk pk1 pk2))) | quiet_step ((go_at_call 62; exact ext_call (Nat.le_refl _) (lturn _ _ _ _ pk pk1 pk2))))
              refine wpQuiet_nil ?_
              intro w2 hw2
              have hb : Below wc.heap.size wc w2 := by obtain ⟨y, rfl⟩ := hw2; exact ext_below _ _ _
              clear hw2 y0 y1 y2 y3 y4 y5 hk2
              replace e0 := (hb.cell z10).trans e0
              replace e1 := (hb.cell z10).trans e1
              replace e2 := (hb.cell z11).trans e2
              replace e3 := (hb.cell z11).trans e3
              replace hal := hal.trans (hb.mono hal.size)
              replace hQ := hQ.below hb hQ.sz
              obtain ⟨_, _, _, _, _, _, _, _, p0, p1, sz⟩ := id hQ
              clear hb
              by_cases g1 : 0 < turnF (x.V k) (x.V k1) (x.V k2)
              · cases bb with
                | true =>
                  go_wp2_with fail
                  refine (lturn _ _ _ _ pk pk1 hp).mono ?_
                  rintro e w3 ⟨rfl, hb⟩
                  by_cases g2 : 0 ≤ turnF (x.V k) (x.V k1) p
                  · go_wp2
                    go_roundw
                    case rel => exact ⟨k + 1, true, by omega, by go_num, rfl, ⟨fun _ => hid_more (fun j hj => hin.out.1 (by simp) j hj) (IN.out.2 g2), fun _ => rfl⟩, hid_more ha (CV.out.2 g1), hQ.below hb hQ.sz, hal.trans (hb.mono hal.size)⟩
                    case measure => simp [intOf]; omega
                  · go_wp2
                    go_roundw
                    case rel => exact ⟨k + 1, false, by omega, by go_num, by simp; omega, ⟨fun h => (by cases h), fun h => absurd (IN.out.1 (h k (by omega))) (by omega)⟩, hid_more ha (CV.out.2 g1), hQ.below hb hQ.sz, hal.trans (hb.mono hal.size)⟩
                    case measure => simp [intOf]; omega
                | false =>
                  go_wp2
                  go_roundw
                  case rel => exact ⟨k + 1, false, by omega, by go_num, rfl, ⟨fun h => (by cases h), fun h => hin.out.2 fun j hj => h j (by omega)⟩, hid_more ha (CV.out.2 g1), hQ, hal⟩
                  case measure => simp [intOf]; omega
              · go_wp2
                go_ret2
                exact ⟨fun _ => rfl, fun h => absurd (CV.out.1 (h.2.2 k hlt)) (by omega), hal⟩
          · obtain rfl : k = 4 := by omega
            go_wp2
            go_ret2
            exact ⟨fun h => absurd ⟨hp, fun j hj => HPL.out j hj, fun j hj => ha.out j hj⟩ h, fun _ => ⟨bb, hin.out, rfl⟩, hal⟩
end Go.Proofs.Ytihhfelhdgmceaa
