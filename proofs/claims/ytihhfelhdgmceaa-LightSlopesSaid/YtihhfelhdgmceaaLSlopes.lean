/- Statement LightSlopes: for every table and any two pairs of slopes the law returns true: a coefficient never grows with a slope, and at the slopes of a table it is the table's. No condition. -/
import Derived.Test.YtihhfelhdgmceaaMono
import Derived.Test.YtihhfelhdgmceaaFirst
import Derived.Test.YtihhfelhdgmceaaLong
import Derived.Test.YtihhfelhdgmceaaFrame2
namespace Go.Proofs.Ytihhfelhdgmceaa
open Go.RowKit
structure U2 (w : World) (b : Nat) (x y : Nat) : Prop where
  q0 : w.cell? ⟨b, 0, none⟩ = some (.int .u32 x)
  q1 : w.cell? ⟨b, 1, none⟩ = some (.int .u32 y)
  sz : b < w.heap.size
theorem U2.below {W W' : World} {b C x y : Nat} (h : U2 W b x y) (hb : Below C W W') (hC : b < C) : U2 W' b x y :=
  ⟨(hb.cell hC).trans h.q0, (hb.cell hC).trans h.q1, Nat.lt_of_lt_of_le h.sz hb.size⟩
theorem U2.new (w : World) (x y : Nat) (t : TypeId) : U2 (w.alloc (.cells #[.int .u32 x, .int .u32 y] t)) w.heap.size x y :=
  ⟨by simp [go_sem], by simp [go_sem], by simp⟩
theorem lCoef_grid (A0 A1 A2 : Option Addr) (c0 c1 c2 B : Nat) (t : Tb) (i k : Nat) (w : World) (h : Tab w B A0 A1 A2 t) (hB : B ≤ w.heap.size) (hn : Small t) (ht : TabOk t) (hi : i < t.obs.length) (hk : k < t.ent.length) :
    Calls Try.prog 21 #[.agg #[.slice A0 t.obs.length c0, .slice A1 t.ent.length c1, .slice A2 t.r.length c2], .int .i64 (at0 t.obs i), .int .i64 (at0 t.ent k)] w fun x w' => x = .returned (.tuple #[.int .i64 (at0 (at1 t.r i) k), .int .i64 0]) ∧ Below w.heap.size w w' := by
  refine (lCoefficient _ _ _ _ _ _ B _ _ _ _ h hB hn).mono ?_
  rintro x w2 ⟨_, _, g3, hb⟩
  have h1 := (ht.1.2.2 i hi).1
  have h2 := (ht.2.1.2.2 k hk).1
  refine ⟨(g3 ht (by omega)).trans ?_, hb⟩
  rw [coefF_grid ht hi hk]
  rfl
set_option maxHeartbeats 2000000 in
theorem wSlopes (A0 A1 A2 : Option Addr) (c0 c1 c2 : Nat) (t : Tb) (x0 x1 y0 y1 : Nat) (hx0 : x0 < 4294967296) (hx1 : x1 < 4294967296) (hy0 : y0 < 4294967296) (hy1 : y1 < 4294967296) (w : World) (h : Tab w w.heap.size A0 A1 A2 t) (hf : Fits t) :
    Calls Try.prog 5 #[.agg #[.slice A0 t.obs.length c0, .slice A1 t.ent.length c1, .slice A2 t.r.length c2], .agg #[.int .u32 x0, .int .u32 x1], .agg #[.int .u32 y0, .int .u32 y1]] w fun x w' => x = .returned (.bool true) ∧ Below w.heap.size w w' := by
  obtain ⟨n0, n1, n2, n3⟩ := hf
  have hT := Boxed.new (c0 := c0) (c1 := c1) (c2 := c2) h (Nat.le_refl _)
  have hal := boxed_world (w := w) (v := #[.slice A0 t.obs.length c0, .slice A1 t.ent.length c1, .slice A2 t.r.length c2])
  generalize hW : w.alloc (.cells #[.slice A0 t.obs.length c0, .slice A1 t.ent.length c1, .slice A2 t.r.length c2] 25) = w0 at hT hal
  have hz : w0.heap.size = w.heap.size + 1 := by rw [← hW]; simp
  have HW := Lib.hid hW
  have hX := U2.new w0 x0 x1 37
  have hb1 : Below w0.heap.size w0 (w0.alloc (.cells #[.int .u32 x0, .int .u32 x1] 37)) := (Below.refl _ _).alloc (Nat.le_refl _) _
  generalize hW1 : w0.alloc (.cells #[.int .u32 x0, .int .u32 x1] 37) = w1 at hX hb1
  have HW1 := Lib.hid hW1
  replace hT := hT.below hb1 hT.sz
  replace hal := hal.trans (hb1.mono (by omega))
  rw [hz] at hX
  have hz1 : w1.heap.size = w.heap.size + 2 := by rw [← hW1]; simp [hz]
  have hY := U2.new w1 y0 y1 37
  have hb2 : Below w1.heap.size w1 (w1.alloc (.cells #[.int .u32 y0, .int .u32 y1] 37)) := (Below.refl _ _).alloc (Nat.le_refl _) _
  generalize hW2 : w1.alloc (.cells #[.int .u32 y0, .int .u32 y1] 37) = w2 at hY hb2
  have HW2 := Lib.hid hW2
  replace hT := hT.below hb2 hT.sz
  replace hX := hX.below hb2 hX.sz
  replace hal := hal.trans (hb2.mono (by omega))
  rw [hz1] at hY
  clear h hW hb1 hz hW1 hb2 hz1 hW2
  obtain ⟨q0, q1, q2⟩ := And.intro hT.q0 (And.intro hT.q1 hT.q2)
  obtain ⟨v0, v1, _⟩ := id hX
  obtain ⟨u0, u1, _⟩ := id hY
  go_enter Try.func5, Try.ntmps5
  go_wp2_with fail
  rw [HW.out, HW1.out, HW2.out]
  refine (llong _ _ _ _ _ _ w.heap.size _ _ hT.tab (Nat.le_of_lt hT.sz) n0 n1 n2 n3).mono ?_
  have N0 := Lib.hid n0
  have N1 := Lib.hid n1
  clear n0 n1 n2 n3 HW HW1 HW2
  rintro x w3 ⟨b, rfl, hbs, hb⟩
  have HB := Lib.hid hbs
  clear hbs
  replace hal := hal.trans (hb.mono hal.size)
  replace hT := hT.below hb hT.sz
  replace hX := hX.below hb hX.sz
  replace hY := hY.below hb hY.sz
  clear v0 v1 u0 u1 q0 q1 q2 hb
  obtain ⟨q0, q1, q2⟩ := And.intro hT.q0 (And.intro hT.q1 hT.q2)
  cases b with
  | true =>
    go_wp2_with fail
    refine (lfirst _).mono ?_
    rintro x w9 ⟨rfl, hb⟩
    go_wp2
    go_ret
    exact ⟨rfl, hal.trans (hb.mono hal.size)⟩
  | false =>
    have hn := HB.out.1 rfl
    go_wp2_with fail
    refine (rValidTable _ _ _ _ _ _ w.heap.size _ _ hT.tab (Nat.le_of_lt hT.sz) hn).mono ?_
    rintro x w4 ⟨rfl, hb⟩
    replace hal := hal.trans (hb.mono hal.size)
    replace hT := hT.below hb hT.sz
    replace hX := hX.below hb hX.sz
    replace hY := hY.below hb hY.sz
    clear q0 q1 q2 hb
    obtain ⟨q0, q1, q2⟩ := And.intro hT.q0 (And.intro hT.q1 hT.q2)
    obtain ⟨v0, v1, _⟩ := id hX
    obtain ⟨u0, u1, _⟩ := id hY
    by_cases ht : TabOk t
    · rw [tabB_t ht]
      go_wp2_with fail
      refine (lCoefficient _ _ _ _ _ _ w.heap.size _ _ _ _ hT.tab (Nat.le_of_lt hT.sz) hn).mono ?_
      rintro x w5 ⟨g1, g2, g3, hb⟩
      rw [g3 ht (by omega)]
      clear g1 g2 g3
      simp only [pair]
      replace hal := hal.trans (hb.mono hal.size)
      replace hT := hT.below hb hT.sz
      replace hX := hX.below hb hX.sz
      replace hY := hY.below hb hY.sz
      clear v0 v1 u0 u1 q0 q1 q2 hb
      obtain ⟨q0, q1, q2⟩ := And.intro hT.q0 (And.intro hT.q1 hT.q2)
      obtain ⟨v0, v1, _⟩ := id hX
      obtain ⟨u0, u1, _⟩ := id hY
      go_wp2_with fail
      refine (lCoefficient _ _ _ _ _ _ w.heap.size _ _ _ _ hT.tab (Nat.le_of_lt hT.sz) hn).mono ?_
      rintro x w6 ⟨g1, g2, g3, hb⟩
      rw [g3 ht (by omega)]
      clear g1 g2 g3
      simp only [pair]
      replace hal := hal.trans (hb.mono hal.size)
      replace hT := hT.below hb hT.sz
      clear v0 v1 u0 u1 q0 q1 q2 hb hX hY
      obtain ⟨q0, q1, q2⟩ := And.intro hT.q0 (And.intro hT.q1 hT.q2)
      have m1 := coefF_mono ht (o := x0) (o' := (x0 : Int) + x1) (e := y0) (e' := (y0 : Int) + y1) (by omega) (by omega)
      have m2 := coefF_le ht x0 y0
      obtain ⟨m3, m4⟩ := coefF_bd ht ((x0 : Int) + x1) ((y0 : Int) + y1)
      obtain ⟨m5, m6⟩ := coefF_bd ht x0 y0
      have l0 := ht.1.1
      have l1 := ht.2.1.1
      have l2 := ht.2.2.1
      obtain ⟨b2, o2, rfl, hb2, hrows⟩ := hT.tab.r.form (by omega)
      have HR := Lib.hid hrows
      obtain ⟨Az, Cz, hz1, hz2⟩ := hrows 0 (by omega)
      have lz := (ht.2.2.2 0 (by omega)).1
      obtain ⟨bz, oz, rfl, hbz, hcz⟩ := hz2.at_ (k := 0) (by omega)
      have hcz0 := hcz 0 (by omega)
      have lz0 : 0 < (at1 t.r 0).length := by omega
      have lr0 : 0 < t.r.length := by omega
      unfold cf at m2
      simp only [Nat.add_zero] at hz1 hcz0
      clear hcz hz2 hrows lz
      have L2 := Lib.hid l2
      clear l2
      obtain ⟨wo, hwo⟩ : ∃ wo : World, wo = w6 := ⟨_, rfl⟩
      subst hwo
      rename World => wo

      go_wp2
      clear m1 m2 m3 m4 m5 m6 hcz0 hz1 lz0 hbz
      obtain ⟨bo, oo, rfl, hbo, hco⟩ := hT.tab.o.at_ (k := 0) (by omega)
      have HO := Lib.hid hco
      obtain ⟨be, oe, rfl, hbe, hce⟩ := hT.tab.e.at_ (k := 0) (by omega)
      have HE := Lib.hid hce
      clear hco hce
      have hsz := hal.size
      have HTO := Lib.hid ht
      have HNN := Lib.hid hn
      have l40 : t.ent.length ≤ 40 := hn.2.1
      have l41 : t.obs.length ≤ 40 := hn.1
      clear ht hn hx0 hx1 hy0 hy1
      go_loopw [11] (fun i wr => ∃ k : Nat, k ≤ t.obs.length ∧ i = .int .i64 k ∧ Below wo.heap.size wo wr) (fun i _ => t.obs.length - (intOf i).toNat)
      case atStart => exact ⟨0, Nat.zero_le _, rfl, Below.refl _ _⟩
      case round =>
        obtain ⟨k, hk, rfl, hdr⟩ := hrel
        obtain ⟨wk, rfl⟩ : ∃ wk : World, wk = wr := ⟨_, rfl⟩
        have hTk := hT.below hdr hT.sz
        obtain ⟨r0, r1, r2⟩ := And.intro hTk.q0 (And.intro hTk.q1 hTk.q2)
        by_cases hlt : k < t.obs.length
        · have hkr : k < t.r.length := by have := L2.out; omega
          have hko := hlt
          go_wp2
          go_loopw [12] (fun i wr => ∃ j : Nat, j ≤ t.ent.length ∧ i = .int .i64 j ∧ Below wo.heap.size wo wr) (fun i _ => t.ent.length - (intOf i).toNat)
          case atStart => exact ⟨0, Nat.zero_le _, rfl, hdr⟩
          case round =>
            obtain ⟨j, hj, rfl, hdj⟩ := hrel
            have hTj := hT.below hdj hT.sz
            clear r0 r1 r2
            obtain ⟨r0, r1, r2⟩ := And.intro hTj.q0 (And.intro hTj.q1 hTj.q2)
            by_cases hjl : j < t.ent.length
            · have hsj := hdj.size
              obtain ⟨Ak, Ck, hck2, hik2⟩ := HR.out k hkr
              have hlr := (HTO.out.2.2.2 k hkr).1
              have HLR := Lib.hid hlr
              clear hlr
              obtain ⟨bk, ok, rfl, hbk, hck⟩ := hik2.at_ (k := j) (by have := HLR.out; omega)
              have hckj := hck j (by have := HLR.out; omega)
              clear hck hik2
              replace hckj := (hdj.cell (p := ⟨bk, ok + j, none⟩) (by simp only; omega)).trans hckj
              replace hck2 := (hdj.cell (p := ⟨b2, o2 + k, none⟩) (by simp only; omega)).trans hck2
              have hok := (hdj.cell (p := ⟨bo, oo + k, none⟩) (by simp only; omega)).trans (HO.out k hko)
              have hej := (hdj.cell (p := ⟨be, oe + j, none⟩) (by simp only; omega)).trans (HE.out j hjl)
              have HT := Lib.hid fun x => hTj.below (ext_below wr.heap.size wr x) hTj.sz
              have HZ : Hid (∀ x, w.heap.size ≤ (ext wr.heap.size wr x).heap.size) := fun x => Nat.le_trans (Nat.le_of_lt hTj.sz) (ext_size _ _ x)
              have e0 := fun x => ext_cell hTj.sz r0 x
              have e1 := fun x => ext_cell hTj.sz r1 x
              have e2 := fun x => ext_cell hTj.sz r2 x
              have e3 := fun x => ext_cell (B := wr.heap.size) (by omega) hok x
              have e4 := fun x => ext_cell (B := wr.heap.size) (by omega) hej x
              go_wp2_with fail
              refine wp_region_ext wr.heap.size (by kernel_rfl) (by kernel_rfl) ?_
              repeat (go_big_quiet_step (first
                | (go_at_call 21; exact ext_call (Nat.le_refl _) (lCoef_grid _ _ _ _ _ _ w.heap.size _ _ _ _ (HT.out _).tab (HZ.out _) HNN.out HTO.out hko hjl))))
              refine wpQuiet_nil ?_
              intro w7 hw7
              have hb : Below wr.heap.size wr w7 := by obtain ⟨y, rfl⟩ := hw7; exact ext_below _ _ _
              clear hw7 e0 e1 e2 e3 e4 HT HZ r0 r1 r2 hok hej
              replace hckj := (hb.cell (p := ⟨bk, ok + j, none⟩) (by simp only; omega)).trans hckj
              replace hck2 := (hb.cell (p := ⟨b2, o2 + k, none⟩) (by simp only; omega)).trans hck2
              have r2 := (hTj.below hb hTj.sz).q2
              replace hdj := hdj.trans (hb.mono hsj)
              have hjr : j < (at1 t.r k).length := by have := HLR.out; omega
              clear hb hTj
              go_wp2
              exact ⟨⟨j + 1, by omega, by go_num, hdj⟩, by simp [intOf]; omega⟩
            · go_wp2
              exact ⟨⟨k + 1, by omega, by go_num, hdj⟩, by simp [intOf]; omega⟩
        · go_wp2_with fail
          refine (lfirst _).mono ?_
          rintro x w9 ⟨rfl, hb⟩
          go_wp2
          go_ret
          exact ⟨rfl, (hal.trans (hdr.mono hal.size)).trans (hb.mono (hal.trans (hdr.mono hal.size)).size)⟩
    · rw [tabB_f ht]
      go_wp2_with fail
      refine (lfirst _).mono ?_
      rintro x w9 ⟨rfl, hb⟩
      go_wp2
      go_ret
      exact ⟨rfl, hal.trans (hb.mono hal.size)⟩
namespace LawSlopes
open Go.ChangeShapes Go.WideShapes Go.ChangeAt Go.RowKit
set_option maxRecDepth 100000 in
theorem lifted (os : Os) (started : os.Started) (H : Type) (enc : TypeId × Value → H) :
    ReturnsInHanded {} Try.checked os 5 .any (Rows.lightSlopesSpec.pre6 enc Try.prog Try.f5 Rows.lightSlopesRow.domain false) (Rows.lightSlopesSpec.post enc Try.prog Try.f5 false true false false) := by
  refine returnsInHanded_of_change (C := Try.checked) own started (by kernel_rfl) Try.func5
    (ChangeSpec.witness6 (enc := enc) (C := Try.checked) false ⟨#[], #[.agg #[.slice none 0 0, .slice none 0 0, .slice none 0 0], .agg #[.int .u32 0, .int .u32 0], .agg #[.int .u32 0, .int .u32 0]], []⟩ 8 (by kernel_rfl) (by kernel_rfl) (by kernel_rfl) (by kernel_rfl)) ?_
  intro W base args ds gs before hval hW hcnd _
  refine law_contract rfl rfl (by simp; decide +kernel) (fun ds hds => ?_) W base args ds gs before hW fun p hA => ?_
  · match ds, hds with
    | [d1, d2, d3], _ => rfl
  · obtain ⟨v0, v1, v2, d0, d1, d2, p0, p1, p2, rfl, rfl, rfl, h0, h1, h2⟩ := trodAll_three hA
    obtain ⟨A0, A1, A2, c0, c1, c2, t, rfl, hT, hf⟩ := table_arg (hval 0 25 _ rfl rfl) h0
    obtain ⟨a, b, rfl, ha, hb⟩ := u32s (hval 1 37 _ rfl rfl) h1
    obtain ⟨c, d, rfl, hc, hd⟩ := u32s (hval 2 37 _ rfl rfl) h2
    exact wSlopes _ _ _ _ _ _ t a b c d ha hb hc hd W hT hf
theorem proved : Rows.LightSlopesSaid :=
  OpenClaim.holds_of_wide 5 Try.f5 rfl rfl rfl rfl rfl rfl rfl ⟨rfl, rfl, rfl, rfl, rfl⟩ rfl rfl rfl rfl rfl (by kernel_rfl) Try.func5 (by kernel_rfl)
    (of_decide_eq_true (by kernel_rfl)) (by unfold Func.isWrapper; rw [if_neg (of_decide_eq_false (by kernel_rfl))]; exact ⟨rfl, rfl⟩)
    (fun os started H enc _ => lifted os started H enc)
end LawSlopes
end Go.Proofs.Ytihhfelhdgmceaa
