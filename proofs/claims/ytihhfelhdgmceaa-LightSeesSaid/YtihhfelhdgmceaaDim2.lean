/- Contract of the program's Dimmed. -/
import Derived.Test.YtihhfelhdgmceaaDim1
namespace Go.Proofs.Ytihhfelhdgmceaa
open Go.RowKit
/-- An empty table's box. -/
structure NilBox (w : World) (nb : Nat) : Prop where
  n0 : w.cell? ⟨nb, 0, none⟩ = some (.slice none 0 0)
  n1 : w.cell? ⟨nb, 1, none⟩ = some (.slice none 0 0)
  n2 : w.cell? ⟨nb, 2, none⟩ = some (.slice none 0 0)
  z0 : w.frozen? ⟨nb, 0, none⟩ = false
  z1 : w.frozen? ⟨nb, 1, none⟩ = false
  z2 : w.frozen? ⟨nb, 2, none⟩ = false
  sz : nb < w.heap.size
theorem NilBox.new (Y : World) : NilBox (Y.alloc (.cells #[.slice none 0 0, .slice none 0 0, .slice none 0 0] 25)) Y.heap.size := ⟨by simp [go_sem], by simp [go_sem], by simp [go_sem], by simp [go_sem], by simp [go_sem], by simp [go_sem], by simp⟩
theorem NilBox.newd (Y : World) : NilBox (Y.alloc (.cells #[.slice none 0 0, .slice none 0 0, .slice none 0 0] 25)).drew Y.heap.size := ⟨(NilBox.new Y).n0, (NilBox.new Y).n1, (NilBox.new Y).n2, (NilBox.new Y).z0, (NilBox.new Y).z1, (NilBox.new Y).z2, (NilBox.new Y).sz⟩
theorem NilBox.below {w w' : World} {nb : Nat} (h : NilBox w nb) (hb : Below w.heap.size w w') : NilBox w' nb :=
  ⟨(hb.cell h.sz).trans h.n0, (hb.cell h.sz).trans h.n1, (hb.cell h.sz).trans h.n2, (hb.frozen h.sz).trans h.z0, (hb.frozen h.sz).trans h.z1, (hb.frozen h.sz).trans h.z2, Nat.lt_of_lt_of_le h.sz hb.size⟩
theorem fin_set {w2 X : World} {lw nb : Nat} {A0 A1 : Option Addr} {c0 c1 : Nat} {xs0 xs1 : List Int} (hN : NilBox X nb) (ho : IntsB X lw X.heap.size nb A0 xs0) (he : IntsB X lw X.heap.size nb A1 xs1) (h2 : Below w2.heap.size w2 X) (hnb : w2.heap.size ≤ nb) :
    ∃ (nb' bs : Nat) (A0' A1' : Option Addr) (c0' c1' : Nat), Value.pointer (some ⟨nb, 0, none⟩) = Value.pointer (some ⟨nb', 0, none⟩) ∧ Built (((X.setCell ⟨nb, 0, none⟩ (.slice A0 xs0.length c0)).setCell ⟨nb, 1, none⟩ (.slice A1 xs1.length c1)).setCell ⟨nb, 2, none⟩ (.slice none 0 0)) lw bs nb' A0' A1' c0' c1' xs0 xs1 (.slice none 0 0) [] [] ∧
      Below w2.heap.size w2 (((X.setCell ⟨nb, 0, none⟩ (.slice A0 xs0.length c0)).setCell ⟨nb, 1, none⟩ (.slice A1 xs1.length c1)).setCell ⟨nb, 2, none⟩ (.slice none 0 0)) ∧ w2.heap.size ≤ nb' := by
  obtain ⟨h0, h1, h3⟩ := set3 (w := X) (n := nb) (a := .slice A0 xs0.length c0) (b := .slice A1 xs1.length c1) (c := .slice none 0 0) hN.n0 hN.n1 hN.n2
  have hk : ∀ {A ys}, IntsB X lw X.heap.size nb A ys → IntsB (((X.setCell ⟨nb, 0, none⟩ (.slice A0 xs0.length c0)).setCell ⟨nb, 1, none⟩ (.slice A1 xs1.length c1)).setCell ⟨nb, 2, none⟩ (.slice none 0 0)) lw X.heap.size nb A ys :=
    fun h => h.keep fun b i _ hn => by
      rw [World.cell?_setCell_other _ _ _ _ (by intro e; injection e with e; omega), World.cell?_setCell_other _ _ _ _ (by intro e; injection e with e; omega), World.cell?_setCell_other _ _ _ _ (by intro e; injection e with e; omega)]
  have hz := hN.z2
  exact ⟨nb, X.heap.size, A0, A1, c0, c1, rfl, ⟨h0, h1, h3, by simpa [go_sem] using hz, hN.sz, by simp, World.ownsRow_nil _ _ _ _, RowsAt.nil _ _ _, hk ho, hk he⟩, ((h2.setCell hnb _).setCell hnb _).setCell hnb _, hnb⟩
theorem fin_last {w2 wo we : World} {lw lo lo' : Nat} (hl : lw ≤ lo) (hl' : lw ≤ lo') {own own' : Option Nat} {A0 A1 : Option Addr} {c0 c1 : Nat} {xs0 xs1 : List Int} (ho : IntsN wo lo own A0 xs0) (hb : Below wo.heap.size wo we) (he : IntsN we lo' own' A1 xs1) (h2 : Below w2.heap.size w2 we) :
    ∃ (nb' bs : Nat) (A0' A1' : Option Addr) (c0' c1' : Nat), Value.pointer (some ⟨we.heap.size, 0, none⟩) = Value.pointer (some ⟨nb', 0, none⟩) ∧ Built (we.alloc (.cells #[.slice A0 xs0.length c0, .slice A1 xs1.length c1, .slice none 0 0] 25)) lw bs nb' A0' A1' c0' c1' xs0 xs1 (.slice none 0 0) [] [] ∧
      Below w2.heap.size w2 (we.alloc (.cells #[.slice A0 xs0.length c0, .slice A1 xs1.length c1, .slice none 0 0] 25)) ∧ w2.heap.size ≤ nb' :=
  ⟨_, _, A0, A1, c0, c1, rfl, Built.new (IntsB.of ho hb (.inr hb.size) hb.size hl) (IntsB.of he (Below.refl _ _) (.inr (Nat.le_refl _)) (Nat.le_refl _) hl'), h2.alloc h2.size _, h2.size⟩
theorem fin_last' {w2 wo we : World} {lw lo lo' : Nat} (hl : lw ≤ lo) (hl' : lw ≤ lo') {own own' : Option Nat} {A0 A1 : Option Addr} {c0 c1 : Nat} {xs0 xs1 : List Int} (he : IntsN we lo' own' A1 xs1) (hb : Below we.heap.size we wo) (ho : IntsN wo lo own A0 xs0) (h2 : Below w2.heap.size w2 wo) :
    ∃ (nb' bs : Nat) (A0' A1' : Option Addr) (c0' c1' : Nat), Value.pointer (some ⟨wo.heap.size, 0, none⟩) = Value.pointer (some ⟨nb', 0, none⟩) ∧ Built (wo.alloc (.cells #[.slice A0 xs0.length c0, .slice A1 xs1.length c1, .slice none 0 0] 25)) lw bs nb' A0' A1' c0' c1' xs0 xs1 (.slice none 0 0) [] [] ∧
      Below w2.heap.size w2 (wo.alloc (.cells #[.slice A0 xs0.length c0, .slice A1 xs1.length c1, .slice none 0 0] 25)) ∧ w2.heap.size ≤ nb' :=
  ⟨_, _, A0, A1, c0, c1, rfl, Built.new (IntsB.of ho (Below.refl _ _) (.inr (Nat.le_refl _)) (Nat.le_refl _) hl) (IntsB.of he hb (.inr hb.size) hb.size hl'), h2.alloc h2.size _, h2.size⟩
theorem res_table {fn : Func} {tmps : Array Value} {w : World} {n : Nat} {v0 v1 v2 : Value} (hr : fn.results = #[.cell 6 25, .tmp 7]) (hp : tmps.getD 6 undef = .pointer (some ⟨n, 0, none⟩))
    (h0 : w.cell? ⟨n, 0, none⟩ = some v0) (h1 : w.cell? ⟨n, 1, none⟩ = some v1) (h2 : w.cell? ⟨n, 2, none⟩ = some v2) :
    (results fn tmps).run Try.prog w = .ok (.tuple #[.agg #[v0, v1, v2], tmps.getD 7 undef]) w := by
  rw [results_cell_tmp hr, hp]
  simp [go_sem, h0, h1, h2]
set_option maxRecDepth 100000 in
set_option maxHeartbeats 4000000 in
theorem lDimmed (A0 A1 A2 : Option Addr) (c0 c1 c2 B : Nat) (t : Tb) (keep years : Int) (w : World) (h : Tab w B A0 A1 A2 t) (hB : B ≤ w.heap.size) (hn : Small t) :
    Calls Try.prog 38 #[.agg #[.slice A0 t.obs.length c0, .slice A1 t.ent.length c1, .slice A2 t.r.length c2], .int .i64 keep, .int .i64 years] w (DimRes t keep years w) := by
  have hT := Boxed.new (c0 := c0) (c1 := c1) (c2 := c2) h hB
  have hal := boxed_world (w := w) (v := #[.slice A0 t.obs.length c0, .slice A1 t.ent.length c1, .slice A2 t.r.length c2])
  generalize hW : w.alloc (.cells #[.slice A0 t.obs.length c0, .slice A1 t.ent.length c1, .slice A2 t.r.length c2] 25) = w0 at hT hal
  have hz : w0.heap.size = w.heap.size + 1 := by rw [← hW]; simp
  have HW := Lib.hid hW
  have z0 : (w0.alloc (.cells #[.slice none 0 0, .slice none 0 0, .slice none 0 0] 25)).frozen? ⟨w0.heap.size, 0, none⟩ = false := by simp [go_sem]
  have z1 : (w0.alloc (.cells #[.slice none 0 0, .slice none 0 0, .slice none 0 0] 25)).frozen? ⟨w0.heap.size, 1, none⟩ = false := by simp [go_sem]
  have z2 : (w0.alloc (.cells #[.slice none 0 0, .slice none 0 0, .slice none 0 0] 25)).frozen? ⟨w0.heap.size, 2, none⟩ = false := by simp [go_sem]
  obtain ⟨y0, y1, y2⟩ := box3 w0 (.slice none 0 0) (.slice none 0 0) (.slice none 0 0) 25
  have hzs : w0.heap.size < (w0.alloc (.cells #[.slice none 0 0, .slice none 0 0, .slice none 0 0] 25)).heap.size := by simp
  have hb1 : Below w0.heap.size w0 (w0.alloc (.cells #[.slice none 0 0, .slice none 0 0, .slice none 0 0] 25)) := (Below.refl _ _).alloc (Nat.le_refl _) _
  generalize hW1 : w0.alloc (.cells #[.slice none 0 0, .slice none 0 0, .slice none 0 0] 25) = w1 at z0 z1 z2 y0 y1 y2 hb1 hzs
  have HW1 := Lib.hid hW1
  rw [hz] at z0 z1 z2 y0 y1 y2 hzs
  replace hT := hT.below hb1 hT.sz
  replace hal := hal.trans (hb1.mono (by omega))
  clear h hW hb1 hz hW1
  obtain ⟨q0, q1, q2⟩ := And.intro hT.q0 (And.intro hT.q1 hT.q2)
  by_cases ht : TabOk t
  · have j1 := tabB_t ht
    by_cases ha : ageOk keep years
    · have j2 := ageB_iff.2 ha
      go_enter Try.func38, Try.ntmps38
      go_wp2_with fail
      rw [HW.out, HW1.out]
      refine (lValidTable _ _ _ _ _ _ B _ _ hT.tab (by have := hT.lt; have := hT.sz; omega) hn).mono ?_
      rintro x w2 ⟨rfl, hb⟩
      have hz2 := (hb.frozen (p := ⟨w.heap.size + 1, 0, none⟩) hzs).trans z0
      have hz3 := (hb.frozen (p := ⟨w.heap.size + 1, 1, none⟩) hzs).trans z1
      have hz4 := (hb.frozen (p := ⟨w.heap.size + 1, 2, none⟩) hzs).trans z2
      have hy2 := (hb.cell (p := ⟨w.heap.size + 1, 0, none⟩) hzs).trans y0
      have hy3 := (hb.cell (p := ⟨w.heap.size + 1, 1, none⟩) hzs).trans y1
      have hy4 := (hb.cell (p := ⟨w.heap.size + 1, 2, none⟩) hzs).trans y2
      replace hal := hal.trans (hb.mono hal.size)
      replace hT := hT.below hb hT.sz
      replace hzs := Nat.lt_of_lt_of_le hzs hb.size
      clear q0 q1 q2 hb z0 z1 z2 y0 y1 y2
      obtain ⟨q0, q1, q2⟩ := And.intro hT.q0 (And.intro hT.q1 hT.q2)
      go_wp2_with (go_at_call 59; refine (lageable _ _ _).mono ?_; rintro e w' ⟨rfl, rfl⟩)
      obtain ⟨m0, m1, m2, m3⟩ := hn
      have o0 : 0 < t.obs.length := by have := ht.1.1; omega
      have o1 : 0 < t.ent.length := by have := ht.2.1.1; omega
      have hBz : B ≤ w2.heap.size := by have := hT.lt; have := hT.sz; omega
      have hnz := hT.sz
      have LO : ∀ W : World, Below w2.heap.size w2 W → Calls Try.prog 70 #[.slice A0 t.obs.length c0] W fun e w' => ∃ (A' : Option Addr) (c' : Nat), e = .returned (.slice A' t.obs.length c') ∧ IntsN w' W.heap.size none A' t.obs ∧ Below W.heap.size W w' ∧ Below w2.heap.size w2 w' ∧ w'.cell? ⟨w.heap.size, 0, none⟩ = some (.slice A0 t.obs.length c0) ∧ w'.cell? ⟨w.heap.size, 1, none⟩ = some (.slice A1 t.ent.length c1) := fun W hW =>
        (lclone A0 c0 B t.obs W (hT.tab.o.below (hW.mono hBz)) o0 m0).mono fun e w' ⟨A', c', he, hI, hb⟩ => ⟨A', c', he, hI, hb, hW.trans (hb.mono hW.size), ((hW.trans (hb.mono hW.size)).cell hnz).trans q0, ((hW.trans (hb.mono hW.size)).cell hnz).trans q1⟩
      have LE : ∀ W : World, Below w2.heap.size w2 W → Calls Try.prog 70 #[.slice A1 t.ent.length c1] W fun e w' => ∃ (A' : Option Addr) (c' : Nat), e = .returned (.slice A' t.ent.length c') ∧ IntsN w' W.heap.size none A' t.ent ∧ Below W.heap.size W w' ∧ Below w2.heap.size w2 w' ∧ w'.cell? ⟨w.heap.size, 0, none⟩ = some (.slice A0 t.obs.length c0) ∧ w'.cell? ⟨w.heap.size, 1, none⟩ = some (.slice A1 t.ent.length c1) := fun W hW =>
        (lclone A1 c1 B t.ent W (hT.tab.e.below (hW.mono hBz)) o1 m1).mono fun e w' ⟨A', c', he, hI, hb⟩ => ⟨A', c', he, hI, hb, hW.trans (hb.mono hW.size), ((hW.trans (hb.mono hW.size)).cell hnz).trans q0, ((hW.trans (hb.mono hW.size)).cell hnz).trans q1⟩
      have HLO := Lib.hid LO
      have HLE := Lib.hid LE
      clear LO LE
      go_cut [8] (fun t8 wx => ∃ (nb bs : Nat) (A0' A1' : Option Addr) (c0' c1' : Nat), t8 = .pointer (some ⟨nb, 0, none⟩) ∧ Built wx w2.heap.size bs nb A0' A1' c0' c1' t.obs t.ent (.slice none 0 0) [] [] ∧ Below w2.heap.size w2 wx ∧ w2.heap.size ≤ nb)
      case first =>
        go_region_with (first
          | (go_at_call_of 70 (t.obs); refine (HLO.out _ ?_).mono ?_; (first | exact (Below.refl _ _).drew | exact (Below.refl _ _).drew.alloc (Nat.le_refl _) _ | assumption | exact hbo2.alloc hbo2.size _ | exact hbe2.alloc hbe2.size _); rintro e wo ⟨Ao, co, rfl, hIo, hbo, hbo2, qo0, qo1⟩; have hzo := Nat.lt_of_lt_of_le hnz hbo2.size; first | (have hNB := (NilBox.newd _).below hbo; obtain ⟨n0, n1, n2, z0, z1, z2, nz⟩ := id hNB) | (have hNB := (NilBox.new _).below hbo; obtain ⟨n0, n1, n2, z0, z1, z2, nz⟩ := id hNB) | (have hNB := NilBox.below (by assumption) hbo; obtain ⟨n0, n1, n2, z0, z1, z2, nz⟩ := id hNB) | skip)
          | (go_at_call_of 70 (t.ent); refine (HLE.out _ ?_).mono ?_; (first | exact (Below.refl _ _).drew | exact (Below.refl _ _).drew.alloc (Nat.le_refl _) _ | assumption | exact hbo2.alloc hbo2.size _ | exact hbe2.alloc hbe2.size _); rintro e we ⟨Ae, ce, rfl, hIe, hbe, hbe2, qe0, qe1⟩; have hze := Nat.lt_of_lt_of_le hnz hbe2.size; first | (have hNB := (NilBox.newd _).below hbe; obtain ⟨n0, n1, n2, z0, z1, z2, nz⟩ := id hNB) | (have hNB := (NilBox.new _).below hbe; obtain ⟨n0, n1, n2, z0, z1, z2, nz⟩ := id hNB) | (have hNB := NilBox.below (by assumption) hbe; obtain ⟨n0, n1, n2, z0, z1, z2, nz⟩ := id hNB) | skip))
        all_goals (go_wp2_with fail; go_meet)
        all_goals
          have s1 := hbo.size
          have s2 := hbe.size
          have s3 := hbo2.size
          have s4 := hbe2.size
          simp at s1 s2
          first
            | exact fin_last (by first | omega | (simp; done) | (simp; omega)) (by first | omega | (simp; done) | (simp; omega)) hIo hbe hIe hbe2
            | exact fin_last' (by first | omega | (simp; done) | (simp; omega)) (by first | omega | (simp; done) | (simp; omega)) hIe hbo hIo hbo2
            | exact fin_set hNB (IntsB.of hIo (((Below.refl _ _).alloc (Nat.le_refl _) _).trans (hbe.mono (by simp))) (by first | omega | (simp; done) | (simp; omega)) (by first | omega | (simp; done) | (simp; omega)) (by first | omega | (simp; done) | (simp; omega))) (IntsB.of hIe (Below.refl _ _) (by first | omega | (simp; done) | (simp; omega)) (by first | omega | (simp; done) | (simp; omega)) (by first | omega | (simp; done) | (simp; omega))) hbe2 (by first | omega | (simp; done) | (simp; omega))
            | exact fin_set hNB (IntsB.of hIo (Below.refl _ _) (by first | omega | (simp; done) | (simp; omega)) (by first | omega | (simp; done) | (simp; omega)) (by first | omega | (simp; done) | (simp; omega))) (IntsB.of hIe (((Below.refl _ _).alloc (Nat.le_refl _) _).trans (hbo.mono (by simp))) (by first | omega | (simp; done) | (simp; omega)) (by first | omega | (simp; done) | (simp; omega)) (by first | omega | (simp; done) | (simp; omega))) hbo2 (by first | omega | (simp; done) | (simp; omega))
            | exact fin_set hNB (IntsB.of hIo hbe (by first | omega | (simp; done) | (simp; omega)) (by first | omega | (simp; done) | (simp; omega)) (by first | omega | (simp; done) | (simp; omega))) (IntsB.of hIe (Below.refl _ _) (by first | omega | (simp; done) | (simp; omega)) (by first | omega | (simp; done) | (simp; omega)) (by first | omega | (simp; done) | (simp; omega))) hbe2 (by first | omega | (simp; done) | (simp; omega))
            | exact fin_set hNB (IntsB.of hIo (Below.refl _ _) (by first | omega | (simp; done) | (simp; omega)) (by first | omega | (simp; done) | (simp; omega)) (by first | omega | (simp; done) | (simp; omega))) (IntsB.of hIe hbo (by first | omega | (simp; done) | (simp; omega)) (by first | omega | (simp; done) | (simp; omega)) (by first | omega | (simp; done) | (simp; omega))) hbo2 (by first | omega | (simp; done) | (simp; omega))
      case rest =>
        obtain ⟨nb, bs, A0', A1', c0', c1', rfl, hBu, hb3, hnb⟩ := hcut
        obtain ⟨w3, rfl⟩ : ∃ w3 : World, w3 = wc := ⟨_, rfl⟩
        have hT3 := hT.below hb3 hT.sz
        have hx0 := (hb3.frozen (p := ⟨w.heap.size + 1, 0, none⟩) hzs).trans hz2
        have hx1 := (hb3.frozen (p := ⟨w.heap.size + 1, 1, none⟩) hzs).trans hz3
        have hx2 := (hb3.frozen (p := ⟨w.heap.size + 1, 2, none⟩) hzs).trans hz4
        have hw0 := (hb3.cell (p := ⟨w.heap.size + 1, 0, none⟩) hzs).trans hy2
        have hw1 := (hb3.cell (p := ⟨w.heap.size + 1, 1, none⟩) hzs).trans hy3
        have hw2 := (hb3.cell (p := ⟨w.heap.size + 1, 2, none⟩) hzs).trans hy4
        clear HLO HLE q0 q1 q2
        obtain ⟨q0, q1, q2⟩ := And.intro hT3.q0 (And.intro hT3.q1 hT3.q2)
        obtain ⟨⟨k0, k1⟩, y0, y1⟩ := id ha
        obtain ⟨i3, hi3, hi30, hi32, hi33⟩ := info_parts info3
        obtain ⟨i22, hi22, hi220, hi222, hi223⟩ := info_parts info22
        go_upto_region 7 with fail
        go_loopw [35] (fun i wr => ∃ (k : Nat) (v : Value) (vs : List Value), k ≤ t.r.length ∧ i = .int .i64 k ∧ Built wr w2.heap.size bs nb A0' A1' c0' c1' t.obs t.ent v vs (dimTo t keep years.toNat k) ∧ Below w2.heap.size w2 wr) (fun i _ => t.r.length - (intOf i).toNat)
        case atStart => exact ⟨0, _, [], Nat.zero_le _, rfl, hBu, hb3⟩
        case round =>
          clear hBu hT3 hb3 q0 q1 q2 hx0 hx1 hx2 hw0 hw1 hw2
          obtain ⟨k, v, vs, hk, rfl, hBu, hbw⟩ := hrel
          obtain ⟨wA, rfl⟩ : ∃ wA : World, wA = wr := ⟨_, rfl⟩
          have hlt' := hBu.lt
          have hsz' := hBu.sz
          by_cases hlt : k < t.r.length
          · obtain ⟨b, off, hA2, hbb, hcr⟩ := ((hT.tab.r).keep fun p hp => hbw.cell (show p.block < w2.heap.size by omega)).form (by omega)
            subst hA2
            obtain ⟨Aj, Cj, hcj, hIj⟩ := hcr k hlt
            have hlen : (at1 t.r k).length ≤ 40 := m3 k hlt
            generalize hrow : at1 t.r k = row at *
            go_upto_region 9 with fail
            go_wp2_with (first
              | (at_make; refine wpList_make_full _ ?_ (.tmp 40) (.tmp 40) 22 ?_ wA.heap.size 3 i3 (.int .i64 0) 1 Try.underlying22 hi3 hi30 hi32 .i64 .i64 (row.length : Int) (row.length : Int) row.length ?_ ?_ ?_ ?_ ?_ ?_ ?_ ?_; (solve | rfl); (solve | rfl); (solve | rfl); (solve | rfl); (solve | rfl); (solve | rfl); (solve | (rw [hi33]; omega)); (solve | (unfold maxLen; omega)); (solve | exact Nat.le_refl _); (intro w4 hownl hgrl))
              | fail)
            rw [show (Value.int .i64 0).cells = #[.int .i64 0] from rfl, toList_madeCells_one, Nat.mul_one, ← rowL_zero row keep years.toNat] at hownl
            have hb4 : Below wA.heap.size wA w4 := (Below.refl _ _).grown hgrl (Nat.le_refl _) (by simp)
            have hcell : ∀ j, j < row.length → 0 ≤ at0 row j ∧ at0 row j ≤ 100000 := by
              intro j hj
              rw [← hrow] at hj ⊢
              exact tab_cell ht hlt hj
            have HC := Lib.hid hcell
            clear hcell hgrl
            go_loopw [44] (fun i w5 => ∃ m : Nat, m ≤ row.length ∧ i = .int .i64 m ∧ w5.ownsRow wA.heap.size 3 1 (.slice (some ⟨wA.heap.size, 0, none⟩) row.length row.length) row.length (rowL row keep years.toNat m) ∧ Below wA.heap.size wA w5) (fun i _ => row.length - (intOf i).toNat)
            case atStart => exact ⟨0, Nat.zero_le _, rfl, hownl, hb4⟩
            case round =>
              clear hownl hb4
              obtain ⟨m, hm, rfl, hownl, hb4⟩ := hrel
              by_cases hmt : m < row.length
              · obtain ⟨b2, off2, hA3, hbb2, hc2⟩ := (hIj.keep fun p hp => hb4.cell (show p.block < wA.heap.size by have := hbw.size; omega)).at_ hmt
                subst hA3
                have u0 := hc2 m hmt
                obtain ⟨r0, r1⟩ := HC.out m hmt
                have e1 := hownl.cellAt m (by omega)
                rw [rowL_at _ _ _ _ _ hmt, if_neg (Nat.lt_irrefl _)] at e1
                have hfz := hownl.frozenAt m
                have hst := (hownl.stored m (.int .i64 (agedF keep years.toNat (at0 row m)))).1
                rw [rowL_set] at hst
                have HST := Lib.hid hst
                clear hst hc2
                go_wp2_with (go_at_call 60; refine (laged _ _ _ _ r0 r1 k0 k1 y0 y1).mono ?_; rintro e w' ⟨rfl, rfl⟩)
                exact ⟨⟨m + 1, by omega, by go_num, HST.out, hb4.setCell (Nat.le_refl _) _⟩, by simp [intOf]; omega⟩
              · obtain rfl : m = row.length := by omega
                have hBu5 := hBu.below hb4
                have hs5 := hBu5.sz
                have g2 := hBu5.q2
                have f2 := hBu5.z2
                have hK : (dimTo t keep years.toNat k).length = k := dimTo_length ..
                have hIN : IntsN wr bs v.ownBlock (some ⟨wA.heap.size, 0, none⟩) (row.map (agedF keep years.toNat)) :=
                  .inr ⟨wA.heap.size, 0, rfl, hsz', (hownl.lt _ rfl).2, fun e => by have := (hBu.own.lt _ e.symm).2; omega, rowL_ints hownl⟩
                go_wp2_with (first
                  | (at_builtin; refine wpList_append_lies _ ?_ (.tmp 58) (.tmp 60) 23 ?_ bs 22 i22 (.slice none 0 0) 1 24 Try.underlying23 hi22 hi220 hi222 hi223 ?_ ?_ v (dimTo t keep years.toNat k).length vs ?_ ?_ ⟨wr.heap.size, 0, none⟩ 1 1 [.slice (some ⟨wA.heap.size, 0, none⟩) row.length row.length] ?_ ?_ ?_ ?_ ?_ ?_ ?_ ?_ (wr.heap.size + 1) ?_ ?_; (solve | (rfl)); (solve | (rfl)); (solve | (rfl)); (solve | (decide)); (solve | (rfl)); (solve | (exact owns_new (t := 22) (cs := #[_]) hBu5.own (by first | exact .inl rfl | exact .inr (.inl rfl) | exact .inr (.inr rfl)))); (solve | (rfl)); (solve | (rfl)); (solve | (exact one_new (t := 22) (by first | exact .inl rfl | exact .inr (.inl rfl) | exact .inr (.inr rfl)))); (solve | ((intro u hu; simp only [List.mem_singleton] at hu; subst hu; rfl))); (solve | (omega)); (solve | ((unfold maxLen; omega))); (solve | (omega)); (solve | ((have := hBu5.sz; simp; omega))); (solve | ((simp; done))); (intro g cap w6 hown3 hgrow hat hg3; have hmid := hBu5.mid (t := 22) (.inl rfl) hgrow; have f6 := (hmid.2.2 nb 2 hlt').trans f2; have g6 := (hmid.2.1 nb 2 hlt').trans g2))
                  | fail)
                have hmo := hBu5.more (t := 22) (x := .slice (some ⟨wA.heap.size, 0, none⟩) row.length row.length) (A := some ⟨wA.heap.size, 0, none⟩) (c := row.length) (ys := row.map (agedF keep years.toNat)) hIN (.inl rfl) (by rw [List.length_map]) hown3 hgrow hat hnb (hbw.trans (hb4.mono hbw.size))
                have hds : dimTo t keep years.toNat (k + 1) = dimTo t keep years.toNat k ++ [row.map (agedF keep years.toNat)] := by rw [dimTo_succ, hrow]
                rw [← hds, hK] at hmo
                exact ⟨⟨k + 1, _, _, by omega, by go_num, hmo.1, hmo.2⟩, by simp [intOf]; omega⟩
          · obtain rfl : k = t.r.length := by omega
            obtain ⟨A2', c2', rfl, hR2⟩ := owns_rows hBu.own hBu.rows
            rw [dimTo_length] at *
            have q0 := hBu.q0
            have q1 := hBu.q1
            have q2 := hBu.q2
            have hzw := hbw.size
            have x0 := (hbw.frozen (p := ⟨w.heap.size + 1, 0, none⟩) hzs).trans hz2
            have x1 := (hbw.frozen (p := ⟨w.heap.size + 1, 1, none⟩) hzs).trans hz3
            have x2 := (hbw.frozen (p := ⟨w.heap.size + 1, 2, none⟩) hzs).trans hz4
            have y0 := (hbw.cell (p := ⟨w.heap.size + 1, 0, none⟩) hzs).trans hy2
            have y1 := (hbw.cell (p := ⟨w.heap.size + 1, 1, none⟩) hzs).trans hy3
            have y2 := (hbw.cell (p := ⟨w.heap.size + 1, 2, none⟩) hzs).trans hy4
            go_wp2
            (try simp only [Exit.inBlock, Exit.then])
            obtain ⟨u0, u1, u2⟩ := set3 (a := .slice A0' t.obs.length c0') (b := .slice A1' t.ent.length c1') (c := .slice A2' t.r.length c2') y0 y1 y2
            refine bodyPost_ret (res_table rfl rfl u0 u1 u2) rfl ?_
            have hm1 : w.heap.size + 1 < w2.heap.size := hzs
            have hF := ((hBu.far (j := 0) (u := .slice A0' t.obs.length c0') hm1 hnb).far (j := 1) (u := .slice A1' t.ent.length c1') hm1 hnb).far (j := 2) (u := .slice A2' t.r.length c2') hm1 hnb
            obtain ⟨A3, c3, hv3, hR3⟩ := owns_rows hF.own hF.rows
            rw [dimTo_length] at hv3
            cases hv3
            exact ⟨0, dimT t keep years.toNat, A0', A1', A2', c0', c1', c2', dim_ok ht ha, by simp only [dimT, dimTo_length]; rfl, ⟨hF.o.ints hF.sz, hF.e.ints hF.sz, hR3⟩,
              hal.trans (((((Below.refl _ _).trans hbw).mono (Nat.le_refl _) |>.mono hal.size).setCell (by simp) _ |>.setCell (by simp) _).setCell (by simp) _)⟩
    · have j2 : ageB keep years = false := by cases h : ageB keep years with | false => rfl | true => exact absurd (ageB_iff.1 h) ha
      go_enter Try.func38, Try.ntmps38
      go_wp2_with fail
      rw [HW.out, HW1.out]
      refine (lValidTable _ _ _ _ _ _ B _ _ hT.tab (by have := hT.lt; have := hT.sz; omega) hn).mono ?_
      rintro x w2 ⟨rfl, hb⟩
      have hz2 := (hb.frozen (p := ⟨w.heap.size + 1, 0, none⟩) hzs).trans z0
      have hz3 := (hb.frozen (p := ⟨w.heap.size + 1, 1, none⟩) hzs).trans z1
      have hz4 := (hb.frozen (p := ⟨w.heap.size + 1, 2, none⟩) hzs).trans z2
      have hy2 := (hb.cell (p := ⟨w.heap.size + 1, 0, none⟩) hzs).trans y0
      have hy3 := (hb.cell (p := ⟨w.heap.size + 1, 1, none⟩) hzs).trans y1
      have hy4 := (hb.cell (p := ⟨w.heap.size + 1, 2, none⟩) hzs).trans y2
      replace hal := hal.trans (hb.mono hal.size)
      replace hT := hT.below hb hT.sz
      replace hzs := Nat.lt_of_lt_of_le hzs hb.size
      clear q0 q1 q2 hb z0 z1 z2 y0 y1 y2
      obtain ⟨q0, q1, q2⟩ := And.intro hT.q0 (And.intro hT.q1 hT.q2)
      go_wp2_with (go_at_call 59; refine (lageable _ _ _).mono ?_; rintro e w' ⟨rfl, rfl⟩)
      (try simp only [Exit.inBlock, Exit.then])
      obtain ⟨x0, x1, x2⟩ := set3 (a := .slice none 0 0) (b := .slice none 0 0) (c := .slice none 0 0) hy2 hy3 hy4
      refine bodyPost_ret (res_table rfl rfl x0 x1 x2) rfl ?_
      exact ⟨2, noT, none, none, none, 0, 0, 0, dim_arg ht ha, rfl, noT_tab _ _, ((hal.setCell (by simp) _).setCell (by simp) _).setCell (by simp) _⟩
  · have j1 := tabB_f ht
    go_enter Try.func38, Try.ntmps38
    go_wp2_with fail
    rw [HW.out, HW1.out]
    refine (lValidTable _ _ _ _ _ _ B _ _ hT.tab (by have := hT.lt; have := hT.sz; omega) hn).mono ?_
    rintro x w2 ⟨rfl, hb⟩
    have hz2 := (hb.frozen (p := ⟨w.heap.size + 1, 0, none⟩) hzs).trans z0
    have hz3 := (hb.frozen (p := ⟨w.heap.size + 1, 1, none⟩) hzs).trans z1
    have hz4 := (hb.frozen (p := ⟨w.heap.size + 1, 2, none⟩) hzs).trans z2
    have hy2 := (hb.cell (p := ⟨w.heap.size + 1, 0, none⟩) hzs).trans y0
    have hy3 := (hb.cell (p := ⟨w.heap.size + 1, 1, none⟩) hzs).trans y1
    have hy4 := (hb.cell (p := ⟨w.heap.size + 1, 2, none⟩) hzs).trans y2
    replace hal := hal.trans (hb.mono hal.size)
    replace hT := hT.below hb hT.sz
    replace hzs := Nat.lt_of_lt_of_le hzs hb.size
    clear q0 q1 q2 hb z0 z1 z2 y0 y1 y2
    obtain ⟨q0, q1, q2⟩ := And.intro hT.q0 (And.intro hT.q1 hT.q2)
    go_wp2
    (try simp only [Exit.inBlock, Exit.then])
    obtain ⟨x0, x1, x2⟩ := set3 (a := .slice none 0 0) (b := .slice none 0 0) (c := .slice none 0 0) hy2 hy3 hy4
    refine bodyPost_ret (res_table rfl rfl x0 x1 x2) rfl ?_
    exact ⟨30, noT, none, none, none, 0, 0, 0, dim_bad ht, rfl, noT_tab _ _, ((hal.setCell (by simp) _).setCell (by simp) _).setCell (by simp) _⟩
end Go.Proofs.Ytihhfelhdgmceaa
