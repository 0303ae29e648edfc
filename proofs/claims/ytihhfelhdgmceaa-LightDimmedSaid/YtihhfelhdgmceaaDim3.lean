/- Contract of the reference's Dimmed. -/
import Derived.Test.YtihhfelhdgmceaaDim2
import Derived.Test.YtihhfelhdgmceaaDim3h
import Derived.Test.YtihhfelhdgmceaaVr
namespace Go.Proofs.Ytihhfelhdgmceaa
open Go.RowKit
theorem map_range (row : List Int) (f : Int → Int) : (List.range row.length).map (fun j => f (at0 row j)) = row.map f := by
  apply List.ext_getElem
  · simp
  · intro j h1 h2
    simp at h1
    simp [at0, h1]
theorem NilBox.dr {w : World} {nb : Nat} (h : NilBox w nb) : NilBox w.drew nb := ⟨h.n0, h.n1, h.n2, h.z0, h.z1, h.z2, h.sz⟩
theorem NilBox.alloc {w : World} {nb : Nat} (h : NilBox w nb) (o : Obj) : NilBox (w.alloc o) nb := h.below ((Below.refl _ _).alloc (Nat.le_refl _) o)
theorem heldD {w2 W : World} {p : Nat} {a b : Value} (hp : p < w2.heap.size) (q0 : w2.cell? ⟨p, 0, none⟩ = some a) (q1 : w2.cell? ⟨p, 1, none⟩ = some b) (h : Below w2.heap.size w2 W) :
    Below w2.heap.size w2 W ∧ W.cell? ⟨p, 0, none⟩ = some a ∧ W.cell? ⟨p, 1, none⟩ = some b := ⟨h, (h.cell hp).trans q0, (h.cell hp).trans q1⟩
set_option maxRecDepth 100000 in
set_option maxHeartbeats 4000000 in
theorem rDimmed (A0 A1 A2 : Option Addr) (c0 c1 c2 B : Nat) (t : Tb) (keep years : Int) (w : World) (h : Tab w B A0 A1 A2 t) (hB : B ≤ w.heap.size) (hn : Small t) :
    Calls Try.prog 39 #[.agg #[.slice A0 t.obs.length c0, .slice A1 t.ent.length c1, .slice A2 t.r.length c2], .int .i64 keep, .int .i64 years] w (DimRes t keep years w) := by
  have hT := Boxed.new (c0 := c0) (c1 := c1) (c2 := c2) h hB
  have hal := boxed_world (w := w) (v := #[.slice A0 t.obs.length c0, .slice A1 t.ent.length c1, .slice A2 t.r.length c2])
  generalize hW : w.alloc (.cells #[.slice A0 t.obs.length c0, .slice A1 t.ent.length c1, .slice A2 t.r.length c2] 25) = w0 at hT hal
  have hz : w0.heap.size = w.heap.size + 1 := by rw [← hW]; simp
  have HW := Lib.hid hW
  have z0 : (w0.alloc (.cells #[.slice none 0 0, .slice none 0 0, .slice none 0 0] 25)).frozen? ⟨w0.heap.size, 0, none⟩ = false := by simp [go_sem]
  have z1 : (w0.alloc (.cells #[.slice none 0 0, .slice none 0 0, .slice none 0 0] 25)).frozen? ⟨w0.heap.size, 1, none⟩ = false := by simp [go_sem]
  have z2 : (w0.alloc (.cells #[.slice none 0 0, .slice none 0 0, .slice none 0 0] 25)).frozen? ⟨w0.heap.size, 2, none⟩ = false := by simp [go_sem]
  obtain ⟨y0, y1, y2⟩ := box3 w0 (.slice none 0 0) (.slice none 0 0) (.slice none 0 0) 25
  have hzs : w0.heap.size < (w0.alloc (.cells #[.slice none 0 0, .slice none 0 0, .slice none 0 0] 25)).heap.size := by simp
  have hb1 : Below w0.heap.size w0 (w0.alloc (.cells #[.slice none 0 0, .slice none 0 0, .slice none 0 0] 25)) := (Below.refl _ _).alloc (Nat.le_refl _) _
  generalize hW1 : w0.alloc (.cells #[.slice none 0 0, .slice none 0 0, .slice none 0 0] 25) = w1 at z0 z1 z2 y0 y1 y2 hb1 hzs
  have HW1 := Lib.hid hW1
  rw [hz] at z0 z1 z2 y0 y1 y2 hzs
  replace hT := hT.below hb1 hT.sz
  replace hal := hal.trans (hb1.mono (by omega))
  clear h hW hb1 hz hW1
  obtain ⟨q0, q1, q2⟩ := And.intro hT.q0 (And.intro hT.q1 hT.q2)
  by_cases ht : TabOk t
  · have j1 := tabB_t ht
    by_cases ha : ageOk keep years
    · go_enter Try.func39, Try.ntmps39
      go_wp2_with fail
      rw [HW.out, HW1.out]
      refine (rValidTable _ _ _ _ _ _ B _ _ hT.tab (by have := hT.lt; have := hT.sz; omega) hn).mono ?_
      rintro x w2 ⟨rfl, hb⟩
      have hz2 := (hb.frozen (p := ⟨w.heap.size + 1, 0, none⟩) hzs).trans z0
      have hz3 := (hb.frozen (p := ⟨w.heap.size + 1, 1, none⟩) hzs).trans z1
      have hz4 := (hb.frozen (p := ⟨w.heap.size + 1, 2, none⟩) hzs).trans z2
      have hy2 := (hb.cell (p := ⟨w.heap.size + 1, 0, none⟩) hzs).trans y0
      have hy3 := (hb.cell (p := ⟨w.heap.size + 1, 1, none⟩) hzs).trans y1
      have hy4 := (hb.cell (p := ⟨w.heap.size + 1, 2, none⟩) hzs).trans y2
      replace hal := hal.trans (hb.mono hal.size)
      replace hT := hT.below hb hT.sz
      replace hzs := Nat.lt_of_lt_of_le hzs hb.size
      clear q0 q1 q2 hb z0 z1 z2 y0 y1 y2
      obtain ⟨q0, q1, q2⟩ := And.intro hT.q0 (And.intro hT.q1 hT.q2)
      go_wp2_with fail
      refine (rAged 0 keep years _).mono ?_
      rintro e w' ⟨hr1, _, rfl⟩
      rw [hr1 ⟨by omega, by omega, ha⟩]
      clear hr1
      go_upto_region 6 with fail
      obtain ⟨m0, m1, m2, m3⟩ := hn
      have o0 : 0 < t.obs.length := by have := ht.1.1; omega
      have o1 : 0 < t.ent.length := by have := ht.2.1.1; omega
      have hBz : B ≤ w2.heap.size := by have := hT.lt; have := hT.sz; omega
      have hnz := hT.sz
      go_cut [10] (fun t8 wx => ∃ (nb bs : Nat) (A0' A1' : Option Addr) (c0' c1' : Nat), t8 = .pointer (some ⟨nb, 0, none⟩) ∧ Built wx w2.heap.size bs nb A0' A1' c0' c1' t.obs t.ent (.slice none 0 0) [] [] ∧ Below w2.heap.size w2 wx ∧ w2.heap.size ≤ nb)
      case first =>
        go_region_held3 (fun w' => Below w2.heap.size w2 w' ∧ w'.cell? ⟨w.heap.size, 0, none⟩ = some (.slice A0 t.obs.length c0) ∧ w'.cell? ⟨w.heap.size, 1, none⟩ = some (.slice A1 t.ent.length c1)) ((refine heldD hnz q0 q1 ?_; first | assumption | exact hbe2.alloc hbe2.size _ | exact hbo2.alloc hbo2.size _ | exact (Below.refl _ _).drew | exact Below.alloc (And.left (by assumption)) (Below.size (And.left (by assumption))) _ | (refine Below.setCell (Below.setCell (Below.setCell (And.left (by assumption)) ?_ _) ?_ _) ?_ _ <;> first | omega | (simp only; omega) | (simp; done) | (simp; omega)) | fail)) (first
          | (refine step_copy ?_ (.tmp 30) (.tmp 32) ?_ ?_ ?_ A0 c0 B t.obs ?_ ?_ o0 m0 ?_; (solve | rfl); (solve | rfl); rotate_left; (solve | rfl); (solve | rfl); (solve | exact hT.tab.o.below (Below.mono (And.left (by assumption)) hBz)); (intro Ao co wo hIo hbo); have hbo2 : Below w2.heap.size w2 wo := Below.trans (And.left (by assumption)) (hbo.mono (Below.size (And.left (by assumption)))); have hzo := Nat.lt_of_lt_of_le hnz hbo2.size; have hko := hbo2.size; first | (have hNB := NilBox.below (by first | exact NilBox.newd _ | exact NilBox.new _ | assumption | exact (NilBox.new _).alloc _ | exact ((NilBox.new _).alloc _).dr | exact ((NilBox.new _).alloc _).alloc _ | exact (((NilBox.new _).alloc _).alloc _).dr | exact NilBox.alloc (by assumption) _ | exact NilBox.alloc (NilBox.alloc (by assumption) _) _) hbo; (try simp at hNB); obtain ⟨n0, n1, n2, z0, z1, z2, nz⟩ := id hNB) | skip)
          | (refine step_copy ?_ (.tmp 34) (.tmp 36) ?_ ?_ ?_ A1 c1 B t.ent ?_ ?_ o1 m1 ?_; (solve | rfl); (solve | rfl); rotate_left; (solve | rfl); (solve | rfl); (solve | exact hT.tab.e.below (Below.mono (And.left (by assumption)) hBz)); (intro Ae ce we hIe hbe); have hbe2 : Below w2.heap.size w2 we := Below.trans (And.left (by assumption)) (hbe.mono (Below.size (And.left (by assumption)))); have hze := Nat.lt_of_lt_of_le hnz hbe2.size; have hke := hbe2.size; first | (have hNB := NilBox.below (by first | exact NilBox.newd _ | exact NilBox.new _ | assumption | exact (NilBox.new _).alloc _ | exact ((NilBox.new _).alloc _).dr | exact ((NilBox.new _).alloc _).alloc _ | exact (((NilBox.new _).alloc _).alloc _).dr | exact NilBox.alloc (by assumption) _ | exact NilBox.alloc (NilBox.alloc (by assumption) _) _) hbe; (try simp at hNB); obtain ⟨n0, n1, n2, z0, z1, z2, nz⟩ := id hNB) | skip))
        all_goals (go_wp2_with fail; go_meet)
        all_goals
          have s1 := hbo.size
          have s2 := hbe.size
          have s3 := hbo2.size
          have s4 := hbe2.size
          simp at s1 s2
          first
            | (have hoe : Below wo.heap.size wo we := by first | exact hbe | exact (((Below.refl _ _).alloc (Nat.le_refl _) _).trans (hbe.mono (by simp))) | exact ((((Below.refl _ _).alloc (Nat.le_refl _) _).alloc (by simp) _).trans (hbe.mono (by simp; try omega)))
               first
                 | exact fin_last (by first | omega | (simp; done) | (simp; omega)) (by first | omega | (simp; done) | (simp; omega)) hIo hoe hIe hbe2
                 | exact fin_set hNB (IntsB.of hIo hoe (by first | omega | (simp; done) | (simp; omega)) (by first | omega | (simp; done) | (simp; omega)) (by first | omega | (simp; done) | (simp; omega))) (IntsB.of hIe (Below.refl _ _) (by first | omega | (simp; done) | (simp; omega)) (by first | omega | (simp; done) | (simp; omega)) (by first | omega | (simp; done) | (simp; omega))) hbe2 (by first | omega | (simp; done) | (simp; omega)))
            | (have heo : Below we.heap.size we wo := by first | exact hbo | exact (((Below.refl _ _).alloc (Nat.le_refl _) _).trans (hbo.mono (by simp))) | exact ((((Below.refl _ _).alloc (Nat.le_refl _) _).alloc (by simp) _).trans (hbo.mono (by simp; try omega)))
               first
                 | exact fin_last' (by first | omega | (simp; done) | (simp; omega)) (by first | omega | (simp; done) | (simp; omega)) hIe heo hIo hbo2
                 | exact fin_set hNB (IntsB.of hIo (Below.refl _ _) (by first | omega | (simp; done) | (simp; omega)) (by first | omega | (simp; done) | (simp; omega)) (by first | omega | (simp; done) | (simp; omega))) (IntsB.of hIe heo (by first | omega | (simp; done) | (simp; omega)) (by first | omega | (simp; done) | (simp; omega)) (by first | omega | (simp; done) | (simp; omega))) hbo2 (by first | omega | (simp; done) | (simp; omega)))
      case rest =>
        obtain ⟨nb, bs, A0', A1', c0', c1', rfl, hBu, hb3, hnb⟩ := hcut
        obtain ⟨w3, rfl⟩ : ∃ w3 : World, w3 = wc := ⟨_, rfl⟩
        have hT3 := hT.below hb3 hT.sz
        have hx0 := (hb3.frozen (p := ⟨w.heap.size + 1, 0, none⟩) hzs).trans hz2
        have hx1 := (hb3.frozen (p := ⟨w.heap.size + 1, 1, none⟩) hzs).trans hz3
        have hx2 := (hb3.frozen (p := ⟨w.heap.size + 1, 2, none⟩) hzs).trans hz4
        have hw0 := (hb3.cell (p := ⟨w.heap.size + 1, 0, none⟩) hzs).trans hy2
        have hw1 := (hb3.cell (p := ⟨w.heap.size + 1, 1, none⟩) hzs).trans hy3
        have hw2 := (hb3.cell (p := ⟨w.heap.size + 1, 2, none⟩) hzs).trans hy4
        clear q0 q1 q2
        obtain ⟨q0, q1, q2⟩ := And.intro hT3.q0 (And.intro hT3.q1 hT3.q2)
        obtain ⟨⟨k0, k1⟩, y0, y1⟩ := id ha
        obtain ⟨i3, hi3, hi30, hi32, hi33⟩ := info_parts info3
        obtain ⟨i22, hi22, hi220, hi222, hi223⟩ := info_parts info22
        go_upto_region 8 with fail
        go_loopw [11] (fun i wr => ∃ (k : Nat) (v : Value) (vs : List Value), k ≤ t.r.length ∧ i = .int .i64 k ∧ Built wr w2.heap.size bs nb A0' A1' c0' c1' t.obs t.ent v vs (dimTo t keep years.toNat k) ∧ Below w2.heap.size w2 wr) (fun i _ => t.r.length - (intOf i).toNat)
        case atStart => exact ⟨0, _, [], Nat.zero_le _, rfl, hBu, hb3⟩
        case round =>
          clear hBu hT3 hb3 q0 q1 q2 hx0 hx1 hx2 hw0 hw1 hw2
          obtain ⟨k, v, vs, hk, rfl, hBu, hbw⟩ := hrel
          obtain ⟨wA, rfl⟩ : ∃ wA : World, wA = wr := ⟨_, rfl⟩
          have hlt' := hBu.lt
          have hsz' := hBu.sz
          by_cases hlt : k < t.r.length
          · obtain ⟨b, off, hA2, hbb, hcr⟩ := ((hT.tab.r).keep fun p hp => hbw.cell (show p.block < w2.heap.size by omega)).form (by omega)
            subst hA2
            obtain ⟨Aj, Cj, hcj, hIj⟩ := hcr k hlt
            have hlen : (at1 t.r k).length ≤ 40 := m3 k hlt
            generalize hrow : at1 t.r k = row at *
            have hcell : ∀ j, j < row.length → 0 ≤ at0 row j ∧ at0 row j ≤ 100000 := by
              intro j hj
              rw [← hrow] at hj ⊢
              exact tab_cell ht hlt hj
            have hrl : 2 ≤ row.length := by rw [← hrow, (ht.2.2.2 k hlt).1]; exact ht.2.1.1
            have HC := Lib.hid hcell
            clear hcell
            have hlw : B ≤ wA.heap.size := Nat.le_trans hBz hbw.size
            have hTA := hT.below hbw hT.sz
            obtain ⟨qa0, qa1, qa2⟩ := And.intro hTA.q0 (And.intro hTA.q1 hTA.q2)
            go_upto_region 12 with fail
            go_loopw [12, 13] (fun out i w5 => ∃ m : Nat, m ≤ row.length ∧ i = .int .i64 m ∧ w5.ownsRow wA.heap.size 3 1 out m (((List.range m).map fun j => agedF keep years.toNat (at0 row j)).map (.int .i64)) ∧ Below wA.heap.size wA w5) (fun _ i _ => row.length - (intOf i).toNat)
            case atStart => exact ⟨0, Nat.zero_le _, rfl, World.ownsRow_nil _ _ _ _, Below.refl _ _⟩
            case round =>
              obtain ⟨m, hm, rfl, hownl, hb4⟩ := hrel
              have hT5 := hTA.below hb4 hTA.sz
              clear qa0 qa1 qa2
              obtain ⟨qa0, qa1, qa2⟩ := And.intro hT5.q0 (And.intro hT5.q1 hT5.q2)
              have hcj5 := (hb4.cell (show b < wA.heap.size by omega)).trans hcj
              by_cases hmt : m < row.length
              · obtain ⟨b2, off2, hA3, hbb2, hc2⟩ := (hIj.keep fun p hp => hb4.cell (show p.block < wA.heap.size by omega)).at_ hmt
                subst hA3
                have u0 := hc2 m hmt
                obtain ⟨r0, r1⟩ := HC.out m hmt
                clear hc2
                go_wp2_with fail
                refine (rAged (at0 row m) keep years _).mono ?_
                rintro e w' ⟨hr1, _, rfl⟩
                rw [hr1 ⟨r0, r1, ha⟩]
                clear hr1
                go_wp2_with (first
                  | (at_builtin; refine wpList_append_lies _ ?_ (.tmp 70) (.tmp 72) 22 ?_ wA.heap.size 3 i3 (.int .i64 0) 1 8 Try.underlying22 hi3 hi30 hi32 hi33 ?_ ?_ u12 m (((List.range m).map fun j => agedF keep years.toNat (at0 row j)).map (.int .i64)) ?_ ?_ ⟨wr.heap.size, 0, none⟩ 1 1 [.int .i64 (agedF keep years.toNat (at0 row m))] ?_ ?_ ?_ ?_ ?_ ?_ ?_ ?_ (wr.heap.size + 1) ?_ ?_; (solve | (rfl)); (solve | (rfl)); (solve | (rfl)); (solve | (decide)); (solve | (rfl)); (solve | (exact owns_new (t := 3) (cs := #[_]) hownl (by first | exact .inl rfl | exact .inr (.inl rfl) | exact .inr (.inr rfl)))); (solve | (rfl)); (solve | (rfl)); (solve | (exact one_new (t := 3) (by first | exact .inl rfl | exact .inr (.inl rfl) | exact .inr (.inr rfl)))); (solve | ((intro u hu; simp only [List.mem_singleton] at hu; subst hu; rfl))); (solve | (omega)); (solve | ((unfold maxLen; omega))); (solve | (omega)); (solve | ((have := hb4.size; simp; omega))); (solve | ((simp; done))); (intro g cap w6 hown3 hgrow hat hg3))
                  | fail)
                rw [← List.map_singleton, ← List.map_append] at hown3
                have hrs : ((List.range m).map fun j => agedF keep years.toNat (at0 row j)) ++ [agedF keep years.toNat (at0 row m)] = (List.range (m + 1)).map fun j => agedF keep years.toNat (at0 row j) := by simp [List.range_succ]
                rw [hrs] at hown3
                have hb3' : Below wA.heap.size wA w6 := app_below (t := 3) (cs := #[_]) (by first | exact .inl rfl | exact .inr (.inl rfl) | exact .inr (.inr rfl)) hb4 hb4.size hownl hgrow
                exact ⟨⟨m + 1, by omega, by go_num, hown3, hb3'⟩, by simp [intOf]; omega⟩
              · obtain rfl : m = row.length := by omega
                rw [map_range] at hownl
                obtain ⟨gl, cl, hvl, hgl1, hgl2⟩ := hownl.form (by omega)
                subst hvl
                have hBu5 := hBu.below hb4
                have hs5 := hBu5.sz
                have g2 := hBu5.q2
                have f2 := hBu5.z2
                have hK : (dimTo t keep years.toNat k).length = k := dimTo_length ..
                have hIN : IntsN wr bs v.ownBlock (some ⟨gl, 0, none⟩) (row.map (agedF keep years.toNat)) :=
                  .inr ⟨gl, 0, rfl, by omega, hgl2, fun e => by have := (hBu.own.lt _ e.symm).2; omega, fun j hj => by
                    have hjr : j < row.length := by simpa using hj
                    rw [Nat.zero_add, hownl.cellAt j (by omega)]
                    simp [at0, hjr]⟩
                go_wp2_with (first
                  | (at_builtin; refine wpList_append_lies _ ?_ (.tmp 75) (.tmp 77) 23 ?_ bs 22 i22 (.slice none 0 0) 1 24 Try.underlying23 hi22 hi220 hi222 hi223 ?_ ?_ v (dimTo t keep years.toNat k).length vs ?_ ?_ ⟨wr.heap.size, 0, none⟩ 1 1 [.slice (some ⟨gl, 0, none⟩) row.length cl] ?_ ?_ ?_ ?_ ?_ ?_ ?_ ?_ (wr.heap.size + 1) ?_ ?_; (solve | (rfl)); (solve | (rfl)); (solve | (rfl)); (solve | (decide)); (solve | (rfl)); (solve | (exact owns_new (t := 22) (cs := #[_]) hBu5.own (by first | exact .inl rfl | exact .inr (.inl rfl) | exact .inr (.inr rfl)))); (solve | (rfl)); (solve | (rfl)); (solve | (exact one_new (t := 22) (by first | exact .inl rfl | exact .inr (.inl rfl) | exact .inr (.inr rfl)))); (solve | ((intro u hu; simp only [List.mem_singleton] at hu; subst hu; rfl))); (solve | (omega)); (solve | ((unfold maxLen; omega))); (solve | (omega)); (solve | ((have := hBu5.sz; simp; omega))); (solve | ((simp; done))); (intro g cap w6 hown3 hgrow hat hg3; have hmid := hBu5.mid (t := 22) (.inl rfl) hgrow; have f6 := (hmid.2.2 nb 2 hlt').trans f2; have g6 := (hmid.2.1 nb 2 hlt').trans g2))
                  | fail)
                have hmo := hBu5.more (t := 22) (x := .slice (some ⟨gl, 0, none⟩) row.length cl) (A := some ⟨gl, 0, none⟩) (c := cl) (ys := row.map (agedF keep years.toNat)) hIN (.inl rfl) (by rw [List.length_map]) hown3 hgrow hat hnb (hbw.trans (hb4.mono hbw.size))
                have hds : dimTo t keep years.toNat (k + 1) = dimTo t keep years.toNat k ++ [row.map (agedF keep years.toNat)] := by rw [dimTo_succ, hrow]
                rw [← hds, hK] at hmo
                exact ⟨⟨k + 1, _, _, by omega, by go_num, hmo.1, hmo.2⟩, by simp [intOf]; omega⟩
          · obtain rfl : k = t.r.length := by omega
            have hTA := hT.below hbw hT.sz
            obtain ⟨qa0, qa1, qa2⟩ := And.intro hTA.q0 (And.intro hTA.q1 hTA.q2)
            obtain ⟨A2', c2', rfl, hR2⟩ := owns_rows hBu.own hBu.rows
            rw [dimTo_length] at *
            have q0 := hBu.q0
            have q1 := hBu.q1
            have q2 := hBu.q2
            have hzw := hbw.size
            have x0 := (hbw.frozen (p := ⟨w.heap.size + 1, 0, none⟩) hzs).trans hz2
            have x1 := (hbw.frozen (p := ⟨w.heap.size + 1, 1, none⟩) hzs).trans hz3
            have x2 := (hbw.frozen (p := ⟨w.heap.size + 1, 2, none⟩) hzs).trans hz4
            have y0 := (hbw.cell (p := ⟨w.heap.size + 1, 0, none⟩) hzs).trans hy2
            have y1 := (hbw.cell (p := ⟨w.heap.size + 1, 1, none⟩) hzs).trans hy3
            have y2 := (hbw.cell (p := ⟨w.heap.size + 1, 2, none⟩) hzs).trans hy4
            go_wp2
            (try simp only [Exit.inBlock, Exit.then])
            obtain ⟨u0, u1, u2⟩ := set3 (a := .slice A0' t.obs.length c0') (b := .slice A1' t.ent.length c1') (c := .slice A2' t.r.length c2') y0 y1 y2
            refine bodyPost_ret (res_table rfl rfl u0 u1 u2) rfl ?_
            have hm1 : w.heap.size + 1 < w2.heap.size := hzs
            have hF := ((hBu.far (j := 0) (u := .slice A0' t.obs.length c0') hm1 hnb).far (j := 1) (u := .slice A1' t.ent.length c1') hm1 hnb).far (j := 2) (u := .slice A2' t.r.length c2') hm1 hnb
            obtain ⟨A3, c3, hv3, hR3⟩ := owns_rows hF.own hF.rows
            rw [dimTo_length] at hv3
            cases hv3
            exact ⟨0, dimT t keep years.toNat, A0', A1', A2', c0', c1', c2', dim_ok ht ha, by simp only [dimT, dimTo_length]; rfl, ⟨hF.o.ints hF.sz, hF.e.ints hF.sz, hR3⟩,
              hal.trans (((((Below.refl _ _).trans hbw).mono (Nat.le_refl _) |>.mono hal.size).setCell (by simp) _ |>.setCell (by simp) _).setCell (by simp) _)⟩
    · go_enter Try.func39, Try.ntmps39
      go_wp2_with fail
      rw [HW.out, HW1.out]
      refine (rValidTable _ _ _ _ _ _ B _ _ hT.tab (by have := hT.lt; have := hT.sz; omega) hn).mono ?_
      rintro x w2 ⟨rfl, hb⟩
      have hz2 := (hb.frozen (p := ⟨w.heap.size + 1, 0, none⟩) hzs).trans z0
      have hz3 := (hb.frozen (p := ⟨w.heap.size + 1, 1, none⟩) hzs).trans z1
      have hz4 := (hb.frozen (p := ⟨w.heap.size + 1, 2, none⟩) hzs).trans z2
      have hy2 := (hb.cell (p := ⟨w.heap.size + 1, 0, none⟩) hzs).trans y0
      have hy3 := (hb.cell (p := ⟨w.heap.size + 1, 1, none⟩) hzs).trans y1
      have hy4 := (hb.cell (p := ⟨w.heap.size + 1, 2, none⟩) hzs).trans y2
      replace hal := hal.trans (hb.mono hal.size)
      replace hT := hT.below hb hT.sz
      replace hzs := Nat.lt_of_lt_of_le hzs hb.size
      clear q0 q1 q2 hb z0 z1 z2 y0 y1 y2
      obtain ⟨q0, q1, q2⟩ := And.intro hT.q0 (And.intro hT.q1 hT.q2)
      go_wp2_with fail
      refine (rAged 0 keep years _).mono ?_
      rintro e w' ⟨_, hr1, rfl⟩
      rw [hr1 (fun h => ha h.2.2)]
      clear hr1
      go_wp2_with fail
      (try simp only [Exit.inBlock, Exit.then])
      obtain ⟨x0, x1, x2⟩ := set3 (a := .slice none 0 0) (b := .slice none 0 0) (c := .slice none 0 0) hy2 hy3 hy4
      refine bodyPost_ret (res_table rfl rfl x0 x1 x2) rfl ?_
      exact ⟨2, noT, none, none, none, 0, 0, 0, dim_arg ht ha, rfl, noT_tab _ _, ((hal.setCell (by simp) _).setCell (by simp) _).setCell (by simp) _⟩
  · have j1 := tabB_f ht
    go_enter Try.func39, Try.ntmps39
    go_wp2_with fail
    rw [HW.out, HW1.out]
    refine (rValidTable _ _ _ _ _ _ B _ _ hT.tab (by have := hT.lt; have := hT.sz; omega) hn).mono ?_
    rintro x w2 ⟨rfl, hb⟩
    have hz2 := (hb.frozen (p := ⟨w.heap.size + 1, 0, none⟩) hzs).trans z0
    have hz3 := (hb.frozen (p := ⟨w.heap.size + 1, 1, none⟩) hzs).trans z1
    have hz4 := (hb.frozen (p := ⟨w.heap.size + 1, 2, none⟩) hzs).trans z2
    have hy2 := (hb.cell (p := ⟨w.heap.size + 1, 0, none⟩) hzs).trans y0
    have hy3 := (hb.cell (p := ⟨w.heap.size + 1, 1, none⟩) hzs).trans y1
    have hy4 := (hb.cell (p := ⟨w.heap.size + 1, 2, none⟩) hzs).trans y2
    replace hal := hal.trans (hb.mono hal.size)
    replace hT := hT.below hb hT.sz
    replace hzs := Nat.lt_of_lt_of_le hzs hb.size
    clear q0 q1 q2 hb z0 z1 z2 y0 y1 y2
    obtain ⟨q0, q1, q2⟩ := And.intro hT.q0 (And.intro hT.q1 hT.q2)
    go_wp2
    (try simp only [Exit.inBlock, Exit.then])
    obtain ⟨x0, x1, x2⟩ := set3 (a := .slice none 0 0) (b := .slice none 0 0) (c := .slice none 0 0) hy2 hy3 hy4
    refine bodyPost_ret (res_table rfl rfl x0 x1 x2) rfl ?_
    exact ⟨30, noT, none, none, none, 0, 0, 0, dim_bad ht, rfl, noT_tab _ _, ((hal.setCell (by simp) _).setCell (by simp) _).setCell (by simp) _⟩
end Go.Proofs.Ytihhfelhdgmceaa
