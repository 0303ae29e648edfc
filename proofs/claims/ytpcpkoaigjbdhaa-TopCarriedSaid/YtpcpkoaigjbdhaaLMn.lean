/- Contract of the program's Minus (44). -/
import Derived.Test.YtpcpkoaigjbdhaaMnP
import Derived.Test.YtpcpkoaigjbdhaaRMn
namespace Go.Proofs.Ytpcpkoaigjbdhaa
open Go.RowKit
theorem two_lists (w : World) {B B2 : Nat} {A A2 : Option Addr} {c c2 : Nat} {xs ys : List (Int × Int)} (h : Pairs w B A xs) (hB : B ≤ w.heap.size) (hn : xs.length ≤ 9223372036854775807) (h2 : Pairs w B2 A2 ys) (hB2 : B2 ≤ w.heap.size) (hn2 : ys.length ≤ 9223372036854775807) (T : TypeId) :
    LLs (w.alloc (.cells #[.slice A xs.length c, .slice A2 ys.length c2] T)) (w.alloc (.cells #[.slice A xs.length c, .slice A2 ys.length c2] T)).heap.size (some ⟨w.heap.size, 0, none⟩) [⟨A, c, xs⟩, ⟨A2, c2, ys⟩] := by
  refine ⟨w.heap.size, 0, rfl, by simp, fun j hj => ?_⟩
  have hj : j < 2 := hj
  have hP := (h.below ((Below.refl B w).alloc hB (.cells #[.slice A xs.length c, .slice A2 ys.length c2] T))).more (show B ≤ (w.alloc (.cells #[.slice A xs.length c, .slice A2 ys.length c2] T)).heap.size by simp; omega)
  have hP2 := (h2.below ((Below.refl B2 w).alloc hB2 (.cells #[.slice A xs.length c, .slice A2 ys.length c2] T))).more (show B2 ≤ (w.alloc (.cells #[.slice A xs.length c, .slice A2 ys.length c2] T)).heap.size by simp; omega)
  obtain rfl | rfl : j = 0 ∨ j = 1 := by omega
  · exact ⟨by simp [go_sem, lsAt], by simpa [lsAt] using hP, by simpa [lsAt] using hn⟩
  · exact ⟨by simp [go_sem, lsAt], by simpa [lsAt] using hP2, by simpa [lsAt] using hn2⟩
theorem two_iff {A A2 : Option Addr} {c c2 : Nat} {xs ys : List (Int × Int)} : (∀ j, j < [(⟨A, c, xs⟩ : LsE), ⟨A2, c2, ys⟩].length → LetL (lsAt [(⟨A, c, xs⟩ : LsE), ⟨A2, c2, ys⟩] j).xs) ↔ (LetL xs ∧ LetL ys) := by
  constructor
  · intro h; exact ⟨by simpa [lsAt] using h 0 (by simp), by simpa [lsAt] using h 1 (by simp)⟩
  · rintro ⟨h1, h2⟩ j hj
    have hj : j < 2 := hj
    obtain rfl | rfl : j = 0 ∨ j = 1 := by omega
    · simpa [lsAt] using h1
    · simpa [lsAt] using h2
theorem XBox.set0 {W : World} {n : Nat} {x : Int × Int} (h : XBox W n x) (v : Int) : XBox (W.setCell ⟨n, 0, none⟩ (.int .i64 v)) n (v, x.2) := by
  refine ⟨World.cell?_setCell_same _ _ _ h.p0, ?_, ?_, ?_, ?_⟩
  · rw [World.cell?_setCell_other _ _ _ _ (by intro e; injection e with _ e; cases e)]; exact h.p1
  · rw [World.frozen?_setCell]; exact h.z0
  · rw [World.frozen?_setCell]; exact h.z1
  · simpa [World.setCell] using h.pz
set_option maxRecDepth 100000 in
set_option maxHeartbeats 4000000 in
theorem lMinusF (A A2 : Option Addr) (c c2 B B2 : Nat) (a b : List (Int × Int)) (w : World) (h : Pairs w B A a) (hB : B ≤ w.heap.size) (hn : a.length ≤ 9223372036854775807) (h2 : Pairs w B2 A2 b) (hB2 : B2 ≤ w.heap.size) (hn2 : b.length ≤ 9223372036854775807) :
    Calls Try.prog 10 #[.slice A a.length c, .slice A2 b.length c2] w (MinRes a b w) := by
  have hL := two_lists w (c := c) (c2 := c2) h hB hn h2 hB2 hn2 36
  have hal := (Below.refl w.heap.size w).alloc (Nat.le_refl _) (.cells #[.slice A a.length c, .slice A2 b.length c2] 36)
  have hP1 := h.below (hal.mono hB)
  have hQ1 := h2.below (hal.mono hB2)
  obtain ⟨i0, hi, hz0, hz2, hz3⟩ := info_parts info26
  go_enter Try.func10, Try.ntmps10
  go_wp2_with fail
  refine (lvalidSpans (some ⟨w.heap.size, 0, none⟩) 2 _ [⟨A, c, a⟩, ⟨A2, c2, b⟩] _ hL (Nat.le_refl _) (by simp)).mono ?_
  rintro e w2 ⟨r1, r2, hb⟩
  have hal2 := hal.trans (hb.mono hal.size)
  have hP2 := hP1.below (hb.mono (Nat.le_trans hB hal.size))
  have hQ2 := hQ1.below (hb.mono (Nat.le_trans hB2 hal.size))
  by_cases ho : LetL a ∧ LetL b
  rotate_left
  · rw [r2 (fun hh => ho (two_iff.1 hh))]
    have HO := Lib.hid ho
    clear r1 r2 ho
    go_wp2
    go_ret2
    exact ⟨fun _ => rfl, fun hh => absurd hh HO.out, hal2⟩
  rw [r1 (two_iff.2 ho)]
  have HO := Lib.hid ho
  have hla := ho.1.2
  have hlb := ho.2.2
  clear r1 r2 ho hL hal hP1 hQ1 hb h h2
  go_wp2_with fail
  refine (lUnion A2 c2 B2 b w2 hQ2 (HO.out.2.inK.sm (by omega)) (by omega)).mono ?_
  rintro e w3 hu
  obtain ⟨hs, Ah, ch, n1, n2, n3, rfl, hPh, hb3⟩ := hu.norm HO.out.2.full
  have hal3 := hal2.trans (hb3.mono hal2.size)
  have hP3 := hP2.below (hb3.mono (Nat.le_trans hB hal2.size))
  clear hu hP2 hQ2
  go_wp2_with fail
  refine (lUnion A c B a w3 hP3 (HO.out.1.inK.sm (by omega)) (by omega)).mono ?_
  rintro e w4 hu
  obtain ⟨ls, Aa, ca, m1, m2, m3, rfl, hPa, hb4⟩ := hu.norm HO.out.1.full
  have hal4 := hal3.trans (hb4.mono hal3.size)
  have hPh4 := (hPh.below hb4).more hb4.size
  have N1 := Lib.hid n1
  have N2 := Lib.hid n2
  have M1 := Lib.hid m1
  have M2 := Lib.hid m2
  have hhl : hs.length ≤ 1000 := by omega
  have hll : ls.length ≤ 1000 := by omega
  have HOL : Hid (∀ k, k ≤ ls.length → (mnO ls hs k).length ≤ 1001000) := fun k hk => by
    have h1 := mnO_length ls hs k
    have h2 : k * (hs.length + 1) ≤ 1000 * 1001 := Nat.mul_le_mul (by omega) (by omega)
    omega
  clear hu hP3 hPh n1 n2 n3 m1 m2 m3 hb3 hb4 hal2 hal3
  go_wp2_with fail
  go_loopw [6, 22] (fun out iv wr => ∃ k : Nat, k ≤ ls.length ∧ iv = .int .i64 k ∧ wr.ownsRow w4.heap.size 26 2 out (mnO ls hs k).length (pcells (mnO ls hs k)) ∧ Below w4.heap.size w4 wr) (fun _ iv _ => ls.length - (intOf iv).toNat)
  case atStart => exact ⟨0, Nat.zero_le _, rfl, World.ownsRow_nil _ _ _ _, Below.refl _ _⟩
  case round =>
    obtain ⟨k, hk, rfl, hown, hbw⟩ := hrel
    have hbws := hbw.size
    have hol := HOL.out k hk
    by_cases hlt : k < ls.length
    · obtain ⟨ba, oa, rfl, hba, hc⟩ := (hPa.below hbw).at_ hlt
      obtain ⟨u0, u1⟩ := hc k hlt
      clear hc
      have HMO : Hid (mnO ls hs (k + 1) = mnO ls hs k ++ finM (atp ls k) (mnI hs (atp ls k) hs.length)) := Lib.hid rfl
      generalize hss : atp ls k = s at *
      clear hss
      generalize hLo : mnO ls hs k = Lo at *
      clear hLo
      have hbb : ba < wr.heap.size := by omega
      have hXB := XBox.new wr s 26
      have hba2 := hbw.alloc hbws (.cells #[.int .i64 s.1, .int .i64 s.2] 26)
      have hown1 := hown.alloc (.cells #[.int .i64 s.1, .int .i64 s.2] 26)
      have hne : ∀ g, u6.ownBlock = some g → g ≠ wr.heap.size := fun g hg => by have := (hown.lt g hg).2; omega
      have hn54 : w4.heap.size ≤ wr.heap.size := hbws
      go_wp2_with fail
      clear u0 u1 hbb hown hbw hbws hba
      generalize hn5 : wr.heap.size = n5 at *
      generalize wr.alloc (.cells #[.int .i64 s.1, .int .i64 s.2] 26) = w5 at *
      have hstart : Lo = Lo ++ (mnI hs s 0).nx := by simp [mnI]
      rw [hstart] at hown1
      obtain ⟨wo, rfl⟩ : ∃ wo : World, wo = wr := ⟨_, rfl⟩
      have HST : Hid (w5.ownsRow w4.heap.size 26 2 u6 (Lo ++ (mnI hs s 0).nx).length (pcells (Lo ++ (mnI hs s 0).nx)) ∧ (∀ g, u6.ownBlock = some g → g ≠ n5) ∧ XBox w5 n5 ((mnI hs s 0).x, s.2) ∧ Below w4.heap.size w4 w5) := ⟨hown1, hne, hXB, hba2⟩
      clear hown1 hne hXB hba2 hstart hn5
      go_loopw [6, 28] (fun out jv wr => ∃ j : Nat, j ≤ hs.length ∧ jv = .int .i64 j ∧ wr.ownsRow w4.heap.size 26 2 out (Lo ++ (mnI hs s j).nx).length (pcells (Lo ++ (mnI hs s j).nx)) ∧ (∀ g, out.ownBlock = some g → g ≠ n5) ∧ XBox wr n5 ((mnI hs s j).x, s.2) ∧ Below w4.heap.size w4 wr) (fun _ jv _ => hs.length - (intOf jv).toNat)
      case atStart => exact ⟨0, Nat.zero_le _, rfl, HST.out.1, HST.out.2.1, HST.out.2.2.1, HST.out.2.2.2⟩
      case round =>
        clear HST
        obtain ⟨j, hj, rfl, hown, hne, hX, hbw⟩ := hrel
        have hbws := hbw.size
        have hml := mnI_length hs s j
        have HSTEP : Hid (mnI hs s (j + 1) = stepM s (mnI hs s j) (atp hs j)) := Lib.hid rfl
        by_cases hltj : j < hs.length
        · obtain ⟨bh, oh, rfl, hbh, hc⟩ := (hPh4.below hbw).at_ hltj
          obtain ⟨y1, y2⟩ := hc j hltj
          clear hc
          have hbb : bh < wr.heap.size := by omega
          generalize mnI hs s j = st at *
          generalize atp hs j = y at *
          obtain ⟨x, nx⟩ := st
          (try simp only at *)
          obtain ⟨p0, p1, z0, z1, pz⟩ := id hX
          (try simp only at p0 p1 z0 z1)
          have hlen : (Lo ++ nx).length ≤ 1003000 := by rw [List.length_append]; omega
          have hown1 := hown.alloc (.cells #[.int .i64 y.1, .int .i64 y.2] 26)
          have hbx1 := hbw.alloc hbws (.cells #[.int .i64 y.1, .int .i64 y.2] 26)
          have hX1 := hX.below ((Below.refl wr.heap.size wr).alloc (Nat.le_refl _) (.cells #[.int .i64 y.1, .int .i64 y.2] 26)) pz
          by_cases t1a : y.2 ≤ x
          · have HS : Hid (mnI hs s (j + 1) = ⟨x, nx⟩) := by refine Lib.hid ?_; rw [HSTEP.out]; simp only [stepM]; rw [if_pos (.inl t1a)]
            go_wp2_with fail
            exact ⟨⟨j + 1, by omega, by go_num, by rw [HS.out]; exact hown1, hne, by rw [HS.out]; exact hX1, hbx1⟩, by simp [intOf]; omega⟩
          by_cases t1b : s.2 ≤ y.1
          · have HS : Hid (mnI hs s (j + 1) = ⟨x, nx⟩) := by refine Lib.hid ?_; rw [HSTEP.out]; simp only [stepM]; rw [if_pos (.inr t1b)]
            go_wp2_with fail
            exact ⟨⟨j + 1, by omega, by go_num, by rw [HS.out]; exact hown1, hne, by rw [HS.out]; exact hX1, hbx1⟩, by simp [intOf]; omega⟩
          by_cases t2 : x < y.1
          · have HS : Hid (mnI hs s (j + 1) = ⟨y.2, nx ++ [(x, y.1)]⟩) := by refine Lib.hid ?_; rw [HSTEP.out]; simp only [stepM]; rw [if_neg (by omega), if_pos t2]
            go_wp2_with (first
                          | (at_builtin; refine wpList_append_lies _ ?_ (.tmp 49) (.tmp 55) 36 ?_ w4.heap.size 26 i0 (.agg #[.int .i64 0, .int .i64 0]) 2 16 Try.underlying36 hi hz0 hz2 hz3 ?_ ?_ u6 (Lo ++ nx).length (pcells (Lo ++ nx)) ?_ ?_ ⟨wr.heap.size + 1, 0, none⟩ 1 1 [.int .i64 x, .int .i64 y.1] ?_ ?_ ?_ ?_ ?_ ?_ ?_ ?_ (wr.heap.size + 2) ?_ ?_; (solve | (rfl)); (solve | (rfl)); (solve | (rfl)); (solve | (decide)); (solve | (rfl)); (solve | (exact owns_new (t := 26) (cs := #[_, _]) hown1 (by first | exact .inl rfl | exact .inr (.inl rfl) | exact .inr (.inr rfl)))); (solve | (rfl)); (solve | (rfl)); (solve | (exact newH (t := 26) (cs := #[_, _]) (w := wr.alloc _) (by first | exact .inl rfl | exact .inr (.inl rfl) | exact .inr (.inr rfl)) (by first | rfl | simp))); (solve | ((intro u hu; simp only [List.mem_cons, List.not_mem_nil, or_false] at hu; rcases hu with rfl | rfl <;> rfl))); (solve | (omega)); (solve | ((unfold maxLen; omega))); (solve | (omega)); (solve | ((simp; omega))); (solve | ((simp; done))); (intro g3 cap3 w6 hown3 hgrow hat hg3; have n7 : w6.cell? ⟨wr.heap.size, 1, none⟩ = some (.int .i64 y.2) := (hgrow.cell_far ⟨wr.heap.size, 1, none⟩ (by first | (simp; done) | (simp; omega)) (fun e => Nat.lt_irrefl _ (hown.lt _ e.symm).2)).trans (by simp [go_sem]); have hX6 : XBox w6 n5 (x, s.2) := (hX1.below ((Below.refl (wr.alloc (.cells #[.int .i64 y.1, .int .i64 y.2] 26)).heap.size _).alloc (Nat.le_refl _) _) hX1.pz).grown hgrow (fun e => hne n5 e.symm rfl); have q0 : w6.cell? ⟨n5, 0, none⟩ = some (.int .i64 x) := hX6.p0; have q2 : w6.frozen? ⟨n5, 0, none⟩ = false := hX6.z0))
                          | fail)
            have hown6 : w6.ownsRow w4.heap.size 26 2 (.slice (some ⟨g3, 0, none⟩) ((Lo ++ nx).length + 1) cap3) (Lo ++ (nx ++ [(x, y.1)])).length (pcells (Lo ++ (nx ++ [(x, y.1)]))) := by
              rw [← List.append_assoc, pcells_append _ [_], List.length_append (bs := [_])]
              exact hown3
            have hle : (Lo ++ nx).length = Lo.length + nx.length := List.length_append
            rw [hle] at hown6
            have hne6 : ∀ g, (Value.slice (some ⟨g3, 0, none⟩) (Lo.length + nx.length + 1) cap3).ownBlock = some g → g ≠ n5 := by
              intro g hg
              have e : g3 = g := by simpa [Value.ownBlock] using hg
              subst e
              rcases hat with h | h
              · exact hne _ h
              · have := hX.pz; omega
            have hown7 := ownsRow_setCell_other hown6 (a := ⟨n5, 0, none⟩) (fun e => hne6 _ e rfl) (.int .i64 y.2)
            have hX7 := hX6.set0 y.2
            have hb6 : Below w4.heap.size w4 w6 := app_below (w := wr.alloc _) (t := 26) (cs := #[_, _]) (.inl rfl) hbx1 hbx1.size hown1 hgrow
            have hb7 := Below.setCell hb6 (p := ⟨n5, 0, none⟩) hn54 (.int .i64 y.2)
            exact ⟨⟨j + 1, by omega, by go_num, by rw [HS.out]; exact hown7, hne6, by rw [HS.out]; exact hX7, hb7⟩, by simp [intOf]; omega⟩
          · have HS : Hid (mnI hs s (j + 1) = ⟨y.2, nx⟩) := by refine Lib.hid ?_; rw [HSTEP.out]; simp only [stepM]; rw [if_neg (by omega), if_neg t2]
            go_wp2_with fail
            have hown6 := (ownsRow_setCell_other hown (a := ⟨n5, 0, none⟩) (fun e => hne _ e rfl) (.int .i64 y.2)).alloc (.cells #[.int .i64 y.1, .int .i64 y.2] 26)
            have hX5 := hX.set0 y.2
            have hX6 := hX5.below ((Below.refl (wr.setCell ⟨n5, 0, none⟩ (.int .i64 y.2)).heap.size (wr.setCell ⟨n5, 0, none⟩ (.int .i64 y.2))).alloc (Nat.le_refl _) (.cells #[.int .i64 y.1, .int .i64 y.2] 26)) hX5.pz
            have hb6 : Below w4.heap.size w4 ((wr.setCell ⟨n5, 0, none⟩ (.int .i64 y.2)).alloc (.cells #[.int .i64 y.1, .int .i64 y.2] 26)) := (Below.setCell hbw (p := ⟨n5, 0, none⟩) hn54 (.int .i64 y.2)).alloc (by simpa [World.setCell] using hbws) _
            exact ⟨⟨j + 1, by omega, by go_num, by rw [HS.out]; exact hown6, hne, by rw [HS.out]; exact hX6, hb6⟩, by simp [intOf]; omega⟩
        · obtain rfl : j = hs.length := by omega
          generalize mnI hs s hs.length = st at *
          obtain ⟨x, nx⟩ := st
          (try simp only at *)
          obtain ⟨p0, p1, z0, z1, pz⟩ := id hX
          (try simp only at p0 p1 z0 z1)
          have hlen : (Lo ++ nx).length ≤ 1003000 := by rw [List.length_append]; omega
          by_cases t : x < s.2
          · have HF : Hid (mnO ls hs (k + 1) = (Lo ++ nx) ++ [(x, s.2)]) := by refine Lib.hid ?_; rw [HMO.out]; simp only [finM]; rw [if_pos t, List.append_assoc]
            go_wp2_with (first
                          | (at_builtin; refine wpList_append_lies _ ?_ (.tmp 66) (.tmp 68) 36 ?_ w4.heap.size 26 i0 (.agg #[.int .i64 0, .int .i64 0]) 2 16 Try.underlying36 hi hz0 hz2 hz3 ?_ ?_ u6 (Lo ++ nx).length (pcells (Lo ++ nx)) ?_ ?_ ⟨wr.heap.size, 0, none⟩ 1 1 [.int .i64 x, .int .i64 s.2] ?_ ?_ ?_ ?_ ?_ ?_ ?_ ?_ (wr.heap.size + 1) ?_ ?_; (solve | (rfl)); (solve | (rfl)); (solve | (rfl)); (solve | (decide)); (solve | (rfl)); (solve | (exact owns_new (t := 26) (cs := #[_, _]) hown (by first | exact .inl rfl | exact .inr (.inl rfl) | exact .inr (.inr rfl)))); (solve | (rfl)); (solve | (rfl)); (solve | (exact newH (t := 26) (cs := #[_, _]) (w := wr) (by first | exact .inl rfl | exact .inr (.inl rfl) | exact .inr (.inr rfl)) (by first | rfl | simp))); (solve | ((intro u hu; simp only [List.mem_cons, List.not_mem_nil, or_false] at hu; rcases hu with rfl | rfl <;> rfl))); (solve | (omega)); (solve | ((unfold maxLen; omega))); (solve | (omega)); (solve | ((simp; omega))); (solve | ((simp; done))); (intro g3 cap3 w6 hown3 hgrow hat hg3))
                          | fail)
            have hown6 : w6.ownsRow w4.heap.size 26 2 (.slice (some ⟨g3, 0, none⟩) ((Lo ++ nx).length + 1) cap3) ((Lo ++ nx) ++ [(x, s.2)]).length (pcells ((Lo ++ nx) ++ [(x, s.2)])) := by
              rw [pcells_append _ [_], List.length_append (bs := [_])]
              exact hown3
            have hle : (Lo ++ nx).length = Lo.length + nx.length := List.length_append
            rw [← HF.out, hle] at hown6
            have hb6 : Below w4.heap.size w4 w6 := app_below (w := wr) (t := 26) (cs := #[_, _]) (.inl rfl) hbw hbw.size hown hgrow
            exact ⟨⟨k + 1, by omega, by go_num, hown6, hb6⟩, by simp [intOf]; omega⟩
          · have HF : Hid (mnO ls hs (k + 1) = Lo ++ nx) := by refine Lib.hid ?_; rw [HMO.out]; simp only [finM]; rw [if_neg t]
            go_wp2_with fail
            exact ⟨⟨k + 1, by omega, by go_num, by rw [HF.out]; exact hown, hbw⟩, by simp [intOf]; omega⟩
    · obtain rfl : k = ls.length := by omega
      obtain ⟨_, A', c', rfl, hPp⟩ := owns_pairs hown
      have hbf := hal4.trans (hbw.mono hal4.size)
      obtain ⟨g1, _, g2⟩ := mnO_inv M1.out N1.out ls.length (Nat.le_refl _)
      have hset : ∀ c, InS (mnO ls hs ls.length) c ↔ (InS a c ∧ ¬ InS b c) := fun c => by rw [g2 c, inTo_all, M2.out c, N2.out c]
      have G1 := Lib.hid g1
      have G2 := Lib.hid hset
      clear g1 g2 hset
      go_wp2
      go_ret2
      exact ⟨fun hh => absurd HO.out hh, fun _ => ⟨_, A', c', G1.out, G2.out, by omega, rfl, hPp⟩, hbf⟩
end Go.Proofs.Ytpcpkoaigjbdhaa

