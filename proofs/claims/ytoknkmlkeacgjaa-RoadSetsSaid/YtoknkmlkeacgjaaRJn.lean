/- Contract of the reference's Joined (71), as a plain function. -/
import Derived.Test.YtoknkmlkeacgjaaNrm
import Derived.OneCell
namespace Go.Proofs.Ytoknkmlkeacgjaa
open Go.RowKit
/-- The state of the inner loop: the stretch, the next list, and whether it has been placed. -/
structure JSt where
  x : Int × Int
  nx : List (Int × Int)
  pl : Bool
def stepI (st : JSt) (y : Int × Int) : JSt :=
  if y.2 < st.x.1 then ⟨st.x, st.nx ++ [y], st.pl⟩ else if st.x.2 < y.1 then ⟨st.x, (if st.pl = true then st.nx else st.nx ++ [st.x]) ++ [y], true⟩ else ⟨(min st.x.1 y.1, max st.x.2 y.2), st.nx, st.pl⟩
def insTo (o : List (Int × Int)) (x : Int × Int) : Nat → JSt
  | 0 => ⟨x, [], false⟩
  | j + 1 => stepI (insTo o x j) (atp o j)
def finJ (st : JSt) : List (Int × Int) := if st.pl = true then st.nx else st.nx ++ [st.x]
def jnTo (xs : List (Int × Int)) : Nat → List (Int × Int)
  | 0 => []
  | k + 1 => finJ (insTo (jnTo xs k) (atp xs k) (jnTo xs k).length)
theorem insTo_length (o : List (Int × Int)) (x : Int × Int) : ∀ j, (insTo o x j).nx.length + (if (insTo o x j).pl = true then 0 else 1) ≤ j + 1
  | 0 => by simp [insTo]
  | j + 1 => by
    have ih := insTo_length o x j
    have hs : insTo o x (j + 1) = stepI (insTo o x j) (atp o j) := rfl
    rw [hs]
    generalize insTo o x j = st at ih ⊢
    generalize atp o j = y
    obtain ⟨x', nx, pl⟩ := st
    unfold stepI
    by_cases h1 : y.2 < x'.1
    · cases pl <;> simp [h1] at ih ⊢ <;> omega
    · by_cases h2 : x'.2 < y.1
      · cases pl <;> simp [h1, h2] at ih ⊢ <;> omega
      · cases pl <;> simp [h1, h2] at ih ⊢ <;> omega
theorem jnTo_length (xs : List (Int × Int)) : ∀ k, (jnTo xs k).length ≤ k
  | 0 => Nat.le_refl _
  | k + 1 => by
    have ih := jnTo_length xs k
    have h := insTo_length (jnTo xs k) (atp xs k) (jnTo xs k).length
    simp only [jnTo, finJ]
    generalize insTo (jnTo xs k) (atp xs k) (jnTo xs k).length = st at *
    obtain ⟨x', nx, pl⟩ := st
    cases pl <;> simp at h ⊢ <;> omega
def JnRes (xs : List (Int × Int)) (w : World) (e : Ending) (w' : World) : Prop :=
  ∃ (A' : Option Addr) (c' : Nat), e = .returned (.slice A' (jnTo xs xs.length).length c') ∧ Pairs w' w'.heap.size A' (jnTo xs xs.length) ∧ Below w.heap.size w w'
/-- The two cells of a stretch that may be written. -/
structure XBox (W : World) (n : Nat) (x : Int × Int) : Prop where
  p0 : W.cell? ⟨n, 0, none⟩ = some (.int .i64 x.1)
  p1 : W.cell? ⟨n, 1, none⟩ = some (.int .i64 x.2)
  z0 : W.frozen? ⟨n, 0, none⟩ = false
  z1 : W.frozen? ⟨n, 1, none⟩ = false
  pz : n < W.heap.size
theorem XBox.below {W W' : World} {n C : Nat} {x : Int × Int} (h : XBox W n x) (hb : Below C W W') (hC : n < C) : XBox W' n x :=
  ⟨(hb.cell (p := ⟨n, 0, none⟩) hC).trans h.p0, (hb.cell (p := ⟨n, 1, none⟩) hC).trans h.p1, (hb.frozen (p := ⟨n, 0, none⟩) hC).trans h.z0, (hb.frozen (p := ⟨n, 1, none⟩) hC).trans h.z1, Nat.lt_of_lt_of_le h.pz hb.size⟩
theorem XBox.new (w : World) (x : Int × Int) (T : TypeId) : XBox (w.alloc (.cells #[.int .i64 x.1, .int .i64 x.2] T)) w.heap.size x :=
  ⟨by simp [go_sem], by simp [go_sem], by simp [go_sem], by simp [go_sem], by simp⟩
theorem XBox.grown {W W' : World} {n : Nat} {x : Int × Int} {row : Option Nat} (h : XBox W n x) (hg : W.grownBy W' row) (hne : some n ≠ row) : XBox W' n x :=
  ⟨(hg.cell_far ⟨n, 0, none⟩ h.pz hne).trans h.p0, (hg.cell_far ⟨n, 1, none⟩ h.pz hne).trans h.p1, (hg.frozen_far ⟨n, 0, none⟩ h.pz hne).trans h.z0, (hg.frozen_far ⟨n, 1, none⟩ h.pz hne).trans h.z1, Nat.lt_of_lt_of_le h.pz hg.size⟩
theorem XBox.put {W : World} {n : Nat} {x : Int × Int} (h : XBox W n x) (y : Int × Int) (o : Obj) : XBox (((W.setCell ⟨n, 0, none⟩ (.int .i64 y.1)).setCell ⟨n, 1, none⟩ (.int .i64 y.2)).alloc o) n y := by
  have h1 : XBox ((W.setCell ⟨n, 0, none⟩ (.int .i64 y.1)).setCell ⟨n, 1, none⟩ (.int .i64 y.2)) n y := by
    refine ⟨?_, ?_, ?_, ?_, ?_⟩
    · rw [World.cell?_setCell_other _ _ _ _ (by intro e; injection e with _ e; cases e)]
      exact World.cell?_setCell_same _ _ _ h.p0
    · exact World.cell?_setCell_same _ _ _ ((World.cell?_setCell_other _ _ _ _ (by intro e; injection e with _ e; cases e)).trans h.p1)
    · rw [World.frozen?_setCell, World.frozen?_setCell]; exact h.z0
    · rw [World.frozen?_setCell, World.frozen?_setCell]; exact h.z1
    · simpa [World.setCell] using h.pz
  exact h1.below ((Below.refl _ _).alloc (Nat.le_refl _) o) h1.pz
set_option maxRecDepth 100000 in
set_option maxHeartbeats 4000000 in
theorem rJoined (A : Option Addr) (c B : Nat) (xs : List (Int × Int)) (w : World) (h : Pairs w B A xs) (hB : B ≤ w.heap.size) (hn : xs.length ≤ 10000000) :
    Calls Try.prog 71 #[.slice A xs.length c] w (JnRes xs w) := by
  obtain ⟨i0, hi, hz0, hz2, hz3⟩ := info_parts info33
  obtain ⟨w2, rfl⟩ : ∃ w2 : World, w2 = w := ⟨_, rfl⟩
  go_enter Try.func71, Try.ntmps71
  go_wp2_with fail
  go_loopw [3, 4] (fun out iv wr => ∃ (k : Nat) (A1 : Option Addr) (c1 : Nat), k ≤ xs.length ∧ iv = .int .i64 k ∧ out = .slice A1 (jnTo xs k).length c1 ∧ Pairs wr wr.heap.size A1 (jnTo xs k) ∧ Below w2.heap.size w2 wr) (fun _ iv _ => xs.length - (intOf iv).toNat)
  case atStart => exact ⟨0, none, 0, Nat.zero_le _, rfl, rfl, .inl rfl, Below.refl _ _⟩
  case round =>
    obtain ⟨k, A1, c1, hk, rfl, rfl, hP, hb⟩ := hrel
    have hbs := hb.size
    by_cases hlt : k < xs.length
    · obtain ⟨b, o, rfl, hbl, hc⟩ := (h.below (hb.mono hB)).at_ hlt
      obtain ⟨x1, x2⟩ := hc k hlt
      clear hc
      have hbw : b < wr.heap.size := by omega
      have hjl := jnTo_length xs k
      have HJN : Hid (jnTo xs (k + 1) = finJ (insTo (jnTo xs k) (atp xs k) (jnTo xs k).length)) := Lib.hid rfl
      generalize hoo : jnTo xs k = oo at *
      clear hoo
      generalize hx0 : atp xs k = x0 at *
      clear hx0
      have hXB := XBox.new wr x0 33
      have hba := hb.alloc hbs (.cells #[.int .i64 x0.1, .int .i64 x0.2] 33)
      have hbn := (Below.refl wr.heap.size wr).alloc (Nat.le_refl _) (.cells #[.int .i64 x0.1, .int .i64 x0.2] 33)
      have hz4 : (wr.alloc (.cells #[.int .i64 x0.1, .int .i64 x0.2] 33)).heap.size = wr.heap.size + 1 := by simp
      go_wp2_with fail
      clear x1 x2
      generalize wr.alloc (.cells #[.int .i64 x0.1, .int .i64 x0.2] 33) = w4 at *
      obtain ⟨wo, rfl⟩ : ∃ wo : World, wo = wr := ⟨_, rfl⟩
      generalize hn5 : wo.heap.size = n5 at *
      go_loopw [6, 7, 8] (fun nx pl jv wr => ∃ j : Nat, j ≤ oo.length ∧ jv = .int .i64 j ∧ pl = .bool (insTo oo x0 j).pl ∧ wr.ownsRow (n5 + 1) 33 2 nx (insTo oo x0 j).nx.length (pcells (insTo oo x0 j).nx) ∧ XBox wr n5 (insTo oo x0 j).x ∧ Below n5 w4 wr) (fun _ _ jv _ => oo.length - (intOf jv).toNat)
      case atStart => exact ⟨0, Nat.zero_le _, rfl, rfl, World.ownsRow_nil _ _ _ _, hXB, Below.refl _ _⟩
      case round =>
        obtain ⟨j, hj, rfl, rfl, hown, hX, hbx⟩ := hrel
        have hbxs := hbx.size
        have hil := insTo_length oo x0 j
        have HSTEP : Hid (insTo oo x0 (j + 1) = stepI (insTo oo x0 j) (atp oo j)) := Lib.hid rfl
        by_cases hltj : j < oo.length
        · obtain ⟨b', o', rfl, hbl', hc⟩ := ((hP.below hbn).below hbx).at_ hltj
          obtain ⟨y1, y2⟩ := hc j hltj
          clear hc
          have hbw' : b' < wr.heap.size := by omega
          generalize hst : insTo oo x0 j = st at *
          clear hst
          generalize hy : atp oo j = y at *
          clear hy
          obtain ⟨x, nx, pl⟩ := st
          simp only at *
          obtain ⟨p0, p1, z0, z1, pz⟩ := id hX
          have hnl : nx.length ≤ 10000001 := by cases pl <;> simp at hil <;> omega
          have hown1 := hown.alloc (.cells #[.int .i64 y.1, .int .i64 y.2] 33)
          have hbx1 := hbx.alloc (by omega) (.cells #[.int .i64 y.1, .int .i64 y.2] 33)
          have hX1 := hX.below ((Below.refl wr.heap.size wr).alloc (Nat.le_refl _) (.cells #[.int .i64 y.1, .int .i64 y.2] 33)) pz
          by_cases t1 : y.2 < x.1
          · have HS : Hid (insTo oo x0 (j + 1) = ⟨x, nx ++ [y], pl⟩) := by refine Lib.hid ?_; rw [HSTEP.out]; simp only [stepI]; rw [if_pos t1]
            go_wp2_with (first
                          | (at_builtin; refine wpList_append_lies _ ?_ (.tmp 47) (.tmp 49) 34 ?_ (n5 + 1) 33 i0 (.agg #[.int .i64 0, .int .i64 0]) 2 16 Try.underlying34 hi hz0 hz2 hz3 ?_ ?_ u6 nx.length (pcells nx) ?_ ?_ ⟨wr.heap.size + 1, 0, none⟩ 1 1 [.int .i64 y.1, .int .i64 y.2] ?_ ?_ ?_ ?_ ?_ ?_ ?_ ?_ (wr.heap.size + 2) ?_ ?_; (solve | (rfl)); (solve | (rfl)); (solve | (rfl)); (solve | (decide)); (solve | (rfl)); (solve | (exact owns_new (t := 33) (cs := #[_, _]) hown1 (by first | exact .inl rfl | exact .inr (.inl rfl) | exact .inr (.inr rfl)))); (solve | (rfl)); (solve | (rfl)); (solve | (exact newH (t := 33) (cs := #[_, _]) (w := wr.alloc _) (by first | exact .inl rfl | exact .inr (.inl rfl) | exact .inr (.inr rfl)) (by simp))); (solve | ((intro u hu; simp only [List.mem_cons, List.not_mem_nil, or_false] at hu; rcases hu with rfl | rfl <;> rfl))); (solve | (omega)); (solve | ((unfold maxLen; omega))); (solve | (omega)); (solve | ((simp; omega))); (solve | ((simp; done))); (intro g3 cap3 w6 hown3 hgrow hat hg3))
                          | fail)
            have hX6 : XBox w6 n5 x := (hX1.below ((Below.refl (wr.alloc (.cells #[.int .i64 y.1, .int .i64 y.2] 33)).heap.size _).alloc (Nat.le_refl _) _) hX1.pz).grown hgrow (fun e => by have := (hown.lt n5 e.symm).1; omega)
            have hb6 : Below n5 w4 w6 := (hbx1.alloc (by simp; omega) _).grown hgrow (by simp; omega) (fun g hg => by have := (hown.lt g hg).1; omega)
            have hown6 : w6.ownsRow (n5 + 1) 33 2 (.slice (some ⟨g3, 0, none⟩) (nx.length + 1) cap3) (nx ++ [y]).length (pcells (nx ++ [y])) := by
              rw [pcells_append _ [_], List.length_append (bs := [_])]
              exact hown3
            exact ⟨⟨j + 1, by omega, by go_num, by rw [HS.out], by rw [HS.out]; exact hown6, by rw [HS.out]; exact hX6, hb6⟩, by simp [intOf]; omega⟩
          · by_cases t2 : x.2 < y.1
            · cases pl with
              | true =>
                have HS : Hid (insTo oo x0 (j + 1) = ⟨x, nx ++ [y], true⟩) := by refine Lib.hid ?_; rw [HSTEP.out]; simp only [stepI]; rw [if_neg t1, if_pos t2]; rfl
                go_wp2_with (first
                              | (at_builtin; refine wpList_append_lies _ ?_ (.tmp 63) (.tmp 65) 34 ?_ (n5 + 1) 33 i0 (.agg #[.int .i64 0, .int .i64 0]) 2 16 Try.underlying34 hi hz0 hz2 hz3 ?_ ?_ u6 nx.length (pcells nx) ?_ ?_ ⟨wr.heap.size + 1, 0, none⟩ 1 1 [.int .i64 y.1, .int .i64 y.2] ?_ ?_ ?_ ?_ ?_ ?_ ?_ ?_ (wr.heap.size + 2) ?_ ?_; (solve | (rfl)); (solve | (rfl)); (solve | (rfl)); (solve | (decide)); (solve | (rfl)); (solve | (exact owns_new (t := 33) (cs := #[_, _]) hown1 (by first | exact .inl rfl | exact .inr (.inl rfl) | exact .inr (.inr rfl)))); (solve | (rfl)); (solve | (rfl)); (solve | (exact newH (t := 33) (cs := #[_, _]) (w := wr.alloc _) (by first | exact .inl rfl | exact .inr (.inl rfl) | exact .inr (.inr rfl)) (by simp))); (solve | ((intro u hu; simp only [List.mem_cons, List.not_mem_nil, or_false] at hu; rcases hu with rfl | rfl <;> rfl))); (solve | (omega)); (solve | ((unfold maxLen; omega))); (solve | (omega)); (solve | ((simp; omega))); (solve | ((simp; done))); (intro g3 cap3 w6 hown3 hgrow hat hg3))
                              | fail)
                have hX6 : XBox w6 n5 x := (hX1.below ((Below.refl (wr.alloc (.cells #[.int .i64 y.1, .int .i64 y.2] 33)).heap.size _).alloc (Nat.le_refl _) _) hX1.pz).grown hgrow (fun e => by have := (hown.lt n5 e.symm).1; omega)
                have hb6 : Below n5 w4 w6 := (hbx1.alloc (by simp; omega) _).grown hgrow (by simp; omega) (fun g hg => by have := (hown.lt g hg).1; omega)
                have hown6 : w6.ownsRow (n5 + 1) 33 2 (.slice (some ⟨g3, 0, none⟩) (nx.length + 1) cap3) (nx ++ [y]).length (pcells (nx ++ [y])) := by
                  rw [pcells_append _ [_], List.length_append (bs := [_])]
                  exact hown3
                exact ⟨⟨j + 1, by omega, by go_num, by rw [HS.out], by rw [HS.out]; exact hown6, by rw [HS.out]; exact hX6, hb6⟩, by simp [intOf]; omega⟩
              | false =>
                have HS : Hid (insTo oo x0 (j + 1) = ⟨x, (nx ++ [x]) ++ [y], true⟩) := by refine Lib.hid ?_; rw [HSTEP.out]; simp only [stepI]; rw [if_neg t1, if_pos t2]; rfl
                go_wp2_with (first
                              | (at_builtin; refine wpList_append_lies _ ?_ (.tmp 59) (.tmp 61) 34 ?_ (n5 + 1) 33 i0 (.agg #[.int .i64 0, .int .i64 0]) 2 16 Try.underlying34 hi hz0 hz2 hz3 ?_ ?_ u6 nx.length (pcells nx) ?_ ?_ ⟨wr.heap.size + 1, 0, none⟩ 1 1 [.int .i64 x.1, .int .i64 x.2] ?_ ?_ ?_ ?_ ?_ ?_ ?_ ?_ (wr.heap.size + 2) ?_ ?_; (solve | (rfl)); (solve | (rfl)); (solve | (rfl)); (solve | (decide)); (solve | (rfl)); (solve | (exact owns_new (t := 33) (cs := #[_, _]) hown1 (by first | exact .inl rfl | exact .inr (.inl rfl) | exact .inr (.inr rfl)))); (solve | (rfl)); (solve | (rfl)); (solve | (exact newH (t := 33) (cs := #[_, _]) (w := wr.alloc _) (by first | exact .inl rfl | exact .inr (.inl rfl) | exact .inr (.inr rfl)) (by simp))); (solve | ((intro u hu; simp only [List.mem_cons, List.not_mem_nil, or_false] at hu; rcases hu with rfl | rfl <;> rfl))); (solve | (omega)); (solve | ((unfold maxLen; omega))); (solve | (omega)); (solve | ((simp; omega))); (solve | ((simp; done))); (intro g3 cap3 w6 hown3 hgrow hat hg3; have n7 : w6.cell? ⟨wr.heap.size, 0, none⟩ = some (.int .i64 y.1) := (hgrow.cell_far ⟨wr.heap.size, 0, none⟩ (by first | (simp; done) | (simp; omega)) (fun e => Nat.lt_irrefl _ (hown.lt _ e.symm).2)).trans (by simp [go_sem]); have n8 : w6.cell? ⟨wr.heap.size, 1, none⟩ = some (.int .i64 y.2) := (hgrow.cell_far ⟨wr.heap.size, 1, none⟩ (by first | (simp; done) | (simp; omega)) (fun e => Nat.lt_irrefl _ (hown.lt _ e.symm).2)).trans (by simp [go_sem]); have hw6s : wr.heap.size + 2 ≤ w6.heap.size := Nat.le_trans (by simp) hgrow.size))
                              | (at_builtin; refine wpList_append_lies _ ?_ (.tmp 63) (.tmp 65) 34 ?_ (n5 + 1) 33 i0 (.agg #[.int .i64 0, .int .i64 0]) 2 16 Try.underlying34 hi hz0 hz2 hz3 ?_ ?_ (.slice (some ⟨g3, 0, none⟩) (nx.length + 1) cap3) (nx.length + 1) (pcells nx ++ [.int .i64 x.1, .int .i64 x.2]) ?_ ?_ ⟨w6.heap.size, 0, none⟩ 1 1 [.int .i64 y.1, .int .i64 y.2] ?_ ?_ ?_ ?_ ?_ ?_ ?_ ?_ (w6.heap.size + 1) ?_ ?_; (solve | (rfl)); (solve | (rfl)); (solve | (rfl)); (solve | (decide)); (solve | (rfl)); (solve | (exact owns_new (t := 33) (cs := #[_, _]) hown3 (by first | exact .inl rfl | exact .inr (.inl rfl) | exact .inr (.inr rfl)))); (solve | (rfl)); (solve | (rfl)); (solve | (exact newH (t := 33) (cs := #[_, _]) (w := w6) (by first | exact .inl rfl | exact .inr (.inl rfl) | exact .inr (.inr rfl)) rfl)); (solve | ((intro u hu; simp only [List.mem_cons, List.not_mem_nil, or_false] at hu; rcases hu with rfl | rfl <;> rfl))); (solve | (omega)); (solve | ((unfold maxLen; omega))); (solve | (omega)); (solve | ((simp; omega))); (solve | ((simp; done))); (intro g4 cap4 w8 hown8 hgrow8 hat8 hg8))
                              | fail)
                have hX6 : XBox w6 n5 x := (hX1.below ((Below.refl (wr.alloc (.cells #[.int .i64 y.1, .int .i64 y.2] 33)).heap.size _).alloc (Nat.le_refl _) _) hX1.pz).grown hgrow (fun e => by have := (hown.lt n5 e.symm).1; omega)
                have hb6 : Below n5 w4 w6 := (hbx1.alloc (by simp; omega) _).grown hgrow (by simp; omega) (fun g hg => by have := (hown.lt g hg).1; omega)
                have hX8 : XBox w8 n5 x := (hX6.below ((Below.refl w6.heap.size _).alloc (Nat.le_refl _) _) hX6.pz).grown hgrow8 (fun e => by have := (hown3.lt n5 e.symm).1; omega)
                have hb8 : Below n5 w4 w8 := (hb6.alloc (by omega) _).grown hgrow8 (by simp; omega) (fun g hg => by have := (hown3.lt g hg).1; omega)
                have hown9 : w8.ownsRow (n5 + 1) 33 2 (.slice (some ⟨g4, 0, none⟩) (nx.length + 1 + 1) cap4) ((nx ++ [x]) ++ [y]).length (pcells ((nx ++ [x]) ++ [y])) := by
                  rw [pcells_append _ [_], pcells_append nx [_], List.length_append (bs := [_]), List.length_append (bs := [_])]
                  exact hown8
                exact ⟨⟨j + 1, by omega, by go_num, by rw [HS.out], by rw [HS.out]; exact hown9, by rw [HS.out]; exact hX8, hb8⟩, by simp [intOf]; omega⟩
            · have HS : Hid (insTo oo x0 (j + 1) = ⟨(min x.1 y.1, max x.2 y.2), nx, pl⟩) := by refine Lib.hid ?_; rw [HSTEP.out]; simp only [stepI]; rw [if_neg t1, if_neg t2]
              go_wp2_with fail
              have hown6 := (ownsRow_setCell_below (ownsRow_setCell_below hown (a := ⟨n5, 0, none⟩) (Nat.lt_succ_self n5) (.int .i64 (min x.1 y.1))) (a := ⟨n5, 1, none⟩) (Nat.lt_succ_self n5) (.int .i64 (max x.2 y.2))).alloc (.cells #[.int .i64 y.1, .int .i64 y.2] 33)
              have hX6 := hX.put (min x.1 y.1, max x.2 y.2) (.cells #[.int .i64 y.1, .int .i64 y.2] 33)
              have hb6 : Below n5 w4 (((wr.setCell ⟨n5, 0, none⟩ (.int .i64 (min x.1 y.1))).setCell ⟨n5, 1, none⟩ (.int .i64 (max x.2 y.2))).alloc (.cells #[.int .i64 y.1, .int .i64 y.2] 33)) := ((Below.setCell (Below.setCell hbx (p := ⟨n5, 0, none⟩) (Nat.le_refl n5) (.int .i64 (min x.1 y.1))) (p := ⟨n5, 1, none⟩) (Nat.le_refl n5) (.int .i64 (max x.2 y.2)))).alloc (by simp [World.setCell]; omega) _
              exact ⟨⟨j + 1, by omega, by go_num, by rw [HS.out], by rw [HS.out]; exact hown6, by rw [HS.out]; exact hX6, hb6⟩, by simp [intOf]; omega⟩
        · obtain rfl : j = oo.length := by omega
          have hbf := hba.trans (hbx.mono (by omega : w2.heap.size ≤ n5))
          generalize hst : insTo oo x0 oo.length = st at *
          clear hst
          obtain ⟨x, nx, pl⟩ := st
          simp only at *
          obtain ⟨p0, p1, z0, z1, pz⟩ := id hX
          have hnl : nx.length ≤ 10000001 := by cases pl <;> simp at hil <;> omega
          have hgj : ¬ ((oo.length : Int) < (oo.length : Int)) := by omega
          cases pl with
          | true =>
            have HF : Hid (jnTo xs (k + 1) = nx) := by refine Lib.hid ?_; rw [HJN.out]; rfl
            obtain ⟨_, A', c', rfl, hPp⟩ := owns_pairs hown
            go_wp2_with fail
            exact ⟨⟨k + 1, A', c', by omega, by go_num, by rw [HF.out], by rw [HF.out]; exact hPp, hbf⟩, by simp [intOf]; omega⟩
          | false =>
            have HF : Hid (jnTo xs (k + 1) = nx ++ [x]) := by refine Lib.hid ?_; rw [HJN.out]; rfl
            go_wp2_with (first
                          | (at_builtin; refine wpList_append_lies _ ?_ (.tmp 69) (.tmp 71) 34 ?_ (n5 + 1) 33 i0 (.agg #[.int .i64 0, .int .i64 0]) 2 16 Try.underlying34 hi hz0 hz2 hz3 ?_ ?_ u6 nx.length (pcells nx) ?_ ?_ ⟨wr.heap.size, 0, none⟩ 1 1 [.int .i64 x.1, .int .i64 x.2] ?_ ?_ ?_ ?_ ?_ ?_ ?_ ?_ (wr.heap.size + 1) ?_ ?_; (solve | (rfl)); (solve | (rfl)); (solve | (rfl)); (solve | (decide)); (solve | (rfl)); (solve | (exact owns_new (t := 33) (cs := #[_, _]) hown (by first | exact .inl rfl | exact .inr (.inl rfl) | exact .inr (.inr rfl)))); (solve | (rfl)); (solve | (rfl)); (solve | (exact newH (t := 33) (cs := #[_, _]) (w := wr) (by first | exact .inl rfl | exact .inr (.inl rfl) | exact .inr (.inr rfl)) rfl)); (solve | ((intro u hu; simp only [List.mem_cons, List.not_mem_nil, or_false] at hu; rcases hu with rfl | rfl <;> rfl))); (solve | (omega)); (solve | ((unfold maxLen; omega))); (solve | (omega)); (solve | ((simp; omega))); (solve | ((simp; done))); (intro g3 cap3 w6 hown3 hgrow hat hg3))
                          | fail)
            have hown6 : w6.ownsRow (n5 + 1) 33 2 (.slice (some ⟨g3, 0, none⟩) (nx.length + 1) cap3) (nx ++ [x]).length (pcells (nx ++ [x])) := by
              rw [pcells_append _ [_], List.length_append (bs := [_])]
              exact hown3
            have hb6 : Below n5 w4 w6 := (hbx.alloc (by omega) _).grown hgrow (by simp; omega) (fun g hg => by have := (hown.lt g hg).1; omega)
            have hbf6 := hba.trans (hb6.mono (by omega : w2.heap.size ≤ n5))
            obtain ⟨hl6, A', c', he6, hPp⟩ := owns_pairs hown6
            injection he6 with hA6 hl6b hc6
            subst hA6
            exact ⟨⟨k + 1, some ⟨g3, 0, none⟩, cap3, by omega, by go_num, by rw [HF.out]; simp, by rw [HF.out]; exact hPp, hbf6⟩, by simp [intOf]; omega⟩
    · obtain rfl : k = xs.length := by omega
      go_wp2
      go_ret
      exact ⟨A1, c1, rfl, hP, hb⟩
end Go.Proofs.Ytoknkmlkeacgjaa
