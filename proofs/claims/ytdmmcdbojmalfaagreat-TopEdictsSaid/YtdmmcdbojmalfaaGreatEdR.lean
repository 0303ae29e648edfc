/- TopEdicts: the row of a direction. -/
import Derived.Test.YtdmmcdbojmalfaaGreatEdQ
import Derived.Test.YtdmmcdbojmalfaaGreatEdH
namespace Go.Proofs.YtdmmcdbojmalfaaGreat
open Go.RowKit Go.Sort
set_option maxRecDepth 100000 in
theorem lSortM (g cap : Nat) (xs : List Mee) (w : World) (h : RowW w g 10 encM xs) (hg : g < w.heap.size) (hn : xs.length ≤ 1000) :
    Calls Tryz.prog 68 #[.slice (some ⟨g, 0, none⟩) xs.length cap, .func (.func 69) #[] #[]] w fun e w' => e = .returned (.tuple #[]) ∧ ∃ ys, ys.Perm xs ∧ (ys.Pairwise fun a b => ¬ MLt b a) ∧ RowW w' g 10 encM ys ∧ w.grownBy w' (some g) := by
  have hH := holds_of_rowW encM_len h
  have eg : ∀ args w, (callFunc 69 args).run Tryz.prog w = .ok (.enter 69 args) w := enters_of Tryz.func69 (by kernel_rfl) rfl
  have hcon := AnyQ.slices_SortFunc Tryz.sortMe 10 Tryz.isAgg120 Tryz.sizeOf120 encM encM_len (fun x v hv => by simp [encM] at hv; rcases hv with rfl | rfl | rfl | rfl | rfl | rfl | rfl | rfl | rfl | rfl <;> rfl) cmpM swoM 69 #[] g 0 cap xs.toArray w eg (fun _ _ _ _ x y => closure69 x y _) hH hg (by simp; omega)
  have hlen : xs.length = xs.toArray.size := by simp
  rw [hlen]
  refine Calls.mono hcon ?_
  rintro e w' ⟨he, d', n, os, ⟨hs, _, hp⟩, ho, rfl⟩
  refine ⟨he, d'.toList, ?_, ?_, ?_, ?_⟩
  · have h1 : d'.extract 0 xs.toArray.size = d' := by rw [← hs]; simp
    have h2 : xs.toArray.extract 0 xs.toArray.size = xs.toArray := by simp
    rw [h1, h2] at hp
    exact hp
  · rw [List.pairwise_iff_getElem]
    intro i j hi hj hij
    have hj : j < d'.size := by simpa using hj
    have := ho i j (Nat.zero_le _) hij (by omega)
    rw [← Bool.not_eq_true, ltM] at this
    simpa [show i < d'.size by omega, hj] using this
  · exact rowW_of_holds encM_len (holdsK_sortWorldK_c encM 10 w g 0 xs.toArray _ _ _ hH hg (by simpa using hs))
  · exact grown_sorted _
theorem lSortM0 (A : Option Addr) (cap : Nat) (w : World) : Calls Tryz.prog 68 #[.slice A 0 cap, .func (.func 69) #[] #[]] w fun e w' => e = .returned (.tuple #[]) ∧ w' = w :=
  AnyF.slices_SortFunc_none Tryz.sortMe A cap _ w
theorem lSortMV {w : World} {base n : Nat} {v : Value} {xs : List Mee} (h : w.ownsRow base 120 10 v n (xs.flatMap encM)) (hn : xs.length ≤ 1000) :
    Calls Tryz.prog 68 #[v, .func (.func 69) #[] #[]] w fun e w' => e = .returned (.tuple #[]) ∧ ∃ (ys : List Mee) (A : Option Addr) (c : Nat), v = .slice A n c ∧ ys.length = n ∧ ys.Perm xs ∧ (ys.Pairwise fun a b => ¬ MLt b a) ∧ RowsK w' w'.heap.size A 10 encM ys ∧ Below base w w' := by
  obtain ⟨hl, A, c, rfl, hr⟩ := own_rows encM_len h (by decide)
  rcases Nat.eq_zero_or_pos n with h0 | h0
  · subst h0
    obtain rfl := List.eq_nil_of_length_eq_zero hl
    exact (lSortM0 A c w).mono fun e w' ⟨he, hw⟩ => ⟨he, [], A, c, rfl, rfl, List.Perm.refl _, List.Pairwise.nil, .inl rfl, by rw [hw]; exact Below.refl _ _⟩
  · obtain ⟨g, cap, hv, hg, hgl⟩ := h.form h0
    injection hv with hv1 _ hv2
    subst hv1 hv2
    have hR := own_rowW encM_len h hl
    refine Calls.mono (hl ▸ lSortM g c xs w hR hgl hn) ?_
    rintro e w' ⟨he, ys, hp, ho, hr, hgr⟩
    have hsz : g < w'.heap.size := Nat.lt_of_lt_of_le hgl hgr.size
    exact ⟨he, ys, _, c, rfl, by rw [hp.length_eq, hl], hp, ho, hr.rows hsz, (Below.refl base w).grown hgr (by omega) (by intro k hk; cases hk; exact hg)⟩
/-- The signs of a direction with their distances. -/
def rowL (L dir : Int) (ss : List Sgn) : List Mee := (ss.filter fun s => s.dir == dir).map fun s => ⟨s, disF L dir s.chain⟩
theorem rowL_snoc (L dir : Int) (ss : List Sgn) (s : Sgn) : rowL L dir (ss ++ [s]) = rowL L dir ss ++ (if s.dir == dir then [⟨s, disF L dir s.chain⟩] else []) := by
  unfold rowL
  rw [List.filter_append, List.map_append]
  cases h : s.dir == dir <;> simp [List.filter, h]
theorem rowL_length (L dir : Int) (ss : List Sgn) : (rowL L dir ss).length ≤ ss.length := by
  unfold rowL
  rw [List.length_map]
  exact List.length_filter_le _ _
def RowRes (L dir : Int) (ss : List Sgn) (w : World) (e : Ending) (w' : World) : Prop :=
  ∃ (ys : List Mee) (A : Option Addr) (c : Nat), e = .returned (.slice A ys.length c) ∧ ys.Perm (rowL L dir ss) ∧ (ys.Pairwise fun a b => ¬ MLt b a) ∧ RowsK w' w'.heap.size A 10 encM ys ∧ Below w.heap.size w w'
set_option maxRecDepth 100000 in
set_option maxHeartbeats 4000000 in
theorem lrowOf (AJ AS : Option Addr) (cJ c B n : Nat) (L : Int) (ss : List Sgn) (hour dir : Int) (w : World) (h : RowsK w B AS 9 encG ss) (hB : B ≤ w.heap.size) (hn : ss.length ≤ 1000)
    (hs : ∀ s ∈ ss, s.up ≤ hour ∧ hour < s.down ∧ (0 ≤ s.chain ∧ s.chain ≤ 1000000)) (hL : 1 ≤ L ∧ L ≤ 100000) :
    Calls Tryz.prog 55 #[.agg #[.int .i64 L, .slice AJ n cJ], .slice AS ss.length c, .int .i64 hour, .int .i64 dir] w (RowRes L dir ss w) := by
  have hb : Below w.heap.size w (w.alloc (.cells #[.int .i64 L, .slice AJ n cJ] 32)) := (Below.refl _ _).alloc (Nat.le_refl _) _
  have hx := LnBox.new w L AJ n cJ
  have hs1 := (h.more hB).below hb
  have HSs : Hid (∀ k (hk : k < ss.length), ss[k].up ≤ hour ∧ hour < ss[k].down ∧ (0 ≤ ss[k].chain ∧ ss[k].chain ≤ 1000000)) := Lib.hid fun k hk => hs _ (List.getElem_mem hk)
  unfold RowRes
  obtain ⟨W, hW⟩ : ∃ W, w.heap.size = W := ⟨_, rfl⟩
  rw [hW] at hx hb hs1
  have HB := Lib.hid hb
  clear h hs hb
  go_enter Tryz.func55, Tryz.ntmps55
  go_upto_region 1 with fail
  generalize w.alloc (.cells #[.int .i64 L, .slice AJ n cJ] 32) = w1 at *
  obtain ⟨q0, q1, hz⟩ := id hx
  have hxn : Hid (LnBox w1 W L AJ n cJ) := Lib.hid hx
  clear hx
  go_wp2_with fail
  have hown0 : w1.ownsRow w1.heap.size 120 10 (.slice none 0 0) 0 ((rowL L dir (ss.take 0)).flatMap encM) := World.ownsRow_nil _ _ _ _
  go_loopw [9, 14] (fun out i wr => ∃ k : Nat, k ≤ ss.length ∧ i = .int .i64 k ∧ wr.ownsRow w1.heap.size 120 10 out (rowL L dir (ss.take k)).length ((rowL L dir (ss.take k)).flatMap encM) ∧ Below w1.heap.size w1 wr) (fun _ i _ => ss.length - (intOf i).toNat)
  case atStart => exact ⟨0, Nat.zero_le _, rfl, hown0, Below.refl _ _⟩
  case round =>
    obtain ⟨k, hk, rfl, hown, hbk⟩ := hrel
    clear hown0
    have hsz := hbk.size
    by_cases hlt : k < ss.length
    · obtain ⟨b, o, rfl, hbb, hcc⟩ := (hs1.below (hbk.mono (by omega))).at_ hlt
      have y0 := hcc k hlt 0 _ rfl
      have y1 := hcc k hlt 1 _ rfl
      have y2 := hcc k hlt 2 _ rfl
      have y3 := hcc k hlt 3 _ rfl
      have y4 := hcc k hlt 4 _ rfl
      have y5 := hcc k hlt 5 _ rfl
      have y6 := hcc k hlt 6 _ rfl
      have y7 := hcc k hlt 7 _ rfl
      have y8 := hcc k hlt 8 _ rfl
      simp only [Nat.add_zero] at y0
      obtain ⟨u1, u2, u3⟩ := HSs.out k hlt
      have HT : Hid (rowL L dir (ss.take (k + 1)) = rowL L dir (ss.take k) ++ (if ss[k].dir == dir then [⟨ss[k], disF L dir ss[k].chain⟩] else [])) := Lib.hid (by rw [← rowL_snoc, List.take_succ_eq_append_getElem hlt])
      have hln : (rowL L dir (ss.take k)).length ≤ 1000 := Nat.le_trans (rowL_length _ _ _) (by rw [List.length_take]; omega)
      clear hcc
      generalize ss[k] = x at *
      generalize hxs : rowL L dir (ss.take k) = xs at *
      have hbA : Below wr.heap.size wr (wr.alloc (.cells (cellsS x) 77)) := (Below.refl _ _).alloc (Nat.le_refl _) _
      have hownA := hown.alloc (.cells (cellsS x) 77)
      have hbkA := hbk.trans (hbA.mono hsz)
      have hA1 : ∀ i, i < 9 → (wr.alloc (.cells (cellsS x) 77)).cell? ⟨wr.heap.size, i, none⟩ = (cellsS x)[i]? := fun i hi => by simp [go_sem]
      by_cases hd : x.dir = dir
      rotate_left
      · have e1 : (x.dir == dir) = false := by simp [hd]
        have HF := Lib.hid (show rowL L dir (ss.take (k + 1)) = xs by rw [HT.out, e1]; simp)
        have HO := Lib.hid hownA
        have HBK := Lib.hid hbkA
        clear hA1 hownA hbkA hbA hbk hown hd
        go_wp2_with fail
        exact ⟨⟨k + 1, by omega, by go_num, by rw [HF.out]; exact HO.out, HBK.out⟩, by simp [intOf]; omega⟩
      have e1 : (x.dir == dir) = true := by simp [hd]
      have HF := Lib.hid (show rowL L dir (ss.take (k + 1)) = xs ++ [⟨x, disF L dir x.chain⟩] by rw [HT.out, e1]; simp)
      have hsp := fun wz => lSpeaks x hour wz u1 u2
      clear hd
      have HBK := Lib.hid hbkA
      have HO := Lib.hid hownA
      have r0 := (hbk.cell (p := ⟨W, 0, none⟩) hz).trans q0
      have r1 := (hbk.cell (p := ⟨W, 1, none⟩) hz).trans q1
      have hzr : W < wr.heap.size := by omega
      have hX : wr.heap.size < (wr.alloc (.cells (cellsS x) 77)).heap.size := by simp
      have r0' := (hbA.cell (p := ⟨W, 0, none⟩) hzr).trans r0
      have r1' := (hbA.cell (p := ⟨W, 1, none⟩) hzr).trans r1
      have z0 := hA1 0 (by decide)
      have z1 := hA1 1 (by decide)
      have z2 := hA1 2 (by decide)
      have z3 := hA1 3 (by decide)
      have z4 := hA1 4 (by decide)
      have z5 := hA1 5 (by decide)
      have z6 := hA1 6 (by decide)
      have z7 := hA1 7 (by decide)
      have z8 := hA1 8 (by decide)
      have hd2 : -1000000 ≤ L ∧ L ≤ 1000000 := by omega
      have hd3 : -1000000 ≤ x.chain ∧ x.chain ≤ 1000000 := by omega
      clear hA1 hownA hbkA hown r0 r1 hbA hbk
      go_wp2_with fail
      refine (hsp _).mono ?_
      rintro e w5 ⟨rfl, hb5⟩
      replace hb5 : Below (wr.alloc (.cells (cellsS x) 77)).heap.size (wr.alloc (.cells (cellsS x) 77)) w5 := hb5
      have o5 := Lib.hid (owns_keep HO.out hb5)
      have b5 := Lib.hid (HBK.out.trans (hb5.mono (by simp; omega)))
      have hs5 := hb5.size
      have hz5 : W < w5.heap.size := by omega
      replace r0' := (hb5.cell (p := ⟨W, 0, none⟩) (by simp only; omega)).trans r0'
      replace r1' := (hb5.cell (p := ⟨W, 1, none⟩) (by simp only; omega)).trans r1'
      replace z0 := (hb5.cell (p := ⟨wr.heap.size, 0, none⟩) hX).trans z0
      replace z1 := (hb5.cell (p := ⟨wr.heap.size, 1, none⟩) hX).trans z1
      replace z2 := (hb5.cell (p := ⟨wr.heap.size, 2, none⟩) hX).trans z2
      replace z3 := (hb5.cell (p := ⟨wr.heap.size, 3, none⟩) hX).trans z3
      replace z4 := (hb5.cell (p := ⟨wr.heap.size, 4, none⟩) hX).trans z4
      replace z5 := (hb5.cell (p := ⟨wr.heap.size, 5, none⟩) hX).trans z5
      replace z6 := (hb5.cell (p := ⟨wr.heap.size, 6, none⟩) hX).trans z6
      replace z7 := (hb5.cell (p := ⟨wr.heap.size, 7, none⟩) hX).trans z7
      replace z8 := (hb5.cell (p := ⟨wr.heap.size, 8, none⟩) hX).trans z8
      have hX5 : wr.heap.size < w5.heap.size := by omega
      have hg5 : w1.heap.size ≤ w5.heap.size := by omega
      simp only [cellsS, List.getElem?_toArray, List.getElem?_cons_zero, List.getElem?_cons_succ] at z0 z1 z2 z3 z4 z5 z6 z7 z8
      clear y0 y1 y2 y3 y4 y5 y6 y7 y8 hsp hb5 hX q0 q1 HO HBK hs5
      generalize wr.heap.size = X at *
      go_wp2_with fail
      go_region_law ((first
        | (rw [if_pos (by rfl)]; go_simp; go_at_call 29; refine (ldist L (.slice AJ n cJ) dir x.chain _ hd2 hd3).mono ?_; (rintro e wd ⟨rfl, rfl⟩); go_wp2_with fail)
        | (go_loud (refine step_push ?_ (.tmp 27) (.tmp 35) 105 ?_ w1.heap.size 120 10 96 Tryz.underlying105 info120 ?_ ?_ ?_ u9 xs.length (xs.flatMap encM) ?_ ((World.ownsRow.drew o5.out).alloc (.cells #[.int .i64 L, .slice AJ n cJ] 32)) (w5.heap.size + 1) ?_ ?_ ?_ ?_ ?_ ?_ ?_; (solve | (rfl)); (solve | (rfl)); (solve | (rfl)); (solve | (decide)); (solve | (decide)); (solve | (rfl)); (solve | (rfl)); (solve | (simp; done)); (solve | (rfl)); (solve | (intro u hu; simp at hu; rcases hu with rfl | rfl | rfl | rfl | rfl | rfl | rfl | rfl | rfl | rfl <;> rfl)); (solve | (omega)); (solve | (simp; omega)); (intro A7 c7 w7 hp7)))
        | fail))
      all_goals
        have b7 := Lib.hid ((b5.out.trans (((Below.refl w5.heap.size w5).drew.alloc (Nat.le_refl _) (.cells #[.int .i64 L, .slice AJ n cJ] 32)).mono hg5)).trans hp7.below)
        have o7 := Lib.hid hp7.own
        clear hp7
        go_wp2_with fail
        exact ⟨⟨k + 1, by omega, by go_num, by rw [HF.out, List.length_append, List.flatMap_append]; exact o7.out, b7.out⟩, by simp [intOf]; omega⟩
    · obtain rfl : k = ss.length := by omega
      rw [List.take_length] at hown
      have hso := lSortMV hown (Nat.le_trans (rowL_length _ _ _) hn)
      have HBK := Lib.hid (HB.out.trans (hbk.mono (by omega)))
      clear hown hbk q0 q1
      go_wp2_with fail
      refine hso.mono ?_
      rintro e w4 ⟨rfl, ys, A4, c4, rfl, hyl, hyp, hyo, hyr, hb4⟩
      have HY := Lib.hid hyp
      have HYO := Lib.hid hyo
      have HYR := Lib.hid hyr
      rw [← hyl]
      clear hso hyp hyo hyr hyl
      go_wp2_with fail
      go_ret
      exact ⟨ys, A4, c4, rfl, HY.out, HYO.out, HYR.out, by rw [hW]; exact HBK.out.trans (hb4.mono (by omega))⟩
end Go.Proofs.YtdmmcdbojmalfaaGreat
