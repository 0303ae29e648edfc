/- Contract of union. -/
import Derived.Test.YtdmmcdbojmalfaaGreatSrt
import Derived.Test.YtdmmcdbojmalfaaGreatChk
namespace Go.Proofs.YtdmmcdbojmalfaaGreat
open Go.RowKit
/-- What Clone returns. -/
def CloRes (xs : List (Int × Int)) (w : World) (e : Ending) (w' : World) : Prop :=
  ∃ (A' : Option Addr) (c' : Nat), e = .returned (.slice A' xs.length c') ∧ (xs = [] ∨ ∃ g, A' = some ⟨g, 0, none⟩ ∧ w.heap.size ≤ g ∧ g < w'.heap.size ∧ RowP w' g xs) ∧ Below w.heap.size w w'
theorem rowP_of_owns {w : World} {base g n cap : Nat} {xs : List (Int × Int)} {T : TypeId} (h : w.ownsRow base T 2 (.slice (some ⟨g, 0, none⟩) n cap) n (pcells xs)) (hl : xs.length = n) : RowP w g xs := by
  intro j hj
  have e1 := h.cellAt (j * 2) (by omega)
  have e2 := h.cellAt (j * 2 + 1) (by omega)
  rw [(pcells_at xs j hj).1] at e1
  rw [(pcells_at xs j hj).2] at e2
  exact ⟨⟨e1, e2⟩, h.frozenAt (j * 2), h.frozenAt (j * 2 + 1)⟩
theorem pcells_one' : ∀ (ps : List (Int × Int)), ∀ u ∈ pcells ps, u.oneCell' = true
  | [], u, h => by cases h
  | p :: ps, u, h => by
    simp only [pcells, List.mem_cons] at h
    rcases h with rfl | rfl | h
    · rfl
    · rfl
    · exact pcells_one' ps u h
theorem pcells_cell {w : World} {b off : Nat} {xs : List (Int × Int)} (h : ∀ j, j < xs.length → w.cell? ⟨b, off + j * 2, none⟩ = some (.int .i64 (atp xs j).1) ∧ w.cell? ⟨b, off + j * 2 + 1, none⟩ = some (.int .i64 (atp xs j).2)) :
    ∀ j u, (pcells xs)[j]? = some u → w.cell? ⟨b, off + j, none⟩ = some u := by
  intro t u hu
  have ht : t < xs.length * 2 := by
    have := (List.getElem?_eq_some_iff.1 hu).1
    rwa [pcells_length] at this
  have h1 := h (t / 2) (by omega)
  have h2 := pcells_at xs (t / 2) (by omega)
  have e2 : t % 2 = 0 ∨ t % 2 = 1 := by omega
  rcases e2 with e2 | e2
  · have e3 : t / 2 * 2 = t := by omega
    rw [e3] at h1 h2
    rw [h1.1, ← h2.1, hu]
  · have e3 : t / 2 * 2 + 1 = t := by omega
    rw [Nat.add_assoc, e3] at h1
    rw [e3] at h2
    rw [h1.2, ← h2.2, hu]
theorem lClone (A : Option Addr) (c B : Nat) (xs : List (Int × Int)) (w : World) (h : Pairs w B A xs) (hn : xs.length ≤ 20000000) :
    Calls Tryz.prog 72 #[.slice A xs.length c] w (CloRes xs w) := by
  by_cases h0 : xs = []
  · subst h0
    cases A with
    | none => exact (AnyE.slices_Clone_nil Tryz.cloneSp 0 c w).mono fun e w' ⟨he, hw⟩ => ⟨none, 0, he, .inl rfl, by rw [hw]; exact Below.refl _ _⟩
    | some a =>
      have hcon : Calls Tryz.prog 72 #[.slice (some a) 0 c] w fun e w' => ∃ v', e = .returned v' ∧ w'.ownsRow w.heap.size 59 2 v' 0 [] ∧ Below w.heap.size w w' := by
        obtain ⟨i0, hi, hz0, hz1, hz2⟩ := info_parts info59
        have q22 : ∀ (w : World) (a : Option Addr) (n c n' c' : Nat), (binOp .eql 55 (.slice a n c) (.slice none n' c')).run Tryz.prog w = .ok (.bool a.isNone) w := fun w a n c n' c' => Lib.run_eql_slice_nil w _ _ a n c n' c' Tryz.underlying55
        go_enter Tryz.func72, Tryz.ntmps72
        go_wp2_with (at_builtin; refine wpList_append_own _ rfl _ _ 55 rfl w.heap.size 59 i0 (.agg #[.int .i64 0, .int .i64 0]) 2 16 Tryz.underlying55 hi hz0 hz1 hz2 rfl (by decide) _ _ _ rfl (World.ownsRow_made w #[] 0 (Nat.le_refl _) (Nat.zero_le _) rfl) a 0 c [] rfl rfl (by intro j u hj; simp at hj) (by intro u hu; cases hu) (by unfold maxLen; omega) (by omega) (by simp) ?_)
        intro v' w1 hown hgrow hnil
        go_wp2
        go_ret
        exact ⟨v', rfl, by simpa using hown, ((Below.refl _ w).alloc (Nat.le_refl _) _).grown hgrow (by simp) (by intro k hk; simp [Value.ownBlock] at hk; omega)⟩
      refine hcon.mono ?_
      rintro e w' ⟨v', rfl, hown, hb⟩
      obtain ⟨_, A', c', rfl, _⟩ := owns_pairs (ps := []) hown
      exact ⟨A', c', rfl, .inl rfl, hb⟩
  · have hp : 0 < xs.length := List.length_pos_iff.2 h0
    obtain ⟨b, off, rfl, _, hc⟩ := h.at_ hp
    obtain ⟨i0, hi, hz0, hz1, hz2⟩ := info_parts info59
    refine (AnyE.slices_Clone Tryz.cloneSp i0 (.agg #[.int .i64 0, .int .i64 0]) 2 16 hi hz0 hz1 hz2 rfl (by decide) Tryz.sizeOf59 b off xs.length c (pcells xs) w (pcells_length xs) (by unfold maxLen; omega) (by omega) (pcells_cell hc) (pcells_one' xs)).mono ?_
    rintro e w' ⟨v', rfl, hown, _, hb⟩
    obtain ⟨g, cap, rfl, hg1, hg2⟩ := World.ownsRow.form hown hp
    exact ⟨_, cap, rfl, .inr ⟨g, rfl, hg1, hg2, rowP_of_owns hown rfl⟩, hb⟩
/-- One more stretch, in ascending order. -/
def stepJ (ps : List (Int × Int)) (s : Int × Int) : List (Int × Int) :=
  if 0 < ps.length ∧ s.1 ≤ (atp ps (ps.length - 1)).2 then ps.set (ps.length - 1) ((atp ps (ps.length - 1)).1, max (atp ps (ps.length - 1)).2 s.2) else ps ++ [s]
/-- The first k stretches as few ones. -/
def joinTo (ys : List (Int × Int)) : Nat → List (Int × Int)
  | 0 => []
  | k + 1 => stepJ (joinTo ys k) (atp ys k)
theorem stepJ_set {ps : List (Int × Int)} {s : Int × Int} {m : Nat} (h : ps.length = m + 1) (ht : s.1 ≤ (atp ps m).2) : stepJ ps s = ps.set m ((atp ps m).1, max (atp ps m).2 s.2) := by
  unfold stepJ
  rw [h]
  simp [ht]
theorem stepJ_app {ps : List (Int × Int)} {s : Int × Int} (h : ps.length = 0 ∨ ¬ s.1 ≤ (atp ps (ps.length - 1)).2) : stepJ ps s = ps ++ [s] := by
  unfold stepJ
  rw [if_neg]
  rintro ⟨h1, h2⟩
  rcases h with h | h
  · omega
  · exact h h2
theorem joinTo_length (ys : List (Int × Int)) : ∀ k, (joinTo ys k).length ≤ k
  | 0 => by simp [joinTo]
  | k + 1 => by
    have := joinTo_length ys k
    simp only [joinTo, stepJ]
    split
    · simp; omega
    · simp; omega
def UniRes (xs : List (Int × Int)) (w : World) (e : Ending) (w' : World) : Prop :=
  ∃ (ys : List (Int × Int)) (A' : Option Addr) (c' : Nat), ys.Perm xs ∧ AscF ys ∧ e = .returned (.slice A' (joinTo ys ys.length).length c') ∧ Pairs w' w'.heap.size A' (joinTo ys ys.length) ∧ Below w.heap.size w w'
theorem ascF_nil : AscF [] := fun i j _ h => by simp at h
set_option maxRecDepth 100000 in
set_option maxHeartbeats 4000000 in
theorem lUnion (A : Option Addr) (c B : Nat) (xs : List (Int × Int)) (w : World) (h : Pairs w B A xs) (hx : ∀ p ∈ xs, SmS p) (hn : xs.length ≤ 10000000) :
    Calls Tryz.prog 59 #[.slice A xs.length c] w (UniRes xs w) := by
  obtain ⟨i0, hi, hz0, hz2, hz3⟩ := info_parts info59
  have HX := Lib.hid hx
  clear hx
  go_enter Tryz.func59, Tryz.ntmps59
  go_wp2_with fail
  refine (lClone A c B xs w h (by omega)).mono ?_
  rintro e w1 ⟨A1, c1, rfl, hA1, hb1⟩
  clear h
  have key : Calls Tryz.prog 73 #[.slice A1 xs.length c1, .func (.func 74) #[] #[]] w1 fun e w' => e = .returned (.tuple #[]) ∧ ∃ ys, ys.Perm xs ∧ AscF ys ∧ (ys = [] ∨ ∃ g, A1 = some ⟨g, 0, none⟩ ∧ g < w'.heap.size ∧ RowP w' g ys) ∧ Below w.heap.size w w' := by
    rcases hA1 with rfl | ⟨g, rfl, hg1, hg2, hR⟩
    · exact (lSort0 A1 c1 w1).mono fun e w' ⟨he, hw⟩ => ⟨he, [], List.Perm.refl _, ascF_nil, .inl rfl, hw ▸ hb1⟩
    · exact (lSort g c1 xs w1 hR hg2 HX.out (by omega)).mono fun e w' ⟨he, ys, hp, ho, hr, hg⟩ => ⟨he, ys, hp, ho, .inr ⟨g, rfl, Nat.lt_of_lt_of_le hg2 hg.size, hr⟩, hb1.grown hg hb1.size (fun k hk => by cases hk; exact hg1)⟩
  clear hA1 hb1
  go_wp2_with fail
  refine key.mono ?_
  rintro e w2 ⟨rfl, ys, hp, ho, hR, hal⟩
  clear key
  have hl := hp.length_eq
  have HP := Lib.hid hp
  have HOO := Lib.hid ho
  have HS : Hid (∀ k, k < ys.length → SmS (atp ys k)) := fun k hk => HX.out _ (hp.mem_iff.1 (by simp [atp, hk]))
  rw [← hl]
  rw [← hl] at hn
  clear hp ho hl
  go_wp2_with fail
  go_loopw [4, 14] (fun out i wr => ∃ k : Nat, k ≤ ys.length ∧ i = .int .i64 k ∧ wr.ownsRow w2.heap.size 59 2 out (joinTo ys k).length (pcells (joinTo ys k)) ∧ Below w2.heap.size w2 wr) (fun _ i _ => ys.length - (intOf i).toNat)
  case atStart => exact ⟨0, Nat.zero_le _, rfl, World.ownsRow_nil _ _ _ _, Below.refl _ _⟩
  case round =>
    obtain ⟨k, hk, rfl, hown, hb⟩ := hrel
    have hbs := hb.size
    by_cases hlt : k < ys.length
    · have hR' : ∃ g, A1 = some ⟨g, 0, none⟩ ∧ g < w2.heap.size ∧ RowP w2 g ys := by
        rcases hR with h0 | h0
        · rw [h0] at hlt; simp at hlt
        · exact h0
      obtain ⟨g, rfl, hg, hr⟩ := hR'
      obtain ⟨⟨x1, x2⟩, _⟩ := hr k hlt
      rw [← hb.cell (p := ⟨g, k * 2, none⟩) hg] at x1
      rw [← hb.cell (p := ⟨g, k * 2 + 1, none⟩) hg] at x2
      clear hr hR
      obtain ⟨⟨s1, s2⟩, ⟨s3, s4⟩⟩ := HS.out k hlt
      have hlen := joinTo_length ys k
      have HJ : Hid (joinTo ys (k + 1) = stepJ (joinTo ys k) (atp ys k)) := Lib.hid rfl
      have hba := hb.alloc hbs (.cells #[.int .i64 (atp ys k).1, .int .i64 (atp ys k).2] 59)
      obtain ⟨_, Ao, co, rfl, hPp⟩ := owns_pairs hown
      have hba2 : Below w2.heap.size w2 ((wr.alloc (.cells #[.int .i64 (atp ys k).1, .int .i64 (atp ys k).2] 59)).alloc (.cells #[.int .i64 (atp ys k).1, .int .i64 (atp ys k).2] 59)) := hba.alloc hba.size _
      generalize hps : joinTo ys k = ps at *
      generalize hnl : ps.length = n at *
      have hown1 := hown.alloc (.cells #[.int .i64 (atp ys k).1, .int .i64 (atp ys k).2] 59)
      clear hba2
      rcases n with _ | m
      · have HS2 := Lib.hid (stepJ_app (s := atp ys k) (Or.inl hnl))
        go_upto_region 8 with fail
        go_quiet (fail)
        have hown4 := owns_keep hown1 (below_drewN (Below.refl _ _) nq)
        go_wp2_with (first
              | (at_builtin; refine wpList_append_lies _ ?_ (.tmp 47) (.tmp 49) 55 ?_ w2.heap.size 59 i0 (.agg #[.int .i64 0, .int .i64 0]) 2 16 Tryz.underlying55 hi hz0 hz2 hz3 ?_ ?_ (.slice Ao 0 co) (0) (pcells ps) ?_ ?_ ⟨wr.heap.size + 1, 0, none⟩ 1 1 [.int .i64 (atp ys k).1, .int .i64 (atp ys k).2] ?_ ?_ ?_ ?_ ?_ ?_ ?_ ?_ (wr.heap.size + 2) ?_ ?_; (solve | (rfl)); (solve | (rfl)); (solve | (rfl)); (solve | (decide)); (solve | (rfl)); (solve | (exact owns_new (t := 59) (cs := #[_, _]) hown4 (by first | exact .inl rfl | exact .inr (.inl rfl) | exact .inr (.inr rfl)))); (solve | (rfl)); (solve | (rfl)); (solve | (exact newH (t := 59) (cs := #[_, _]) (w := World.drewN (wr.alloc _) nq) (by first | exact .inl rfl | exact .inr (.inl rfl) | exact .inr (.inr rfl)) (by simp))); (solve | ((intro u hu; simp only [List.mem_cons, List.not_mem_nil, or_false] at hu; rcases hu with rfl | rfl <;> rfl))); (solve | (omega)); (solve | ((unfold maxLen; omega))); (solve | (omega)); (solve | ((simp; omega))); (solve | ((simp; done))); (intro g3 cap3 w6 hown3 hgrow hat hg3))
              | fail)
        have hfin : w6.ownsRow w2.heap.size 59 2 (.slice (some ⟨g3, 0, none⟩) (0 + 1) cap3) (joinTo ys (k + 1)).length (pcells (joinTo ys (k + 1))) := by
          rw [HJ.out, HS2.out, pcells_append, List.length_append, hnl]
          exact hown3
        have hb6 : Below w2.heap.size w2 w6 := app_below (t := 59) (cs := #[_, _]) (.inl rfl) (below_drewN hba nq) (by have := hba.size; exact this) hown4 hgrow
        exact ⟨⟨k + 1, by omega, by go_num, hfin, hb6⟩, by simp [intOf]; omega⟩
      · obtain ⟨g', cap, hv, hgb, hgl⟩ := hown.form (by omega)
        cases hv
        have e1 := hown.cellAt (m * 2 + 1) (by omega)
        rw [(pcells_at ps m (by omega)).2] at e1
        have hfz := hown.frozenAt (m * 2 + 1)
        by_cases ht : (atp ys k).1 ≤ (atp ps m).2
        · have HS2 := Lib.hid (stepJ_set hnl ht)
          go_upto_region 8 with fail
          go_quiet (fail)
          have hown4 := owns_keep hown1 (below_drewN (Below.refl _ _) nq)
          have hb4 := below_drewN hba nq
          go_upto_region 9 with fail
          go_region
          have hown5 := owns_keep hown1 (below_drewN (Below.refl _ _) (nq + 1))
          have hst := (hown5.stored (m * 2 + 1) (.int .i64 (max (atp ps m).2 (atp ys k).2))).1
          rw [pcells_set ps m _ (by omega)] at hst
          have hb5 := Below.setCell (below_drewN hba (nq + 1)) (p := ⟨g', m * 2 + 1, none⟩) hgb (.int .i64 (max (atp ps m).2 (atp ys k).2))
          have hfin : ((World.drewN (wr.alloc (.cells #[.int .i64 (atp ys k).1, .int .i64 (atp ys k).2] 59)) (nq + 1)).setCell ⟨g', m * 2 + 1, none⟩ (.int .i64 (max (atp ps m).2 (atp ys k).2))).ownsRow w2.heap.size 59 2 (.slice (some ⟨g', 0, none⟩) (m + 1) co) (joinTo ys (k + 1)).length (pcells (joinTo ys (k + 1))) := by
            rw [HJ.out, HS2.out, List.length_set, hnl]
            exact hst
          clear hown4 hb4 hown5 hst hown hown1
          go_wp2
          exact ⟨⟨k + 1, by omega, by go_num, hfin, hb5⟩, by simp [intOf]; omega⟩
        · have HS2 := Lib.hid (stepJ_app (ps := ps) (s := atp ys k) (Or.inr (by rw [hnl]; exact ht)))
          go_upto_region 8 with fail
          go_quiet (fail)
          have hown4 := owns_keep hown1 (below_drewN (Below.refl _ _) nq)
          go_wp2_with (first
              | (at_builtin; refine wpList_append_lies _ ?_ (.tmp 47) (.tmp 49) 55 ?_ w2.heap.size 59 i0 (.agg #[.int .i64 0, .int .i64 0]) 2 16 Tryz.underlying55 hi hz0 hz2 hz3 ?_ ?_ (.slice (some ⟨g', 0, none⟩) (m + 1) co) (m + 1) (pcells ps) ?_ ?_ ⟨wr.heap.size + 1, 0, none⟩ 1 1 [.int .i64 (atp ys k).1, .int .i64 (atp ys k).2] ?_ ?_ ?_ ?_ ?_ ?_ ?_ ?_ (wr.heap.size + 2) ?_ ?_; (solve | (rfl)); (solve | (rfl)); (solve | (rfl)); (solve | (decide)); (solve | (rfl)); (solve | (exact owns_new (t := 59) (cs := #[_, _]) hown4 (by first | exact .inl rfl | exact .inr (.inl rfl) | exact .inr (.inr rfl)))); (solve | (rfl)); (solve | (rfl)); (solve | (exact newH (t := 59) (cs := #[_, _]) (w := World.drewN (wr.alloc _) nq) (by first | exact .inl rfl | exact .inr (.inl rfl) | exact .inr (.inr rfl)) (by simp))); (solve | ((intro u hu; simp only [List.mem_cons, List.not_mem_nil, or_false] at hu; rcases hu with rfl | rfl <;> rfl))); (solve | (omega)); (solve | ((unfold maxLen; omega))); (solve | (omega)); (solve | ((simp; omega))); (solve | ((simp; done))); (intro g3 cap3 w6 hown3 hgrow hat hg3))
              | fail)
          have hfin : w6.ownsRow w2.heap.size 59 2 (.slice (some ⟨g3, 0, none⟩) (m + 1 + 1) cap3) (joinTo ys (k + 1)).length (pcells (joinTo ys (k + 1))) := by
            rw [HJ.out, HS2.out, pcells_append, List.length_append, hnl]
            exact hown3
          have hb6 : Below w2.heap.size w2 w6 := app_below (t := 59) (cs := #[_, _]) (.inl rfl) (below_drewN hba nq) (by have := hba.size; exact this) hown4 hgrow
          exact ⟨⟨k + 1, by omega, by go_num, hfin, hb6⟩, by simp [intOf]; omega⟩
    · obtain rfl : k = ys.length := by omega
      obtain ⟨_, A', c', rfl, hPp⟩ := owns_pairs hown
      go_wp2
      go_ret
      exact ⟨ys, A', c', HP.out, HOO.out, rfl, hPp, hal.trans (hb.mono hal.size)⟩
end Go.Proofs.YtdmmcdbojmalfaaGreat
