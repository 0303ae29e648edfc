/- TopEdicts: Kept once more: what it returns is new. (Printed by gen_kp.py out of this seat's own texts Uni, Kep, Kpt.) -/
import Derived.Test.YtdmmcdbojmalfaaGreatKpt
import Derived.Deep.RegionHeld3
namespace Go.Proofs.YtdmmcdbojmalfaaGreat
open Go.RowKit
/-- A slice of n things lies at the head of a block from B on. -/
def LowA (B : Nat) (A : Option Addr) (n : Nat) : Prop := n = 0 ∨ ∃ g, A = some ⟨g, 0, none⟩ ∧ B ≤ g
theorem LowA.mono {B B' n : Nat} {A : Option Addr} (h : LowA B A n) (hb : B' ≤ B) : LowA B' A n := by
  rcases h with h | ⟨g, h, h2⟩
  · exact .inl h
  · exact .inr ⟨g, h, by omega⟩
theorem low_of {w : World} {base e size n c : Nat} {A : Option Addr} {xs : List Value} (h : w.ownsRow base e size (.slice A n c) n xs) : LowA base A n := by
  rcases Nat.eq_zero_or_pos n with h0 | h0
  · exact .inl h0
  · obtain ⟨g, cap, hv, hg, _⟩ := h.form h0
    injection hv with hv1 _ _
    exact .inr ⟨g, hv1, hg⟩
def UniRes2 (xs : List (Int × Int)) (w : World) (e : Ending) (w' : World) : Prop :=
  ∃ (ys : List (Int × Int)) (A' : Option Addr) (c' : Nat), ys.Perm xs ∧ AscF ys ∧ e = .returned (.slice A' (joinTo ys ys.length).length c') ∧ Pairs w' w'.heap.size A' (joinTo ys ys.length) ∧ LowA w.heap.size A' (joinTo ys ys.length).length ∧ Below w.heap.size w w'
def UnRes2 (xs : List (Int × Int)) (w : World) (e : Ending) (w' : World) : Prop :=
  ∃ (us : List (Int × Int)) (A' : Option Addr) (c' : Nat), Norm us ∧ (∀ c, InS us c ↔ InS xs c) ∧ us.length ≤ xs.length ∧ e = .returned (.slice A' us.length c') ∧ Pairs w' w'.heap.size A' us ∧ LowA w.heap.size A' us.length ∧ Below w.heap.size w w'
theorem UniRes2.norm {xs : List (Int × Int)} {w w' : World} {e : Ending} (h : UniRes2 xs w e w') (hf : Full xs) : UnRes2 xs w e w' := by
  obtain ⟨ys, A', c', hp, ho, he, hP, hlw, hb⟩ := h
  obtain ⟨h1, h2⟩ := join_norm ho fun p hp' => hf p (hp.mem_iff.1 hp')
  exact ⟨_, A', c', h1, fun c => (h2 c).trans (inS_perm hp c), by have := joinTo_length ys ys.length; rw [hp.length_eq] at this ⊢; exact this, he, hP, hlw, hb⟩
def KeptRes2 (num L : Int) (cs : List Chg) (s : Int × Int) (f t : Int) (w : World) (e : Ending) (w' : World) : Prop :=
  (¬ RoadOk num L cs → e = .returned (.tuple #[.slice none 0 0, .int .i64 60])) ∧ (RoadOk num L cs → ¬ VersOk cs f t → e = .returned (.tuple #[.slice none 0 0, .int .i64 61])) ∧
  (RoadOk num L cs → VersOk cs f t → ¬ SpOk L cs s f.toNat → e = .returned (.tuple #[.slice none 0 0, .int .i64 2])) ∧
  (RoadOk num L cs → VersOk cs f t → SpOk L cs s f.toNat → ∃ (us : List (Int × Int)) (A' : Option Addr) (c' : Nat), KeptOut cs s f.toNat t.toNat us ∧ e = .returned (.tuple #[.slice A' us.length c', .int .i64 0]) ∧ Pairs w' w'.heap.size A' us ∧ LowA w.heap.size A' us.length) ∧ Below w.heap.size w w'
set_option maxRecDepth 100000 in
set_option maxHeartbeats 4000000 in
theorem lUnion2 (A : Option Addr) (c B : Nat) (xs : List (Int × Int)) (w : World) (h : Pairs w B A xs) (hx : ∀ p ∈ xs, SmS p) (hn : xs.length ≤ 10000000) :
    Calls Tryz.prog 59 #[.slice A xs.length c] w (UniRes2 xs w) := by
  obtain ⟨i0, hi, hz0, hz2, hz3⟩ := info_parts info59
  have HX := Lib.hid hx
  clear hx
  go_enter Tryz.func59, Tryz.ntmps59
  go_wp2_with fail
  refine (lClone A c B xs w h (by omega)).mono ?_
  rintro e w1 ⟨A1, c1, rfl, hA1, hb1⟩
  clear h
  have key : Calls Tryz.prog 73 #[.slice A1 xs.length c1, .func (.func 74) #[] #[]] w1 fun e w' => e = .returned (.tuple #[]) ∧ ∃ ys, ys.Perm xs ∧ AscF ys ∧ (ys = [] ∨ ∃ g, A1 = some ⟨g, 0, none⟩ ∧ g < w'.heap.size ∧ RowP w' g ys) ∧ Below w.heap.size w w' := by
    rcases hA1 with rfl | ⟨g, rfl, hg1, hg2, hR⟩
    · exact (lSort0 A1 c1 w1).mono fun e w' ⟨he, hw⟩ => ⟨he, [], List.Perm.refl _, ascF_nil, .inl rfl, hw ▸ hb1⟩
    · exact (lSort g c1 xs w1 hR hg2 HX.out (by omega)).mono fun e w' ⟨he, ys, hp, ho, hr, hg⟩ => ⟨he, ys, hp, ho, .inr ⟨g, rfl, Nat.lt_of_lt_of_le hg2 hg.size, hr⟩, hb1.grown hg hb1.size (fun k hk => by cases hk; exact hg1)⟩
  clear hA1 hb1
  go_wp2_with fail
  refine key.mono ?_
  rintro e w2 ⟨rfl, ys, hp, ho, hR, hal⟩
  clear key
  have hl := hp.length_eq
  have HP := Lib.hid hp
  have HOO := Lib.hid ho
  have HS : Hid (∀ k, k < ys.length → SmS (atp ys k)) := fun k hk => HX.out _ (hp.mem_iff.1 (by simp [atp, hk]))
  rw [← hl]
  rw [← hl] at hn
  clear hp ho hl
  go_wp2_with fail
  go_loopw [4, 14] (fun out i wr => ∃ k : Nat, k ≤ ys.length ∧ i = .int .i64 k ∧ wr.ownsRow w2.heap.size 59 2 out (joinTo ys k).length (pcells (joinTo ys k)) ∧ Below w2.heap.size w2 wr) (fun _ i _ => ys.length - (intOf i).toNat)
  case atStart => exact ⟨0, Nat.zero_le _, rfl, World.ownsRow_nil _ _ _ _, Below.refl _ _⟩
  case round =>
    obtain ⟨k, hk, rfl, hown, hb⟩ := hrel
    have hbs := hb.size
    by_cases hlt : k < ys.length
    · have hR' : ∃ g, A1 = some ⟨g, 0, none⟩ ∧ g < w2.heap.size ∧ RowP w2 g ys := by
        rcases hR with h0 | h0
        · rw [h0] at hlt; simp at hlt
        · exact h0
      obtain ⟨g, rfl, hg, hr⟩ := hR'
      obtain ⟨⟨x1, x2⟩, _⟩ := hr k hlt
      rw [← hb.cell (p := ⟨g, k * 2, none⟩) hg] at x1
      rw [← hb.cell (p := ⟨g, k * 2 + 1, none⟩) hg] at x2
      clear hr hR
      obtain ⟨⟨s1, s2⟩, ⟨s3, s4⟩⟩ := HS.out k hlt
      have hlen := joinTo_length ys k
      have HJ : Hid (joinTo ys (k + 1) = stepJ (joinTo ys k) (atp ys k)) := Lib.hid rfl
      have hba := hb.alloc hbs (.cells #[.int .i64 (atp ys k).1, .int .i64 (atp ys k).2] 59)
      obtain ⟨_, Ao, co, rfl, hPp⟩ := owns_pairs hown
      have hba2 : Below w2.heap.size w2 ((wr.alloc (.cells #[.int .i64 (atp ys k).1, .int .i64 (atp ys k).2] 59)).alloc (.cells #[.int .i64 (atp ys k).1, .int .i64 (atp ys k).2] 59)) := hba.alloc hba.size _
      generalize hps : joinTo ys k = ps at *
      generalize hnl : ps.length = n at *
      have hown1 := hown.alloc (.cells #[.int .i64 (atp ys k).1, .int .i64 (atp ys k).2] 59)
      clear hba2
      rcases n with _ | m
      · have HS2 := Lib.hid (stepJ_app (s := atp ys k) (Or.inl hnl))
        go_upto_region 8 with fail
        go_quiet (fail)
        have hown4 := owns_keep hown1 (below_drewN (Below.refl _ _) nq)
        go_wp2_with (first
              | (at_builtin; refine wpList_append_lies _ ?_ (.tmp 47) (.tmp 49) 55 ?_ w2.heap.size 59 i0 (.agg #[.int .i64 0, .int .i64 0]) 2 16 Tryz.underlying55 hi hz0 hz2 hz3 ?_ ?_ (.slice Ao 0 co) (0) (pcells ps) ?_ ?_ ⟨wr.heap.size + 1, 0, none⟩ 1 1 [.int .i64 (atp ys k).1, .int .i64 (atp ys k).2] ?_ ?_ ?_ ?_ ?_ ?_ ?_ ?_ (wr.heap.size + 2) ?_ ?_; (solve | (rfl)); (solve | (rfl)); (solve | (rfl)); (solve | (decide)); (solve | (rfl)); (solve | (exact owns_new (t := 59) (cs := #[_, _]) hown4 (by first | exact .inl rfl | exact .inr (.inl rfl) | exact .inr (.inr rfl)))); (solve | (rfl)); (solve | (rfl)); (solve | (exact newH (t := 59) (cs := #[_, _]) (w := World.drewN (wr.alloc _) nq) (by first | exact .inl rfl | exact .inr (.inl rfl) | exact .inr (.inr rfl)) (by simp))); (solve | ((intro u hu; simp only [List.mem_cons, List.not_mem_nil, or_false] at hu; rcases hu with rfl | rfl <;> rfl))); (solve | (omega)); (solve | ((unfold maxLen; omega))); (solve | (omega)); (solve | ((simp; omega))); (solve | ((simp; done))); (intro g3 cap3 w6 hown3 hgrow hat hg3))
              | fail)
        have hfin : w6.ownsRow w2.heap.size 59 2 (.slice (some ⟨g3, 0, none⟩) (0 + 1) cap3) (joinTo ys (k + 1)).length (pcells (joinTo ys (k + 1))) := by
          rw [HJ.out, HS2.out, pcells_append, List.length_append, hnl]
          exact hown3
        have hb6 : Below w2.heap.size w2 w6 := app_below (t := 59) (cs := #[_, _]) (.inl rfl) (below_drewN hba nq) (by have := hba.size; exact this) hown4 hgrow
        exact ⟨⟨k + 1, by omega, by go_num, hfin, hb6⟩, by simp [intOf]; omega⟩
      · obtain ⟨g', cap, hv, hgb, hgl⟩ := hown.form (by omega)
        cases hv
        have e1 := hown.cellAt (m * 2 + 1) (by omega)
        rw [(pcells_at ps m (by omega)).2] at e1
        have hfz := hown.frozenAt (m * 2 + 1)
        by_cases ht : (atp ys k).1 ≤ (atp ps m).2
        · have HS2 := Lib.hid (stepJ_set hnl ht)
          go_upto_region 8 with fail
          go_quiet (fail)
          have hown4 := owns_keep hown1 (below_drewN (Below.refl _ _) nq)
          have hb4 := below_drewN hba nq
          go_upto_region 9 with fail
          go_region
          have hown5 := owns_keep hown1 (below_drewN (Below.refl _ _) (nq + 1))
          have hst := (hown5.stored (m * 2 + 1) (.int .i64 (max (atp ps m).2 (atp ys k).2))).1
          rw [pcells_set ps m _ (by omega)] at hst
          have hb5 := Below.setCell (below_drewN hba (nq + 1)) (p := ⟨g', m * 2 + 1, none⟩) hgb (.int .i64 (max (atp ps m).2 (atp ys k).2))
          have hfin : ((World.drewN (wr.alloc (.cells #[.int .i64 (atp ys k).1, .int .i64 (atp ys k).2] 59)) (nq + 1)).setCell ⟨g', m * 2 + 1, none⟩ (.int .i64 (max (atp ps m).2 (atp ys k).2))).ownsRow w2.heap.size 59 2 (.slice (some ⟨g', 0, none⟩) (m + 1) co) (joinTo ys (k + 1)).length (pcells (joinTo ys (k + 1))) := by
            rw [HJ.out, HS2.out, List.length_set, hnl]
            exact hst
          clear hown4 hb4 hown5 hst hown hown1
          go_wp2
          exact ⟨⟨k + 1, by omega, by go_num, hfin, hb5⟩, by simp [intOf]; omega⟩
        · have HS2 := Lib.hid (stepJ_app (ps := ps) (s := atp ys k) (Or.inr (by rw [hnl]; exact ht)))
          go_upto_region 8 with fail
          go_quiet (fail)
          have hown4 := owns_keep hown1 (below_drewN (Below.refl _ _) nq)
          go_wp2_with (first
              | (at_builtin; refine wpList_append_lies _ ?_ (.tmp 47) (.tmp 49) 55 ?_ w2.heap.size 59 i0 (.agg #[.int .i64 0, .int .i64 0]) 2 16 Tryz.underlying55 hi hz0 hz2 hz3 ?_ ?_ (.slice (some ⟨g', 0, none⟩) (m + 1) co) (m + 1) (pcells ps) ?_ ?_ ⟨wr.heap.size + 1, 0, none⟩ 1 1 [.int .i64 (atp ys k).1, .int .i64 (atp ys k).2] ?_ ?_ ?_ ?_ ?_ ?_ ?_ ?_ (wr.heap.size + 2) ?_ ?_; (solve | (rfl)); (solve | (rfl)); (solve | (rfl)); (solve | (decide)); (solve | (rfl)); (solve | (exact owns_new (t := 59) (cs := #[_, _]) hown4 (by first | exact .inl rfl | exact .inr (.inl rfl) | exact .inr (.inr rfl)))); (solve | (rfl)); (solve | (rfl)); (solve | (exact newH (t := 59) (cs := #[_, _]) (w := World.drewN (wr.alloc _) nq) (by first | exact .inl rfl | exact .inr (.inl rfl) | exact .inr (.inr rfl)) (by simp))); (solve | ((intro u hu; simp only [List.mem_cons, List.not_mem_nil, or_false] at hu; rcases hu with rfl | rfl <;> rfl))); (solve | (omega)); (solve | ((unfold maxLen; omega))); (solve | (omega)); (solve | ((simp; omega))); (solve | ((simp; done))); (intro g3 cap3 w6 hown3 hgrow hat hg3))
              | fail)
          have hfin : w6.ownsRow w2.heap.size 59 2 (.slice (some ⟨g3, 0, none⟩) (m + 1 + 1) cap3) (joinTo ys (k + 1)).length (pcells (joinTo ys (k + 1))) := by
            rw [HJ.out, HS2.out, pcells_append, List.length_append, hnl]
            exact hown3
          have hb6 : Below w2.heap.size w2 w6 := app_below (t := 59) (cs := #[_, _]) (.inl rfl) (below_drewN hba nq) (by have := hba.size; exact this) hown4 hgrow
          exact ⟨⟨k + 1, by omega, by go_num, hfin, hb6⟩, by simp [intOf]; omega⟩
    · obtain rfl : k = ys.length := by omega
      obtain ⟨_, A', c', rfl, hPp⟩ := owns_pairs hown
      have HLW := Lib.hid ((low_of hown).mono hal.size)
      go_wp2
      go_ret
      exact ⟨ys, A', c', HP.out, HOO.out, rfl, hPp, HLW.out, hal.trans (hb.mono hal.size)⟩
set_option maxRecDepth 100000 in
set_option maxHeartbeats 4000000 in
theorem lkept2 (A : Option Addr) (cm B : Nat) (ms : List Mov) (s : Int × Int) (w : World) (h : Movs w B A ms) (hB : B ≤ w.heap.size) (hn : ms.length ≤ 80) (hm : ∀ j, j < ms.length → MvOk (mvAt ms j)) (hs : s.1 < s.2) (s0 : 0 ≤ s.1) (s1 : s.2 ≤ 10000000) :
    Calls Tryz.prog 43 #[.slice A ms.length cm, .agg #[.int .i64 s.1, .int .i64 s.2]] w (UnRes2 (keepTo ms [s] ms.length) w) := by
  have hF : Full [s] := fun p hp => by rw [List.mem_singleton.1 hp]; exact hs
  have hK : InK 10000000 [s] := fun p hp => by rw [List.mem_singleton.1 hp]; omega
  have HI := Lib.hid (keep_inv hm hF hK)
  have HM := Lib.hid hm
  have hmet : met [s] ≤ 10000000 := by simp only [met]; omega
  have HMET := Lib.hid hmet
  have hal : Below w.heap.size w ((w.alloc (.cells #[.int .i64 s.1, .int .i64 s.2] 59)).alloc (.cells #[.int .i64 s.1, .int .i64 s.2] 59)) := ((Below.refl _ _).alloc (Nat.le_refl _) _).alloc (by simp) _
  have hP := one_pair (w.alloc (.cells #[.int .i64 s.1, .int .i64 s.2] 59)) s.1 s.2 59 (H := w.heap.size + 1) (by simp)
  clear hm hF hK hmet
  go_enter Tryz.func43, Tryz.ntmps43
  go_wp2_with fail
  generalize (w.alloc (.cells #[.int .i64 s.1, .int .i64 s.2] 59)).alloc (.cells #[.int .i64 s.1, .int .i64 s.2] 59) = w2 at *
  go_loopw [5, 12] (fun out i wr => ∃ (k : Nat) (A' : Option Addr) (c' : Nat), k ≤ ms.length ∧ i = .int .i64 k ∧ out = .slice A' (keepTo ms [s] k).length c' ∧ Pairs wr wr.heap.size A' (keepTo ms [s] k) ∧ Below w.heap.size w wr) (fun _ i _ => ms.length - (intOf i).toNat)
  case atStart => exact ⟨0, _, _, Nat.zero_le _, rfl, rfl, hP, hal⟩
  case round =>
    clear hP hal
    obtain ⟨k, A', c', hk, rfl, rfl, hP, hb⟩ := hrel
    have hbs := hb.size
    obtain ⟨i1, i2, i3⟩ := HI.out k hk
    have hlen := met_ge i1
    have hl7 : (keepTo ms [s] k).length ≤ 10000000 := by have := HMET.out; omega
    have hsm : ∀ p ∈ keepTo ms [s] k, SmS p := i2.sm (by omega)
    have HSM := Lib.hid hsm
    have HF := Lib.hid i1
    clear i1 i2 i3 hlen hsm
    by_cases hlt : k < ms.length
    · obtain ⟨b, off, hA, hbb, u0, u1, u2⟩ := (h.below (hb.mono hB)).at_ hlt
      subst hA
      have hba := hb.alloc hbs (.cells #[.int .i64 (mvAt ms k).a, .int .i64 (mvAt ms k).b, .int .i64 (mvAt ms k).grow] 110)
      have hP1 := hP.below ((Below.refl wr.heap.size wr).alloc (Nat.le_refl _) (.cells #[.int .i64 (mvAt ms k).a, .int .i64 (mvAt ms k).b, .int .i64 (mvAt ms k).grow] 110))
      clear hP
      go_wp2_with fail
      refine (lstretches (mvAt ms k) A' c' wr.heap.size (keepTo ms [s] k) _ hP1 (by simp) (HM.out k hlt).sm HSM.out hl7).mono ?_
      rintro e w3 ⟨A3, c3, rfl, hP3, hb3⟩
      have hb4 := hba.trans (hb3.mono hba.size)
      go_wp2_with fail
      exact ⟨⟨k + 1, A3, c3, by omega, by go_num, rfl, hP3, hb4⟩, by simp [intOf]; omega⟩
    · obtain rfl : k = ms.length := by omega
      go_wp2_with fail
      refine (lUnion2 A' c' wr.heap.size (keepTo ms [s] ms.length) wr hP HSM.out hl7).mono ?_
      rintro e w3 hu
      obtain ⟨us, A3, c3, n1, n2, n3, rfl, hP3, hlw, hb3⟩ := hu.norm HF.out
      have HLW := Lib.hid (hlw.mono hb.size)
      clear hlw
      go_wp2
      go_ret
      exact ⟨us, A3, c3, n1, n2, n3, rfl, hP3, HLW.out, hb.trans (hb3.mono hb.size)⟩
set_option maxRecDepth 100000 in
set_option maxHeartbeats 2000000 in
theorem lKept2 (A : Option Addr) (cp B : Nat) (num L : Int) (cs : List Chg) (s : Int × Int) (f t : Int) (w : World) (h : Chs w B A cs) (hB : B ≤ w.heap.size) (hn : cs.length ≤ 9223372036854775807) :
    Calls Tryz.prog 17 #[.agg #[.int .i64 num, .int .i64 L, .slice A cs.length cp], .agg #[.int .i64 s.1, .int .i64 s.2], .int .i64 f, .int .i64 t] w (KeptRes2 num L cs s f t w) := by
  have hT := RdBox.new (c := cp) (num := num) (L := L) (T := 24) h hB
  have hal : Below w.heap.size w (w.alloc (.cells #[.int .i64 num, .int .i64 L, .slice A cs.length cp] 24)) := (Below.refl _ _).alloc (Nat.le_refl _) _
  generalize hW : w.alloc (.cells #[.int .i64 num, .int .i64 L, .slice A cs.length cp] 24) = w0 at hT hal
  have hz : w0.heap.size = w.heap.size + 1 := by rw [← hW]; simp
  have hT' := hT.below ((Below.refl w0.heap.size w0).alloc (Nat.le_refl _) (.cells #[.int .i64 s.1, .int .i64 s.2] 59)) hT.sz
  have hal' := hal.alloc hal.size (.cells #[.int .i64 s.1, .int .i64 s.2] 59)
  have y0 : (w0.alloc (.cells #[.int .i64 s.1, .int .i64 s.2] 59)).cell? ⟨w.heap.size + 1, 0, none⟩ = some (.int .i64 s.1) := by rw [← hz]; simp [go_sem]
  have y1 : (w0.alloc (.cells #[.int .i64 s.1, .int .i64 s.2] 59)).cell? ⟨w.heap.size + 1, 1, none⟩ = some (.int .i64 s.2) := by rw [← hz]; simp [go_sem]
  generalize hW1 : w0.alloc (.cells #[.int .i64 s.1, .int .i64 s.2] 59) = w1 at hT' hal' y0 y1
  have hz1 : w1.heap.size = w.heap.size + 2 := by rw [← hW1]; simp [hz]
  have HW := Lib.hid hW
  have HW1 := Lib.hid hW1
  clear hW hW1 h hT hal
  obtain ⟨-, q0, q1, q2, -, _⟩ := id hT'
  have hV := two_ints w1 f t 3 rfl
  have HZ := Lib.hid hz1
  have hb : Below w1.heap.size w1 (w1.alloc (.cells #[.int .i64 f, .int .i64 t] 3)) := (Below.refl _ _).alloc (Nat.le_refl _) _
  have hy : w.heap.size + 1 < w1.heap.size := by omega
  clear hz hz1
  go_enter Tryz.func17, Tryz.ntmps17
  go_upto_region 1 with fail
  rw [HW.out, HW1.out]
  go_wp2_with fail
  clear HW HW1
  generalize w1.alloc (.cells #[.int .i64 f, .int .i64 t] 3) = w1' at *
  have hT1 := hT'.below hb hT'.sz
  have hal1 := hal'.trans (hb.mono hal'.size)
  refine (lchecked A (some ⟨w1.heap.size, 0, none⟩) cp 2 B num L cs [f, t] w1' hT1.ch (by have := hT1.lt; have := hT1.sz; omega) hn hV (by simp)).mono ?_
  rintro e w2 ⟨r1, r2, r3, hb2⟩
  have hT2 := hT1.below hb2 hT1.sz
  have hal2 := hal1.trans (hb2.mono hal1.size)
  have hbb2 : Below w1.heap.size w1 w2 := hb.trans (hb2.mono hb.size)
  replace y0 := (hbb2.cell (p := ⟨w.heap.size + 1, 0, none⟩) hy).trans y0
  replace y1 := (hbb2.cell (p := ⟨w.heap.size + 1, 1, none⟩) hy).trans y1
  replace hy := Nat.lt_of_lt_of_le hy hbb2.size
  clear q0 q1 q2 hb hb2 hT1 hV hal1 hal' hbb2
  obtain ⟨-, q0, q1, q2, -, _⟩ := id hT2
  by_cases ho : RoadOk num L cs
  · have HO := Lib.hid ho
    by_cases hv : VersOk cs f t
    · obtain ⟨A', c', rfl, hI⟩ := r3 ho (vers_iff.2 hv)
      obtain ⟨⟨v0, v1⟩, v2, v3⟩ := id hv
      have HV := Lib.hid hv
      obtain ⟨fn, rfl⟩ := Int.eq_ofNat_of_zero_le v0
      obtain ⟨tn, rfl⟩ := Int.eq_ofNat_of_zero_le v2
      have h40 := ho.2.2.1
      clear r1 r2 r3 ho hv hT'
      obtain ⟨b, off, hA, hbb, hc⟩ := hI.at_ (k := fn) (by rw [lens_length]; omega)
      have u0 := hc fn (by rw [lens_length]; omega)
      rw [lens_at L cs (by omega)] at u0
      subst hA
      clear hc
      have hlb := lenAt_bd HO.out.2.1.1 HO.out.2.1.2 fn (fun j hj => HO.out.2.2.2 j (by omega))
      obtain ⟨n0, n1⟩ := hlb
      have v4 : (fn : Int) < (cs.length : Int) + 1 := by omega
      have v5 : fn < cs.length + 1 := by omega
      have v6 : fn ≤ cs.length := by omega
      by_cases k0 : 0 ≤ s.1
      rotate_left
      · have HS : Hid (¬ SpOk L cs s fn) := fun hh => k0 hh.1
        go_wp2_with fail
        go_quiet (fail)
        go_wp2_with fail
        go_ret2
        exact ⟨fun hh => absurd HO.out hh, fun _ hh => absurd HV.out hh, fun _ _ _ => rfl, fun _ _ hh => absurd hh HS.out, below_drewN hal2 _⟩
      by_cases k1 : s.1 < s.2
      rotate_left
      · have HS : Hid (¬ SpOk L cs s fn) := fun hh => k1 hh.2.1
        go_wp2_with fail
        go_quiet (fail)
        go_wp2_with fail
        go_ret2
        exact ⟨fun hh => absurd HO.out hh, fun _ hh => absurd HV.out hh, fun _ _ _ => rfl, fun _ _ hh => absurd hh HS.out, below_drewN hal2 _⟩
      by_cases k2 : s.2 ≤ lenAt L cs fn
      rotate_left
      · have HS : Hid (¬ SpOk L cs s fn) := fun hh => k2 hh.2.2
        go_wp2_with fail
        go_quiet (fail)
        go_wp2_with fail
        go_ret2
        exact ⟨fun hh => absurd HO.out hh, fun _ hh => absurd HV.out hh, fun _ _ _ => rfl, fun _ _ hh => absurd hh HS.out, below_drewN hal2 _⟩
      have HS : Hid (SpOk L cs s fn) := ⟨k0, k1, k2⟩
      go_wp2_with fail
      go_quiet (fail)
      clear u0
      go_upto_region 6 with fail
      have hbq : Below w2.heap.size w2 (w2.drewN nq) := below_drewN (Below.refl w2.heap.size w2) nq
      have hal3 := below_drewN hal2 nq
      have hT3 := hT2.below hbq hT2.sz
      replace y0 := (hbq.cell (p := ⟨w.heap.size + 1, 0, none⟩) hy).trans y0
      replace y1 := (hbq.cell (p := ⟨w.heap.size + 1, 1, none⟩) hy).trans y1
      replace hy := Nat.lt_of_lt_of_le hy hbq.size
      have HK := Lib.hid hal3
      generalize w2.drewN nq = w3 at *
      clear q0 q1 q2 hT2 hal2 hbq hI hbb hal3
      obtain ⟨-, q0, q1, q2, -, _⟩ := id hT3
      have hzz := hT3.sz
      have hBz : B ≤ w3.heap.size := by have := hT3.lt; omega
      have hft : fn ≤ cs.length ∧ tn ≤ cs.length := ⟨by omega, by omega⟩
      have hsl : s.2 ≤ 10000000 := by omega
      clear n0 n1 k2 v0 v1 v2 v3 v4 v5 v6
      go_region_held3 (fun w' => Below w3.heap.size w3 w' ∧ w'.cell? ⟨w.heap.size, 0, none⟩ = some (.int .i64 num) ∧ w'.cell? ⟨w.heap.size, 1, none⟩ = some (.int .i64 L) ∧ w'.cell? ⟨w.heap.size, 2, none⟩ = some (.slice A cs.length cp) ∧ w'.cell? ⟨w.heap.size + 1, 0, none⟩ = some (.int .i64 s.1) ∧ w'.cell? ⟨w.heap.size + 1, 1, none⟩ = some (.int .i64 s.2)) ((refine heldK hzz hy q0 q1 q2 y0 y1 ?_; first | assumption | exact hbm2 | exact hbk2 | exact Below.refl _ _ | exact (Below.refl _ _).drew | exact below_drewN (Below.refl _ _) _ | fail)) (first
        | (go_at_call 42; refine (lmoves A cp B num L cs fn tn _ ?_ ?_ HO.out hft.1 hft.2).mono ?_; (solve | exact hT3.ch.below (Below.mono (And.left (by assumption)) hBz)); (solve | exact Nat.le_trans hBz (Below.size (And.left (by assumption)))); (rintro e wm ⟨Am, cm, rfl, hM, hbm⟩); have hbm2 : Below w3.heap.size w3 wm := Below.trans (And.left (by assumption)) (hbm.mono (Below.size (And.left (by assumption)))))
        | (go_at_call 43; refine (lkept2 Am cm wm.heap.size (movesF cs fn tn) s _ ?_ ?_ ?_ (moves_ok HO.out hft.1 hft.2) k1 k0 hsl).mono ?_; (solve | exact hM | exact hM.below (below_drewN (Below.refl _ _) _) | exact hM.below (Below.refl _ _).drew); (solve | exact Nat.le_refl _); (solve | (rw [movesF_length]; omega)); (rintro e wk ⟨us, Ak, ck, n1, n2, n3, rfl, hP, hlw, hbk⟩); have hbk2 : Below w3.heap.size w3 wk := Below.trans (And.left (by assumption)) (hbk.mono (Below.size (And.left (by assumption)))))
        | fail)
      all_goals
        have hlen := (keep_len (moves_ok HO.out hft.1 hft.2) k1 k0 hsl).2
        have hfin := HK.out.trans (hbk2.mono HK.out.size)
        have HLW : Hid (LowA w.heap.size Ak us.length) := Lib.hid (hlw.mono (Nat.le_trans HK.out.size hbm2.size))
        clear hlw
        go_wp2
        go_ret2
        exact ⟨fun hh => absurd HO.out hh, fun _ hh => absurd HV.out hh, fun _ _ hh => absurd HS.out hh, fun _ _ _ => ⟨us, Ak, ck, ⟨n1, n2, Nat.le_trans n3 hlen⟩, rfl, hP, HLW.out⟩, hfin⟩
    · rw [r2 ho (fun hh => hv (vers_iff.1 hh))]
      have HV := Lib.hid hv
      clear r1 r2 r3 ho hv
      go_wp2
      go_ret2
      exact ⟨fun hh => absurd HO.out hh, fun _ _ => rfl, fun _ hh => absurd hh HV.out, fun _ hh => absurd hh HV.out, hal2⟩
  · rw [r1 ho]
    have HO := Lib.hid ho
    clear r1 r2 r3 ho
    go_wp2
    go_ret2
    exact ⟨fun _ => rfl, fun hh => absurd hh HO.out, fun hh => absurd hh HO.out, fun hh => absurd hh HO.out, hal2⟩
end Go.Proofs.YtdmmcdbojmalfaaGreat
