/- Contracts of Crowded (both texts), samePairs, and the walk of RoadCrowds. -/
import Derived.Test.YtoknkmlkeacgjaaSgt
import Derived.Test.YtoknkmlkeacgjaaMov
import Derived.Test.YtoknkmlkeacgjaaAwk
import Derived.Laws.StructEq
import Derived.Laws.Tables
import Derived.Laws.Cover2
namespace Go.Proofs.Ytoknkmlkeacgjaa
open Go.RowKit
theorem info91 : (Try.prog.info? 91).map (fun i => (i.zero, i.size, i.bytes)) = some (some (.agg #[.int .i64 0, .int .i64 0]), 2, 16) := by kernel_rfl
theorem eq91 (a b c d : Int) (w : World) : (Op.equalIn 10000 91 (.agg #[.int .i64 a, .int .i64 b]) (.agg #[.int .i64 c, .int .i64 d])).run Try.prog w = .ok (a == c && b == d) w := by
  have u3 := Try.underlying3
  have a3 := Try.isAgg3
  have z3 := Try.sizeOf3
  rw [show (10000 : Nat) = 9999 + 1 from rfl, Op.equalIn]
  simp only [Sem.run_bind, run_underlying Try.underlying91, Result.andThen_ok]
  simp only [Std.Legacy.Range.forIn_eq_forIn_range', Std.Legacy.Range.size, Nat.sub_zero, Nat.add_sub_cancel, Nat.div_one, List.range'_succ, List.range'_zero, List.forIn_cons, List.forIn_nil]
  go_simp
  by_cases h1 : a = c <;> by_cases h2 : b = d <;> simp [h1, h2]
theorem neq91 (a b : Int) (w : World) : Sem.run Try.prog (binOp .neq 91 (.agg #[.int .i64 a, .int .i64 b]) (.agg #[.int .i64 a, .int .i64 b])) w = .ok (.bool false) w := by
  rw [run_neq_struct, eq91]
  simp [Result.andThen]
def NearP (p q : Pst) (gap : Int) : Prop := (p.dir = q.dir ∧ p.side = q.side) ∧ (p.chain - q.chain < gap ∧ q.chain - p.chain < gap)
instance (p q : Pst) (gap : Int) : Decidable (NearP p q gap) := by unfold NearP; infer_instance
def rowTo (ps : List Pst) (gap : Int) (i : Nat) : Nat → List (Int × Int)
  | 0 => []
  | j + 1 => if NearP (psAt ps i) (psAt ps (i + 1 + j)) gap then rowTo ps gap i j ++ [((i : Int), ((i + 1 + j : Nat) : Int))] else rowTo ps gap i j
def crTo (ps : List Pst) (gap : Int) : Nat → List (Int × Int)
  | 0 => []
  | i + 1 => crTo ps gap i ++ rowTo ps gap i (ps.length - (i + 1))
theorem rowTo_length (ps : List Pst) (gap : Int) (i : Nat) : ∀ j, (rowTo ps gap i j).length ≤ j
  | 0 => Nat.le_refl _
  | j + 1 => by
    have := rowTo_length ps gap i j
    simp only [rowTo]
    split
    · simp; omega
    · omega
theorem crTo_length (ps : List Pst) (gap : Int) (h : ps.length ≤ 200) : ∀ i, (crTo ps gap i).length ≤ i * 200
  | 0 => by simp [crTo]
  | i + 1 => by
    have := crTo_length ps gap h i
    have := rowTo_length ps gap i (ps.length - (i + 1))
    simp only [crTo, List.length_append]
    omega
def CrOk (ps : List Pst) (gap : Int) : Prop := ps.length ≤ 200 ∧ (0 ≤ gap ∧ gap ≤ 10000) ∧ ∀ j, j < ps.length → PostOk (psAt ps j)
def CrRes (ps : List Pst) (gap : Int) (w : World) (e : Ending) (w' : World) : Prop :=
  (¬ CrOk ps gap → e = .returned (.tuple #[.slice none 0 0, .int .i64 2])) ∧
  (CrOk ps gap → ∃ (A : Option Addr) (c : Nat), e = .returned (.tuple #[.slice A (crTo ps gap ps.length).length c, .int .i64 0]) ∧ Pairs w' w'.heap.size A (crTo ps gap ps.length)) ∧ Below w.heap.size w w'
set_option maxRecDepth 100000 in
set_option maxHeartbeats 4000000 in
theorem lsamePairs (A A' : Option Addr) (c c' B B' : Nat) (xs : List (Int × Int)) (w : World) (h : Pairs w B A xs) (h' : Pairs w B' A' xs) (hn : xs.length ≤ 100000) :
    Calls Try.prog 33 #[.slice A xs.length c, .slice A' xs.length c'] w fun e w' => e = .returned (.bool true) ∧ Drew w w' := by
  go_enter Try.func33, Try.ntmps33
  go_wp2
  go_loopw [5] (fun i wr => ∃ k : Nat, k ≤ xs.length ∧ i = .int .i64 k ∧ Drew w wr) (fun i _ => xs.length - (intOf i).toNat)
  case atStart => exact ⟨0, Nat.zero_le _, rfl, Drew.refl _⟩
  case round =>
    obtain ⟨k, hk, rfl, hd⟩ := hrel
    by_cases hlt : k < xs.length
    · obtain ⟨b, o, rfl, _, hc⟩ := (h.keep fun p _ => hd.cell p).at_ hlt
      obtain ⟨x1, x2⟩ := hc k hlt
      obtain ⟨b', o', hA', _, hc'⟩ := (h'.keep fun p _ => hd.cell p).at_ hlt
      obtain ⟨y1, y2⟩ := hc' k hlt
      clear hc hc' h h'
      subst hA'
      have heq : ∀ w, (Op.equalIn 10000 91 (.agg #[.int .i64 (atp xs k).1, .int .i64 (atp xs k).2]) (.agg #[.int .i64 (atp xs k).1, .int .i64 (atp xs k).2])).run Try.prog w = .ok true w := fun w => by rw [eq91]; simp
      go_wp2_with fail
      go_quiet (fail)
      go_wp2
      exact ⟨⟨k + 1, by omega, by go_num, hd.drewN nq⟩, by simp [intOf]; omega⟩
    · go_wp2
      go_ret
      exact ⟨rfl, hd⟩
set_option maxRecDepth 100000 in
set_option maxHeartbeats 4000000 in
theorem lCrowded (A : Option Addr) (c B : Nat) (ps : List Pst) (gap : Int) (w : World) (h : Posts w B A ps) (hB : B ≤ w.heap.size) (hn : ps.length ≤ 9223372036854775807) :
    Calls Try.prog 31 #[.slice A ps.length c, .int .i64 gap] w (CrRes ps gap w) := by
  by_cases hl : ps.length ≤ 200
  rotate_left
  · go_enter Try.func31, Try.ntmps31
    go_wp2_with (go_at_call 51; refine (lwithin _ _ _ _).mono ?_; rintro e w' ⟨rfl, rfl⟩)
    go_ret2
    exact ⟨fun _ => rfl, fun hh => absurd hh.1 hl, Below.refl _ _⟩
  by_cases hg : 0 ≤ gap ∧ gap ≤ 10000
  rotate_left
  · have j1 := inB_f hg
    go_enter Try.func31, Try.ntmps31
    go_wp2_with (go_at_call 51; refine (lwithin _ _ _ _).mono ?_; rintro e w' ⟨rfl, rfl⟩)
    go_ret2
    exact ⟨fun _ => rfl, fun hh => absurd hh.2.1 hg, Below.refl _ _⟩
  have j1 := inB_t hg.1 hg.2
  obtain ⟨g0, g1⟩ := hg
  obtain ⟨w1, rfl⟩ : ∃ w1 : World, w1 = w := ⟨_, rfl⟩
  go_enter Try.func31, Try.ntmps31
  go_wp2_with (go_at_call 51; refine (lwithin _ _ _ _).mono ?_; rintro e w' ⟨rfl, rfl⟩)
  clear j1
  go_loopw [23] (fun iv wr => ∃ k : Nat, k ≤ ps.length ∧ iv = .int .i64 k ∧ Hid (∀ j, j < k → PostOk (psAt ps j)) ∧ Below w1.heap.size w1 wr) (fun iv _ => ps.length - (intOf iv).toNat)
  case atStart => exact ⟨0, Nat.zero_le _, rfl, hid_none, Below.refl _ _⟩
  case round =>
    obtain ⟨k, hk, rfl, ha, hb⟩ := hrel
    have hbs := hb.size
    by_cases hlt : k < ps.length
    · obtain ⟨b, o, rfl, hbl, hc⟩ := (h.below (hb.mono hB)).at_ hlt
      obtain ⟨u0, u1, u2, u3⟩ := hc k hlt
      clear hc
      have hba := hb.alloc hbs (.cells #[.int .i64 (psAt ps k).num, .int .i64 (psAt ps k).chain, .int .i64 (psAt ps k).dir, .int .i64 (psAt ps k).side] 56)
      go_wp2_with fail
      refine (lvalidPost (psAt ps k) _).mono ?_
      rintro e w3 ⟨r1, r2, hb3⟩
      have hb4 := hba.trans (hb3.mono hba.size)
      by_cases hp : PostOk (psAt ps k)
      · rw [r1 hp]
        have HP := Lib.hid hp
        clear r1 r2 hp
        go_wp2_with fail
        exact ⟨⟨k + 1, by omega, by go_num, hid_more ha HP.out, hb4⟩, by simp [intOf]; omega⟩
      · rw [r2 hp]
        have HP := Lib.hid hp
        clear r1 r2 hp
        go_wp2_with fail
        go_ret2
        exact ⟨fun _ => rfl, fun hh => absurd (hh.2.2 k hlt) HP.out, hb4⟩
    · obtain rfl : k = ps.length := by omega
      have HALL : Hid (CrOk ps gap) := ⟨hl, ⟨g0, g1⟩, ha.out⟩
      obtain ⟨w2, rfl⟩ : ∃ w2 : World, w2 = wr := ⟨_, rfl⟩
      have h2 := h.below (hb.mono hB)
      have hB2 : B ≤ w2.heap.size := by omega
      clear ha hk hlt
      obtain ⟨i0, hi, hz0, hz2, hz3⟩ := info_parts info91
      go_wp2_with fail
      go_loopw [8, 33] (fun out iv wr => ∃ i : Nat, i ≤ ps.length ∧ iv = .int .i64 i ∧ wr.ownsRow w2.heap.size 91 2 out (crTo ps gap i).length (pcells (crTo ps gap i)) ∧ Below w2.heap.size w2 wr) (fun _ iv _ => ps.length - (intOf iv).toNat)
      case atStart => exact ⟨0, Nat.zero_le _, rfl, World.ownsRow_nil _ _ _ _, Below.refl _ _⟩
      case round =>
        obtain ⟨i, hil, rfl, hown, hbw⟩ := hrel
        have hbws := hbw.size
        have hcl := crTo_length ps gap hl i
        by_cases hlt : i < ps.length
        · obtain ⟨b, o, rfl, hbl, hc⟩ := (h2.below (hbw.mono hB2)).at_ hlt
          obtain ⟨u0, u1, u2, u3⟩ := hc i hlt
          clear hc
          have hpi := HALL.out.2.2 i hlt
          obtain ⟨⟨a0, a1⟩, _, _, _⟩ := hpi
          have hbb : b < wr.heap.size := by omega
          have hPb := PsBox.new wr (psAt ps i) 56 rfl
          have hba := hbw.alloc hbws (.cells #[.int .i64 (psAt ps i).num, .int .i64 (psAt ps i).chain, .int .i64 (psAt ps i).dir, .int .i64 (psAt ps i).side] 56)
          have hown1 := hown.alloc (.cells #[.int .i64 (psAt ps i).num, .int .i64 (psAt ps i).chain, .int .i64 (psAt ps i).dir, .int .i64 (psAt ps i).side] 56)
          have hne : ∀ g, u8.ownBlock = some g → g ≠ wr.heap.size := fun g hg => by have := (hown.lt g hg).2; omega
          go_wp2_with fail
          clear u0 u1 u2 u3 hbb
          generalize hn10 : wr.heap.size = n10 at *
          generalize wr.alloc (.cells #[.int .i64 (psAt ps i).num, .int .i64 (psAt ps i).chain, .int .i64 (psAt ps i).dir, .int .i64 (psAt ps i).side] 56) = w4 at *
          have hstart : crTo ps gap i = crTo ps gap i ++ rowTo ps gap i 0 := by simp [rowTo]
          rw [hstart] at hown1
          obtain ⟨wo, rfl⟩ : ∃ wo : World, wo = wr := ⟨_, rfl⟩
          have HST : Hid ((w4.ownsRow w2.heap.size 91 2 u8 (crTo ps gap i ++ rowTo ps gap i 0).length (pcells (crTo ps gap i ++ rowTo ps gap i 0))) ∧ (∀ g, u8.ownBlock = some g → g ≠ n10) ∧ PsBox w4 n10 (psAt ps i) ∧ Below w2.heap.size w2 w4) := ⟨hown1, hne, hPb, hba⟩
          clear hstart hown1 hne hPb hba hown hbw hbws hn10
          go_loopw [8, 11] (fun out kv wr => ∃ j : Nat, j ≤ ps.length - (i + 1) ∧ kv = .int .i64 ((i : Int) + 1 + j) ∧ wr.ownsRow w2.heap.size 91 2 out (crTo ps gap i ++ rowTo ps gap i j).length (pcells (crTo ps gap i ++ rowTo ps gap i j)) ∧ (∀ g, out.ownBlock = some g → g ≠ n10) ∧ PsBox wr n10 (psAt ps i) ∧ Below w2.heap.size w2 wr) (fun _ kv _ => ps.length - (intOf kv).toNat)
          case atStart => exact ⟨0, Nat.zero_le _, by simp, HST.out.1, HST.out.2.1, HST.out.2.2.1, HST.out.2.2.2⟩
          case round =>
            clear HST
            obtain ⟨j, hj, rfl, hown, hne, hPb, hbw⟩ := hrel
            have hbws := hbw.size
            have hrl := rowTo_length ps gap i j
            have hll : (crTo ps gap i ++ rowTo ps gap i j).length ≤ 100000 := by rw [List.length_append]; omega
            by_cases hlt2 : i + 1 + j < ps.length
            · obtain ⟨b', o', hA', hbl', hc⟩ := (h2.below (hbw.mono hB2)).at_ hlt2
              obtain ⟨y0, y1, y2, y3⟩ := hc (i + 1 + j) hlt2
              clear hc
              injection hA' with hA'
              injection hA' with hA1 hA2
              subst hA1 hA2
              have hpk := HALL.out.2.2 (i + 1 + j) hlt2
              obtain ⟨⟨k0, k1⟩, _, _, _⟩ := hpk
              obtain ⟨q0, q1, q2, q3, qz⟩ := id hPb
              have hbb : b < wr.heap.size := by omega
              generalize hpp : psAt ps (i + 1 + j) = q at *
              have HQ := Lib.hid hpp
              clear hpp
              generalize hpi : psAt ps i = p at *
              have HPI := Lib.hid hpi
              clear hpi
              have hba := hbw.alloc hbws (.cells #[.int .i64 q.num, .int .i64 q.chain, .int .i64 q.dir, .int .i64 q.side] 56)
              have hown1 := hown.alloc (.cells #[.int .i64 q.num, .int .i64 q.chain, .int .i64 q.dir, .int .i64 q.side] 56)
              have hP1 := hPb.below ((Below.refl wr.heap.size wr).alloc (Nat.le_refl _) (.cells #[.int .i64 q.num, .int .i64 q.chain, .int .i64 q.dir, .int .i64 q.side] 56)) qz
              have v1 : (i : Int) + 1 + (j : Int) < (ps.length : Int) := by omega
              generalize hpix : i + 1 + j = pk at *
              have v2 : (i : Int) + 1 + (j : Int) = (pk : Int) := by omega
              rw [v2]
              rw [v2] at v1
              have V2 := Lib.hid v2
              have HPIX := Lib.hid hpix
              have hmeas : j + 1 ≤ ps.length - (i + 1) := by omega
              clear v2 hpix
              by_cases t1 : p.dir = q.dir
              · have t1b : (p.dir == q.dir) = true := by simp [t1]
                have T1 := Lib.hid t1
                clear t1
                by_cases t2 : p.side = q.side
                · have t2b : (p.side == q.side) = true := by simp [t2]
                  have T2 := Lib.hid t2
                  clear t2
                  by_cases t3 : p.chain - q.chain < gap ∧ q.chain - p.chain < gap
                  · have HR : Hid (crTo ps gap i ++ rowTo ps gap i (j + 1) = (crTo ps gap i ++ rowTo ps gap i j) ++ [((i : Int), (pk : Int))]) := by
                      refine Lib.hid ?_
                      simp only [rowTo]
                      rw [HPIX.out, HQ.out, HPI.out, if_pos ⟨⟨T1.out, T2.out⟩, t3⟩, List.append_assoc]
                    obtain ⟨t4, t5⟩ := t3
                    by_cases t6 : p.chain - q.chain ≤ q.chain - p.chain
                    · go_wp2_with (first
                        | (at_builtin; refine wpList_append_lies _ ?_ (.tmp 77) (.tmp 81) 50 ?_ w2.heap.size 91 i0 (.agg #[.int .i64 0, .int .i64 0]) 2 16 Try.underlying50 hi hz0 hz2 hz3 ?_ ?_ u8 (crTo ps gap i ++ rowTo ps gap i j).length (pcells (crTo ps gap i ++ rowTo ps gap i j)) ?_ ?_ ⟨wr.heap.size + 1, 0, none⟩ 1 1 [.int .i64 (i : Int), .int .i64 (pk)] ?_ ?_ ?_ ?_ ?_ ?_ ?_ ?_ (wr.heap.size + 2) ?_ ?_; (solve | (rfl)); (solve | (rfl)); (solve | (rfl)); (solve | (decide)); (solve | (rfl)); (solve | (exact owns_new (t := 91) (cs := #[_, _]) hown1 (by first | exact .inl rfl | exact .inr (.inl rfl) | exact .inr (.inr rfl)))); (solve | (rfl)); (solve | (rfl)); (solve | (exact newH (t := 91) (cs := #[_, _]) (w := wr.alloc _) (by first | exact .inl rfl | exact .inr (.inl rfl) | exact .inr (.inr rfl)) (by simp))); (solve | ((intro u hu; simp only [List.mem_cons, List.not_mem_nil, or_false] at hu; rcases hu with rfl | rfl <;> rfl))); (solve | (omega)); (solve | ((unfold maxLen; omega))); (solve | (omega)); (solve | ((simp; omega))); (solve | ((simp; done))); (intro g3 cap3 w6 hown3 hgrow hat hg3))
                        | fail)
                      all_goals first | (exfalso; omega) | skip
                      all_goals
                        have hfin : w6.ownsRow w2.heap.size 91 2 (.slice (some ⟨g3, 0, none⟩) ((crTo ps gap i ++ rowTo ps gap i j).length + 1) cap3) (crTo ps gap i ++ rowTo ps gap i (j + 1)).length (pcells (crTo ps gap i ++ rowTo ps gap i (j + 1))) := by
                          rw [HR.out, pcells_append _ [_], List.length_append (bs := [_])]
                          exact hown3
                        have hle : (crTo ps gap i ++ rowTo ps gap i j).length = (crTo ps gap i).length + (rowTo ps gap i j).length := List.length_append
                        rw [hle] at hfin
                        have hb6 : Below w2.heap.size w2 w6 := app_below (w := wr.alloc _) (t := 91) (cs := #[_, _]) (.inl rfl) hba (by simp; omega) hown1 hgrow
                        have hfar : ∀ k, w6.cell? ⟨n10, k, none⟩ = wr.cell? ⟨n10, k, none⟩ := fun k => (hgrow.cell_far ⟨n10, k, none⟩ (by simp; omega) (by intro e; exact hne n10 e.symm rfl)).trans ((((Below.refl wr.heap.size wr).alloc (Nat.le_refl _) _).alloc (by simp) _).cell (p := ⟨n10, k, none⟩) qz)
                        have hP6 : PsBox w6 n10 p := ⟨(hfar 0).trans q0, (hfar 1).trans q1, (hfar 2).trans q2, (hfar 3).trans q3, by have := hgrow.size; simp at this; omega⟩
                        have hne6 : ∀ g, (Value.slice (some ⟨g3, 0, none⟩) ((crTo ps gap i).length + (rowTo ps gap i j).length + 1) cap3).ownBlock = some g → g ≠ n10 := by
                          intro g hg
                          have e : g3 = g := by simpa [Value.ownBlock] using hg
                          subst e
                          rcases hat with h | h
                          · exact hne _ h
                          · omega
                        exact ⟨⟨j + 1, hmeas, by have := V2.out; congr 1; push_cast; omega, hfin, hne6, hP6, hb6⟩, by have := V2.out; simp [intOf]; omega⟩
                    · go_wp2_with (first
                        | (at_builtin; refine wpList_append_lies _ ?_ (.tmp 77) (.tmp 81) 50 ?_ w2.heap.size 91 i0 (.agg #[.int .i64 0, .int .i64 0]) 2 16 Try.underlying50 hi hz0 hz2 hz3 ?_ ?_ u8 (crTo ps gap i ++ rowTo ps gap i j).length (pcells (crTo ps gap i ++ rowTo ps gap i j)) ?_ ?_ ⟨wr.heap.size + 1, 0, none⟩ 1 1 [.int .i64 (i : Int), .int .i64 (pk)] ?_ ?_ ?_ ?_ ?_ ?_ ?_ ?_ (wr.heap.size + 2) ?_ ?_; (solve | (rfl)); (solve | (rfl)); (solve | (rfl)); (solve | (decide)); (solve | (rfl)); (solve | (exact owns_new (t := 91) (cs := #[_, _]) hown1 (by first | exact .inl rfl | exact .inr (.inl rfl) | exact .inr (.inr rfl)))); (solve | (rfl)); (solve | (rfl)); (solve | (exact newH (t := 91) (cs := #[_, _]) (w := wr.alloc _) (by first | exact .inl rfl | exact .inr (.inl rfl) | exact .inr (.inr rfl)) (by simp))); (solve | ((intro u hu; simp only [List.mem_cons, List.not_mem_nil, or_false] at hu; rcases hu with rfl | rfl <;> rfl))); (solve | (omega)); (solve | ((unfold maxLen; omega))); (solve | (omega)); (solve | ((simp; omega))); (solve | ((simp; done))); (intro g3 cap3 w6 hown3 hgrow hat hg3))
                        | fail)
                      all_goals first | (exfalso; omega) | skip
                      all_goals
                        have hfin : w6.ownsRow w2.heap.size 91 2 (.slice (some ⟨g3, 0, none⟩) ((crTo ps gap i ++ rowTo ps gap i j).length + 1) cap3) (crTo ps gap i ++ rowTo ps gap i (j + 1)).length (pcells (crTo ps gap i ++ rowTo ps gap i (j + 1))) := by
                          rw [HR.out, pcells_append _ [_], List.length_append (bs := [_])]
                          exact hown3
                        have hle : (crTo ps gap i ++ rowTo ps gap i j).length = (crTo ps gap i).length + (rowTo ps gap i j).length := List.length_append
                        rw [hle] at hfin
                        have hb6 : Below w2.heap.size w2 w6 := app_below (w := wr.alloc _) (t := 91) (cs := #[_, _]) (.inl rfl) hba (by simp; omega) hown1 hgrow
                        have hfar : ∀ k, w6.cell? ⟨n10, k, none⟩ = wr.cell? ⟨n10, k, none⟩ := fun k => (hgrow.cell_far ⟨n10, k, none⟩ (by simp; omega) (by intro e; exact hne n10 e.symm rfl)).trans ((((Below.refl wr.heap.size wr).alloc (Nat.le_refl _) _).alloc (by simp) _).cell (p := ⟨n10, k, none⟩) qz)
                        have hP6 : PsBox w6 n10 p := ⟨(hfar 0).trans q0, (hfar 1).trans q1, (hfar 2).trans q2, (hfar 3).trans q3, by have := hgrow.size; simp at this; omega⟩
                        have hne6 : ∀ g, (Value.slice (some ⟨g3, 0, none⟩) ((crTo ps gap i).length + (rowTo ps gap i j).length + 1) cap3).ownBlock = some g → g ≠ n10 := by
                          intro g hg
                          have e : g3 = g := by simpa [Value.ownBlock] using hg
                          subst e
                          rcases hat with h | h
                          · exact hne _ h
                          · omega
                        exact ⟨⟨j + 1, hmeas, by have := V2.out; congr 1; push_cast; omega, hfin, hne6, hP6, hb6⟩, by have := V2.out; simp [intOf]; omega⟩
                  · have HR : Hid (crTo ps gap i ++ rowTo ps gap i (j + 1) = crTo ps gap i ++ rowTo ps gap i j) := by
                      refine Lib.hid ?_
                      simp only [rowTo]
                      rw [HPIX.out, HQ.out, HPI.out, if_neg (fun h => t3 h.2)]
                    go_wp2_with fail
                    all_goals first | (exfalso; omega) | skip
                    all_goals exact ⟨⟨j + 1, hmeas, by have := V2.out; congr 1; push_cast; omega, by rw [HR.out]; exact hown1, hne, hP1, hba⟩, by have := V2.out; simp [intOf]; omega⟩
                · have t2b : (p.side == q.side) = false := by simp [t2]
                  have HR : Hid (crTo ps gap i ++ rowTo ps gap i (j + 1) = crTo ps gap i ++ rowTo ps gap i j) := by
                    refine Lib.hid ?_
                    simp only [rowTo]
                    rw [HPIX.out, HQ.out, HPI.out, if_neg (fun h => t2 h.1.2)]
                  clear t2
                  go_wp2_with fail
                  all_goals first | (exfalso; omega) | skip
                  all_goals exact ⟨⟨j + 1, hmeas, by have := V2.out; congr 1; push_cast; omega, by rw [HR.out]; exact hown1, hne, hP1, hba⟩, by have := V2.out; simp [intOf]; omega⟩
              · have t1b : (p.dir == q.dir) = false := by simp [t1]
                have HR : Hid (crTo ps gap i ++ rowTo ps gap i (j + 1) = crTo ps gap i ++ rowTo ps gap i j) := by
                  refine Lib.hid ?_
                  simp only [rowTo]
                  rw [HPIX.out, HQ.out, HPI.out, if_neg (fun h => t1 h.1.1)]
                clear t1
                go_wp2_with fail
                all_goals first | (exfalso; omega) | skip
                all_goals exact ⟨⟨j + 1, hmeas, by have := V2.out; congr 1; push_cast; omega, by rw [HR.out]; exact hown1, hne, hP1, hba⟩, by have := V2.out; simp [intOf]; omega⟩
            · have hje : j = ps.length - (i + 1) := by omega
              have HJ : Hid (crTo ps gap (i + 1) = crTo ps gap i ++ rowTo ps gap i j) := by refine Lib.hid ?_; rw [hje]; rfl
              have hge : ¬ ((i : Int) + 1 + (j : Int) < (ps.length : Int)) := by omega
              clear hje
              go_wp2_with fail
              exact ⟨⟨i + 1, by omega, by go_num, by rw [HJ.out]; exact hown, hbw⟩, by simp [intOf]; omega⟩
        · obtain rfl : i = ps.length := by omega
          obtain ⟨_, A', c', rfl, hPp⟩ := owns_pairs hown
          go_wp2
          go_ret2
          exact ⟨fun hh => absurd HALL.out hh, fun _ => ⟨A', c', rfl, hPp⟩, hb.trans (hbw.mono hb.size)⟩
end Go.Proofs.Ytoknkmlkeacgjaa
