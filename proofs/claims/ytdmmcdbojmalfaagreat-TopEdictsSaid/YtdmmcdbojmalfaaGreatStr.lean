/- Contract of stretches (77): what is left of stretches behind a step. -/
import Derived.Test.YtdmmcdbojmalfaaGreatUni
namespace Go.Proofs.YtdmmcdbojmalfaaGreat
open Go.RowKit
/-- The two parts of a stretch that are left behind a step. -/
def partOf (m : Mov) (s : Int × Int) (j : Nat) : Int × Int := if j = 0 then (s.1, min s.2 m.a) else (max s.1 m.b + m.grow, s.2 + m.grow)
def ptTo (m : Mov) (s : Int × Int) : Nat → List (Int × Int)
  | 0 => []
  | j + 1 => if (partOf m s j).1 < (partOf m s j).2 then ptTo m s j ++ [partOf m s j] else ptTo m s j
/-- What is left of the first k stretches. -/
def strTo (m : Mov) (xs : List (Int × Int)) : Nat → List (Int × Int)
  | 0 => []
  | k + 1 => strTo m xs k ++ ptTo m (atp xs k) 2
theorem ptTo_length (m : Mov) (s : Int × Int) : ∀ j, (ptTo m s j).length ≤ j
  | 0 => by simp [ptTo]
  | j + 1 => by
    have := ptTo_length m s j
    simp only [ptTo]
    split
    · simp; omega
    · omega
theorem strTo_length (m : Mov) (xs : List (Int × Int)) : ∀ k, (strTo m xs k).length ≤ 2 * k
  | 0 => by simp [strTo]
  | k + 1 => by
    have := strTo_length m xs k
    have := ptTo_length m (atp xs k) 2
    simp only [strTo, List.length_append]
    omega
def SmM (m : Mov) : Prop := (-100000000 ≤ m.a ∧ m.a ≤ 100000000) ∧ (-100000000 ≤ m.b ∧ m.b ≤ 100000000) ∧ (-100000000 ≤ m.grow ∧ m.grow ≤ 100000000)
theorem partOf_bd {m : Mov} {s : Int × Int} {j : Nat} (hm : SmM m) (hs : SmS s) : (-2000000000 ≤ (partOf m s j).1 ∧ (partOf m s j).1 ≤ 2000000000) ∧ (-2000000000 ≤ (partOf m s j).2 ∧ (partOf m s j).2 ≤ 2000000000) := by
  obtain ⟨⟨a0, a1⟩, ⟨b0, b1⟩, g0, g1⟩ := hm
  obtain ⟨⟨s0, s1⟩, s2, s3⟩ := hs
  unfold partOf
  split
  · simp only; omega
  · simp only; omega
theorem idxS (m : Mov) (s : Int × Int) {k : Nat} (hk : k < 2) (w : World) : Sem.run Tryz.prog (Instr.index 128 (.agg #[.int .i64 s.1, .int .i64 (min s.2 m.a), .int .i64 (max s.1 m.b + m.grow), .int .i64 (s.2 + m.grow)]) (.int .i64 k)) w = .ok (.agg #[.int .i64 (partOf m s k).1, .int .i64 (partOf m s k).2]) w := by
  obtain rfl | rfl : k = 0 ∨ k = 1 := by omega
  all_goals kernel_rfl
def StrRes (m : Mov) (xs : List (Int × Int)) (w : World) (e : Ending) (w' : World) : Prop :=
  ∃ (A' : Option Addr) (c' : Nat), e = .returned (.slice A' (strTo m xs xs.length).length c') ∧ Pairs w' w'.heap.size A' (strTo m xs xs.length) ∧ Below w.heap.size w w'
set_option maxRecDepth 100000 in
set_option maxHeartbeats 4000000 in
theorem lstretches (m : Mov) (A : Option Addr) (c B : Nat) (xs : List (Int × Int)) (w : World) (h : Pairs w B A xs) (hB : B ≤ w.heap.size) (hm : SmM m) (hx : ∀ p ∈ xs, SmS p) (hn : xs.length ≤ 10000000) :
    Calls Tryz.prog 58 #[.agg #[.int .i64 m.a, .int .i64 m.b, .int .i64 m.grow], .slice A xs.length c] w (StrRes m xs w) := by
  obtain ⟨i0, hi, hz0, hz2, hz3⟩ := info_parts info59
  have hal : Below w.heap.size w (w.alloc (.cells #[.int .i64 m.a, .int .i64 m.b, .int .i64 m.grow] 110)) := (Below.refl _ _).alloc (Nat.le_refl _) _
  have q0 : (w.alloc (.cells #[.int .i64 m.a, .int .i64 m.b, .int .i64 m.grow] 110)).cell? ⟨w.heap.size, 0, none⟩ = some (.int .i64 m.a) := by simp [go_sem]
  have q1 : (w.alloc (.cells #[.int .i64 m.a, .int .i64 m.b, .int .i64 m.grow] 110)).cell? ⟨w.heap.size, 1, none⟩ = some (.int .i64 m.b) := by simp [go_sem]
  have q2 : (w.alloc (.cells #[.int .i64 m.a, .int .i64 m.b, .int .i64 m.grow] 110)).cell? ⟨w.heap.size, 2, none⟩ = some (.int .i64 m.grow) := by simp [go_sem]
  have hz : w.heap.size < (w.alloc (.cells #[.int .i64 m.a, .int .i64 m.b, .int .i64 m.grow] 110)).heap.size := by simp
  have HX : Hid (∀ k, k < xs.length → SmS (atp xs k)) := fun k hk => hx _ (by simp [atp, hk])
  have HM := Lib.hid hm
  obtain ⟨⟨a0, a1⟩, ⟨b0, b1⟩, g0, g1⟩ := hm
  clear hx
  replace h := h.below (hal.mono hB)
  go_enter Tryz.func58, Tryz.ntmps58
  go_wp2_with fail
  generalize w.alloc (.cells #[.int .i64 m.a, .int .i64 m.b, .int .i64 m.grow] 110) = w2 at *
  go_loopw [5, 13] (fun out i wr => ∃ k : Nat, k ≤ xs.length ∧ i = .int .i64 k ∧ wr.ownsRow w2.heap.size 59 2 out (strTo m xs k).length (pcells (strTo m xs k)) ∧ Below w2.heap.size w2 wr) (fun _ i _ => xs.length - (intOf i).toNat)
  case atStart => exact ⟨0, Nat.zero_le _, rfl, World.ownsRow_nil _ _ _ _, Below.refl _ _⟩
  case round =>
    obtain ⟨k, hk, rfl, hown, hb⟩ := hrel
    have hbs := hb.size
    by_cases hlt : k < xs.length
    · obtain ⟨b, o, rfl, hbl, hc⟩ := (h.below (hb.mono (Nat.le_trans hB (Nat.le_of_lt hz)))).at_ hlt
      obtain ⟨x1, x2⟩ := hc k hlt
      clear hc
      have y0 := (hb.cell (p := ⟨w.heap.size, 0, none⟩) hz).trans q0
      have y1 := (hb.cell (p := ⟨w.heap.size, 1, none⟩) hz).trans q1
      have y2 := (hb.cell (p := ⟨w.heap.size, 2, none⟩) hz).trans q2
      clear q0 q1 q2
      obtain ⟨⟨s1, s2⟩, ⟨s3, s4⟩⟩ := HX.out k hlt
      have hba := hb.alloc hbs (.cells #[.int .i64 (atp xs k).1, .int .i64 (atp xs k).2] 59)
      have hown1 := hown.alloc (.cells #[.int .i64 (atp xs k).1, .int .i64 (atp xs k).2] 59)
      have hlw : w.heap.size < wr.heap.size := by omega
      have hba2 := hba.alloc hba.size (.cells #[.int .i64 (atp xs k).1, .int .i64 (min (atp xs k).2 m.a), .int .i64 (max (atp xs k).1 m.b + m.grow), .int .i64 ((atp xs k).2 + m.grow)] 128)
      have hown2 := hown1.alloc (.cells #[.int .i64 (atp xs k).1, .int .i64 (min (atp xs k).2 m.a), .int .i64 (max (atp xs k).1 m.b + m.grow), .int .i64 ((atp xs k).2 + m.grow)] 128)
      have hlen := strTo_length m xs k
      go_upto_region 6 with fail
      go_wp2_with fail
      clear hown hown1 hba hlw x1 x2 y0 y1 y2
      generalize (wr.alloc (.cells #[.int .i64 (atp xs k).1, .int .i64 (atp xs k).2] 59)).alloc (.cells #[.int .i64 (atp xs k).1, .int .i64 (min (atp xs k).2 m.a), .int .i64 (max (atp xs k).1 m.b + m.grow), .int .i64 ((atp xs k).2 + m.grow)] 128) = w4 at *
      clear hb hbs
      obtain ⟨wo, rfl⟩ : ∃ wo : World, wo = wr := ⟨_, rfl⟩
      have hstart : strTo m xs k = strTo m xs k ++ ptTo m (atp xs k) 0 := by simp [ptTo]
      rw [hstart] at hown2
      have HB2 := Lib.hid hba2
      have HO2 := Lib.hid hown2
      clear hba2 hown2 hstart
      go_loopw [5, 41] (fun out jv wr => ∃ j : Nat, j ≤ 2 ∧ jv = .int .i64 j ∧ wr.ownsRow w2.heap.size 59 2 out (strTo m xs k ++ ptTo m (atp xs k) j).length (pcells (strTo m xs k ++ ptTo m (atp xs k) j)) ∧ Below w2.heap.size w2 wr) (fun _ jv _ => 2 - (intOf jv).toNat)
      case atStart => exact ⟨0, Nat.zero_le _, rfl, HO2.out, HB2.out⟩
      case round =>
        clear HB2 HO2
        obtain ⟨j, hj, rfl, hown, hb⟩ := hrel
        have hbs := hb.size
        by_cases hj2 : j < 2
        · obtain ⟨⟨p0, p1⟩, ⟨p2, p3⟩⟩ := partOf_bd (j := j) HM.out (HX.out k hlt)
          have hl2 := ptTo_length m (atp xs k) j
          have hl3 : (strTo m xs k ++ ptTo m (atp xs k) j).length ≤ 20000000 + 2 := by rw [List.length_append]; omega
          by_cases hc : (partOf m (atp xs k) j).1 < (partOf m (atp xs k) j).2
          · have HC : Hid (strTo m xs k ++ ptTo m (atp xs k) (j + 1) = (strTo m xs k ++ ptTo m (atp xs k) j) ++ [partOf m (atp xs k) j]) := by refine Lib.hid ?_; simp only [ptTo]; rw [if_pos hc, List.append_assoc]
            go_wp2_with fail
            rw [idxS m (atp xs k) hj2]
            go_wp2_with (first
                | (at_builtin; refine wpList_append_lies _ ?_ (.tmp 49) (.tmp 51) 55 ?_ w2.heap.size 59 i0 (.agg #[.int .i64 0, .int .i64 0]) 2 16 Tryz.underlying55 hi hz0 hz2 hz3 ?_ ?_ u5 (strTo m xs k ++ ptTo m (atp xs k) j).length (pcells (strTo m xs k ++ ptTo m (atp xs k) j)) ?_ ?_ ⟨wr.heap.size + 1, 0, none⟩ 1 1 [.int .i64 (partOf m (atp xs k) j).1, .int .i64 (partOf m (atp xs k) j).2] ?_ ?_ ?_ ?_ ?_ ?_ ?_ ?_ (wr.heap.size + 2) ?_ ?_; (solve | (rfl)); (solve | (rfl)); (solve | (rfl)); (solve | (decide)); (solve | (rfl)); (solve | (exact owns_new (t := 59) (cs := #[_, _]) (hown.alloc _) (by first | exact .inl rfl | exact .inr (.inl rfl) | exact .inr (.inr rfl)))); (solve | (rfl)); (solve | (rfl)); (solve | (exact newH (t := 59) (cs := #[_, _]) (w := wr.alloc _) (by first | exact .inl rfl | exact .inr (.inl rfl) | exact .inr (.inr rfl)) (by simp))); (solve | ((intro u hu; simp only [List.mem_cons, List.not_mem_nil, or_false] at hu; rcases hu with rfl | rfl <;> rfl))); (solve | (omega)); (solve | ((unfold maxLen; omega))); (solve | (omega)); (solve | ((simp; omega))); (solve | ((simp; done))); (intro g3 cap3 w6 hown3 hgrow hat hg3))
                | fail)
            have hfin : w6.ownsRow w2.heap.size 59 2 (.slice (some ⟨g3, 0, none⟩) ((strTo m xs k ++ ptTo m (atp xs k) j).length + 1) cap3) (strTo m xs k ++ ptTo m (atp xs k) (j + 1)).length (pcells (strTo m xs k ++ ptTo m (atp xs k) (j + 1))) := by
              rw [HC.out, pcells_append _ [_], List.length_append (bs := [_])]
              exact hown3
            have hb6 : Below w2.heap.size w2 w6 := app_below (w := wr.alloc _) (t := 59) (cs := #[_, _]) (.inl rfl) (hb.alloc hb.size _) (by simp; omega) (hown.alloc _) hgrow
            have hle : (strTo m xs k ++ ptTo m (atp xs k) j).length = (strTo m xs k).length + (ptTo m (atp xs k) j).length := List.length_append
            rw [hle] at hfin
            exact ⟨⟨j + 1, by omega, by go_num, hfin, hb6⟩, by simp [intOf]; omega⟩
          · have HC : Hid (strTo m xs k ++ ptTo m (atp xs k) (j + 1) = strTo m xs k ++ ptTo m (atp xs k) j) := by refine Lib.hid ?_; simp only [ptTo]; rw [if_neg hc]
            go_wp2_with fail
            rw [idxS m (atp xs k) hj2]
            go_wp2_with fail
            exact ⟨⟨j + 1, by omega, by go_num, by rw [HC.out]; exact hown.alloc _, hb.alloc hb.size _⟩, by simp [intOf]; omega⟩
        · obtain rfl : j = 2 := by omega
          go_wp2_with fail
          exact ⟨⟨k + 1, by omega, by go_num, hown, hb⟩, by simp [intOf]; omega⟩
    · obtain rfl : k = xs.length := by omega
      obtain ⟨_, A', c', rfl, hPp⟩ := owns_pairs hown
      go_wp2
      go_ret
      exact ⟨A', c', rfl, hPp, hal.trans (hb.mono (Nat.le_of_lt hz))⟩
end Go.Proofs.YtdmmcdbojmalfaaGreat
