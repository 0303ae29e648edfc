/- SameSpans of two equal lists. -/
import Derived.Test.YtdmmcdbojmalfaaGreatBase
import Derived.Deep.DeepCutAuto
import Derived.Test.YtdmmcdbojmalfaaGreatKpt
namespace Go.Proofs.YtdmmcdbojmalfaaGreat
open Go.RowKit
set_option maxRecDepth 100000 in
set_option maxHeartbeats 4000000 in
theorem lSameSpans (A A' : Option Addr) (c c' B B' : Nat) (xs : List (Int × Int)) (w : World) (h : Pairs w B A xs) (h' : Pairs w B' A' xs) (hn : xs.length ≤ 100000) :
    Calls Tryz.prog 18 #[.slice A xs.length c, .slice A' xs.length c'] w fun e w' => e = .returned (.bool true) ∧ Drew w w' := by
  go_enter Tryz.func18, Tryz.ntmps18
  go_wp2
  go_loopw [5] (fun i wr => ∃ k : Nat, k ≤ xs.length ∧ i = .int .i64 k ∧ Drew w wr) (fun i _ => xs.length - (intOf i).toNat)
  case atStart => exact ⟨0, Nat.zero_le _, rfl, Drew.refl _⟩
  case round =>
    obtain ⟨k, hk, rfl, hd⟩ := hrel
    by_cases hlt : k < xs.length
    · obtain ⟨b, o, rfl, _, hc⟩ := (h.keep fun p _ => hd.cell p).at_ hlt
      obtain ⟨x1, x2⟩ := hc k hlt
      obtain ⟨b', o', hA', _, hc'⟩ := (h'.keep fun p _ => hd.cell p).at_ hlt
      obtain ⟨y1, y2⟩ := hc' k hlt
      clear hc hc' h h'
      subst hA'
      go_wp2_with fail
      go_quiet (fail)
      go_wp2
      exact ⟨⟨k + 1, by omega, by go_num, hd.drewN nq⟩, by simp [intOf]; omega⟩
    · go_wp2
      go_ret
      exact ⟨rfl, hd⟩
end Go.Proofs.YtdmmcdbojmalfaaGreat
/- Contract of Awake: example 1 of the chapter holds. -/
namespace Go.Proofs.YtdmmcdbojmalfaaGreat
open Go.RowKit
def exCs : List Chg := [⟨0, 200, 500, 100⟩]
theorem exRoad : RoadOk 1 1000 exCs := by
  refine ⟨by omega, by omega, by decide, fun k hk => ?_⟩
  have hk : k < 1 := hk
  obtain rfl : k = 0 := by omega
  simp [chOk, exCs, chAt, dayAt, lenAt]
theorem exVers : VersOk exCs 0 1 := by simp [VersOk, exCs]
theorem exMov : movesF exCs 0 1 = [⟨200, 500, -200⟩] := by simp [movesF, ups, downs, upM, exCs, chAt]
theorem exKeep : keepTo (movesF exCs 0 1) [(100, 700)] (movesF exCs 0 1).length = [(100, 200), (300, 500)] := by
  rw [exMov]
  decide
theorem exNorm : Norm [((100 : Int), (200 : Int)), (300, 500)] :=
  norm_cons.2 ⟨by decide, fun q hq => (by rw [List.mem_singleton.1 hq]; decide), norm_cons.2 ⟨by decide, fun q hq => (by cases hq), norm_nil⟩⟩
theorem exChs (w : World) (T : TypeId) : Chs (w.alloc (.cells #[.int .i64 0, .int .i64 200, .int .i64 500, .int .i64 100] T)) (w.heap.size + 1) (some ⟨w.heap.size, 0, none⟩) exCs := by
  refine .inr ⟨w.heap.size, 0, rfl, by omega, fun j hj => ?_⟩
  have hj : j < 1 := hj
  obtain rfl : j = 0 := by omega
  simp [go_sem, exCs, chAt]
theorem two_pairs (w : World) (T : TypeId) : Pairs (w.alloc (.cells #[.int .i64 100, .int .i64 200, .int .i64 300, .int .i64 500] T)) (w.heap.size + 1) (some ⟨w.heap.size, 0, none⟩) [(100, 200), (300, 500)] := by
  refine .inr ⟨w.heap.size, 0, rfl, by omega, fun j hj => ?_⟩
  have hj : j < 2 := hj
  obtain rfl | rfl : j = 0 ∨ j = 1 := by omega
  · simp [go_sem, atp]
  · simp [go_sem, atp]
theorem exCarry1 {v er : Int} (h : CarryIs 1 1000 exCs 600 0 1 v er) : v = 400 ∧ er = 0 := by
  refine (h.2.2.2 exRoad exVers ?_).1 400 ?_
  · simp [lenAt]
  · show carryTo (movesF exCs 0 1) 600 (movesF exCs 0 1).length = some 400
    rw [exMov]
    decide
theorem exCarry2 {v er : Int} (h : CarryIs 1 1000 exCs 300 0 1 v er) : v = 0 ∧ er = 62 := by
  refine (h.2.2.2 exRoad exVers ?_).2 ?_
  · simp [lenAt]
  · show carryTo (movesF exCs 0 1) 300 (movesF exCs 0 1).length = none
    rw [exMov]
    decide
theorem exKept {w w' : World} {e : Ending} (h : KeptRes 1 1000 exCs (100, 700) 0 1 w e w') : ∃ (A' : Option Addr) (c' : Nat), e = .returned (.tuple #[.slice A' 2 c', .int .i64 0]) ∧ Pairs w' w'.heap.size A' [(100, 200), (300, 500)] ∧ Below w.heap.size w w' := by
  obtain ⟨_, _, _, h4, hb⟩ := h
  obtain ⟨us, A', c', ⟨n1, n2, _⟩, he, hP⟩ := h4 exRoad exVers (by simp [SpOk, lenAt])
  have n3 : ∀ c, InS us c ↔ InS [((100 : Int), (200 : Int)), (300, 500)] c := fun c => by rw [n2 c]; show InS (keepTo (movesF exCs 0 1) [(100, 700)] (movesF exCs 0 1).length) c ↔ _; rw [exKeep]
  obtain rfl := norm_unique n1 exNorm n3
  exact ⟨A', c', he, hP, hb⟩
set_option maxRecDepth 100000 in
set_option maxHeartbeats 2000000 in
theorem lAwake (w : World) : Calls Tryz.prog 5 #[] w fun e w' => e = .returned (.bool true) ∧ Below w.heap.size w w' := by
  have hC := exChs w 53
  have hal := (Below.refl w.heap.size w).alloc (Nat.le_refl _) (.cells #[.int .i64 0, .int .i64 200, .int .i64 500, .int .i64 100] 53)
  go_enter Tryz.func5, Tryz.ntmps5
  go_wp2_with fail
  have hbx : Below (w.heap.size + 1) (w.alloc (.cells #[.int .i64 0, .int .i64 200, .int .i64 500, .int .i64 100] 53)) ((w.alloc (.cells #[.int .i64 0, .int .i64 200, .int .i64 500, .int .i64 100] 53)).alloc (.cells #[.int .i64 1, .int .i64 1000, .slice (some ⟨w.heap.size, 0, none⟩) 1 1] 24)) := (Below.refl _ _).alloc (by simp) _
  have hT : RdBox ((w.alloc (.cells #[.int .i64 0, .int .i64 200, .int .i64 500, .int .i64 100] 53)).alloc (.cells #[.int .i64 1, .int .i64 1000, .slice (some ⟨w.heap.size, 0, none⟩) 1 1] 24)) (w.heap.size + 1) (w.heap.size + 1) (some ⟨w.heap.size, 0, none⟩) 1 1 1000 exCs := by
    have := RdBox.new (c := 1) (num := 1) (L := 1000) (T := 24) hC (by simp)
    simpa [show exCs.length = 1 from rfl] using this
  replace hal := hal.trans (hbx.mono (by omega))
  generalize (w.alloc (.cells #[.int .i64 0, .int .i64 200, .int .i64 500, .int .i64 100] 53)).alloc (.cells #[.int .i64 1, .int .i64 1000, .slice (some ⟨w.heap.size, 0, none⟩) 1 1] 24) = w1 at *
  clear hC hbx
  have hz1 := hT.sz
  refine (lCarry (some ⟨w.heap.size, 0, none⟩) 1 (w.heap.size + 1) 1 1000 exCs 600 0 1 w1 hT.ch (by omega) (by decide)).mono ?_
  rintro e w2 ⟨v, er, hv, rfl, hb2⟩
  obtain ⟨rfl, rfl⟩ := exCarry1 hv
  clear hv
  have hT2 := hT.below hb2 hz1
  have hal2 := hal.trans (hb2.mono hal.size)
  obtain ⟨-, q0, q1, q2, -, hz2⟩ := id hT2
  have hex : exCs.length = 1 := rfl
  rw [hex] at q2
  go_wp2_with fail
  refine (lCarry (some ⟨w.heap.size, 0, none⟩) 1 (w.heap.size + 1) 1 1000 exCs 300 0 1 w2 hT2.ch (by omega) (by decide)).mono ?_
  rintro e w3 ⟨v, er, hv, rfl, hb3⟩
  obtain ⟨rfl, rfl⟩ := exCarry2 hv
  clear hv q0 q1 q2
  have hT3 := hT2.below hb3 hz2
  have hal3 := hal2.trans (hb3.mono hal2.size)
  obtain ⟨-, q0, q1, q2, -, hz3⟩ := id hT3
  rw [hex] at q2
  go_wp2_with fail
  refine (lKept (some ⟨w.heap.size, 0, none⟩) 1 (w.heap.size + 1) 1 1000 exCs (100, 700) 0 1 w3 hT3.ch (by omega) (by decide)).mono ?_
  intro e w4 hk
  obtain ⟨A', c', rfl, hP, hb4⟩ := exKept hk
  clear hk q0 q1 q2
  have hal4 := hal3.trans (hb4.mono hal3.size)
  have hP2 := two_pairs w4 59
  have hP1 := hP.below ((Below.refl w4.heap.size w4).alloc (Nat.le_refl _) (.cells #[.int .i64 100, .int .i64 200, .int .i64 300, .int .i64 500] 59))
  have hal5 := hal4.alloc hal4.size (.cells #[.int .i64 100, .int .i64 200, .int .i64 300, .int .i64 500] 59)
  go_wp2_with fail
  refine (lSameSpans A' (some ⟨w4.heap.size, 0, none⟩) c' 2 w4.heap.size (w4.heap.size + 1) [(100, 200), (300, 500)] _ hP1 hP2 (by decide)).mono ?_
  rintro e w6 ⟨rfl, hd⟩
  go_wp2
  go_ret
  exact ⟨rfl, hal5.trans (hd.below _)⟩
end Go.Proofs.YtdmmcdbojmalfaaGreat
