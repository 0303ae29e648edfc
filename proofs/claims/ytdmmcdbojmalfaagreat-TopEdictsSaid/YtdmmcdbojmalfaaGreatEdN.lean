/- TopEdicts: small functions: comparisons, what a sign says, whether it speaks. -/
import Derived.Test.YtdmmcdbojmalfaaGreatEdK
import Derived.StillTailTactics
import Derived.Deep.QuietTactic
namespace Go.Proofs.YtdmmcdbojmalfaaGreat
open Go.RowKit
def cmpI (a b : Int) : Int := if a < b then -1 else if b < a then 1 else 0
set_option maxRecDepth 100000 in
theorem lisNaN (a : Int) (w : World) : Calls Tryz.prog 88 #[.int .i64 a] w fun e w' => e = .returned (.bool false) ∧ w = w' := by
  go_enter Tryz.func88, Tryz.ntmps88
  go_wp2
  go_ret
  exact ⟨ret_bool (by simp), rfl⟩
set_option maxRecDepth 100000 in
set_option maxHeartbeats 1000000 in
theorem lCompare (a b : Int) (w : World) : Calls Tryz.prog 71 #[.int .i64 a, .int .i64 b] w fun e w' => e = .returned (.int .i64 (cmpI a b)) ∧ w = w' := by
  unfold cmpI
  by_cases h1 : a < b
  · rw [if_pos h1]
    go_enter Tryz.func71, Tryz.ntmps71
    go_wp2_with (first
      | (go_at_call 88; refine (lisNaN _ _).mono ?_; rintro e w' ⟨rfl, rfl⟩)
      | fail)
    go_ret
    exact ⟨rfl, rfl⟩
  · rw [if_neg h1]
    by_cases h2 : b < a
    · rw [if_pos h2]
      go_enter Tryz.func71, Tryz.ntmps71
      go_wp2_with (first
        | (go_at_call 88; refine (lisNaN _ _).mono ?_; rintro e w' ⟨rfl, rfl⟩)
        | fail)
      go_ret
      exact ⟨rfl, rfl⟩
    · rw [if_neg h2]
      go_enter Tryz.func71, Tryz.ntmps71
      go_wp2_with (first
        | (go_at_call 88; refine (lisNaN _ _).mono ?_; rintro e w' ⟨rfl, rfl⟩)
        | fail)
      go_ret
      exact ⟨rfl, rfl⟩
def or3 (a b c : Int) : Int := if a ≠ 0 then a else if b ≠ 0 then b else c
set_option maxRecDepth 100000 in
set_option maxHeartbeats 2000000 in
theorem lOr (a b c : Int) (g : Nat) (w : World) (h0 : w.cell? ⟨g, 0, none⟩ = some (.int .i64 a)) (h1 : w.cell? ⟨g, 1, none⟩ = some (.int .i64 b)) (h2 : w.cell? ⟨g, 2, none⟩ = some (.int .i64 c)) :
    Calls Tryz.prog 70 #[.slice (some ⟨g, 0, none⟩) 3 3] w fun e w' => e = .returned (.int .i64 (or3 a b c)) ∧ w = w' := by
  unfold or3
  by_cases ha : a = 0
  · subst ha
    rw [if_neg (by simp)]
    by_cases hb : b = 0
    · subst hb
      rw [if_neg (by simp)]
      by_cases hc : c = 0
      · subst hc
        go_enter Tryz.func70, Tryz.ntmps70
        go_wp2
        refine wp_loop_rounds 4 ?_
        rw [rounds_succ]
        go_wp2
        rw [rounds_succ]
        go_wp2
        rw [rounds_succ]
        go_wp2
        rw [rounds_succ]
        go_wp2
        go_ret
        exact ⟨rfl, rfl⟩
      · have e1 : (c != 0) = true := by simp [hc]
        clear hc
        go_enter Tryz.func70, Tryz.ntmps70
        go_wp2
        refine wp_loop_rounds 4 ?_
        rw [rounds_succ]
        go_wp2
        rw [rounds_succ]
        go_wp2
        rw [rounds_succ]
        go_wp2
        go_ret
        exact ⟨rfl, rfl⟩
    · have e1 : (b != 0) = true := by simp [hb]
      rw [if_pos hb]
      clear hb
      go_enter Tryz.func70, Tryz.ntmps70
      go_wp2
      refine wp_loop_rounds 4 ?_
      rw [rounds_succ]
      go_wp2
      rw [rounds_succ]
      go_wp2
      go_ret
      exact ⟨rfl, rfl⟩
  · have e1 : (a != 0) = true := by simp [ha]
    rw [if_pos ha]
    clear ha
    go_enter Tryz.func70, Tryz.ntmps70
    go_wp2
    refine wp_loop_rounds 4 ?_
    rw [rounds_succ]
    go_wp2
    go_ret
    exact ⟨rfl, rfl⟩
/-- rule.says -/
def saysV (topic : Int) (s : Sgn) : Int := if topic = 1 then (if s.kind = 1 ∨ s.kind = 2 then s.val else 0) else if s.kind = 3 then 1 else 0
def saysB (topic : Int) (s : Sgn) : Bool := if topic = 1 then decide (s.kind = 1) || decide (s.kind = 2) else decide (s.kind = 3) || decide (s.kind = 4)
abbrev cellsS (s : Sgn) : Array Value := #[.int .i64 s.num, .int .i64 s.kind, .int .i64 s.val, .int .i64 s.chain, .int .i64 s.dir, .int .i64 s.rank, .int .i64 s.up, .int .i64 s.down, .slice none 0 0]
set_option maxRecDepth 100000 in
set_option maxHeartbeats 4000000 in
theorem lsays (topic : Int) (s : Sgn) (w : World) (ht : topic = 1 ∨ topic = 2) (hk : s.kind = 1 ∨ s.kind = 2 ∨ s.kind = 3 ∨ s.kind = 4) :
    Calls Tryz.prog 65 #[.agg (cellsS s), .int .i64 topic] w fun e w' => e = .returned (.tuple #[.int .i64 (saysV topic s), .bool (saysB topic s)]) ∧ w' = w.alloc (.cells (cellsS s) 77) := by
  obtain ⟨n, kind, v, ch, di, ra, up, dn⟩ := s
  simp only at hk
  rcases ht with rfl | rfl <;> rcases hk with rfl | rfl | rfl | rfl
  · show Calls Tryz.prog 65 #[.agg #[.int .i64 n, .int .i64 1, .int .i64 v, .int .i64 ch, .int .i64 di, .int .i64 ra, .int .i64 up, .int .i64 dn, .slice none 0 0], .int .i64 1] w fun e w' => e = .returned (.tuple #[.int .i64 v, .bool true]) ∧ w' = w.alloc (.cells #[.int .i64 n, .int .i64 1, .int .i64 v, .int .i64 ch, .int .i64 di, .int .i64 ra, .int .i64 up, .int .i64 dn, .slice none 0 0] 77)
    go_enter Tryz.func65, Tryz.ntmps65
    go_wp2
    go_ret2
    exact ⟨rfl, rfl⟩
  · show Calls Tryz.prog 65 #[.agg #[.int .i64 n, .int .i64 2, .int .i64 v, .int .i64 ch, .int .i64 di, .int .i64 ra, .int .i64 up, .int .i64 dn, .slice none 0 0], .int .i64 1] w fun e w' => e = .returned (.tuple #[.int .i64 v, .bool true]) ∧ w' = w.alloc (.cells #[.int .i64 n, .int .i64 2, .int .i64 v, .int .i64 ch, .int .i64 di, .int .i64 ra, .int .i64 up, .int .i64 dn, .slice none 0 0] 77)
    go_enter Tryz.func65, Tryz.ntmps65
    go_wp2
    go_ret2
    exact ⟨rfl, rfl⟩
  · show Calls Tryz.prog 65 #[.agg #[.int .i64 n, .int .i64 3, .int .i64 v, .int .i64 ch, .int .i64 di, .int .i64 ra, .int .i64 up, .int .i64 dn, .slice none 0 0], .int .i64 1] w fun e w' => e = .returned (.tuple #[.int .i64 0, .bool false]) ∧ w' = w.alloc (.cells #[.int .i64 n, .int .i64 3, .int .i64 v, .int .i64 ch, .int .i64 di, .int .i64 ra, .int .i64 up, .int .i64 dn, .slice none 0 0] 77)
    go_enter Tryz.func65, Tryz.ntmps65
    go_wp2
    go_ret2
    exact ⟨rfl, rfl⟩
  · show Calls Tryz.prog 65 #[.agg #[.int .i64 n, .int .i64 4, .int .i64 v, .int .i64 ch, .int .i64 di, .int .i64 ra, .int .i64 up, .int .i64 dn, .slice none 0 0], .int .i64 1] w fun e w' => e = .returned (.tuple #[.int .i64 0, .bool false]) ∧ w' = w.alloc (.cells #[.int .i64 n, .int .i64 4, .int .i64 v, .int .i64 ch, .int .i64 di, .int .i64 ra, .int .i64 up, .int .i64 dn, .slice none 0 0] 77)
    go_enter Tryz.func65, Tryz.ntmps65
    go_wp2
    go_ret2
    exact ⟨rfl, rfl⟩
  · show Calls Tryz.prog 65 #[.agg #[.int .i64 n, .int .i64 1, .int .i64 v, .int .i64 ch, .int .i64 di, .int .i64 ra, .int .i64 up, .int .i64 dn, .slice none 0 0], .int .i64 2] w fun e w' => e = .returned (.tuple #[.int .i64 0, .bool false]) ∧ w' = w.alloc (.cells #[.int .i64 n, .int .i64 1, .int .i64 v, .int .i64 ch, .int .i64 di, .int .i64 ra, .int .i64 up, .int .i64 dn, .slice none 0 0] 77)
    go_enter Tryz.func65, Tryz.ntmps65
    go_wp2
    go_ret2
    exact ⟨rfl, rfl⟩
  · show Calls Tryz.prog 65 #[.agg #[.int .i64 n, .int .i64 2, .int .i64 v, .int .i64 ch, .int .i64 di, .int .i64 ra, .int .i64 up, .int .i64 dn, .slice none 0 0], .int .i64 2] w fun e w' => e = .returned (.tuple #[.int .i64 0, .bool false]) ∧ w' = w.alloc (.cells #[.int .i64 n, .int .i64 2, .int .i64 v, .int .i64 ch, .int .i64 di, .int .i64 ra, .int .i64 up, .int .i64 dn, .slice none 0 0] 77)
    go_enter Tryz.func65, Tryz.ntmps65
    go_wp2
    go_ret2
    exact ⟨rfl, rfl⟩
  · show Calls Tryz.prog 65 #[.agg #[.int .i64 n, .int .i64 3, .int .i64 v, .int .i64 ch, .int .i64 di, .int .i64 ra, .int .i64 up, .int .i64 dn, .slice none 0 0], .int .i64 2] w fun e w' => e = .returned (.tuple #[.int .i64 1, .bool true]) ∧ w' = w.alloc (.cells #[.int .i64 n, .int .i64 3, .int .i64 v, .int .i64 ch, .int .i64 di, .int .i64 ra, .int .i64 up, .int .i64 dn, .slice none 0 0] 77)
    go_enter Tryz.func65, Tryz.ntmps65
    go_wp2
    go_ret2
    exact ⟨rfl, rfl⟩
  · show Calls Tryz.prog 65 #[.agg #[.int .i64 n, .int .i64 4, .int .i64 v, .int .i64 ch, .int .i64 di, .int .i64 ra, .int .i64 up, .int .i64 dn, .slice none 0 0], .int .i64 2] w fun e w' => e = .returned (.tuple #[.int .i64 0, .bool true]) ∧ w' = w.alloc (.cells #[.int .i64 n, .int .i64 4, .int .i64 v, .int .i64 ch, .int .i64 di, .int .i64 ra, .int .i64 up, .int .i64 dn, .slice none 0 0] 77)
    go_enter Tryz.func65, Tryz.ntmps65
    go_wp2
    go_ret2
    exact ⟨rfl, rfl⟩
set_option maxRecDepth 100000 in
set_option maxHeartbeats 1000000 in
theorem lSpeaks (s : Sgn) (hour : Int) (w : World) (h1 : s.up ≤ hour) (h2 : hour < s.down) :
    Calls Tryz.prog 67 #[.agg (cellsS s), .int .i64 hour] w fun e w' => e = .returned (.bool true) ∧ Below w.heap.size w w' := by
  have hb : Below w.heap.size w ((w.alloc (.cells (cellsS s) 77)).alloc (.cells #[.int .i64 hour] 3)) := ((Below.refl _ _).alloc (Nat.le_refl _) _).alloc (by simp) _
  have HB := Lib.hid hb
  clear hb
  go_enter Tryz.func67, Tryz.ntmps67
  go_wp2_with (first
    | (go_at_call 52; refine (lContF0 _ _ _ _).mono ?_; rintro e w' ⟨rfl, rfl⟩)
    | fail)
  go_ret
  exact ⟨rfl, HB.out⟩
/-- A sign of a row with its distance. -/
structure Mee where
  s : Sgn
  far : Int
def encM (x : Mee) : List Value := [.int .i64 x.s.num, .int .i64 x.s.kind, .int .i64 x.s.val, .int .i64 x.s.chain, .int .i64 x.s.dir, .int .i64 x.s.rank, .int .i64 x.s.up, .int .i64 x.s.down, .slice none 0 0, .int .i64 x.far]
theorem encM_len (x : Mee) : (encM x).length = 10 := rfl
def cmpM (x y : Mee) : Int := or3 (cmpI x.far y.far) (cmpI x.s.rank y.s.rank) (cmpI x.s.num y.s.num)
theorem lC (a b : Int) (w : World) : Calls Tryz.prog 71 #[.int .i64 a, .int .i64 b] w fun e w' => e = .returned (.int .i64 (cmpI a b)) ∧ w' = w := (lCompare a b w).mono fun _ _ ⟨h1, h2⟩ => ⟨h1, h2.symm⟩
set_option maxRecDepth 100000 in
set_option maxHeartbeats 4000000 in
theorem closure69 (x y : Mee) (W : World) : Calls Tryz.prog 69 #[.agg (encM x).toArray, .agg (encM y).toArray] W fun e w' => e = .returned (.int .i64 (cmpM x y)) ∧ ∃ q os', w' = Sort.grow (W.drewN q) os' := by
  obtain ⟨⟨x1, x2, x3, x4, x5, x6, x7, x8⟩, x9⟩ := x
  obtain ⟨⟨y1, y2, y3, y4, y5, y6, y7, y8⟩, y9⟩ := y
  show Calls Tryz.prog 69 #[.agg #[.int .i64 x1, .int .i64 x2, .int .i64 x3, .int .i64 x4, .int .i64 x5, .int .i64 x6, .int .i64 x7, .int .i64 x8, .slice none 0 0, .int .i64 x9], .agg #[.int .i64 y1, .int .i64 y2, .int .i64 y3, .int .i64 y4, .int .i64 y5, .int .i64 y6, .int .i64 y7, .int .i64 y8, .slice none 0 0, .int .i64 y9]] W fun e w' => e = .returned (.int .i64 (or3 (cmpI x9 y9) (cmpI x6 y6) (cmpI x1 y1))) ∧ ∃ q os', w' = Sort.grow (W.drewN q) os'
  go_enter Tryz.func69, Tryz.ntmps69
  go_upto_region 1 with fail
  obtain ⟨w2, hw2⟩ : ∃ w2, (W.alloc (.cells #[.int .i64 x1, .int .i64 x2, .int .i64 x3, .int .i64 x4, .int .i64 x5, .int .i64 x6, .int .i64 x7, .int .i64 x8, .slice none 0 0, .int .i64 x9] 120)).alloc (.cells #[.int .i64 y1, .int .i64 y2, .int .i64 y3, .int .i64 y4, .int .i64 y5, .int .i64 y6, .int .i64 y7, .int .i64 y8, .slice none 0 0, .int .i64 y9] 120) = w2 := ⟨_, rfl⟩
  rw [hw2]
  obtain ⟨w3, hw3⟩ : ∃ w3, w2.drew = w3 := ⟨_, rfl⟩
  have hg3 : Hid (∃ os, w3 = Sort.grow (W.drewN 1) os) := Lib.hid ⟨_, by rw [← hw3, ← hw2, Sort.alloc_eq_grow, Sort.alloc_eq_grow, Sort.grow_grow]; rfl⟩
  have q0 : w3.cell? ⟨W.heap.size, 0, none⟩ = some (.int .i64 x1) := by rw [← hw3, ← hw2]; simp [go_sem]
  have q5 : w3.cell? ⟨W.heap.size, 5, none⟩ = some (.int .i64 x6) := by rw [← hw3, ← hw2]; simp [go_sem]
  have q9 : w3.cell? ⟨W.heap.size, 9, none⟩ = some (.int .i64 x9) := by rw [← hw3, ← hw2]; simp [go_sem]
  have r0 : w3.cell? ⟨W.heap.size + 1, 0, none⟩ = some (.int .i64 y1) := by rw [← hw3, ← hw2]; simp [go_sem]
  have r5 : w3.cell? ⟨W.heap.size + 1, 5, none⟩ = some (.int .i64 y6) := by rw [← hw3, ← hw2]; simp [go_sem]
  have r9 : w3.cell? ⟨W.heap.size + 1, 9, none⟩ = some (.int .i64 y9) := by rw [← hw3, ← hw2]; simp [go_sem]
  refine wp_region_still_tail 19 (by kernel_rfl) (by kernel_rfl) ?_
  have e3 : { w2 with drawn := w2.drawn + 1 } = w3 := hw3
  simp only [e3]
  clear e3 hw3 hw2
  simp only [List.take_succ_cons, List.take_zero, List.drop_succ_cons, List.drop_zero]
  repeat (first | still_step | still_call (lC _ _ _))
  refine wpStill_nil ?_
  clear q0 q5 q9 r0 r5 r9
  go_wp2_with (first
    | (go_at_call 70; go_loud (refine (lOr (cmpI x9 y9) (cmpI x6 y6) (cmpI x1 y1) _ _ ?_ ?_ ?_).mono ?_; (solve | (simp [go_sem])); (solve | (simp [go_sem])); (solve | (simp [go_sem])); rintro e w' ⟨rfl, rfl⟩))
    | fail)
  go_ret
  obtain ⟨os, rfl⟩ := hg3.out
  exact ⟨rfl, 1, _, by rw [Sort.alloc_eq_grow, Sort.grow_grow]⟩
end Go.Proofs.YtdmmcdbojmalfaaGreat
