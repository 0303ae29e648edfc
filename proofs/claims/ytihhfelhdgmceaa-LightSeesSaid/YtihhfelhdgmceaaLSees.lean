/- Statement LightSees: for all two views the law returns true: a better table, more power, greater letters and a lesser need take no legible distance away, and at a greater speed a face is read for a shorter time or for the same one. No condition. -/
import Derived.Test.YtihhfelhdgmceaaMet
import Derived.Test.YtihhfelhdgmceaaDim2
import Derived.Test.YtihhfelhdgmceaaLLegible
import Derived.Test.YtihhfelhdgmceaaBet1
import Derived.Test.YtihhfelhdgmceaaFrame10
import Derived.Deep.RegionLaw
namespace Go.Proofs.Ytihhfelhdgmceaa
open Go.RowKit
/-- Two views in a box. -/
structure XBox (W : World) (n B : Nat) (A0 A1 A2 : Option Addr) (c0 c1 c2 : Nat) (t : Tb) (s : Sc) (need letter less P L N : Int) : Prop where
  tab : Tab W B A0 A1 A2 t
  q0 : W.cell? ⟨n, 0, none⟩ = some (.slice A0 t.obs.length c0)
  q1 : W.cell? ⟨n, 1, none⟩ = some (.slice A1 t.ent.length c1)
  q2 : W.cell? ⟨n, 2, none⟩ = some (.slice A2 t.r.length c2)
  q3 : W.cell? ⟨n, 3, none⟩ = some (.int .i64 s.rise)
  q4 : W.cell? ⟨n, 4, none⟩ = some (.int .i64 s.side)
  q5 : W.cell? ⟨n, 5, none⟩ = some (.int .i64 s.turn)
  q6 : W.cell? ⟨n, 6, none⟩ = some (.int .i64 s.power)
  q7 : W.cell? ⟨n, 7, none⟩ = some (.int .i64 need)
  q8 : W.cell? ⟨n, 8, none⟩ = some (.int .i64 letter)
  q9 : W.cell? ⟨n, 9, none⟩ = some (.int .i64 less)
  q10 : W.cell? ⟨n, 10, none⟩ = some (.int .u16 P)
  q11 : W.cell? ⟨n, 11, none⟩ = some (.int .u16 L)
  q12 : W.cell? ⟨n, 12, none⟩ = some (.int .u16 N)
  lt : B ≤ n
  sz : n < W.heap.size
section
variable {W W' : World} {n B C : Nat} {A0 A1 A2 : Option Addr} {c0 c1 c2 : Nat} {t : Tb} {s : Sc} {need letter less P L N : Int}
theorem XBox.below (h : XBox W n B A0 A1 A2 c0 c1 c2 t s need letter less P L N) (hb : Below C W W') (hC : n < C) : XBox W' n B A0 A1 A2 c0 c1 c2 t s need letter less P L N :=
  ⟨h.tab.keep fun p hp => hb.cell (by have := h.lt; omega), (hb.cell hC).trans h.q0, (hb.cell hC).trans h.q1, (hb.cell hC).trans h.q2, (hb.cell hC).trans h.q3, (hb.cell hC).trans h.q4, (hb.cell hC).trans h.q5, (hb.cell hC).trans h.q6, (hb.cell hC).trans h.q7, (hb.cell hC).trans h.q8, (hb.cell hC).trans h.q9, (hb.cell hC).trans h.q10, (hb.cell hC).trans h.q11, (hb.cell hC).trans h.q12, h.lt, Nat.lt_of_lt_of_le h.sz hb.size⟩
theorem XBox.new {T : TypeId} (h : Tab W W.heap.size A0 A1 A2 t) :
    XBox (W.alloc (.cells #[.slice A0 t.obs.length c0, .slice A1 t.ent.length c1, .slice A2 t.r.length c2, .int .i64 s.rise, .int .i64 s.side, .int .i64 s.turn, .int .i64 s.power, .int .i64 need, .int .i64 letter, .int .i64 less, .int .u16 P, .int .u16 L, .int .u16 N] T)) W.heap.size W.heap.size A0 A1 A2 c0 c1 c2 t s need letter less P L N :=
  ⟨h.keep fun p hp => by exact ((Below.refl W.heap.size W).alloc (Nat.le_refl _) _).cell hp, by simp [go_sem], by simp [go_sem], by simp [go_sem], by simp [go_sem], by simp [go_sem], by simp [go_sem], by simp [go_sem], by simp [go_sem], by simp [go_sem], by simp [go_sem], by simp [go_sem], by simp [go_sem], by simp [go_sem], Nat.le_refl _, by simp⟩
theorem VBox.mk' {T : TypeId} (h : Tab W B A0 A1 A2 t) (hB : B ≤ W.heap.size) :
    VBox (W.alloc (.cells #[.slice A0 t.obs.length c0, .slice A1 t.ent.length c1, .slice A2 t.r.length c2, .int .i64 s.rise, .int .i64 s.side, .int .i64 s.turn, .int .i64 s.power, .int .i64 need, .int .i64 letter] T)) W.heap.size B A0 A1 A2 c0 c1 c2 t s need letter :=
  ⟨h.keep fun p hp => by exact ((Below.refl W.heap.size W).alloc (Nat.le_refl _) _).cell (show p.block < W.heap.size by omega), by simp [go_sem], by simp [go_sem], by simp [go_sem], by simp [go_sem], by simp [go_sem], by simp [go_sem], by simp [go_sem], by simp [go_sem], by simp [go_sem], hB, by simp⟩
theorem map_range' (row : List Int) (f : Int → Int) : (List.range row.length).map (fun j => f (at0 row j)) = row.map f := by
  apply List.ext_getElem
  · simp
  · intro j h1 h2
    simp at h1
    simp [at0, h1]
theorem VBox.sets (h : VBox W n B A0 A1 A2 c0 c1 c2 t s need letter) {p l d : Int} :
    VBox (((W.setCell ⟨n, 6, none⟩ (.int .i64 p)).setCell ⟨n, 8, none⟩ (.int .i64 l)).setCell ⟨n, 7, none⟩ (.int .i64 d)) n B A0 A1 A2 c0 c1 c2 t ⟨s.rise, s.side, s.turn, p⟩ d l := by
  have hl := h.lt
  have far : ∀ i, i ≠ 6 → i ≠ 7 → i ≠ 8 → (((W.setCell ⟨n, 6, none⟩ (.int .i64 p)).setCell ⟨n, 8, none⟩ (.int .i64 l)).setCell ⟨n, 7, none⟩ (.int .i64 d)).cell? ⟨n, i, none⟩ = W.cell? ⟨n, i, none⟩ := fun i a b c => by
    rw [World.cell?_setCell_other _ _ _ _ (by intro e; injection e with _ e; omega), World.cell?_setCell_other _ _ _ _ (by intro e; injection e with _ e; omega), World.cell?_setCell_other _ _ _ _ (by intro e; injection e with _ e; omega)]
  refine ⟨h.tab.keep fun q hq => ?_, (far 0 (by omega) (by omega) (by omega)).trans h.q0, (far 1 (by omega) (by omega) (by omega)).trans h.q1, (far 2 (by omega) (by omega) (by omega)).trans h.q2, (far 3 (by omega) (by omega) (by omega)).trans h.q3, (far 4 (by omega) (by omega) (by omega)).trans h.q4, (far 5 (by omega) (by omega) (by omega)).trans h.q5, ?_, ?_, ?_, hl, by simpa using h.sz⟩
  · rw [World.cell?_setCell_other _ _ _ _ (by intro e; rw [← e] at hq; simp only at hq; omega), World.cell?_setCell_other _ _ _ _ (by intro e; rw [← e] at hq; simp only at hq; omega), World.cell?_setCell_other _ _ _ _ (by intro e; rw [← e] at hq; simp only at hq; omega)]
  · rw [World.cell?_setCell_other _ _ _ _ (by intro e; injection e with _ e; cases e), World.cell?_setCell_other _ _ _ _ (by intro e; injection e with _ e; cases e)]
    exact World.cell?_setCell_same _ _ _ h.q6
  · exact World.cell?_setCell_same _ _ _ ((World.cell?_setCell_other _ _ _ _ (by intro e; injection e with _ e; cases e)).trans ((World.cell?_setCell_other _ _ _ _ (by intro e; injection e with _ e; cases e)).trans h.q7))
  · rw [World.cell?_setCell_other _ _ _ _ (by intro e; injection e with _ e; cases e)]
    exact World.cell?_setCell_same _ _ _ ((World.cell?_setCell_other _ _ _ _ (by intro e; injection e with _ e; cases e)).trans h.q8)
/-- The worse table's box. -/
structure WBox (W : World) (n B : Nat) (A0 A1 A2 : Option Addr) (c0 c1 c2 : Nat) (u : Tb) (k : Nat) : Prop where
  tab : Tab W B A0 A1 A2 u
  q0 : W.cell? ⟨n, 0, none⟩ = some (.slice A0 u.obs.length c0)
  q1 : W.cell? ⟨n, 1, none⟩ = some (.slice A1 u.ent.length c1)
  q2 : W.cell? ⟨n, 2, none⟩ = some (.slice A2 k c2)
  lt : n < B
  sz : B ≤ W.heap.size
theorem WBox.below {u : Tb} {k : Nat} (h : WBox W n B A0 A1 A2 c0 c1 c2 u k) (hb : Below C W W') (hC : B ≤ C) : WBox W' n B A0 A1 A2 c0 c1 c2 u k :=
  ⟨h.tab.keep fun p hp => hb.cell (by omega), (hb.cell (Nat.lt_of_lt_of_le h.lt hC)).trans h.q0, (hb.cell (Nat.lt_of_lt_of_le h.lt hC)).trans h.q1, (hb.cell (Nat.lt_of_lt_of_le h.lt hC)).trans h.q2, h.lt, Nat.le_trans h.sz hb.size⟩
theorem wor_small {less : Int} (hn : Small t) : Small (worT t less) := by
  obtain ⟨n1, n2, n3, n4⟩ := hn
  refine ⟨n1, n2, by rw [show (worT t less).r.length = t.r.length from worTo_length ..]; exact n3, fun i hi => ?_⟩
  have hi' : i < t.r.length := by rw [show (worT t less).r.length = t.r.length from worTo_length ..] at hi; exact hi
  rw [wor_row t less hi', List.length_map]
  exact n4 i hi'
theorem inv_from {ok : Nat → Bool} {n : Nat} {ps : List (Int × Int)} (h : SpanInv ok n ps) : ∀ k, k < ps.length → 1 ≤ (atp ps k).1
  | 0, hk => by have := (h.at_ 0 hk).1; simpa [endTo] using this
  | k + 1, hk => by
    have h1 := inv_from h k (by omega)
    obtain ⟨_, h2, _⟩ := h.at_ k (by omega)
    obtain ⟨h3, _, _⟩ := h.at_ (k + 1) hk
    simp only [endTo] at h3
    omega
theorem inv_ok {ok : Nat → Bool} {ps : List (Int × Int)} (h : SpanInv ok 400 ps) : spansOk ps := fun k hk => by
  have h1 := inv_from h k hk
  obtain ⟨_, h2, h3⟩ := h.at_ k hk
  exact ⟨h1, h2, by omega⟩
theorem inv_at {ok : Nat → Bool} {ps : List (Int × Int)} (h : SpanInv ok 400 ps) : ∀ k, k < ps.length → spanAt ps k := fun k hk => by
  obtain ⟨h1, h2, h3⟩ := h.at_ k hk
  exact ⟨h1, h2, by omega⟩
theorem range_below {w w' : World} {b C : Nat} {cs : List Value} (h : w.rangeAt b 0 cs) (hb : Below C w w') (hC : b < C) : w'.rangeAt b 0 cs := fun j v hv => (hb.cell hC).trans (h j v hv)
theorem stored95 {w : World} {cs : List Value} {Q : Nat → Prop} (h : MarkOf cs Q) : ∀ w' : World, w' = (w.alloc (.cells Try.zeroCells95 95)).setCells w.heap.size 0 cs → w'.rangeAt w.heap.size 0 cs ∧ Below w.heap.size w w' ∧ w.heap.size < w'.heap.size := by
  rintro w' rfl
  have hth := (Marks.new w).there
  have hb : Below w.heap.size w (w.alloc (.cells Try.zeroCells95 95)) := (Below.refl _ _).alloc (Nat.le_refl _) _
  have h2 : Below w.heap.size (w.alloc (.cells Try.zeroCells95 95)) ((w.alloc (.cells Try.zeroCells95 95)).setCells w.heap.size 0 cs) := below_setCells (Nat.le_refl _) _ _ _ (Below.refl _ _)
  refine ⟨World.rangeAt_setCells_same _ _ _ _ (by rw [h.1]; exact hth), hb.trans h2, Nat.lt_of_lt_of_le (by simp) h2.size⟩
theorem IntsB.ofInts {w : World} {bs nb : Nat} {A : Option Addr} {ys : List Int} (h : Ints w B A ys) (hn : B ≤ nb) (hb : B ≤ bs) : IntsB w 0 bs nb A ys := by
  rcases h with h | ⟨b, off, hA, hbb, hc⟩
  · exact .inl h
  · exact .inr ⟨b, off, hA, Nat.zero_le _, by omega, by omega, hc⟩
end
set_option maxRecDepth 100000 in
set_option maxHeartbeats 8000000 in
theorem wSees (A0 A1 A2 : Option Addr) (c0 c1 c2 : Nat) (t : Tb) (s : Sc) (need letter less P L N : Int) (w : World) (h : Tab w w.heap.size A0 A1 A2 t) (hf : Fits t) (hl0 : -9223372036854775808 ≤ less) (hl1 : less ≤ 9223372036854775807) (P0 : 0 ≤ P) (P1 : P ≤ 65535) (L0 : 0 ≤ L) (L1 : L ≤ 65535) (N0 : 0 ≤ N) (N1 : N ≤ 65535) :
    Calls Try.prog 18 #[.agg #[.slice A0 t.obs.length c0, .slice A1 t.ent.length c1, .slice A2 t.r.length c2, .int .i64 s.rise, .int .i64 s.side, .int .i64 s.turn, .int .i64 s.power, .int .i64 need, .int .i64 letter, .int .i64 less, .int .u16 P, .int .u16 L, .int .u16 N]] w fun x w' => x = .returned (.bool true) ∧ Below w.heap.size w w' := by
  obtain ⟨n0, n1, n2, n3⟩ := hf
  have hX := XBox.new (c0 := c0) (c1 := c1) (c2 := c2) (s := s) (need := need) (letter := letter) (less := less) (P := P) (L := L) (N := N) (T := 94) h
  have hal : Below w.heap.size w (w.alloc (.cells #[.slice A0 t.obs.length c0, .slice A1 t.ent.length c1, .slice A2 t.r.length c2, .int .i64 s.rise, .int .i64 s.side, .int .i64 s.turn, .int .i64 s.power, .int .i64 need, .int .i64 letter, .int .i64 less, .int .u16 P, .int .u16 L, .int .u16 N] 94)) := (Below.refl _ _).alloc (Nat.le_refl _) _
  generalize hW : w.alloc (.cells #[.slice A0 t.obs.length c0, .slice A1 t.ent.length c1, .slice A2 t.r.length c2, .int .i64 s.rise, .int .i64 s.side, .int .i64 s.turn, .int .i64 s.power, .int .i64 need, .int .i64 letter, .int .i64 less, .int .u16 P, .int .u16 L, .int .u16 N] 94) = w0 at hX hal
  have HW := Lib.hid hW
  have hF := VBox.mk' (c0 := c0) (c1 := c1) (c2 := c2) (s := s) (need := need) (letter := letter) (T := 74) hX.tab (Nat.le_of_lt hX.sz)
  have hb : Below w0.heap.size w0 (w0.alloc (.cells #[.slice A0 t.obs.length c0, .slice A1 t.ent.length c1, .slice A2 t.r.length c2, .int .i64 s.rise, .int .i64 s.side, .int .i64 s.turn, .int .i64 s.power, .int .i64 need, .int .i64 letter] 74)) := (Below.refl _ _).alloc (Nat.le_refl _) _
  obtain ⟨-, q0, q1, q2, q3, q4, q5, q6, q7, q8, x9, x10, x11, x12, -, xs⟩ := id hX
  generalize hW1 : w0.alloc (.cells #[.slice A0 t.obs.length c0, .slice A1 t.ent.length c1, .slice A2 t.r.length c2, .int .i64 s.rise, .int .i64 s.side, .int .i64 s.turn, .int .i64 s.power, .int .i64 need, .int .i64 letter] 74) = w1 at hF hb
  have HW1 := Lib.hid hW1
  clear hW hW1 h
  go_enter Try.func18, Try.ntmps18
  go_upto_region 1 with fail
  rw [HW.out]
  go_wp2_with fail
  rw [HW1.out]
  replace hX := hX.below hb hX.sz
  replace hal := hal.trans (hb.mono hal.size)
  clear q0 q1 q2 q3 q4 q5 q6 q7 q8 x9 x10 x11 x12 hb HW HW1 xs
  obtain ⟨-, q0, q1, q2, q3, q4, q5, q6, q7, q8, -, _⟩ := id hF
  obtain ⟨x9, x10, x11, x12⟩ := And.intro hX.q9 (And.intro hX.q10 (And.intro hX.q11 hX.q12))
  refine (llong _ _ _ _ _ _ w.heap.size _ _ hF.tab (by have := hF.lt; have := hF.sz; omega) n0 n1 n2 n3).mono ?_
  clear n0 n1 n2 n3
  rintro x w2 ⟨b, rfl, hbs, hb⟩
  have HB := Lib.hid hbs
  clear hbs
  replace hal := hal.trans (hb.mono hal.size)
  replace hX := hX.below hb hX.sz
  replace hF := hF.below hb hF.sz
  clear q0 q1 q2 q3 q4 q5 q6 q7 q8 x9 x10 x11 x12 hb
  obtain ⟨-, q0, q1, q2, q3, q4, q5, q6, q7, q8, -, _⟩ := id hF
  obtain ⟨x9, x10, x11, x12⟩ := And.intro hX.q9 (And.intro hX.q10 (And.intro hX.q11 hX.q12))
  cases b with
  | true =>
    go_wp2_with fail
    refine (lfirst _).mono ?_
    rintro x w9 ⟨rfl, hb⟩
    go_wp2
    go_ret
    exact ⟨rfl, hal.trans (hb.mono hal.size)⟩
  | false =>
    have hn := HB.out.1 rfl
    go_wp2_with fail
    refine (rValidTable _ _ _ _ _ _ w.heap.size _ _ hF.tab (by have := hF.lt; have := hF.sz; omega) hn).mono ?_
    rintro x w3 ⟨rfl, hb⟩
    replace hal := hal.trans (hb.mono hal.size)
    replace hX := hX.below hb hX.sz
    replace hF := hF.below hb hF.sz
    clear q0 q1 q2 q3 q4 q5 q6 q7 q8 x9 x10 x11 x12 hb
    obtain ⟨-, q0, q1, q2, q3, q4, q5, q6, q7, q8, -, _⟩ := id hF
    obtain ⟨x9, x10, x11, x12⟩ := And.intro hX.q9 (And.intro hX.q10 (And.intro hX.q11 hX.q12))
    by_cases ht : TabOk t
    rotate_left
    · rw [tabB_f ht]
      go_wp2_with fail
      refine (lfirst _).mono ?_
      rintro x w9 ⟨rfl, hb⟩
      go_wp2
      go_ret
      exact ⟨rfl, hal.trans (hb.mono hal.size)⟩
    rw [tabB_t ht]
    go_wp2_with fail
    refine (rValidScene s _).mono ?_
    rintro x w4 ⟨rfl, hb⟩
    replace hal := hal.trans (hb.mono hal.size)
    replace hX := hX.below hb hX.sz
    replace hF := hF.below hb hF.sz
    clear q0 q1 q2 q3 q4 q5 q6 q7 q8 x9 x10 x11 x12 hb
    obtain ⟨-, q0, q1, q2, q3, q4, q5, q6, q7, q8, -, _⟩ := id hF
    obtain ⟨x9, x10, x11, x12⟩ := And.intro hX.q9 (And.intro hX.q10 (And.intro hX.q11 hX.q12))
    by_cases hs : SceneOk s
    rotate_left
    · rw [sceneB_f hs]
      go_wp2_with fail
      refine (lfirst _).mono ?_
      rintro x w9 ⟨rfl, hb⟩
      go_wp2
      go_ret
      exact ⟨rfl, hal.trans (hb.mono hal.size)⟩
    rw [sceneB_iff.2 hs]
    by_cases g0 : 0 ≤ need
    rotate_left
    · go_wp2_with fail
      refine (lfirst _).mono ?_
      rintro x w9 ⟨rfl, hb⟩
      go_wp2
      go_ret
      exact ⟨rfl, hal.trans (hb.mono hal.size)⟩
    by_cases g1 : need ≤ 1000000000
    rotate_left
    · go_wp2_with fail
      refine (lfirst _).mono ?_
      rintro x w9 ⟨rfl, hb⟩
      go_wp2
      go_ret
      exact ⟨rfl, hal.trans (hb.mono hal.size)⟩
    by_cases g2 : 1 ≤ letter
    rotate_left
    · go_wp2_with fail
      refine (lfirst _).mono ?_
      rintro x w9 ⟨rfl, hb⟩
      go_wp2
      go_ret
      exact ⟨rfl, hal.trans (hb.mono hal.size)⟩
    by_cases g3 : letter ≤ 2000
    rotate_left
    · go_wp2_with fail
      refine (lfirst _).mono ?_
      rintro x w9 ⟨rfl, hb⟩
      go_wp2
      go_ret
      exact ⟨rfl, hal.trans (hb.mono hal.size)⟩
    by_cases g4 : 0 ≤ less
    rotate_left
    · go_wp2_with fail
      refine (lfirst _).mono ?_
      rintro x w9 ⟨rfl, hb⟩
      go_wp2
      go_ret
      exact ⟨rfl, hal.trans (hb.mono hal.size)⟩
    have hBu := Built.new (lw := 0) (X := w4) (c0 := c0) (c1 := c1) (IntsB.ofInts (nb := w4.heap.size) (bs := w4.heap.size) hF.tab.o (by have := hF.lt; have := hF.sz; omega) (by have := hF.lt; have := hF.sz; omega)) (IntsB.ofInts (nb := w4.heap.size) (bs := w4.heap.size) hF.tab.e (by have := hF.lt; have := hF.sz; omega) (by have := hF.lt; have := hF.sz; omega))
    have hb : Below w4.heap.size w4 (w4.alloc (.cells #[.slice A0 t.obs.length c0, .slice A1 t.ent.length c1, .slice none 0 0] 25)) := (Below.refl _ _).alloc (Nat.le_refl _) _
    generalize hW5 : w4.alloc (.cells #[.slice A0 t.obs.length c0, .slice A1 t.ent.length c1, .slice none 0 0] 25) = w5 at hBu hb
    have HW5 := Lib.hid hW5
    clear hW5
    have hFz := hF.sz
    have hXz := hX.sz
    obtain ⟨m0, m1, m2, m3⟩ := id hn
    go_upto_region 6 with fail
    rw [HW5.out]
    clear HW5
    obtain ⟨i3, hi3, hi30, hi32, hi33⟩ := info_parts info3
    obtain ⟨i22, hi22, hi220, hi222, hi223⟩ := info_parts info22
    clear q0 q1 q2 q3 q4 q5 q6 q7 q8 x9 x10 x11 x12
    go_loopw [5] (fun i wr => ∃ (k : Nat) (v : Value) (vs : List Value), k ≤ t.r.length ∧ i = .int .i64 k ∧ Built wr 0 (w4.heap.size + 1) w4.heap.size A0 A1 c0 c1 t.obs t.ent v vs (worTo t less k) ∧ Below w4.heap.size w4 wr) (fun i _ => t.r.length - (intOf i).toNat)
    case atStart => exact ⟨0, _, [], Nat.zero_le _, rfl, hBu, hb⟩
    case round =>
      clear hBu hb
      obtain ⟨k, v, vs, hk, rfl, hBu, hbw⟩ := hrel
      obtain ⟨wA, rfl⟩ : ∃ wA : World, wA = wr := ⟨_, rfl⟩
      have hFA := hF.below hbw hFz
      have hXA := hX.below hbw hXz
      obtain ⟨-, q0, q1, q2, q3, q4, q5, q6, q7, q8, -, _⟩ := id hFA
      obtain ⟨x9, x10, x11, x12⟩ := And.intro hXA.q9 (And.intro hXA.q10 (And.intro hXA.q11 hXA.q12))
      by_cases hlt : k < t.r.length
      · obtain ⟨b, off, hA2, hbb, hcr⟩ := hFA.tab.r.form (by omega)
        subst hA2
        obtain ⟨Aj, Cj, hcj, hIj⟩ := hcr k hlt
        have hlen : (at1 t.r k).length ≤ 40 := m3 k hlt
        have hcell : ∀ j, j < (at1 t.r k).length → 0 ≤ at0 (at1 t.r k) j ∧ at0 (at1 t.r k) j ≤ 100000 := fun j hj => tab_cell ht hlt hj
        have hrl : 2 ≤ (at1 t.r k).length := by rw [(ht.2.2.2 k hlt).1]; exact ht.2.1.1
        clear hcr
        generalize hrow : at1 t.r k = row at *
        have HC := Lib.hid hcell
        clear hcell
        have hsw := hbw.size
        have hFlt := hFA.lt
        have hFsz := hFA.sz
        have hXsz := hXA.sz
        have hnbA : w4.heap.size < wA.heap.size := by have := hBu.sz; omega
        go_upto_region 10 with fail
        go_loopw [6, 7] (fun out i w5 => ∃ m : Nat, m ≤ row.length ∧ i = .int .i64 m ∧ w5.ownsRow wA.heap.size 3 1 out m (((List.range m).map fun j => max 0 (at0 row j - less)).map (.int .i64)) ∧ Below wA.heap.size wA w5) (fun _ i _ => row.length - (intOf i).toNat)
        case atStart => exact ⟨0, Nat.zero_le _, rfl, World.ownsRow_nil _ _ _ _, Below.refl _ _⟩
        case round =>
          obtain ⟨m, hm, rfl, hownl, hb4⟩ := hrel
          clear q0 q1 q2 q3 q4 q5 q6 q7 q8 x9 x10 x11 x12
          have hF5 := hFA.below hb4 hFsz
          have hX5 := hXA.below hb4 hXsz
          obtain ⟨-, q0, q1, q2, q3, q4, q5, q6, q7, q8, -, _⟩ := id hF5
          obtain ⟨x9, x10, x11, x12⟩ := And.intro hX5.q9 (And.intro hX5.q10 (And.intro hX5.q11 hX5.q12))
          have hcj5 := (hb4.cell (show b < wA.heap.size by omega)).trans hcj
          by_cases hmt : m < row.length
          · obtain ⟨b2, off2, hA3, hbb2, hc2⟩ := (hIj.keep fun p hp => hb4.cell (show p.block < wA.heap.size by omega)).at_ hmt
            subst hA3
            have u0 := hc2 m hmt
            obtain ⟨r0, r1⟩ := HC.out m hmt
            clear hc2
            have hzr := hb4.size
            have HX : Hid (IntKind.i64.wrap (at0 row m - less) = at0 row m - less) := Lib.hid (IntWalk.i64_in _ (by omega))
            go_upto_region 12 with fail
            go_region_law (refine step_append_lies _ ?_ (.tmp 92) (.tmp 106) 22 ?_ wA.heap.size 3 i3 (.int .i64 0) 1 8 Try.underlying22 hi3 hi30 hi32 hi33 ?_ ?_ u6 m (((List.range m).map fun j => max 0 (at0 row j - less)).map (.int .i64)) ?_ ?_ ⟨wr.heap.size, 0, none⟩ 1 1 [.int .i64 (max 0 (IntKind.i64.wrap (at0 row m - less)))] ?_ ?_ ?_ ?_ ?_ ?_ ?_ ?_ (wr.heap.size + 1) ?_ ?_; (solve | (rfl)); (solve | (rfl)); (solve | (rfl)); (solve | (decide)); (solve | (rfl)); (solve | (exact owns_new (t := 3) (cs := #[_]) hownl (by first | exact .inl rfl | exact .inr (.inl rfl) | exact .inr (.inr rfl)))); (solve | (rfl)); (solve | (rfl)); (solve | (exact one_new (t := 3) (by first | exact .inl rfl | exact .inr (.inl rfl) | exact .inr (.inr rfl)))); (solve | ((intro u hu; simp only [List.mem_singleton] at hu; subst hu; rfl))); (solve | (omega)); (solve | ((unfold maxLen; omega))); (solve | (omega)); (solve | ((have := hb4.size; simp; omega))); (solve | ((simp; done))); (intro g cap w6 hown3 hgrow hat hg3))
            all_goals
              go_wp2_with fail
              rw [HX.out, ← List.map_singleton, ← List.map_append] at hown3
              have hrs : ((List.range m).map fun j => max 0 (at0 row j - less)) ++ [max 0 (at0 row m - less)] = (List.range (m + 1)).map fun j => max 0 (at0 row j - less) := by simp [List.range_succ]
              rw [hrs] at hown3
              have hb3' : Below wA.heap.size wA w6 := app_below (t := 3) (cs := #[_]) (by first | exact .inl rfl | exact .inr (.inl rfl) | exact .inr (.inr rfl)) hb4 hb4.size hownl hgrow
              exact ⟨⟨m + 1, by omega, by go_num, hown3, hb3'⟩, by simp [intOf]; omega⟩
          · obtain rfl : m = row.length := by omega
            have hmr : (List.range row.length).map (fun j => max 0 (at0 row j - less)) = row.map (fun r => max 0 (r - less)) := map_range' row (fun r => max 0 (r - less))
            rw [hmr] at hownl
            obtain ⟨gl, cl, hvl, hgl1, hgl2⟩ := hownl.form (by omega)
            subst hvl
            have hBu5 := hBu.below hb4
            have hs5 := hBu5.sz
            have g2 := hBu5.q2
            have f2 := hBu5.z2
            have hsz' := hBu.sz
            have hlt' := hBu.lt
            have hK : (worTo t less k).length = k := worTo_length ..
            have hIN : IntsN wr (w4.heap.size + 1) v.ownBlock (some ⟨gl, 0, none⟩) (row.map fun r => max 0 (r - less)) :=
              .inr ⟨gl, 0, rfl, by omega, hgl2, fun e => by have := (hBu.own.lt _ e.symm).2; omega, fun j hj => by
                have hjr : j < row.length := by simpa using hj
                rw [Nat.zero_add, hownl.cellAt j (by omega)]
                simp [at0, hjr]⟩
            go_wp2_with (first
              | (at_builtin; refine wpList_append_lies _ ?_ (.tmp 109) (.tmp 111) 23 ?_ (w4.heap.size + 1) 22 i22 (.slice none 0 0) 1 24 Try.underlying23 hi22 hi220 hi222 hi223 ?_ ?_ v (worTo t less k).length vs ?_ ?_ ⟨wr.heap.size, 0, none⟩ 1 1 [.slice (some ⟨gl, 0, none⟩) row.length cl] ?_ ?_ ?_ ?_ ?_ ?_ ?_ ?_ (wr.heap.size + 1) ?_ ?_; (solve | (rfl)); (solve | (rfl)); (solve | (rfl)); (solve | (decide)); (solve | (rfl)); (solve | (exact owns_new (t := 22) (cs := #[_]) hBu5.own (by first | exact .inl rfl | exact .inr (.inl rfl) | exact .inr (.inr rfl)))); (solve | (rfl)); (solve | (rfl)); (solve | (exact one_new (t := 22) (by first | exact .inl rfl | exact .inr (.inl rfl) | exact .inr (.inr rfl)))); (solve | ((intro u hu; simp only [List.mem_singleton] at hu; subst hu; rfl))); (solve | (omega)); (solve | ((unfold maxLen; omega))); (solve | (omega)); (solve | ((have := hBu5.sz; simp; omega))); (solve | ((simp; done))); (intro g cap w6 hown3 hgrow hat hg3; have hmid := hBu5.mid (t := 22) (.inl rfl) hgrow; have f6 := (hmid.2.2 w4.heap.size 2 hlt').trans f2; have g6 := (hmid.2.1 w4.heap.size 2 hlt').trans g2))
              | fail)
            have hmo := hBu5.more (t := 22) (x := .slice (some ⟨gl, 0, none⟩) row.length cl) (A := some ⟨gl, 0, none⟩) (c := cl) (ys := row.map fun r => max 0 (r - less)) hIN (.inl rfl) (by rw [List.length_map]) hown3 hgrow hat (Nat.le_refl _) (hbw.trans (hb4.mono hbw.size))
            have hds : worTo t less (k + 1) = worTo t less k ++ [row.map fun r => max 0 (r - less)] := by rw [worTo_succ, hrow]
            rw [← hds, hK] at hmo
            exact ⟨⟨k + 1, _, _, by omega, by go_num, hmo.1, hmo.2⟩, by simp [intOf]; omega⟩
      · obtain rfl : k = t.r.length := by omega
        obtain ⟨A2', c2', rfl, hR2⟩ := owns_rows hBu.own hBu.rows
        rw [worTo_length] at *
        have hFsz := hFA.sz
        have hXsz := hXA.sz
        have hal6 := hal.trans (hbw.mono hal.size)
        have hV8 := VBox.mk' (c0 := c0) (c1 := c1) (c2 := c2) (s := s) (need := need) (letter := letter) (T := 74) hFA.tab (by have := hFA.lt; omega)
        have hb : Below wA.heap.size wA (wA.alloc (.cells #[.slice A0 t.obs.length c0, .slice A1 t.ent.length c1, .slice A2 t.r.length c2, .int .i64 s.rise, .int .i64 s.side, .int .i64 s.turn, .int .i64 s.power, .int .i64 need, .int .i64 letter] 74)) := (Below.refl _ _).alloc (Nat.le_refl _) _
        have z6 : (wA.alloc (.cells #[.slice A0 t.obs.length c0, .slice A1 t.ent.length c1, .slice A2 t.r.length c2, .int .i64 s.rise, .int .i64 s.side, .int .i64 s.turn, .int .i64 s.power, .int .i64 need, .int .i64 letter] 74)).frozen? ⟨wA.heap.size, 6, none⟩ = false := by simp [go_sem]
        have z7 : (wA.alloc (.cells #[.slice A0 t.obs.length c0, .slice A1 t.ent.length c1, .slice A2 t.r.length c2, .int .i64 s.rise, .int .i64 s.side, .int .i64 s.turn, .int .i64 s.power, .int .i64 need, .int .i64 letter] 74)).frozen? ⟨wA.heap.size, 7, none⟩ = false := by simp [go_sem]
        have z8 : (wA.alloc (.cells #[.slice A0 t.obs.length c0, .slice A1 t.ent.length c1, .slice A2 t.r.length c2, .int .i64 s.rise, .int .i64 s.side, .int .i64 s.turn, .int .i64 s.power, .int .i64 need, .int .i64 letter] 74)).frozen? ⟨wA.heap.size, 8, none⟩ = false := by simp [go_sem]
        generalize hW6 : wA.alloc (.cells #[.slice A0 t.obs.length c0, .slice A1 t.ent.length c1, .slice A2 t.r.length c2, .int .i64 s.rise, .int .i64 s.side, .int .i64 s.turn, .int .i64 s.power, .int .i64 need, .int .i64 letter] 74) = w6 at hV8 hb z6 z7 z8
        have HW6 := Lib.hid hW6
        clear hW6
        go_upto_region 15 with fail
        rw [HW6.out]
        clear HW6
        have hF6 := hFA.below hb hFsz
        have hX6 := hXA.below hb hXsz
        have hBu6 := hBu.below hb
        have hR6 := hR2.keep (w' := w6) fun p hp => hb.cell hp
        replace hal6 := hal6.trans (hb.mono hal6.size)
        clear q0 q1 q2 q3 q4 q5 q6 q7 q8 x9 x10 x11 x12
        obtain ⟨-, q0, q1, q2, q3, q4, q5, q6, q7, q8, -, _⟩ := id hF6
        obtain ⟨x9, x10, x11, x12⟩ := And.intro hX6.q9 (And.intro hX6.q10 (And.intro hX6.q11 hX6.q12))
        obtain ⟨-, v0, v1, v2, v3, v4, v5, v6, v7, v8, -, _⟩ := id hV8
        obtain ⟨⟨e0, e1⟩, ⟨e2, e3⟩, ⟨e4, e5⟩, e6, e7⟩ := id hs
        have hbt : TabOk (worT t less) := wor_ok ht g4
        have hul : (worT t less).r.length = t.r.length := worTo_length ..
        have hWB : WBox w6 w4.heap.size wA.heap.size A0 A1 A2' c0 c1 c2' (worT t less) t.r.length :=
          ⟨⟨(hBu.o.ints hBu.sz).below hb, (hBu.e.ints hBu.sz).below hb, hR6⟩, hBu6.q0, hBu6.q1, hBu6.q2, Nat.lt_of_lt_of_le hBu.lt hBu.sz, hb.size⟩
        go_upto_region 18 with fail
        have hb7 : Below wA.heap.size w6 (((w6.setCell ⟨wA.heap.size, 6, none⟩ (.int .i64 (min 100000 (s.power + P)))).setCell ⟨wA.heap.size, 8, none⟩ (.int .i64 (min 2000 (letter + L)))).setCell ⟨wA.heap.size, 7, none⟩ (.int .i64 (max 0 (need - N)))) := (((Below.refl wA.heap.size w6).setCell (p := ⟨wA.heap.size, 6, none⟩) (Nat.le_refl _) _).setCell (p := ⟨wA.heap.size, 8, none⟩) (Nat.le_refl _) _).setCell (p := ⟨wA.heap.size, 7, none⟩) (Nat.le_refl _) _
        have hV7 := VBox.sets hV8 (p := min 100000 (s.power + P)) (l := min 2000 (letter + L)) (d := max 0 (need - N))
        obtain ⟨pw0, pw1⟩ : s.power ≤ min 100000 (s.power + P) ∧ min 100000 (s.power + P) ≤ 100000 := by omega
        obtain ⟨lw0, lw1⟩ : letter ≤ min 2000 (letter + L) ∧ min 2000 (letter + L) ≤ 2000 := by omega
        obtain ⟨nw0, nw1⟩ : max 0 (need - N) ≤ need ∧ 0 ≤ max 0 (need - N) := by omega
        generalize min 100000 (s.power + P) = pw at *
        generalize min 2000 (letter + L) = lw at *
        generalize max 0 (need - N) = nw at *
        generalize ((w6.setCell ⟨wA.heap.size, 6, none⟩ (.int .i64 pw)).setCell ⟨wA.heap.size, 8, none⟩ (.int .i64 lw)).setCell ⟨wA.heap.size, 7, none⟩ (.int .i64 nw) = w7 at *
        have hF7 := hF6.below hb7 hFsz
        have hX7 := hX6.below hb7 hXsz
        have hW7 := hWB.below hb7 (Nat.le_refl _)
        have hal7 := hal6.trans (hb7.mono (by have := hal.size; have := hbw.size; omega))
        clear hFA hXA hV8 hb z6 z7 z8 hF6 hX6 hBu6 hR6 hal6 q0 q1 q2 q3 q4 q5 q6 q7 q8 x9 x10 x11 x12 v0 v1 v2 v3 v4 v5 v6 v7 v8 hWB hb7 hBu hR2 hbw hF hX
        obtain ⟨-, q0, q1, q2, q3, q4, q5, q6, q7, q8, -, _⟩ := id hF7
        obtain ⟨x9, x10, x11, x12⟩ := And.intro hX7.q9 (And.intro hX7.q10 (And.intro hX7.q11 hX7.q12))
        obtain ⟨-, v0, v1, v2, v3, v4, v5, v6, v7, v8, -, _⟩ := id hV7
        obtain ⟨-, y0, y1, y2, -, _⟩ := id hW7
        go_wp2_with fail
        have hcB := lBetter A0 A1 A2 A0 A1 A2' c0 c1 c2 c0 c1 c2' wA.heap.size t (worT t less) w7 (hF7.tab.more (by have := hF7.lt; omega)) hW7.tab hW7.sz hn (wor_small hn)
        rw [hul] at hcB
        refine hcB.mono ?_
        rintro e w8 ⟨b, er, hBI, rfl, hb⟩
        obtain ⟨rfl, rfl⟩ : b = true ∧ er = 0 := by
          have h2 := hBI.2 ⟨ht, hbt⟩
          exact ⟨h2.1.2 ⟨rfl, rfl, fun i hi k hk => wor_le ht g4 (by rw [← ht.2.2.1]; exact hi) hk⟩, h2.2⟩
        clear hBI hcB
        replace hal7 := hal7.trans (hb.mono hal7.size)
        replace hF7 := hF7.below hb hF7.sz
        replace hX7 := hX7.below hb hX7.sz
        replace hV7 := hV7.below hb hV7.sz
        replace hW7 := hW7.below hb hW7.sz
        clear q0 q1 q2 q3 q4 q5 q6 q7 q8 x9 x10 x11 x12 v0 v1 v2 v3 v4 v5 v6 v7 v8 y0 y1 y2
        obtain ⟨-, q0, q1, q2, q3, q4, q5, q6, q7, q8, -, _⟩ := id hF7
        obtain ⟨x9, x10, x11, x12⟩ := And.intro hX7.q9 (And.intro hX7.q10 (And.intro hX7.q11 hX7.q12))
        obtain ⟨-, v0, v1, v2, v3, v4, v5, v6, v7, v8, -, _⟩ := id hV7
        obtain ⟨-, y0, y1, y2, -, _⟩ := id hW7
        go_wp2_with fail
        have hcL := lLegible A0 A1 A2' c0 c1 c2' wA.heap.size (worT t less) s need letter w8 hW7.tab hW7.sz (wor_small hn)
        rw [hul] at hcL
        refine hcL.mono ?_
        rintro e w9 hr
        obtain ⟨Aa, ca, rfl, hPa⟩ := hr.2.2.1 (seenF_t hbt hs) ⟨⟨g0, g1⟩, g2, g3⟩
        replace hb := hr.2.2.2
        clear hr hcL
        replace hal7 := hal7.trans (hb.mono hal7.size)
        replace hF7 := hF7.below hb hF7.sz
        replace hX7 := hX7.below hb hX7.sz
        replace hV7 := hV7.below hb hV7.sz
        replace hW7 := hW7.below hb hW7.sz
        clear q0 q1 q2 q3 q4 q5 q6 q7 q8 x9 x10 x11 x12 v0 v1 v2 v3 v4 v5 v6 v7 v8 y0 y1 y2
        obtain ⟨-, q0, q1, q2, q3, q4, q5, q6, q7, q8, -, _⟩ := id hF7
        obtain ⟨x9, x10, x11, x12⟩ := And.intro hX7.q9 (And.intro hX7.q10 (And.intro hX7.q11 hX7.q12))
        obtain ⟨-, v0, v1, v2, v3, v4, v5, v6, v7, v8, -, _⟩ := id hV7
        obtain ⟨-, y0, y1, y2, -, _⟩ := id hW7
        go_wp2_with fail
        have hs' : SceneOk ⟨s.rise, s.side, s.turn, pw⟩ := ⟨hs.1, hs.2.1, hs.2.2.1, by simp only; omega, pw1⟩
        refine (lLegible A0 A1 A2 c0 c1 c2 w.heap.size t ⟨s.rise, s.side, s.turn, pw⟩ nw lw w9 hV7.tab (by have := hV7.lt; have := hV7.sz; omega) hn).mono ?_
        rintro e w10 hr
        obtain ⟨Ab, cb, rfl, hPb⟩ := hr.2.2.1 (seenF_t ht hs') ⟨⟨nw1, by omega⟩, by omega, lw1⟩
        replace hb := hr.2.2.2
        clear hr
        have hs9 := hb.size
        replace hPa := hPa.below hb
        have hsub : ∀ d, inS (spansTo (legOk (worT t less) s need letter) 400) d → inS (spansTo (legOk t ⟨s.rise, s.side, s.turn, pw⟩ nw lw) 400) d := fun d hd => by
          have h1 := (spanInv (legOk (worT t less) s need letter) 400).mem d |>.1 hd
          exact ((spanInv (legOk t ⟨s.rise, s.side, s.turn, pw⟩ nw lw) 400).mem d).2 ⟨h1.1, h1.2.1, wor_ok_leg (s' := ⟨s.rise, s.side, s.turn, pw⟩) ht hs g4 rfl rfl rfl pw0 nw0 lw0 h1.1 h1.2.2⟩
        have la := spansTo_length (legOk (worT t less) s need letter) 400
        have lb := spansTo_length (legOk t ⟨s.rise, s.side, s.turn, pw⟩ nw lw) 400
        have oka := inv_ok (spanInv (legOk (worT t less) s need letter) 400)
        have okb := inv_ok (spanInv (legOk t ⟨s.rise, s.side, s.turn, pw⟩ nw lw) 400)
        have atb := inv_at (spanInv (legOk t ⟨s.rise, s.side, s.turn, pw⟩ nw lw) 400)
        generalize spansTo (legOk (worT t less) s need letter) 400 = pa at *
        generalize spansTo (legOk t ⟨s.rise, s.side, s.turn, pw⟩ nw lw) 400 = pb at *
        have HSUB := Lib.hid hsub
        have HOKA := Lib.hid oka
        have HOKB := Lib.hid okb
        have HATB := Lib.hid atb
        clear hsub oka okb atb q0 q1 q2 q3 q4 q5 q6 q7 q8 x9 x11 x12 v0 v1 v2 v3 v4 v5 v6 v7 v8 y0 y1 y2 hF7 hV7 hW7 hs'
        replace hal7 := hal7.trans (hb.mono hal7.size)
        replace hX7 := hX7.below hb hX7.sz
        clear x10
        have x10 := hX7.q10
        clear hb
        go_wp2_with fail
        refine (lmetres Aa ca w9.heap.size pa w10 hPa hs9 la HOKA.out).mono ?_
        rintro e w11 ⟨csA, rfl, hMA, hb⟩
        replace hPb := hPb.below hb
        have hs10 := hb.size
        replace hal7 := hal7.trans (hb.mono hal7.size)
        replace hX7 := hX7.below hb hX7.sz
        clear x10
        have x10 := hX7.q10
        clear hb hPa
        have hth := (Marks.new w11).there
        have hsz : csA.toArray.size = 402 := by simp [hMA.1]
        have hMo := hMA
        go_wp2_with (first
          | (refine wpList_store_mid ?_ 95 (.tmp 15) (.tmp 188) ?_ w11.heap.size 0 csA.toArray ?_ ?_ ?_ ?_ ?_ ?_; (solve | rfl); (solve | rfl); (solve | rfl); (solve | rfl); (solve | (rw [hsz]; exact hth)); (solve | (rw [info95, hsz])); (solve | exact all_oneCell_toArray hMo.one))
          | fail)
        obtain ⟨rA, hb, hz11⟩ := stored95 (w := w11) hMA _ rfl
        generalize (w11.alloc (.cells Try.zeroCells95 95)).setCells w11.heap.size 0 csA = w12 at *
        replace hPb := hPb.below (hb.mono hs10)
        have hs12 := hb.size
        replace hal7 := hal7.trans (hb.mono hal7.size)
        replace hX7 := hX7.below hb hX7.sz
        clear x10
        have x10 := hX7.q10
        clear hb hth hsz hMo
        refine (lmetres Ab cb w10.heap.size pb w12 hPb (by omega) lb HOKB.out).mono ?_
        rintro e w13 ⟨csB, rfl, hMB, hb⟩
        have hs13 := hb.size
        replace rA := range_below rA hb hz11
        replace hPb := hPb.below (hb.mono (by omega))
        replace hal7 := hal7.trans (hb.mono hal7.size)
        replace hX7 := hX7.below hb hX7.sz
        clear x10
        have x10 := hX7.q10
        clear hb
        have hth := (Marks.new w13).there
        have hsz : csB.toArray.size = 402 := by simp [hMB.1]
        have hMo := hMB
        go_wp2_with (first
          | (refine wpList_store_mid ?_ 95 (.tmp 17) (.tmp 193) ?_ w13.heap.size 0 csB.toArray ?_ ?_ ?_ ?_ ?_ ?_; (solve | rfl); (solve | rfl); (solve | rfl); (solve | rfl); (solve | (rw [hsz]; exact hth)); (solve | (rw [info95, hsz])); (solve | exact all_oneCell_toArray hMo.one))
          | fail)
        obtain ⟨rB, hb, hz13⟩ := stored95 (w := w13) hMB _ rfl
        generalize (w13.alloc (.cells Try.zeroCells95 95)).setCells w13.heap.size 0 csB = w14 at *
        replace hPb := hPb.below (hb.mono (by omega))
        replace rA := range_below rA hb (by omega)
        have hs14 := hb.size
        replace hal7 := hal7.trans (hb.mono hal7.size)
        replace hX7 := hX7.below hb hX7.sz
        clear x10
        have x10 := hX7.q10
        clear hb hth hsz hMo
        go_loop [19] (fun i => ∃ k : Nat, k ≤ 402 ∧ i = .int .i64 k) (fun i => 402 - (intOf i).toNat)
        case atStart => exact ⟨0, Nat.zero_le _, rfl⟩
        case round =>
          obtain ⟨k, hk, rfl⟩ := hrel
          by_cases hlt : k < 402
          · obtain ⟨va, a1, a2⟩ := hMA.2 k hlt
            obtain ⟨vb, b1, b2⟩ := hMB.2 k hlt
            have cA := rA k _ a1
            have cB := rB k _ b1
            rw [Nat.zero_add] at cA cB
            have hvb : va = true → vb = true := fun h => b2.2 (HSUB.out k (a2.1 h))
            clear a1 a2 b1 b2
            cases va with
            | true =>
              obtain rfl := hvb rfl
              go_wp2
              exact ⟨⟨k + 1, by omega, by go_num⟩, by simp [intOf]; omega⟩
            | false =>
              go_wp2
              exact ⟨⟨k + 1, by omega, by go_num⟩, by simp [intOf]; omega⟩
          · have d0 : 0 ≤ P % 299 := Int.emod_nonneg _ (by omega)
            have d1 : P % 299 < 299 := Int.emod_lt_of_pos _ (by omega)
            have hsb := (sum_bd pb.length (fun j hj => HATB.out j hj)).1
            have hsb2 := (sum_bd pb.length (fun j hj => HATB.out j hj)).2
            have HLE : Hid (sumTo pb pb.length * 3600 / (1 + P % 299 + 1) ≤ sumTo pb pb.length * 3600 / (1 + P % 299)) := by
              refine Lib.hid ((Int.le_ediv_iff_mul_le (by omega)).2 ?_)
              have h1 := Int.ediv_mul_le (sumTo pb pb.length * 3600) (show 1 + P % 299 + 1 ≠ 0 by omega)
              have h2 : 0 ≤ sumTo pb pb.length * 3600 / (1 + P % 299 + 1) := Int.ediv_nonneg (by omega) (by omega)
              rw [Int.mul_add] at h1
              omega
            go_wp2_with fail
            refine (lReading Ab cb w10.heap.size pb (1 + P % 299) w14 hPb (by omega) (by omega)).mono ?_
            rintro e w15 ⟨hR, _, hb⟩
            rw [hR ⟨⟨by omega, by omega⟩, HATB.out⟩]
            clear hR
            replace hPb := hPb.below (hb.mono (by omega))
            replace hal7 := hal7.trans (hb.mono hal7.size)
            have hs15 := hb.size
            go_wp2_with fail
            refine (lReading Ab cb w10.heap.size pb (1 + P % 299 + 1) w15 hPb (by omega) (by omega)).mono ?_
            rintro e w16 ⟨hR, _, hb⟩
            rw [hR ⟨⟨by omega, by omega⟩, HATB.out⟩]
            clear hR
            replace hal7 := hal7.trans (hb.mono hal7.size)
            have hle := HLE.out
            clear hsb hsb2
            generalize sumTo pb pb.length * 3600 / (1 + P % 299 + 1) = r1 at *
            generalize sumTo pb pb.length * 3600 / (1 + P % 299) = r2 at *
            go_wp2_with fail
            refine (lfirst _).mono ?_
            rintro x w17 ⟨rfl, hb17⟩
            go_wp2
            go_ret
            exact ⟨rfl, hal7.trans (hb17.mono hal7.size)⟩
namespace LawSees
open Go.ChangeShapes Go.WideShapes Go.ChangeAt Go.RowKit
set_option maxRecDepth 100000 in
theorem lifted (os : Os) (started : os.Started) (H : Type) (enc : TypeId × Value → H) :
    ReturnsInHanded {} Try.checked os 18 .any (Rows.lightSeesSpec.pre6 enc Try.prog Try.f18 Rows.lightSeesRow.domain false) (Rows.lightSeesSpec.post enc Try.prog Try.f18 false true false false) := by
  refine returnsInHanded_of_change (C := Try.checked) own started (by kernel_rfl) Try.func18
    (ChangeSpec.witness6 (enc := enc) (C := Try.checked) false ⟨#[], #[.agg #[.slice none 0 0, .slice none 0 0, .slice none 0 0, .int .i64 0, .int .i64 0, .int .i64 0, .int .i64 0, .int .i64 0, .int .i64 0, .int .i64 0, .int .u16 0, .int .u16 0, .int .u16 0]], []⟩ 8 (by kernel_rfl) (by kernel_rfl) (by kernel_rfl) (by kernel_rfl)) ?_
  intro W base args ds gs before hval hW hcnd _
  refine law_contract rfl rfl (by simp; decide +kernel) (fun ds hds => ?_) W base args ds gs before hW fun p hA => ?_
  · match ds, hds with
    | [d1], _ => rfl
  · obtain ⟨v0, d0, rfl, rfl, h0⟩ := trodAll_one hA
    obtain ⟨A0, A1, A2, c0, c1, c2, t, s, need, letter, less, P, L, N, rfl, hT, hf, wl, wP, wL, wN⟩ := two_arg (hval 0 94 _ rfl rfl) h0
    obtain ⟨l0, l1⟩ := bounds_i64 wl
    obtain ⟨P0, P1⟩ := bounds_u16 wP
    obtain ⟨L0, L1⟩ := bounds_u16 wL
    obtain ⟨N0, N1⟩ := bounds_u16 wN
    exact wSees A0 A1 A2 c0 c1 c2 t s need letter less P L N W hT hf (by omega) (by omega) P0 (by omega) L0 (by omega) N0 (by omega)
theorem proved : Rows.LightSeesSaid :=
  OpenClaim.holds_of_wide 18 Try.f18 rfl rfl rfl rfl rfl rfl rfl ⟨rfl, rfl, rfl, rfl, rfl⟩ rfl rfl rfl rfl rfl (by kernel_rfl) Try.func18 (by kernel_rfl)
    (of_decide_eq_true (by kernel_rfl)) (by unfold Func.isWrapper; rw [if_neg (of_decide_eq_false (by kernel_rfl))]; exact ⟨rfl, rfl⟩)
    (fun os started H enc _ => lifted os started H enc)
end LawSees
end Go.Proofs.Ytihhfelhdgmceaa
