/- Contract of the program's lengths. -/
import Derived.Test.YtdmmcdbojmalfaaGreatRoad
import Derived.Test.YtdmmcdbojmalfaaGreatBase
import Derived.Deep.DeepCutAuto
namespace Go.Proofs.YtdmmcdbojmalfaaGreat
open Go.RowKit
theorem lwithin (lo n hi : Int) (w : World) : Calls Tryz.prog 40 #[.int .i64 lo, .int .i64 n, .int .i64 hi] w fun e w' => e = .returned (.bool (inB lo n hi)) ∧ w = w' := by
  unfold inB
  by_cases h1 : lo ≤ n <;> by_cases h2 : n ≤ hi
  all_goals
    go_enter Tryz.func40, Tryz.ntmps40
    go_wp2
    go_ret
    exact ⟨by simp [h1, h2], rfl⟩
theorem one_newH {w w' : World} {x : Value} {t : TypeId} {H : Nat} (h : NewOf w #[x] t w') (hH : w.heap.size = H) : ∀ j u, [x][j]? = some u → w'.cell? ((⟨H, 0, none⟩ : Addr).add j) = some u := hH ▸ one_new h
/-- A road in a box. -/
structure RdBox (W : World) (n B : Nat) (A : Option Addr) (c : Nat) (num L : Int) (cs : List Chg) : Prop where
  ch : Chs W B A cs
  q0 : W.cell? ⟨n, 0, none⟩ = some (.int .i64 num)
  q1 : W.cell? ⟨n, 1, none⟩ = some (.int .i64 L)
  q2 : W.cell? ⟨n, 2, none⟩ = some (.slice A cs.length c)
  lt : B ≤ n
  sz : n < W.heap.size
theorem RdBox.below {W W' : World} {n B C : Nat} {A : Option Addr} {c : Nat} {num L : Int} {cs : List Chg} (h : RdBox W n B A c num L cs) (hb : Below C W W') (hC : n < C) : RdBox W' n B A c num L cs :=
  ⟨h.ch.keep fun p hp => hb.cell (by have := h.lt; omega), (hb.cell hC).trans h.q0, (hb.cell hC).trans h.q1, (hb.cell hC).trans h.q2, h.lt, Nat.lt_of_lt_of_le h.sz hb.size⟩
theorem RdBox.new {w : World} {B : Nat} {A : Option Addr} {c : Nat} {num L : Int} {cs : List Chg} {T : TypeId} (h : Chs w B A cs) (hB : B ≤ w.heap.size) : RdBox (w.alloc (.cells #[.int .i64 num, .int .i64 L, .slice A cs.length c] T)) w.heap.size B A c num L cs :=
  ⟨h.keep fun p hp => by exact ((Below.refl w.heap.size w).alloc (Nat.le_refl _) _).cell (show p.block < w.heap.size by omega), by simp [go_sem], by simp [go_sem], by simp [go_sem], hB, by simp⟩
/-- What lengths returns. -/
def LenRes (num L : Int) (cs : List Chg) (w : World) (e : Ending) (w' : World) : Prop :=
  (¬ RoadOk num L cs → e = .returned (.tuple #[.slice none 0 0, .bool false])) ∧
  (RoadOk num L cs → ∃ (A : Option Addr) (c : Nat), e = .returned (.tuple #[.slice A (cs.length + 1) c, .bool true]) ∧ Ints w' w'.heap.size A (lens L cs cs.length)) ∧ Below w.heap.size w w'
set_option maxRecDepth 100000 in
set_option maxHeartbeats 4000000 in
theorem lLengths (A : Option Addr) (c B : Nat) (num L : Int) (cs : List Chg) (w : World) (h : Chs w B A cs) (hB : B ≤ w.heap.size) (hn : cs.length ≤ 9223372036854775807) :
    Calls Tryz.prog 56 #[.agg #[.int .i64 num, .int .i64 L, .slice A cs.length c]] w (LenRes num L cs w) := by
  have hT := RdBox.new (c := c) (num := num) (L := L) (T := 24) h hB
  have hal : Below w.heap.size w (w.alloc (.cells #[.int .i64 num, .int .i64 L, .slice A cs.length c] 24)) := (Below.refl _ _).alloc (Nat.le_refl _) _
  generalize hW : w.alloc (.cells #[.int .i64 num, .int .i64 L, .slice A cs.length c] 24) = w0 at hT hal
  have HW := Lib.hid hW
  clear hW
  obtain ⟨-, q0, q1, q2, -, _⟩ := id hT
  by_cases g1 : 1 ≤ num ∧ num ≤ 1000000
  rotate_left
  · have i1 := inB_f g1
    go_enter Tryz.func56, Tryz.ntmps56
    go_upto_region 1 with fail
    rw [HW.out]
    go_wp2_with (go_at_call 40; refine (lwithin _ _ _ _).mono ?_; rintro e w' ⟨rfl, rfl⟩)
    go_ret2
    exact ⟨fun _ => rfl, fun hh => absurd hh.1 g1, hal⟩
  have i1 := inB_t g1.1 g1.2
  by_cases g2 : 0 ≤ L ∧ L ≤ 10000000
  rotate_left
  · have i2 := inB_f g2
    go_enter Tryz.func56, Tryz.ntmps56
    go_upto_region 1 with fail
    rw [HW.out]
    go_wp2_with (go_at_call 40; refine (lwithin _ _ _ _).mono ?_; rintro e w' ⟨rfl, rfl⟩)
    go_ret2
    exact ⟨fun _ => rfl, fun hh => absurd hh.2.1 g2, hal⟩
  have i2 := inB_t g2.1 g2.2
  by_cases g3 : cs.length ≤ 40
  rotate_left
  · go_enter Tryz.func56, Tryz.ntmps56
    go_upto_region 1 with fail
    rw [HW.out]
    go_wp2_with (go_at_call 40; refine (lwithin _ _ _ _).mono ?_; rintro e w' ⟨rfl, rfl⟩)
    go_ret2
    exact ⟨fun _ => rfl, fun hh => absurd hh.2.2.1 g3, hal⟩
  obtain ⟨L0, L1⟩ := g2
  have G1 := Lib.hid g1
  clear g1
  go_enter Tryz.func56, Tryz.ntmps56
  go_upto_region 1 with fail
  rw [HW.out]
  go_wp2_with (go_at_call 40; refine (lwithin _ _ _ _).mono ?_; rintro e w' ⟨rfl, rfl⟩)
  clear HW i1 i2
  obtain ⟨w2, rfl⟩ : ∃ w2 : World, w2 = w0 := ⟨_, rfl⟩
  have hTz := hT.sz
  have hTl := hT.lt
  obtain ⟨i0, hi, hz0, hz2, hz3⟩ := info_parts info3
  go_loopw [4, 5, 31] (fun out day i wr => ∃ k : Nat, k ≤ cs.length ∧ i = .int .i64 k ∧ day = .int .i64 (dayAt cs k) ∧ wr.ownsRow w2.heap.size 3 1 out (k + 1) ((lens L cs k).map (.int .i64)) ∧ Hid (∀ j, j < k → chOk L cs j) ∧ Below w2.heap.size w2 wr) (fun _ _ i _ => cs.length - (intOf i).toNat)
  case atStart => exact ⟨0, Nat.zero_le _, rfl, rfl, by simpa [lens, lenAt] using World.ownsRow_lit (base := w2.heap.size) (e := 3) (size := 1) w2 #[.int .i64 L] 1 (Nat.le_refl _) (by decide) rfl, hid_none, (Below.refl _ _).alloc (Nat.le_refl _) _⟩
  case round =>
    obtain ⟨k, hk, rfl, rfl, hown, ha, hb⟩ := hrel
    have hT' := hT.below hb hTz
    clear q0 q1 q2
    obtain ⟨-, q0, q1, q2, -, _⟩ := id hT'
    have hb' := hb.size
    by_cases hlt : k < cs.length
    · obtain ⟨b, off, hA, hbb, u0, u1, u2, u3⟩ := hT'.ch.at_ hlt
      subst hA
      obtain ⟨g, cc, hv, hg1, hg2⟩ := hown.form (by omega)
      subst hv
      have e1 := hown.cellAt k (by omega)
      have e2 : ((lens L cs k).map (Value.int .i64))[k]? = some (.int .i64 (lenAt L cs k)) := by simp [lens]
      rw [e2] at e1
      obtain ⟨n0, n1⟩ := lenAt_bd L0 L1 k ha.out
      obtain ⟨m0, m1⟩ := dayAt_bd k ha.out
      clear e2
      by_cases d1 : dayAt cs k ≤ (chAt cs k).day
      rotate_left
      · have HN : Hid (¬ chOk L cs k) := fun h => d1 h.1.1
        go_wp2_with (go_at_call 40; refine (lwithin _ _ _ _).mono ?_; rintro e w' ⟨rfl, rfl⟩)
        go_ret2
        exact ⟨fun _ => rfl, fun hh => absurd (hh.2.2.2 k hlt) HN.out, hal.trans ((hb.alloc hb.size _).mono hal.size)⟩
      by_cases d2 : (chAt cs k).day ≤ 100000
      rotate_left
      · have HN : Hid (¬ chOk L cs k) := fun h => d2 h.1.2
        go_wp2_with (go_at_call 40; refine (lwithin _ _ _ _).mono ?_; rintro e w' ⟨rfl, rfl⟩)
        go_ret2
        exact ⟨fun _ => rfl, fun hh => absurd (hh.2.2.2 k hlt) HN.out, hal.trans ((hb.alloc hb.size _).mono hal.size)⟩
      by_cases d3 : 0 ≤ (chAt cs k).fr
      rotate_left
      · have HN : Hid (¬ chOk L cs k) := fun h => d3 h.2.1.1
        go_wp2_with (go_at_call 40; refine (lwithin _ _ _ _).mono ?_; rintro e w' ⟨rfl, rfl⟩)
        go_ret2
        exact ⟨fun _ => rfl, fun hh => absurd (hh.2.2.2 k hlt) HN.out, hal.trans ((hb.alloc hb.size _).mono hal.size)⟩
      by_cases d4 : (chAt cs k).fr ≤ (chAt cs k).to
      rotate_left
      · have HN : Hid (¬ chOk L cs k) := fun h => d4 h.2.1.2.1
        go_wp2_with (go_at_call 40; refine (lwithin _ _ _ _).mono ?_; rintro e w' ⟨rfl, rfl⟩)
        go_ret2
        exact ⟨fun _ => rfl, fun hh => absurd (hh.2.2.2 k hlt) HN.out, hal.trans ((hb.alloc hb.size _).mono hal.size)⟩
      by_cases d5 : (chAt cs k).to ≤ lenAt L cs k
      rotate_left
      · have HN : Hid (¬ chOk L cs k) := fun h => d5 h.2.1.2.2
        go_wp2_with (go_at_call 40; refine (lwithin _ _ _ _).mono ?_; rintro e w' ⟨rfl, rfl⟩)
        go_ret2
        exact ⟨fun _ => rfl, fun hh => absurd (hh.2.2.2 k hlt) HN.out, hal.trans ((hb.alloc hb.size _).mono hal.size)⟩
      by_cases d6 : 0 ≤ (chAt cs k).new ∧ (chAt cs k).new ≤ 10000000
      rotate_left
      · have HN : Hid (¬ chOk L cs k) := fun h => d6 h.2.2.1
        have j6 := inB_f d6
        clear d6
        go_wp2_with (go_at_call 40; refine (lwithin _ _ _ _).mono ?_; rintro e w' ⟨rfl, rfl⟩)
        go_ret2
        exact ⟨fun _ => rfl, fun hh => absurd (hh.2.2.2 k hlt) HN.out, hal.trans ((hb.alloc hb.size _).mono hal.size)⟩
      have j6 := inB_t d6.1 d6.2
      obtain ⟨d60, d61⟩ := d6
      by_cases d7 : lenAt L cs k + ((chAt cs k).new - ((chAt cs k).to - (chAt cs k).fr)) ≤ 10000000
      rotate_left
      · have HN : Hid (¬ chOk L cs k) := fun h => d7 h.2.2.2
        go_wp2_with (go_at_call 40; refine (lwithin _ _ _ _).mono ?_; rintro e w' ⟨rfl, rfl⟩)
        go_ret2
        exact ⟨fun _ => rfl, fun hh => absurd (hh.2.2.2 k hlt) HN.out, hal.trans ((hb.alloc hb.size _).mono hal.size)⟩
      have HOKK : Hid (chOk L cs k) := ⟨⟨d1, d2⟩, ⟨d3, d4, d5⟩, ⟨d60, d61⟩, d7⟩
      go_wp2_with (first
        | (go_at_call 40; refine (lwithin _ _ _ _).mono ?_; rintro e w' ⟨rfl, rfl⟩)
        | (at_builtin; refine wpList_append_lies _ ?_ (.tmp 86) (.tmp 88) 25 ?_ w2.heap.size 3 i0 (.int .i64 0) 1 8 Tryz.underlying25 hi hz0 hz2 hz3 ?_ ?_ (.slice (some ⟨g, 0, none⟩) (k + 1) cc) (k + 1) ((lens L cs k).map (.int .i64)) ?_ ?_ ⟨wr.heap.size + 1, 0, none⟩ 1 1 [.int .i64 (lenAt L cs k + ((chAt cs k).new - ((chAt cs k).to - (chAt cs k).fr)))] ?_ ?_ ?_ ?_ ?_ ?_ ?_ ?_ (wr.heap.size + 2) ?_ ?_; (solve | (rfl)); (solve | (rfl)); (solve | (rfl)); (solve | (decide)); (solve | (rfl)); (solve | (exact owns_new (t := 3) (cs := #[_]) (hown.alloc _) (by first | exact .inl rfl | exact .inr (.inl rfl) | exact .inr (.inr rfl)))); (solve | (rfl)); (solve | (rfl)); (solve | (exact one_newH (t := 3) (w := wr.alloc _) (by first | exact .inl rfl | exact .inr (.inl rfl) | exact .inr (.inr rfl)) (by simp))); (solve | ((intro u hu; simp only [List.mem_singleton] at hu; subst hu; rfl))); (solve | (omega)); (solve | ((unfold maxLen; omega))); (solve | (omega)); (solve | ((simp; omega))); (solve | ((simp; done))); (intro g' cap w6 hown3 hgrow hat hg3; have x7 := (hgrow.cell_far ⟨wr.heap.size, 0, none⟩ (by simp; omega) (by intro e; have e' : some wr.heap.size = some g := e; injection e' with e'; omega)).trans (by simp [go_sem] : _ = some (.int .i64 (chAt cs k).day))))
        | fail)
      have hls : (lens L cs k).map (Value.int .i64) ++ [.int .i64 (lenAt L cs k + ((chAt cs k).new - ((chAt cs k).to - (chAt cs k).fr)))] = (lens L cs (k + 1)).map (.int .i64) := by rw [lens_succ, List.map_append]; rfl
      rw [hls] at hown3
      have hb3 : Below w2.heap.size w2 w6 := app_below (w := wr.alloc _) (t := 3) (cs := #[_]) (.inl rfl) (hb.alloc hb.size _) (by simp; omega) (hown.alloc _) hgrow
      exact ⟨⟨k + 1, by omega, by go_num, rfl, hown3, hid_more ha HOKK.out, hb3⟩, by simp [intOf]; omega⟩
    · obtain rfl : k = cs.length := by omega
      have HR : Hid (RoadOk num L cs) := ⟨G1.out, ⟨L0, L1⟩, g3, ha.out⟩
      obtain ⟨A', c', rfl, hI⟩ := owns_ints hown (lens_length ..)
      go_wp2
      go_ret2
      exact ⟨fun hh => absurd HR.out hh, fun _ => ⟨A', c', rfl, hI⟩, hal.trans (hb.mono hal.size)⟩
end Go.Proofs.YtdmmcdbojmalfaaGreat
/- Contracts of Ahead (both texts), and the walk of RoadAhead from Awake's contract. -/
namespace Go.Proofs.YtdmmcdbojmalfaaGreat
open Go.RowKit
def dirB (d : Int) : Bool := decide (d = 1) || decide (d = -1)
theorem dirB_iff {d : Int} : dirB d = true ↔ d = 1 ∨ d = -1 := by simp [dirB]
theorem dirB_f {d : Int} (h : ¬ (d = 1 ∨ d = -1)) : dirB d = false := by
  rw [Bool.eq_false_iff]
  exact fun hh => h (dirB_iff.1 hh)
theorem rfrom (lo n hi : Int) (w : World) : Calls Tryz.prog 38 #[.int .i64 lo, .int .i64 n, .int .i64 hi] w fun e w' => e = .returned (.bool (inB lo n hi)) ∧ w = w' := by
  unfold inB
  by_cases h1 : lo ≤ n <;> by_cases h2 : n ≤ hi
  all_goals
    go_enter Tryz.func38, Tryz.ntmps38
    go_wp2
    go_ret
    exact ⟨by simp [h1, h2], rfl⟩
def AheadOk (d a b : Int) : Prop := (d = 1 ∨ d = -1) ∧ (0 ≤ a ∧ a ≤ 10000000) ∧ (0 ≤ b ∧ b ≤ 10000000)
/-- What Ahead returns. -/
def AheadRes (d a b : Int) (w : World) (e : Ending) (w' : World) : Prop :=
  (AheadOk d a b → e = .returned (.tuple #[.int .i64 (d * (b - a)), .int .i64 0])) ∧ (¬ AheadOk d a b → e = .returned (.tuple #[.int .i64 0, .int .i64 2])) ∧ w = w'
end Go.Proofs.YtdmmcdbojmalfaaGreat
