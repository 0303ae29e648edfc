/- Contracts of the reference's versions, toward, step and moved. -/
import Derived.Test.YtoknkmlkeacgjaaRLn
import Derived.Test.YtoknkmlkeacgjaaCry
import Derived.Laws.ResultCell
namespace Go.Proofs.Ytoknkmlkeacgjaa
open Go.RowKit
/-- What versions returns. -/
def VerRes (num L : Int) (cs : List Chg) (f t : Int) (w : World) (e : Ending) (w' : World) : Prop :=
  (¬ RoadOk num L cs → e = .returned (.tuple #[.slice none 0 0, .int .i64 60])) ∧ (RoadOk num L cs → ¬ VersOk cs f t → e = .returned (.tuple #[.slice none 0 0, .int .i64 61])) ∧
  (RoadOk num L cs → VersOk cs f t → ∃ (A : Option Addr) (c : Nat), e = .returned (.tuple #[.slice A (cs.length + 1) c, .int .i64 0]) ∧ Ints w' w'.heap.size A (lens L cs cs.length)) ∧ Below w.heap.size w w'
set_option maxRecDepth 100000 in
set_option maxHeartbeats 2000000 in
theorem rVersions (A : Option Addr) (cp B : Nat) (num L : Int) (cs : List Chg) (f t : Int) (w : World) (h : Chs w B A cs) (hB : B ≤ w.heap.size) (hn : cs.length ≤ 9223372036854775807) :
    Calls Try.prog 54 #[.agg #[.int .i64 num, .int .i64 L, .slice A cs.length cp], .int .i64 f, .int .i64 t] w (VerRes num L cs f t w) := by
  have hT := RdBox.new (c := cp) (num := num) (L := L) (T := 24) h hB
  have hal : Below w.heap.size w (w.alloc (.cells #[.int .i64 num, .int .i64 L, .slice A cs.length cp] 24)) := (Below.refl _ _).alloc (Nat.le_refl _) _
  generalize hW : w.alloc (.cells #[.int .i64 num, .int .i64 L, .slice A cs.length cp] 24) = w0 at hT hal
  have HW := Lib.hid hW
  clear hW h
  obtain ⟨-, q0, q1, q2, -, hz⟩ := id hT
  go_enter Try.func54, Try.ntmps54
  go_upto_region 1 with fail
  rw [HW.out]
  go_wp2_with fail
  refine (rLengths A cp B num L cs w0 hT.ch (by have := hT.lt; omega) hn).mono ?_
  rintro e w1 ⟨r1, r2, hb⟩
  have hal2 := hal.trans (hb.mono hal.size)
  clear q0 q1 q2 HW hT
  by_cases ho : RoadOk num L cs
  · obtain ⟨A', c', rfl, hI⟩ := r2 ho
    have HO := Lib.hid ho
    have h40 := ho.2.2.1
    clear r1 r2 ho
    by_cases v0 : 0 ≤ f
    rotate_left
    · have HV : Hid (¬ VersOk cs f t) := fun hh => v0 hh.1.1
      go_wp2
      go_ret2
      exact ⟨fun hh => absurd HO.out hh, fun _ _ => rfl, fun _ hh => absurd hh HV.out, hal2⟩
    by_cases v1 : f ≤ cs.length
    rotate_left
    · have HV : Hid (¬ VersOk cs f t) := fun hh => v1 hh.1.2
      go_wp2
      go_ret2
      exact ⟨fun hh => absurd HO.out hh, fun _ _ => rfl, fun _ hh => absurd hh HV.out, hal2⟩
    by_cases v2 : 0 ≤ t
    rotate_left
    · have HV : Hid (¬ VersOk cs f t) := fun hh => v2 hh.2.1
      go_wp2
      go_ret2
      exact ⟨fun hh => absurd HO.out hh, fun _ _ => rfl, fun _ hh => absurd hh HV.out, hal2⟩
    by_cases v3 : t ≤ cs.length
    rotate_left
    · have HV : Hid (¬ VersOk cs f t) := fun hh => v3 hh.2.2
      go_wp2
      go_ret2
      exact ⟨fun hh => absurd HO.out hh, fun _ _ => rfl, fun _ hh => absurd hh HV.out, hal2⟩
    have HV : Hid (VersOk cs f t) := ⟨⟨v0, v1⟩, v2, v3⟩
    go_wp2
    go_ret2
    exact ⟨fun hh => absurd HO.out hh, fun _ hh => absurd HV.out hh, fun _ _ => ⟨A', c', rfl, hI⟩, hal2⟩
  · rw [r1 ho]
    have HO := Lib.hid ho
    clear r1 r2 ho
    go_wp2
    go_ret2
    exact ⟨fun _ => rfl, fun hh => absurd hh HO.out, fun hh => absurd hh HO.out, hal2⟩
theorem rtoward_up (v : Nat) (t : Nat) (w : World) (h : v < t) (ht : t ≤ 1000) : Calls Try.prog 74 #[.int .i64 v, .int .i64 t] w fun e w' => e = .returned (.int .i64 ((v : Int) + 1)) ∧ w = w' := by
  go_enter Try.func74, Try.ntmps74
  go_wp2
  go_ret
  exact ⟨rfl, rfl⟩
theorem rtoward_down (v : Nat) (t : Nat) (w : World) (h : t ≤ v) (ht : v + 1 ≤ 1000) : Calls Try.prog 74 #[.int .i64 ((v : Int) + 1), .int .i64 t] w fun e w' => e = .returned (.int .i64 v) ∧ w = w' := by
  go_enter Try.func74, Try.ntmps74
  go_wp2
  go_ret
  exact ⟨rfl, rfl⟩
theorem rmoved (fr old new c : Int) (w : World) (a0 : -100000000 ≤ fr ∧ fr ≤ 100000000) (a1 : -100000000 ≤ old ∧ old ≤ 100000000) (a2 : -100000000 ≤ new ∧ new ≤ 100000000) (c0 : -10000000000 ≤ c) (c1 : c ≤ 10000000000) :
    Calls Try.prog 76 #[.agg #[.int .i64 fr, .int .i64 old, .int .i64 new], .int .i64 c] w fun e w' => e = .returned (optPair (placeF ⟨fr, fr + old, new - old⟩ c)) ∧ Below w.heap.size w w' := by
  have hal : Below w.heap.size w (w.alloc (.cells #[.int .i64 fr, .int .i64 old, .int .i64 new] 98)) := (Below.refl _ _).alloc (Nat.le_refl _) _
  obtain ⟨a00, a01⟩ := a0
  obtain ⟨a10, a11⟩ := a1
  obtain ⟨a20, a21⟩ := a2
  unfold placeF optPair
  by_cases h1 : c ≤ fr
  · go_enter Try.func76, Try.ntmps76
    go_wp2
    go_ret2
    exact ⟨by simp, hal⟩
  · by_cases h2 : fr + old ≤ c
    · go_enter Try.func76, Try.ntmps76
      go_wp2
      go_ret2
      exact ⟨by simp; omega, hal⟩
    · go_enter Try.func76, Try.ntmps76
      go_wp2
      go_ret2
      exact ⟨by simp, hal⟩
theorem results_one {fn : Func} {p : Tmp} {ty : TypeId} (h : fn.results = #[.cell p ty]) (tmps : Array Value) (P : Program) (w : World) :
    (results fn tmps).run P w = ((asAddr (tmps.getD p undef)).run P w).andThen fun a w₁ => (loadVar ty a).run P w₁ := by
  simp only [results, h]
  simp [Sem.run_bind, Result.andThen]
theorem res_part {fn : Func} {tmps : Array Value} {w : World} {n : Nat} {v0 v1 v2 : Value} (hr : fn.results = #[.cell 6 98]) (hp : tmps.getD 6 undef = .pointer (some ⟨n, 0, none⟩))
    (h0 : w.cell? ⟨n, 0, none⟩ = some v0) (h1 : w.cell? ⟨n, 1, none⟩ = some v1) (h2 : w.cell? ⟨n, 2, none⟩ = some v2) : (results fn tmps).run Try.prog w = .ok (.agg #[v0, v1, v2]) w := by
  rw [results_one hr, hp]
  simp [go_sem, h0, h1, h2]
theorem set3c {w : World} {n : Nat} {a b c x y z : Value} {o : Obj} (hz : n < w.heap.size) (h0 : w.cell? ⟨n, 0, none⟩ = some x) (h1 : w.cell? ⟨n, 1, none⟩ = some y) (h2 : w.cell? ⟨n, 2, none⟩ = some z) :
    ((((w.setCell ⟨n, 0, none⟩ a).setCell ⟨n, 1, none⟩ b).setCell ⟨n, 2, none⟩ c).alloc o).cell? ⟨n, 0, none⟩ = some a ∧ ((((w.setCell ⟨n, 0, none⟩ a).setCell ⟨n, 1, none⟩ b).setCell ⟨n, 2, none⟩ c).alloc o).cell? ⟨n, 1, none⟩ = some b ∧
      ((((w.setCell ⟨n, 0, none⟩ a).setCell ⟨n, 1, none⟩ b).setCell ⟨n, 2, none⟩ c).alloc o).cell? ⟨n, 2, none⟩ = some c := by
  have ne : ∀ (w : World) (i j : Nat) (u : Value), i ≠ j → (w.setCell ⟨n, j, none⟩ u).cell? ⟨n, i, none⟩ = w.cell? ⟨n, i, none⟩ := fun w i j u hij => World.cell?_setCell_other _ _ _ _ (by intro e; injection e with _ e; exact hij (by omega))
  have hk := (Below.refl (((w.setCell ⟨n, 0, none⟩ a).setCell ⟨n, 1, none⟩ b).setCell ⟨n, 2, none⟩ c).heap.size (((w.setCell ⟨n, 0, none⟩ a).setCell ⟨n, 1, none⟩ b).setCell ⟨n, 2, none⟩ c)).alloc (Nat.le_refl _) o
  have hn : n < (((w.setCell ⟨n, 0, none⟩ a).setCell ⟨n, 1, none⟩ b).setCell ⟨n, 2, none⟩ c).heap.size := by simpa [World.setCell] using hz
  refine ⟨(hk.cell (p := ⟨n, 0, none⟩) hn).trans ?_, (hk.cell (p := ⟨n, 1, none⟩) hn).trans ?_, (hk.cell (p := ⟨n, 2, none⟩) hn).trans ?_⟩
  · rw [ne _ 0 2 _ (by decide), ne _ 0 1 _ (by decide)]; exact World.cell?_setCell_same _ _ _ h0
  · rw [ne _ 1 2 _ (by decide)]; exact World.cell?_setCell_same _ _ _ ((ne _ 1 0 _ (by decide)).trans h1)
  · exact World.cell?_setCell_same _ _ _ ((ne _ 2 1 _ (by decide)).trans ((ne _ 2 0 _ (by decide)).trans h2))
set_option maxRecDepth 100000 in
set_option maxHeartbeats 2000000 in
theorem rstep_up (A : Option Addr) (cp B : Nat) (num L : Int) (cs : List Chg) (v : Nat) (w : World) (h : Chs w B A cs) (hB : B ≤ w.heap.size) (hv : v < cs.length) (_hn : cs.length ≤ 40)
    (d : (0 ≤ (chAt cs v).fr ∧ (chAt cs v).fr ≤ (chAt cs v).to) ∧ (chAt cs v).to ≤ 10000000 ∧ 0 ≤ (chAt cs v).new ∧ (chAt cs v).new ≤ 10000000) :
    Calls Try.prog 75 #[.agg #[.int .i64 num, .int .i64 L, .slice A cs.length cp], .int .i64 v, .int .i64 ((v : Int) + 1)] w fun e w' => e = .returned (.agg #[.int .i64 (chAt cs v).fr, .int .i64 ((chAt cs v).to - (chAt cs v).fr), .int .i64 (chAt cs v).new]) ∧ Below w.heap.size w w' := by
  have hT := RdBox.new (c := cp) (num := num) (L := L) (T := 24) h hB
  have hal : Below w.heap.size w (w.alloc (.cells #[.int .i64 num, .int .i64 L, .slice A cs.length cp] 24)) := (Below.refl _ _).alloc (Nat.le_refl _) _
  generalize hW : w.alloc (.cells #[.int .i64 num, .int .i64 L, .slice A cs.length cp] 24) = w0 at hT hal
  have hz0 : w0.heap.size = w.heap.size + 1 := by rw [← hW]; simp
  have hT1 := hT.below ((Below.refl w0.heap.size w0).alloc (Nat.le_refl _) (.cells #[.int .i64 0, .int .i64 0, .int .i64 0] 98)) hT.sz
  have hal1 := hal.alloc hal.size (.cells #[.int .i64 0, .int .i64 0, .int .i64 0] 98)
  have z0 : (w0.alloc (.cells #[.int .i64 0, .int .i64 0, .int .i64 0] 98)).frozen? ⟨w.heap.size + 1, 0, none⟩ = false := by rw [← hz0]; simp [go_sem]
  have z1 : (w0.alloc (.cells #[.int .i64 0, .int .i64 0, .int .i64 0] 98)).frozen? ⟨w.heap.size + 1, 1, none⟩ = false := by rw [← hz0]; simp [go_sem]
  have z2 : (w0.alloc (.cells #[.int .i64 0, .int .i64 0, .int .i64 0] 98)).frozen? ⟨w.heap.size + 1, 2, none⟩ = false := by rw [← hz0]; simp [go_sem]
  have y0 : (w0.alloc (.cells #[.int .i64 0, .int .i64 0, .int .i64 0] 98)).cell? ⟨w.heap.size + 1, 0, none⟩ = some (.int .i64 0) := by rw [← hz0]; simp [go_sem]
  have y1 : (w0.alloc (.cells #[.int .i64 0, .int .i64 0, .int .i64 0] 98)).cell? ⟨w.heap.size + 1, 1, none⟩ = some (.int .i64 0) := by rw [← hz0]; simp [go_sem]
  have y2 : (w0.alloc (.cells #[.int .i64 0, .int .i64 0, .int .i64 0] 98)).cell? ⟨w.heap.size + 1, 2, none⟩ = some (.int .i64 0) := by rw [← hz0]; simp [go_sem]
  have hy : w.heap.size + 1 < (w0.alloc (.cells #[.int .i64 0, .int .i64 0, .int .i64 0] 98)).heap.size := by simp [hz0]
  have HW := Lib.hid hW
  clear hW h hal hz0
  generalize hW1 : w0.alloc (.cells #[.int .i64 0, .int .i64 0, .int .i64 0] 98) = w1 at *
  have HW1 := Lib.hid hW1
  clear hW1 hT
  obtain ⟨-, q0, q1, q2, hlt0, hz⟩ := id hT1
  obtain ⟨b, off, hA, hbb, u0, u1, u2, u3⟩ := hT1.ch.at_ hv
  subst hA
  obtain ⟨⟨d0, d1⟩, d2, d3, d4⟩ := d
  have hbw : b < w1.heap.size := by omega
  go_enter Try.func75, Try.ntmps75
  go_upto_region 1 with fail
  rw [HW.out, HW1.out]
  clear HW HW1 hT1
  go_wp2
  all_goals (try simp only [Exit.inBlock, Exit.then])
  obtain ⟨x0, x1, x2⟩ := set3c (a := .int .i64 (chAt cs v).fr) (b := .int .i64 ((chAt cs v).to - (chAt cs v).fr)) (c := .int .i64 (chAt cs v).new) (o := (.cells #[.int .i64 (chAt cs v).day, .int .i64 (chAt cs v).fr, .int .i64 (chAt cs v).to, .int .i64 (chAt cs v).new] 77)) hy y0 y1 y2
  refine bodyPost_ret (res_part rfl rfl x0 x1 x2) rfl ⟨rfl, ?_⟩
  exact (let hq := ((hal1.setCell (p := ⟨w.heap.size + 1, 0, none⟩) (Nat.le_succ _) _).setCell (p := ⟨w.heap.size + 1, 1, none⟩) (Nat.le_succ _) _).setCell (p := ⟨w.heap.size + 1, 2, none⟩) (Nat.le_succ _) _; hq.alloc hq.size _)
set_option maxRecDepth 100000 in
set_option maxHeartbeats 2000000 in
theorem rstep_down (A : Option Addr) (cp B : Nat) (num L : Int) (cs : List Chg) (v : Nat) (w : World) (h : Chs w B A cs) (hB : B ≤ w.heap.size) (hv : v < cs.length) (_hn : cs.length ≤ 40)
    (d : (0 ≤ (chAt cs v).fr ∧ (chAt cs v).fr ≤ (chAt cs v).to) ∧ (chAt cs v).to ≤ 10000000 ∧ 0 ≤ (chAt cs v).new ∧ (chAt cs v).new ≤ 10000000) :
    Calls Try.prog 75 #[.agg #[.int .i64 num, .int .i64 L, .slice A cs.length cp], .int .i64 ((v : Int) + 1), .int .i64 v] w fun e w' => e = .returned (.agg #[.int .i64 (chAt cs v).fr, .int .i64 (chAt cs v).new, .int .i64 ((chAt cs v).to - (chAt cs v).fr)]) ∧ Below w.heap.size w w' := by
  have hT := RdBox.new (c := cp) (num := num) (L := L) (T := 24) h hB
  have hal : Below w.heap.size w (w.alloc (.cells #[.int .i64 num, .int .i64 L, .slice A cs.length cp] 24)) := (Below.refl _ _).alloc (Nat.le_refl _) _
  generalize hW : w.alloc (.cells #[.int .i64 num, .int .i64 L, .slice A cs.length cp] 24) = w0 at hT hal
  have hz0 : w0.heap.size = w.heap.size + 1 := by rw [← hW]; simp
  have hT1 := hT.below ((Below.refl w0.heap.size w0).alloc (Nat.le_refl _) (.cells #[.int .i64 0, .int .i64 0, .int .i64 0] 98)) hT.sz
  have hal1 := hal.alloc hal.size (.cells #[.int .i64 0, .int .i64 0, .int .i64 0] 98)
  have z0 : (w0.alloc (.cells #[.int .i64 0, .int .i64 0, .int .i64 0] 98)).frozen? ⟨w.heap.size + 1, 0, none⟩ = false := by rw [← hz0]; simp [go_sem]
  have z1 : (w0.alloc (.cells #[.int .i64 0, .int .i64 0, .int .i64 0] 98)).frozen? ⟨w.heap.size + 1, 1, none⟩ = false := by rw [← hz0]; simp [go_sem]
  have z2 : (w0.alloc (.cells #[.int .i64 0, .int .i64 0, .int .i64 0] 98)).frozen? ⟨w.heap.size + 1, 2, none⟩ = false := by rw [← hz0]; simp [go_sem]
  have y0 : (w0.alloc (.cells #[.int .i64 0, .int .i64 0, .int .i64 0] 98)).cell? ⟨w.heap.size + 1, 0, none⟩ = some (.int .i64 0) := by rw [← hz0]; simp [go_sem]
  have y1 : (w0.alloc (.cells #[.int .i64 0, .int .i64 0, .int .i64 0] 98)).cell? ⟨w.heap.size + 1, 1, none⟩ = some (.int .i64 0) := by rw [← hz0]; simp [go_sem]
  have y2 : (w0.alloc (.cells #[.int .i64 0, .int .i64 0, .int .i64 0] 98)).cell? ⟨w.heap.size + 1, 2, none⟩ = some (.int .i64 0) := by rw [← hz0]; simp [go_sem]
  have hy : w.heap.size + 1 < (w0.alloc (.cells #[.int .i64 0, .int .i64 0, .int .i64 0] 98)).heap.size := by simp [hz0]
  have HW := Lib.hid hW
  clear hW h hal hz0
  generalize hW1 : w0.alloc (.cells #[.int .i64 0, .int .i64 0, .int .i64 0] 98) = w1 at *
  have HW1 := Lib.hid hW1
  clear hW1 hT
  obtain ⟨-, q0, q1, q2, hlt0, hz⟩ := id hT1
  obtain ⟨b, off, hA, hbb, u0, u1, u2, u3⟩ := hT1.ch.at_ hv
  subst hA
  obtain ⟨⟨d0, d1⟩, d2, d3, d4⟩ := d
  have hbw : b < w1.heap.size := by omega
  go_enter Try.func75, Try.ntmps75
  go_upto_region 1 with fail
  rw [HW.out, HW1.out]
  clear HW HW1 hT1
  go_wp2
  all_goals (try simp only [Exit.inBlock, Exit.then])
  obtain ⟨x0, x1, x2⟩ := set3c (a := .int .i64 (chAt cs v).fr) (b := .int .i64 (chAt cs v).new) (c := .int .i64 ((chAt cs v).to - (chAt cs v).fr)) (o := (.cells #[.int .i64 (chAt cs v).day, .int .i64 (chAt cs v).fr, .int .i64 (chAt cs v).to, .int .i64 (chAt cs v).new] 77)) hy y0 y1 y2
  refine bodyPost_ret (res_part rfl rfl x0 x1 x2) rfl ⟨rfl, ?_⟩
  exact (let hq := ((hal1.setCell (p := ⟨w.heap.size + 1, 0, none⟩) (Nat.le_succ _) _).setCell (p := ⟨w.heap.size + 1, 1, none⟩) (Nat.le_succ _) _).setCell (p := ⟨w.heap.size + 1, 2, none⟩) (Nat.le_succ _) _; hq.alloc hq.size _)
end Go.Proofs.Ytoknkmlkeacgjaa
