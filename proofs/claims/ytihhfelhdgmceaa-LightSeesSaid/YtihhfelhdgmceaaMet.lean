/- Contract of metres: which metres lie within spans. -/
import Derived.Test.YtihhfelhdgmceaaSeep
import Derived.Deep.MidRow
import Derived.Deep.DeepCutAuto
import Derived.Laws.ResultCell
namespace Go.Proofs.Ytihhfelhdgmceaa
open Go.RowKit
theorem info95 : (Try.prog.info? 95).map (·.size) = some 402 := by kernel_rfl
theorem zero95' : Try.zeroCells95 = Array.replicate 402 (.bool false) := by kernel_rfl
theorem zero95 : ∀ j, j < 402 → Try.zeroCells95[j]? = some (.bool false) := by
  intro j hj
  rw [zero95', Array.getElem?_replicate, if_pos hj]
/-- Cells 0 to 401 of block b: true exactly where P says so; none is frozen. -/
def Marks (w : World) (b : Nat) (P : Nat → Prop) : Prop := ∀ j, j < 402 → ∃ v : Bool, w.cell? ⟨b, j, none⟩ = some (.bool v) ∧ (v = true ↔ P j) ∧ w.frozen? ⟨b, j, none⟩ = false
theorem Marks.iff {w : World} {b : Nat} {P Q : Nat → Prop} (h : Marks w b P) (hq : ∀ j, j < 402 → (P j ↔ Q j)) : Marks w b Q := fun j hj => by
  obtain ⟨v, h1, h2, h3⟩ := h j hj
  exact ⟨v, h1, h2.trans (hq j hj), h3⟩
theorem Marks.below {w w' : World} {b C : Nat} {P : Nat → Prop} (h : Marks w b P) (hb : Below C w w') (hC : b < C) : Marks w' b P := fun j hj => by
  obtain ⟨v, h1, h2, h3⟩ := h j hj
  exact ⟨v, (hb.cell hC).trans h1, h2, (hb.frozen hC).trans h3⟩
theorem Marks.drew {w w' : World} {b : Nat} {P : Nat → Prop} (h : Marks w b P) (hd : Drew w w') : Marks w' b P := fun j hj => by
  obtain ⟨v, h1, h2, h3⟩ := h j hj
  exact ⟨v, (hd.cell _).trans h1, h2, (hd.frozen _).trans h3⟩
theorem Marks.new (w : World) : Marks (w.alloc (.cells Try.zeroCells95 95)) w.heap.size fun _ => False := fun j hj => ⟨false, by simp [go_sem, zero95 j hj], by simp, by simp [go_sem]⟩
theorem Marks.set {w : World} {b d : Nat} {P : Nat → Prop} (h : Marks w b P) (hd : d < 402) : Marks (w.setCell ⟨b, d, none⟩ (.bool true)) b fun j => P j ∨ j = d := fun j hj => by
  obtain ⟨v, h1, h2, h3⟩ := h j hj
  by_cases e : j = d
  · subst e
    exact ⟨true, World.cell?_setCell_same _ _ _ h1, by simp, by simpa [go_sem] using h3⟩
  · exact ⟨v, (World.cell?_setCell_other _ _ _ _ (by intro e'; injection e' with _ e'; exact e e'.symm)).trans h1, by rw [h2]; simp [e], by simpa [go_sem] using h3⟩
/-- The cells of an array of marks. -/
def MarkOf (cs : List Value) (P : Nat → Prop) : Prop := cs.length = 402 ∧ ∀ j, j < 402 → ∃ v : Bool, cs[j]? = some (.bool v) ∧ (v = true ↔ P j)
theorem Marks.list {w : World} {b : Nat} {P : Nat → Prop} (h : Marks w b P) : ∃ cs : List Value, MarkOf cs P ∧ w.rangeAt b 0 cs := by
  refine ⟨(List.range 402).map fun j => (w.cell? ⟨b, j, none⟩).getD undef, ⟨by simp, fun j hj => ?_⟩, fun j v hv => ?_⟩
  · obtain ⟨v, h1, h2, _⟩ := h j hj
    exact ⟨v, by simp [hj, h1], h2⟩
  · have hj : j < 402 := by have := (List.getElem?_eq_some_iff.1 hv).1; simpa using this
    obtain ⟨u, h1, _⟩ := h j hj
    simp [hj, h1] at hv
    rw [Nat.zero_add, h1, hv]
theorem Marks.there {w : World} {b : Nat} {P : Nat → Prop} (h : Marks w b P) : w.there b 0 402 := fun j hj => by
  obtain ⟨u, h1, _, h3⟩ := h j hj
  rw [Nat.zero_add]
  exact ⟨by rw [h1]; rfl, h3⟩
theorem MarkOf.one {cs : List Value} {P : Nat → Prop} (h : MarkOf cs P) : ∀ v ∈ cs, v.oneCell' = true := fun v hv => by
  obtain ⟨j, hj⟩ := List.getElem?_of_mem hv
  have hlt : j < cs.length := (List.getElem?_eq_some_iff.1 hj).1
  obtain ⟨u, h1, _⟩ := h.2 j (by rw [← h.1]; exact hlt)
  rw [h1] at hj
  cases hj
  rfl
/-- A valid list of spans. -/
def spansOk (xs : List (Int × Int)) : Prop := ∀ k, k < xs.length → 1 ≤ (atp xs k).1 ∧ (atp xs k).1 < (atp xs k).2 ∧ (atp xs k).2 ≤ 401
theorem below_setCells {B b : Nat} {a : World} (hb : B ≤ b) : ∀ (vs : List Value) (o : Nat) (w : World), Below B a w → Below B a (w.setCells b o vs)
  | [], _, _, h => h
  | v :: vs, o, w, h => by
    rw [World.setCells]
    exact below_setCells hb vs _ _ (h.setCell hb _)
theorem res_marks {fn : Func} {tmps : Array Value} {w : World} {n : Nat} {cs : List Value} {P : Nat → Prop} (hr : fn.results = #[.cell 2 95, .tmp 3]) (hp : tmps.getD 2 undef = .pointer (some ⟨n, 0, none⟩)) (hc : w.rangeAt n 0 cs) (hm : MarkOf cs P) :
    (results fn tmps).run Try.prog w = .ok (.tuple #[.agg cs.toArray, tmps.getD 3 undef]) w := by
  have hl := run_loadVar_mid (P := Try.prog) w n 0 95 cs _ hc Try.underlying95 rfl (by rw [info95, hm.1])
  rw [results_cell_tmp hr, hp]
  simp [asAddr, Sem.run_pure, Result.andThen, hl]
set_option maxRecDepth 100000 in
set_option maxHeartbeats 4000000 in
theorem lmetres (A : Option Addr) (c B : Nat) (xs : List (Int × Int)) (w : World) (h : Pairs w B A xs) (hB : B ≤ w.heap.size) (hn : xs.length ≤ 400) (hv : spansOk xs) :
    Calls Try.prog 53 #[.slice A xs.length c] w fun e w' => ∃ cs : List Value, e = .returned (.tuple #[.agg cs.toArray, .bool true]) ∧ MarkOf cs (inS xs) ∧ Below w.heap.size w w' := by
  have hM0 := Marks.new w
  have hal : Below w.heap.size w (w.alloc (.cells Try.zeroCells95 95)) := (Below.refl _ _).alloc (Nat.le_refl _) _
  have hz : (w.alloc (.cells Try.zeroCells95 95)).heap.size = w.heap.size + 1 := by simp
  generalize hW : w.alloc (.cells Try.zeroCells95 95) = w0 at hM0 hal hz
  have HW := Lib.hid hW
  have hM1 := Marks.new w0
  have hb1 : Below w0.heap.size w0 (w0.alloc (.cells Try.zeroCells95 95)) := (Below.refl _ _).alloc (Nat.le_refl _) _
  have hz1 : (w0.alloc (.cells Try.zeroCells95 95)).heap.size = w.heap.size + 2 := by simp [hz]
  generalize hW1 : w0.alloc (.cells Try.zeroCells95 95) = w1 at hM1 hb1 hz1
  have HW1 := Lib.hid hW1
  rw [hz] at hM1
  replace hM0 := hM0.below hb1 (by omega)
  replace hal := hal.trans (hb1.mono (by omega))
  have hP : Pairs w1 B A xs := h.below (hal.mono hB)
  clear h hW hb1 hW1
  have HV := Lib.hid hv
  clear hv
  go_enter Try.func53, Try.ntmps53
  go_upto_region 1 with fail
  rw [HW.out]
  go_upto_region 3 with fail
  rw [HW1.out]
  clear HW HW1
  go_loopw [5, 6] (fun i _ wr => ∃ k : Nat, k ≤ xs.length ∧ i = .int .i64 k ∧ Marks wr (w.heap.size + 1) (fun d => ∃ j, j < k ∧ (atp xs j).1 ≤ d ∧ (d : Int) < (atp xs j).2) ∧ Below (w.heap.size + 1) w1 wr) (fun i _ _ => xs.length - (intOf i).toNat)
  case atStart => exact ⟨0, Nat.zero_le _, rfl, hM1.iff (fun d _ => ⟨fun h => h.elim, fun ⟨j, hj, _⟩ => absurd hj (by omega)⟩), Below.refl _ _⟩
  case round =>
    obtain ⟨k, hk, rfl, hM, hbw⟩ := hrel
    obtain ⟨wA, rfl⟩ : ∃ wA : World, wA = wr := ⟨_, rfl⟩
    by_cases hlt : k < xs.length
    · obtain ⟨b, off, hA, hbb, hc⟩ := (hP.below (hbw.mono (by omega))).at_ hlt
      subst hA
      obtain ⟨u0, u1⟩ := hc k hlt
      obtain ⟨v0, v1, v2⟩ := HV.out k hlt
      have hcc := Lib.hid hc
      clear hc
      go_upto_region 5 with fail
      go_quiet (fail)
      have hMA := hM.below (C := wA.heap.size) (w' := wA.drewN nq) (below_drewN (Below.refl _ _) nq) (by have := hbw.size; omega)
      have hbA : Below (w.heap.size + 1) w1 (wA.drewN nq) := below_drewN hbw nq
      have u0' : (wA.drewN nq).cell? ⟨b, off + k * 2, none⟩ = some (.int .i64 (atp xs k).1) := u0
      have u1' : (wA.drewN nq).cell? ⟨b, off + k * 2 + 1, none⟩ = some (.int .i64 (atp xs k).2) := u1
      generalize hwn : wA.drewN nq = wn at *
      clear hM hbw u0 u1 hcc hwn
      obtain ⟨p, hp⟩ := Int.eq_ofNat_of_zero_le (show 0 ≤ (atp xs k).1 by omega)
      obtain ⟨q, hq⟩ := Int.eq_ofNat_of_zero_le (show 0 ≤ (atp xs k).2 by omega)
      rw [hp] at u0'
      rw [hq] at u1'
      go_upto_region 8 with fail
      go_loopw [6] (fun i wr => ∃ d : Nat, p ≤ d ∧ d ≤ q ∧ i = .int .i64 d ∧ Marks wr (w.heap.size + 1) (fun e => (∃ j, j < k ∧ (atp xs j).1 ≤ e ∧ (e : Int) < (atp xs j).2) ∨ (p ≤ e ∧ e < d)) ∧ Below (w.heap.size + 1) w1 wr) (fun i _ => q - (intOf i).toNat)
      case atStart => exact ⟨p, Nat.le_refl _, by omega, rfl, hMA.iff (fun e _ => ⟨.inl, fun h => h.elim id (fun h => absurd h.2 (by omega))⟩), hbA⟩
      case round =>
        obtain ⟨d, d0, d1, rfl, hM, hbw⟩ := hrel
        obtain ⟨b', off', hA', _, hc'⟩ := (hP.below (hbw.mono (by omega))).at_ hlt
        cases hA'
        have x1 := (hc' k hlt).2
        rw [hq] at x1
        clear hc' u0' u1'
        by_cases hdq : d < q
        · obtain ⟨vv, e1, _, hfz⟩ := hM d (by omega)
          have hst := hM.set (d := d) (by omega)
          have hzw := hbw.size
          go_wp2
          exact ⟨⟨d + 1, by omega, by omega, by go_num, hst.iff (fun e _ => by
            constructor
            · rintro ((h | h) | h)
              · exact .inl h
              · exact .inr ⟨h.1, by omega⟩
              · exact .inr ⟨by omega, by omega⟩
            · rintro (h | h)
              · exact .inl (.inl h)
              · by_cases e2 : e = d
                · exact .inr e2
                · exact .inl (.inr ⟨h.1, by omega⟩)), hbw.setCell (Nat.le_refl _) _⟩, by simp [intOf]; omega⟩
        · obtain rfl : d = q := by omega
          have hM2 := hM.iff (Q := fun e => ∃ j, j < k + 1 ∧ (atp xs j).1 ≤ e ∧ (e : Int) < (atp xs j).2) (fun e _ => by
            constructor
            · rintro (⟨j, h1, h2, h3⟩ | h)
              · exact ⟨j, by omega, h2, h3⟩
              · exact ⟨k, by omega, by omega, by omega⟩
            · rintro ⟨j, h1, h2, h3⟩
              by_cases e2 : j = k
              · subst e2
                exact .inr ⟨by omega, by omega⟩
              · exact .inl ⟨j, by omega, h2, h3⟩)
          go_wp2
          exact ⟨⟨k + 1, by omega, by go_num, hM2, hbw⟩, by simp [intOf]; omega⟩
    · obtain rfl : k = xs.length := by omega
      obtain ⟨cs, hcs, hrg⟩ := hM.list
      have hM0' := hM0.below hbw (by omega)
      have hth := hM0'.there
      have hsz : cs.toArray.size = 402 := by simp [hcs.1]
      go_upto_region 11 with fail
      go_wp2_with (first
        | (refine wpList_load_mid ?_ 95 (.tmp 4) ?_ (w.heap.size + 1) 0 ?_ cs (.array 402 4) hrg Try.underlying95 rfl ?_ ?_; (solve | rfl); (solve | rfl); (solve | rfl); (solve | (rw [info95, hcs.1])))
        | (refine wpList_store_mid ?_ 95 (.tmp 2) (.tmp 57) ?_ w.heap.size 0 cs.toArray ?_ ?_ ?_ ?_ ?_ ?_; (solve | rfl); (solve | rfl); (solve | rfl); (solve | rfl); (solve | (rw [hsz]; exact hth)); (solve | (rw [info95, hsz])); (solve | exact all_oneCell_toArray hcs.one))
        | fail)
      (try simp only [Exit.inBlock, Exit.then])
      refine bodyPost_ret (res_marks rfl rfl (World.rangeAt_setCells_same wA w.heap.size 0 cs (by rw [hcs.1]; exact hth)) hcs) rfl ?_
      exact ⟨cs, rfl, hcs, hal.trans (below_setCells (Nat.le_refl _) _ _ _ (hbw.mono (by omega)))⟩
end Go.Proofs.Ytihhfelhdgmceaa
