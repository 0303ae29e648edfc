/- Contracts of Valid, Length and At (both texts) and the walk of RoadLengths. -/
import Derived.Test.YtdmmcdbojmalfaaGreatRLn
import Derived.Test.YtdmmcdbojmalfaaGreatSame
import Derived.Deep.RegionHeld3
import Derived.Deep.RegionLawGrows
namespace Go.Proofs.YtdmmcdbojmalfaaGreat
open Go.RowKit
def ValRes (num L : Int) (cs : List Chg) (w : World) (e : Ending) (w' : World) : Prop := (RoadOk num L cs → e = .returned (.bool true)) ∧ (¬ RoadOk num L cs → e = .returned (.bool false)) ∧ Below w.heap.size w w'
open Classical in
noncomputable def lngF (num L : Int) (cs : List Chg) (v : Int) : Int × Int := if RoadOk num L cs then if 0 ≤ v ∧ v ≤ cs.length then (lenAt L cs v.toNat, 0) else (0, 61) else (0, 60)
/-- How many of the first k changes are of the day or of an earlier one. -/
def cntTo (cs : List Chg) (day : Int) : Nat → Nat
  | 0 => 0
  | k + 1 => if (chAt cs k).day ≤ day then cntTo cs day k + 1 else cntTo cs day k
def lastTo (cs : List Chg) (day : Int) : Nat → Nat
  | 0 => 0
  | k + 1 => if (chAt cs k).day ≤ day then k + 1 else lastTo cs day k
theorem cnt_le (cs : List Chg) (day : Int) : ∀ k, cntTo cs day k ≤ k
  | 0 => Nat.le_refl _
  | k + 1 => by have := cnt_le cs day k; simp only [cntTo]; split <;> omega
theorem last_le (cs : List Chg) (day : Int) : ∀ k, lastTo cs day k ≤ k
  | 0 => Nat.le_refl _
  | k + 1 => by have := last_le cs day k; simp only [lastTo]; split <;> omega
theorem cnt_all {L : Int} {cs : List Chg} {day : Int} : ∀ k, (∀ j, j < k → chOk L cs j) → dayAt cs k ≤ day → cntTo cs day k = k
  | 0, _, _ => rfl
  | k + 1, h, hd => by
    have hk := h k (by omega)
    simp only [dayAt] at hd
    have ih := cnt_all (day := day) k (fun j hj => h j (by omega)) (by have := hk.1.1; omega)
    simp only [cntTo, if_pos hd, ih]
theorem cnt_last {L : Int} {cs : List Chg} {day : Int} : ∀ k, (∀ j, j < k → chOk L cs j) → cntTo cs day k = lastTo cs day k
  | 0, _ => rfl
  | k + 1, h => by
    have ih := cnt_last (day := day) k (fun j hj => h j (by omega))
    simp only [cntTo, lastTo]
    split
    · next hd => rw [cnt_all k (fun j hj => h j (by omega)) (by have := (h k (by omega)).1.1; omega)]
    · exact ih
open Classical in
noncomputable def atF (num L : Int) (cs : List Chg) (day : Int) : Int × Int := if RoadOk num L cs then if 0 ≤ day ∧ day ≤ 100000 then (((cntTo cs day cs.length : Nat) : Int), 0) else (0, 2) else (0, 60)
def PairRes (p : Int × Int) (w : World) (e : Ending) (w' : World) : Prop := e = .returned (.tuple #[.int .i64 p.1, .int .i64 p.2]) ∧ Below w.heap.size w w'
theorem one_int (w : World) (a : Int) (T : TypeId) : Ints (w.alloc (.cells #[.int .i64 a] T)) (w.alloc (.cells #[.int .i64 a] T)).heap.size (some ⟨w.heap.size, 0, none⟩) [a] := by
  refine .inr ⟨w.heap.size, 0, rfl, by simp, fun j hj => ?_⟩
  have hj : j < 1 := hj
  obtain rfl : j = 0 := by omega
  simp [go_sem, at0]
theorem ver_iff {cs : List Chg} {f : Int} : (∀ j, j < [f].length → 0 ≤ at0 [f] j ∧ at0 [f] j ≤ cs.length) ↔ (0 ≤ f ∧ f ≤ cs.length) := by
  constructor
  · intro h
    have h0 := h 0 (by simp)
    simpa [at0] using h0
  · rintro h j hj
    have hj : j < 1 := hj
    obtain rfl : j = 0 := by omega
    simpa [at0] using h
theorem lng60 {num L : Int} {cs : List Chg} {v : Int} (h : ¬ RoadOk num L cs) : lngF num L cs v = (0, 60) := if_neg h
theorem lng61 {num L : Int} {cs : List Chg} {v : Int} (h : RoadOk num L cs) (h2 : ¬ (0 ≤ v ∧ v ≤ cs.length)) : lngF num L cs v = (0, 61) := by unfold lngF; rw [if_pos h, if_neg h2]
theorem lng0 {num L : Int} {cs : List Chg} {v : Int} (h : RoadOk num L cs) (h2 : 0 ≤ v ∧ v ≤ cs.length) : lngF num L cs v = (lenAt L cs v.toNat, 0) := by unfold lngF; rw [if_pos h, if_pos h2]
theorem at60 {num L : Int} {cs : List Chg} {v : Int} (h : ¬ RoadOk num L cs) : atF num L cs v = (0, 60) := if_neg h
theorem at2 {num L : Int} {cs : List Chg} {v : Int} (h : RoadOk num L cs) (h2 : ¬ (0 ≤ v ∧ v ≤ 100000)) : atF num L cs v = (0, 2) := by unfold atF; rw [if_pos h, if_neg h2]
theorem atok {num L : Int} {cs : List Chg} {v : Int} (h : RoadOk num L cs) (h2 : 0 ≤ v ∧ v ≤ 100000) : atF num L cs v = (((cntTo cs v cs.length : Nat) : Int), 0) := by unfold atF; rw [if_pos h, if_pos h2]
set_option maxRecDepth 100000 in
set_option maxHeartbeats 4000000 in
theorem rValid (A : Option Addr) (cp B : Nat) (num L : Int) (cs : List Chg) (w : World) (h : Chs w B A cs) (hB : B ≤ w.heap.size) (hn : cs.length ≤ 9223372036854775807) :
    Calls Tryz.prog 4 #[.agg #[.int .i64 num, .int .i64 L, .slice A cs.length cp]] w (ValRes num L cs w) := by
  have hT := RdBox.new (c := cp) (num := num) (L := L) (T := 24) h hB
  have hal : Below w.heap.size w (w.alloc (.cells #[.int .i64 num, .int .i64 L, .slice A cs.length cp] 24)) := (Below.refl _ _).alloc (Nat.le_refl _) _
  generalize hW : w.alloc (.cells #[.int .i64 num, .int .i64 L, .slice A cs.length cp] 24) = w1 at hT hal
  have HW := Lib.hid hW
  clear hW h
  obtain ⟨-, q0, q1, q2, hl0, hz⟩ := id hT
  go_enter Tryz.func4, Tryz.ntmps4
  go_upto_region 1 with fail
  rw [HW.out]
  clear HW
  go_wp2_with fail
  refine (rLengths A cp B num L cs w1 hT.ch (by omega) hn).mono ?_
  rintro e w2 ⟨r1, r2, hb⟩
  have hal2 := hal.trans (hb.mono hal.size)
  by_cases ho : RoadOk num L cs
  · obtain ⟨A', c', rfl, _⟩ := r2 ho
    have HO := Lib.hid ho
    clear r1 r2 ho
    go_wp2
    go_ret
    exact ⟨fun _ => rfl, fun hh => absurd HO.out hh, hal2⟩
  · rw [r1 ho]
    have HO := Lib.hid ho
    clear r1 r2 ho
    go_wp2
    go_ret
    exact ⟨fun hh => absurd hh HO.out, fun _ => rfl, hal2⟩
set_option maxRecDepth 100000 in
set_option maxHeartbeats 4000000 in
theorem rLength (A : Option Addr) (cp B : Nat) (num L : Int) (cs : List Chg) (v : Int) (w : World) (h : Chs w B A cs) (hB : B ≤ w.heap.size) (hn : cs.length ≤ 9223372036854775807) :
    Calls Tryz.prog 6 #[.agg #[.int .i64 num, .int .i64 L, .slice A cs.length cp], .int .i64 v] w (PairRes (lngF num L cs v) w) := by
  have hT := RdBox.new (c := cp) (num := num) (L := L) (T := 24) h hB
  have hal : Below w.heap.size w (w.alloc (.cells #[.int .i64 num, .int .i64 L, .slice A cs.length cp] 24)) := (Below.refl _ _).alloc (Nat.le_refl _) _
  generalize hW : w.alloc (.cells #[.int .i64 num, .int .i64 L, .slice A cs.length cp] 24) = w1 at hT hal
  have HW := Lib.hid hW
  clear hW h
  obtain ⟨-, q0, q1, q2, hl0, hz⟩ := id hT
  go_enter Tryz.func6, Tryz.ntmps6
  go_upto_region 1 with fail
  rw [HW.out]
  clear HW
  go_wp2_with fail
  refine (rVersions A cp B num L cs v v w1 hT.ch (by omega) hn).mono ?_
  rintro e w2 ⟨r1, r2, r3, hb2⟩
  have hal2 := hal.trans (hb2.mono hal.size)
  by_cases ho : RoadOk num L cs
  rotate_left
  · rw [r1 ho]
    have HO := Lib.hid ho
    clear r1 r2 r3 ho
    go_wp2
    go_ret2
    exact ⟨by rw [lng60 HO.out]; rfl, hal2⟩
  have HO := Lib.hid ho
  by_cases hv : 0 ≤ v ∧ v ≤ cs.length
  rotate_left
  · rw [r2 ho (fun hh => hv hh.1)]
    have HV := Lib.hid hv
    clear r1 r2 r3 ho hv
    go_wp2
    go_ret2
    exact ⟨by rw [lng61 HO.out HV.out]; rfl, hal2⟩
  obtain ⟨A', c', rfl, hI⟩ := r3 ho ⟨hv, hv⟩
  have HV := Lib.hid hv
  obtain ⟨v0, v1⟩ := id hv
  obtain ⟨fn, rfl⟩ := Int.eq_ofNat_of_zero_le v0
  have h40 := ho.2.2.1
  clear r1 r2 r3 ho hv
  obtain ⟨b, off, hA, hbb, hc⟩ := hI.at_ (k := fn) (by rw [lens_length]; omega)
  have u0 := hc fn (by rw [lens_length]; omega)
  rw [lens_at L cs (by omega)] at u0
  subst hA
  clear hc
  go_wp2
  go_ret2
  exact ⟨by rw [lng0 HO.out HV.out]; rfl, hal2⟩
theorem heldR {w2 w' : World} {a : Nat} {x0 x1 x2 : Value} (ha : a < w2.heap.size) (q0 : w2.cell? ⟨a, 0, none⟩ = some x0) (q1 : w2.cell? ⟨a, 1, none⟩ = some x1) (q2 : w2.cell? ⟨a, 2, none⟩ = some x2) (h : Below w2.heap.size w2 w') :
    Below w2.heap.size w2 w' ∧ w'.cell? ⟨a, 0, none⟩ = some x0 ∧ w'.cell? ⟨a, 1, none⟩ = some x1 ∧ w'.cell? ⟨a, 2, none⟩ = some x2 :=
  ⟨h, (h.cell ha).trans q0, (h.cell ha).trans q1, (h.cell ha).trans q2⟩
end Go.Proofs.YtdmmcdbojmalfaaGreat
