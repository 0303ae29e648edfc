/- Contracts of Valid, Length and At (both texts) and the walk of RoadLengths. -/
import Derived.Test.YtoknkmlkeacgjaaWCar
import Derived.Deep.RegionHeld3
import Derived.Deep.RegionLawGrows
namespace Go.Proofs.Ytoknkmlkeacgjaa
open Go.RowKit
def ValRes (num L : Int) (cs : List Chg) (w : World) (e : Ending) (w' : World) : Prop := (RoadOk num L cs → e = .returned (.bool true)) ∧ (¬ RoadOk num L cs → e = .returned (.bool false)) ∧ Below w.heap.size w w'
open Classical in
noncomputable def lngF (num L : Int) (cs : List Chg) (v : Int) : Int × Int := if RoadOk num L cs then if 0 ≤ v ∧ v ≤ cs.length then (lenAt L cs v.toNat, 0) else (0, 61) else (0, 60)
/-- How many of the first k changes are of the day or of an earlier one. -/
def cntTo (cs : List Chg) (day : Int) : Nat → Nat
  | 0 => 0
  | k + 1 => if (chAt cs k).day ≤ day then cntTo cs day k + 1 else cntTo cs day k
def lastTo (cs : List Chg) (day : Int) : Nat → Nat
  | 0 => 0
  | k + 1 => if (chAt cs k).day ≤ day then k + 1 else lastTo cs day k
theorem cnt_le (cs : List Chg) (day : Int) : ∀ k, cntTo cs day k ≤ k
  | 0 => Nat.le_refl _
  | k + 1 => by have := cnt_le cs day k; simp only [cntTo]; split <;> omega
theorem last_le (cs : List Chg) (day : Int) : ∀ k, lastTo cs day k ≤ k
  | 0 => Nat.le_refl _
  | k + 1 => by have := last_le cs day k; simp only [lastTo]; split <;> omega
theorem cnt_all {L : Int} {cs : List Chg} {day : Int} : ∀ k, (∀ j, j < k → chOk L cs j) → dayAt cs k ≤ day → cntTo cs day k = k
  | 0, _, _ => rfl
  | k + 1, h, hd => by
    have hk := h k (by omega)
    simp only [dayAt] at hd
    have ih := cnt_all (day := day) k (fun j hj => h j (by omega)) (by have := hk.1.1; omega)
    simp only [cntTo, if_pos hd, ih]
theorem cnt_last {L : Int} {cs : List Chg} {day : Int} : ∀ k, (∀ j, j < k → chOk L cs j) → cntTo cs day k = lastTo cs day k
  | 0, _ => rfl
  | k + 1, h => by
    have ih := cnt_last (day := day) k (fun j hj => h j (by omega))
    simp only [cntTo, lastTo]
    split
    · next hd => rw [cnt_all k (fun j hj => h j (by omega)) (by have := (h k (by omega)).1.1; omega)]
    · exact ih
open Classical in
noncomputable def atF (num L : Int) (cs : List Chg) (day : Int) : Int × Int := if RoadOk num L cs then if 0 ≤ day ∧ day ≤ 100000 then (((cntTo cs day cs.length : Nat) : Int), 0) else (0, 2) else (0, 60)
def PairRes (p : Int × Int) (w : World) (e : Ending) (w' : World) : Prop := e = .returned (.tuple #[.int .i64 p.1, .int .i64 p.2]) ∧ Below w.heap.size w w'
theorem one_int (w : World) (a : Int) (T : TypeId) : Ints (w.alloc (.cells #[.int .i64 a] T)) (w.alloc (.cells #[.int .i64 a] T)).heap.size (some ⟨w.heap.size, 0, none⟩) [a] := by
  refine .inr ⟨w.heap.size, 0, rfl, by simp, fun j hj => ?_⟩
  have hj : j < 1 := hj
  obtain rfl : j = 0 := by omega
  simp [go_sem, at0]
theorem ver_iff {cs : List Chg} {f : Int} : (∀ j, j < [f].length → 0 ≤ at0 [f] j ∧ at0 [f] j ≤ cs.length) ↔ (0 ≤ f ∧ f ≤ cs.length) := by
  constructor
  · intro h
    have h0 := h 0 (by simp)
    simpa [at0] using h0
  · rintro h j hj
    have hj : j < 1 := hj
    obtain rfl : j = 0 := by omega
    simpa [at0] using h
theorem lng60 {num L : Int} {cs : List Chg} {v : Int} (h : ¬ RoadOk num L cs) : lngF num L cs v = (0, 60) := if_neg h
theorem lng61 {num L : Int} {cs : List Chg} {v : Int} (h : RoadOk num L cs) (h2 : ¬ (0 ≤ v ∧ v ≤ cs.length)) : lngF num L cs v = (0, 61) := by unfold lngF; rw [if_pos h, if_neg h2]
theorem lng0 {num L : Int} {cs : List Chg} {v : Int} (h : RoadOk num L cs) (h2 : 0 ≤ v ∧ v ≤ cs.length) : lngF num L cs v = (lenAt L cs v.toNat, 0) := by unfold lngF; rw [if_pos h, if_pos h2]
theorem at60 {num L : Int} {cs : List Chg} {v : Int} (h : ¬ RoadOk num L cs) : atF num L cs v = (0, 60) := if_neg h
theorem at2 {num L : Int} {cs : List Chg} {v : Int} (h : RoadOk num L cs) (h2 : ¬ (0 ≤ v ∧ v ≤ 100000)) : atF num L cs v = (0, 2) := by unfold atF; rw [if_pos h, if_neg h2]
theorem atok {num L : Int} {cs : List Chg} {v : Int} (h : RoadOk num L cs) (h2 : 0 ≤ v ∧ v ≤ 100000) : atF num L cs v = (((cntTo cs v cs.length : Nat) : Int), 0) := by unfold atF; rw [if_pos h, if_pos h2]
set_option maxRecDepth 100000 in
set_option maxHeartbeats 4000000 in
theorem lValid (A : Option Addr) (cp B : Nat) (num L : Int) (cs : List Chg) (w : World) (h : Chs w B A cs) (hB : B ≤ w.heap.size) (hn : cs.length ≤ 9223372036854775807) :
    Calls Try.prog 40 #[.agg #[.int .i64 num, .int .i64 L, .slice A cs.length cp]] w (ValRes num L cs w) := by
  have hT := RdBox.new (c := cp) (num := num) (L := L) (T := 24) h hB
  have hal : Below w.heap.size w (w.alloc (.cells #[.int .i64 num, .int .i64 L, .slice A cs.length cp] 24)) := (Below.refl _ _).alloc (Nat.le_refl _) _
  generalize hW : w.alloc (.cells #[.int .i64 num, .int .i64 L, .slice A cs.length cp] 24) = w1 at hT hal
  have HW := Lib.hid hW
  clear hW h
  obtain ⟨-, q0, q1, q2, hl0, hz⟩ := id hT
  go_enter Try.func40, Try.ntmps40
  go_upto_region 1 with fail
  rw [HW.out]
  clear HW
  go_wp2_with fail
  refine (lLengths A cp B num L cs w1 hT.ch (by omega) hn).mono ?_
  rintro e w2 ⟨r1, r2, hb⟩
  have hal2 := hal.trans (hb.mono hal.size)
  by_cases ho : RoadOk num L cs
  · obtain ⟨A', c', rfl, _⟩ := r2 ho
    have HO := Lib.hid ho
    clear r1 r2 ho
    go_wp2
    go_ret
    exact ⟨fun _ => rfl, fun hh => absurd HO.out hh, hal2⟩
  · rw [r1 ho]
    have HO := Lib.hid ho
    clear r1 r2 ho
    go_wp2
    go_ret
    exact ⟨fun hh => absurd hh HO.out, fun _ => rfl, hal2⟩
set_option maxRecDepth 100000 in
set_option maxHeartbeats 4000000 in
theorem rValid (A : Option Addr) (cp B : Nat) (num L : Int) (cs : List Chg) (w : World) (h : Chs w B A cs) (hB : B ≤ w.heap.size) (hn : cs.length ≤ 9223372036854775807) :
    Calls Try.prog 41 #[.agg #[.int .i64 num, .int .i64 L, .slice A cs.length cp]] w (ValRes num L cs w) := by
  have hT := RdBox.new (c := cp) (num := num) (L := L) (T := 24) h hB
  have hal : Below w.heap.size w (w.alloc (.cells #[.int .i64 num, .int .i64 L, .slice A cs.length cp] 24)) := (Below.refl _ _).alloc (Nat.le_refl _) _
  generalize hW : w.alloc (.cells #[.int .i64 num, .int .i64 L, .slice A cs.length cp] 24) = w1 at hT hal
  have HW := Lib.hid hW
  clear hW h
  obtain ⟨-, q0, q1, q2, hl0, hz⟩ := id hT
  go_enter Try.func41, Try.ntmps41
  go_upto_region 1 with fail
  rw [HW.out]
  clear HW
  go_wp2_with fail
  refine (rLengths A cp B num L cs w1 hT.ch (by omega) hn).mono ?_
  rintro e w2 ⟨r1, r2, hb⟩
  have hal2 := hal.trans (hb.mono hal.size)
  by_cases ho : RoadOk num L cs
  · obtain ⟨A', c', rfl, _⟩ := r2 ho
    have HO := Lib.hid ho
    clear r1 r2 ho
    go_wp2
    go_ret
    exact ⟨fun _ => rfl, fun hh => absurd HO.out hh, hal2⟩
  · rw [r1 ho]
    have HO := Lib.hid ho
    clear r1 r2 ho
    go_wp2
    go_ret
    exact ⟨fun hh => absurd hh HO.out, fun _ => rfl, hal2⟩
set_option maxRecDepth 100000 in
set_option maxHeartbeats 4000000 in
theorem lLength (A : Option Addr) (cp B : Nat) (num L : Int) (cs : List Chg) (v : Int) (w : World) (h : Chs w B A cs) (hB : B ≤ w.heap.size) (hn : cs.length ≤ 9223372036854775807) :
    Calls Try.prog 36 #[.agg #[.int .i64 num, .int .i64 L, .slice A cs.length cp], .int .i64 v] w (PairRes (lngF num L cs v) w) := by
  have hT := RdBox.new (c := cp) (num := num) (L := L) (T := 24) h hB
  have hal : Below w.heap.size w (w.alloc (.cells #[.int .i64 num, .int .i64 L, .slice A cs.length cp] 24)) := (Below.refl _ _).alloc (Nat.le_refl _) _
  generalize hW : w.alloc (.cells #[.int .i64 num, .int .i64 L, .slice A cs.length cp] 24) = w1 at hT hal
  have HW := Lib.hid hW
  clear hW h
  obtain ⟨-, q0, q1, q2, hl0, hz⟩ := id hT
  go_enter Try.func36, Try.ntmps36
  go_upto_region 1 with fail
  rw [HW.out]
  clear HW
  go_wp2_with fail
  have hb := (Below.refl w1.heap.size w1).alloc (Nat.le_refl _) (.cells #[.int .i64 v] 3)
  have hV := one_int w1 v 3
  have hT' := hT.below hb hz
  have hal' := hal.trans (hb.mono hal.size)
  generalize w1.alloc (.cells #[.int .i64 v] 3) = w1' at *
  refine (lchecked A (some ⟨w1.heap.size, 0, none⟩) cp 1 B num L cs [v] w1' hT'.ch (by have := hT'.sz; omega) hn hV (by simp)).mono ?_
  rintro e w2 ⟨r1, r2, r3, hb2⟩
  have hal2 := hal'.trans (hb2.mono hal'.size)
  by_cases ho : RoadOk num L cs
  rotate_left
  · rw [r1 ho]
    have HO := Lib.hid ho
    clear r1 r2 r3 ho
    go_wp2
    go_ret2
    exact ⟨by rw [lng60 HO.out]; rfl, hal2⟩
  have HO := Lib.hid ho
  by_cases hv : 0 ≤ v ∧ v ≤ cs.length
  rotate_left
  · rw [r2 ho (fun hh => hv (ver_iff.1 hh))]
    have HV := Lib.hid hv
    clear r1 r2 r3 ho hv
    go_wp2
    go_ret2
    exact ⟨by rw [lng61 HO.out HV.out]; rfl, hal2⟩
  obtain ⟨A', c', rfl, hI⟩ := r3 ho (ver_iff.2 hv)
  have HV := Lib.hid hv
  obtain ⟨v0, v1⟩ := id hv
  obtain ⟨fn, rfl⟩ := Int.eq_ofNat_of_zero_le v0
  have h40 := ho.2.2.1
  clear r1 r2 r3 ho hv
  obtain ⟨b, off, hA, hbb, hc⟩ := hI.at_ (k := fn) (by rw [lens_length]; omega)
  have u0 := hc fn (by rw [lens_length]; omega)
  rw [lens_at L cs (by omega)] at u0
  subst hA
  clear hc
  go_wp2
  go_ret2
  exact ⟨by rw [lng0 HO.out HV.out]; rfl, hal2⟩
set_option maxRecDepth 100000 in
set_option maxHeartbeats 4000000 in
theorem rLength (A : Option Addr) (cp B : Nat) (num L : Int) (cs : List Chg) (v : Int) (w : World) (h : Chs w B A cs) (hB : B ≤ w.heap.size) (hn : cs.length ≤ 9223372036854775807) :
    Calls Try.prog 37 #[.agg #[.int .i64 num, .int .i64 L, .slice A cs.length cp], .int .i64 v] w (PairRes (lngF num L cs v) w) := by
  have hT := RdBox.new (c := cp) (num := num) (L := L) (T := 24) h hB
  have hal : Below w.heap.size w (w.alloc (.cells #[.int .i64 num, .int .i64 L, .slice A cs.length cp] 24)) := (Below.refl _ _).alloc (Nat.le_refl _) _
  generalize hW : w.alloc (.cells #[.int .i64 num, .int .i64 L, .slice A cs.length cp] 24) = w1 at hT hal
  have HW := Lib.hid hW
  clear hW h
  obtain ⟨-, q0, q1, q2, hl0, hz⟩ := id hT
  go_enter Try.func37, Try.ntmps37
  go_upto_region 1 with fail
  rw [HW.out]
  clear HW
  go_wp2_with fail
  refine (rVersions A cp B num L cs v v w1 hT.ch (by omega) hn).mono ?_
  rintro e w2 ⟨r1, r2, r3, hb2⟩
  have hal2 := hal.trans (hb2.mono hal.size)
  by_cases ho : RoadOk num L cs
  rotate_left
  · rw [r1 ho]
    have HO := Lib.hid ho
    clear r1 r2 r3 ho
    go_wp2
    go_ret2
    exact ⟨by rw [lng60 HO.out]; rfl, hal2⟩
  have HO := Lib.hid ho
  by_cases hv : 0 ≤ v ∧ v ≤ cs.length
  rotate_left
  · rw [r2 ho (fun hh => hv hh.1)]
    have HV := Lib.hid hv
    clear r1 r2 r3 ho hv
    go_wp2
    go_ret2
    exact ⟨by rw [lng61 HO.out HV.out]; rfl, hal2⟩
  obtain ⟨A', c', rfl, hI⟩ := r3 ho ⟨hv, hv⟩
  have HV := Lib.hid hv
  obtain ⟨v0, v1⟩ := id hv
  obtain ⟨fn, rfl⟩ := Int.eq_ofNat_of_zero_le v0
  have h40 := ho.2.2.1
  clear r1 r2 r3 ho hv
  obtain ⟨b, off, hA, hbb, hc⟩ := hI.at_ (k := fn) (by rw [lens_length]; omega)
  have u0 := hc fn (by rw [lens_length]; omega)
  rw [lens_at L cs (by omega)] at u0
  subst hA
  clear hc
  go_wp2
  go_ret2
  exact ⟨by rw [lng0 HO.out HV.out]; rfl, hal2⟩
set_option maxRecDepth 100000 in
set_option maxHeartbeats 4000000 in
theorem lAt (A : Option Addr) (cp B : Nat) (num L : Int) (cs : List Chg) (day : Int) (w : World) (h : Chs w B A cs) (hB : B ≤ w.heap.size) (hn : cs.length ≤ 9223372036854775807) :
    Calls Try.prog 38 #[.agg #[.int .i64 num, .int .i64 L, .slice A cs.length cp], .int .i64 day] w (PairRes (atF num L cs day) w) := by
  have hT := RdBox.new (c := cp) (num := num) (L := L) (T := 24) h hB
  have hal : Below w.heap.size w (w.alloc (.cells #[.int .i64 num, .int .i64 L, .slice A cs.length cp] 24)) := (Below.refl _ _).alloc (Nat.le_refl _) _
  generalize hW : w.alloc (.cells #[.int .i64 num, .int .i64 L, .slice A cs.length cp] 24) = w1 at hT hal
  have HW := Lib.hid hW
  clear hW h
  obtain ⟨-, q0, q1, q2, hl0, hz⟩ := id hT
  go_enter Try.func38, Try.ntmps38
  go_upto_region 1 with fail
  rw [HW.out]
  clear HW
  go_wp2_with fail
  refine (lchecked A none cp 0 B num L cs [] w1 hT.ch (by omega) hn (.inl rfl) (by simp)).mono ?_
  rintro e w2 ⟨r1, r2, r3, hb2⟩
  have hal2 := hal.trans (hb2.mono hal.size)
  have hT2 := hT.below hb2 hz
  have hz2 := hT2.sz
  clear q0 q1 q2 hz hT hal hb2
  obtain ⟨-, q0, q1, q2, -, hz⟩ := id hT2
  by_cases ho : RoadOk num L cs
  rotate_left
  · rw [r1 ho]
    have HO := Lib.hid ho
    clear r1 r2 r3 ho
    go_wp2
    go_ret2
    exact ⟨by rw [at60 HO.out]; rfl, hal2⟩
  have HO := Lib.hid ho
  obtain ⟨A', c', rfl, hI⟩ := r3 ho (fun j hj => by simp at hj)
  have h40 := ho.2.2.1
  clear r1 r2 r3 ho
  by_cases hin : 0 ≤ day ∧ day ≤ 100000
  rotate_left
  · have j1 := inB_f hin
    go_wp2_with (go_at_call 51; refine (lwithin _ _ _ _).mono ?_; rintro e w' ⟨rfl, rfl⟩)
    go_ret2
    exact ⟨by rw [at2 HO.out hin]; rfl, hal2⟩
  have j1 := inB_t hin.1 hin.2
  have HIN := Lib.hid hin
  go_wp2_with (go_at_call 51; refine (lwithin _ _ _ _).mono ?_; rintro e w' ⟨rfl, rfl⟩)
  clear hin j1
  go_loopw [8, 25] (fun nv i wr => ∃ k : Nat, k ≤ cs.length ∧ i = .int .i64 k ∧ nv = .int .i64 (cntTo cs day k : Nat) ∧ Below w2.heap.size w2 wr) (fun _ i _ => cs.length - (intOf i).toNat)
  case atStart => exact ⟨0, Nat.zero_le _, rfl, rfl, Below.refl _ _⟩
  case round =>
    obtain ⟨k, hk, rfl, rfl, hb⟩ := hrel
    have hT' := hT2.below hb hz2
    clear q0 q1 q2 hz
    obtain ⟨-, q0, q1, q2, -, hz⟩ := id hT'
    have hle := cnt_le cs day k
    have hbs := hb.size
    by_cases hlt : k < cs.length
    · obtain ⟨b, off, hA, hbb, u0, u1, u2, u3⟩ := hT'.ch.at_ hlt
      subst hA
      have hbw : b < wr.heap.size := by omega
      have hba := hb.alloc hbs (.cells #[.int .i64 (chAt cs k).day, .int .i64 (chAt cs k).fr, .int .i64 (chAt cs k).to, .int .i64 (chAt cs k).new] 77)
      by_cases hd : (chAt cs k).day ≤ day
      · have HC : Hid (cntTo cs day (k + 1) = cntTo cs day k + 1) := if_pos hd
        go_wp2_with fail
        exact ⟨⟨k + 1, by omega, by go_num, by rw [HC.out]; go_num, hba⟩, by simp [intOf]; omega⟩
      · have HC : Hid (cntTo cs day (k + 1) = cntTo cs day k) := if_neg hd
        go_wp2_with fail
        exact ⟨⟨k + 1, by omega, by go_num, by rw [HC.out], hba⟩, by simp [intOf]; omega⟩
    · obtain rfl : k = cs.length := by omega
      go_wp2
      go_ret2
      exact ⟨by rw [atok HO.out HIN.out]; rfl, hal2.trans (hb.mono hal2.size)⟩
set_option maxRecDepth 100000 in
set_option maxHeartbeats 4000000 in
theorem rAt (A : Option Addr) (cp B : Nat) (num L : Int) (cs : List Chg) (day : Int) (w : World) (h : Chs w B A cs) (hB : B ≤ w.heap.size) (hn : cs.length ≤ 9223372036854775807) :
    Calls Try.prog 39 #[.agg #[.int .i64 num, .int .i64 L, .slice A cs.length cp], .int .i64 day] w (PairRes (atF num L cs day) w) := by
  have hT := RdBox.new (c := cp) (num := num) (L := L) (T := 24) h hB
  have hal : Below w.heap.size w (w.alloc (.cells #[.int .i64 num, .int .i64 L, .slice A cs.length cp] 24)) := (Below.refl _ _).alloc (Nat.le_refl _) _
  generalize hW : w.alloc (.cells #[.int .i64 num, .int .i64 L, .slice A cs.length cp] 24) = w1 at hT hal
  have HW := Lib.hid hW
  clear hW h
  obtain ⟨-, q0, q1, q2, hl0, hz⟩ := id hT
  go_enter Try.func39, Try.ntmps39
  go_upto_region 1 with fail
  rw [HW.out]
  clear HW
  go_wp2_with fail
  refine (rValid A cp B num L cs w1 hT.ch (by omega) hn).mono ?_
  rintro e w2 ⟨r1, r2, hb2⟩
  have r3 := True.intro
  have hal2 := hal.trans (hb2.mono hal.size)
  have hT2 := hT.below hb2 hz
  have hz2 := hT2.sz
  clear q0 q1 q2 hz hT hal hb2
  obtain ⟨-, q0, q1, q2, -, hz⟩ := id hT2
  by_cases ho : RoadOk num L cs
  rotate_left
  · rw [r2 ho]
    have HO := Lib.hid ho
    clear r1 r2 r3 ho
    go_wp2
    go_ret2
    exact ⟨by rw [at60 HO.out]; rfl, hal2⟩
  have HO := Lib.hid ho
  rw [r1 ho]
  have h40 := ho.2.2.1
  clear r1 r2 r3 ho
  by_cases hin : 0 ≤ day ∧ day ≤ 100000
  rotate_left
  · have j1 := inB_f hin
    go_wp2_with (go_at_call 55; refine (rfrom _ _ _ _).mono ?_; rintro e w' ⟨rfl, rfl⟩)
    go_ret2
    exact ⟨by rw [at2 HO.out hin]; rfl, hal2⟩
  have j1 := inB_t hin.1 hin.2
  have HIN := Lib.hid hin
  go_wp2_with (go_at_call 55; refine (rfrom _ _ _ _).mono ?_; rintro e w' ⟨rfl, rfl⟩)
  clear hin j1
  go_loop [6, 7] (fun nv i => ∃ k : Nat, k ≤ cs.length ∧ i = .int .i64 k ∧ nv = .int .i64 (lastTo cs day k : Nat)) (fun _ i => cs.length - (intOf i).toNat)
  case atStart => exact ⟨0, Nat.zero_le _, rfl, rfl⟩
  case round =>
    obtain ⟨k, hk, rfl, rfl⟩ := hrel
    have hle := last_le cs day k
    by_cases hlt : k < cs.length
    · obtain ⟨b, off, hA, hbb, u0, u1, u2, u3⟩ := hT2.ch.at_ hlt
      subst hA
      by_cases hd : (chAt cs k).day ≤ day
      · have HC : Hid (lastTo cs day (k + 1) = k + 1) := if_pos hd
        go_wp2_with fail
        exact ⟨⟨k + 1, by omega, by go_num, by rw [HC.out]; go_num⟩, by simp [intOf]; omega⟩
      · have HC : Hid (lastTo cs day (k + 1) = lastTo cs day k) := if_neg hd
        go_wp2_with fail
        exact ⟨⟨k + 1, by omega, by go_num, by rw [HC.out]⟩, by simp [intOf]; omega⟩
    · obtain rfl : k = cs.length := by omega
      go_wp2
      go_ret2
      exact ⟨by rw [atok HO.out HIN.out, cnt_last _ (fun j hj => HO.out.2.2.2 j hj)]; rfl, hal2⟩
theorem heldR {w2 w' : World} {a : Nat} {x0 x1 x2 : Value} (ha : a < w2.heap.size) (q0 : w2.cell? ⟨a, 0, none⟩ = some x0) (q1 : w2.cell? ⟨a, 1, none⟩ = some x1) (q2 : w2.cell? ⟨a, 2, none⟩ = some x2) (h : Below w2.heap.size w2 w') :
    Below w2.heap.size w2 w' ∧ w'.cell? ⟨a, 0, none⟩ = some x0 ∧ w'.cell? ⟨a, 1, none⟩ = some x1 ∧ w'.cell? ⟨a, 2, none⟩ = some x2 :=
  ⟨h, (h.cell ha).trans q0, (h.cell ha).trans q1, (h.cell ha).trans q2⟩
set_option maxRecDepth 100000 in
set_option maxHeartbeats 4000000 in
theorem wLengths (A : Option Addr) (cp B : Nat) (num L : Int) (cs : List Chg) (v day : Int) (w : World) (h : Chs w B A cs) (hB : B ≤ w.heap.size) (hn : cs.length ≤ 9223372036854775807) :
    Calls Try.prog 12 #[.agg #[.int .i64 num, .int .i64 L, .slice A cs.length cp], .int .i64 v, .int .i64 day] w fun e w' => e = .returned (.bool true) ∧ Below w.heap.size w w' := by
  have hT := RdBox.new (c := cp) (num := num) (L := L) (T := 24) h hB
  have hal : Below w.heap.size w (w.alloc (.cells #[.int .i64 num, .int .i64 L, .slice A cs.length cp] 24)) := (Below.refl _ _).alloc (Nat.le_refl _) _
  generalize hW : w.alloc (.cells #[.int .i64 num, .int .i64 L, .slice A cs.length cp] 24) = w1 at hT hal
  have HW := Lib.hid hW
  clear hW h
  obtain ⟨-, q0, q1, q2, hl0, hz⟩ := id hT
  go_enter Try.func12, Try.ntmps12
  go_upto_region 1 with fail
  rw [HW.out]
  clear HW
  go_wp2_with fail
  refine (lmany A cp num L cs w1).mono ?_
  rintro e w2 ⟨rfl, hb2⟩
  have hT2 := hT.below hb2 hT.sz
  have hal2 := hal.trans (hb2.mono hal.size)
  clear hT hal hb2 q0 q1 q2 hz
  obtain ⟨-, q0, q1, q2, -, hz⟩ := id hT2
  by_cases hm : 60 < cs.length
  · have hd : decide (60 < cs.length) = true := by simp [hm]
    rw [hd]
    go_wp2_with fail
    refine (lAwake w2).mono ?_
    rintro e w5 ⟨rfl, hb5⟩
    go_wp2
    go_ret
    exact ⟨rfl, hal2.trans (hb5.mono hal2.size)⟩
  have hd : decide (60 < cs.length) = false := by simp [hm]
  rw [hd]
  clear hd hm
  go_wp2_with fail
  refine (lLength A cp B num L cs v w2 hT2.ch (by omega) hn).mono ?_
  rintro e w3 ⟨rfl, hb3⟩
  generalize hp : lngF num L cs v = p at *
  have HP := Lib.hid hp
  clear hp
  have hT3 := hT2.below hb3 hT2.sz
  have hal3 := hal2.trans (hb3.mono hal2.size)
  clear hT2 hal2 hb3 q0 q1 q2 hz
  obtain ⟨-, q0, q1, q2, -, hz⟩ := id hT3
  go_wp2_with fail
  refine (rLength A cp B num L cs v w3 hT3.ch (by omega) hn).mono ?_
  rintro e w4 ⟨rfl, hb4⟩
  rw [HP.out]
  have hT4 := hT3.below hb4 hT3.sz
  have hal4 := hal3.trans (hb4.mono hal3.size)
  clear hT3 hal3 hb4 q0 q1 q2 hz
  obtain ⟨-, q0, q1, q2, -, hz⟩ := id hT4
  go_wp2_with fail
  refine (lAt A cp B num L cs day w4 hT4.ch (by omega) hn).mono ?_
  rintro e w5 ⟨rfl, hb5⟩
  generalize hp : atF num L cs day = r at *
  have HR := Lib.hid hp
  clear hp
  have hT5 := hT4.below hb5 hT4.sz
  have hal5 := hal4.trans (hb5.mono hal4.size)
  clear hT4 hal4 hb5 q0 q1 q2 hz
  obtain ⟨-, q0, q1, q2, -, hz⟩ := id hT5
  go_wp2_with fail
  refine (rAt A cp B num L cs day w5 hT5.ch (by omega) hn).mono ?_
  rintro e w6 ⟨rfl, hb6⟩
  rw [HR.out]
  have hT6 := hT5.below hb6 hT5.sz
  have hal6 := hal5.trans (hb6.mono hal5.size)
  clear hT5 hal5 hb6 q0 q1 q2 hz
  obtain ⟨-, q0, q1, q2, -, hz⟩ := id hT6
  go_upto_region 7 with fail
  have hBz : B ≤ w6.heap.size := by omega
  clear HP HR
  have hvb : ∃ bv : Bool, ∀ (wa wb : World) (e : Ending), ValRes num L cs wa e wb → e = .returned (.bool bv) ∧ Below wa.heap.size wa wb := by
    by_cases ho : RoadOk num L cs
    · exact ⟨true, fun wa wb e hh => ⟨hh.1 ho, hh.2.2⟩⟩
    · exact ⟨false, fun wa wb e hh => ⟨hh.2.1 ho, hh.2.2⟩⟩
  obtain ⟨bv, hvb⟩ := hvb
  have HVB := Lib.hid hvb
  clear hvb
  cases bv
  all_goals
    go_region_held3 (fun w' => Below w6.heap.size w6 w' ∧ w'.cell? ⟨w.heap.size, 0, none⟩ = some (.int .i64 num) ∧ w'.cell? ⟨w.heap.size, 1, none⟩ = some (.int .i64 L) ∧ w'.cell? ⟨w.heap.size, 2, none⟩ = some (.slice A cs.length cp)) ((refine heldR hz q0 q1 q2 ?_; first | assumption | exact hbm2 | exact hbk2 | exact hbw2 | exact Below.refl _ _ | exact (Below.refl _ _).drew | exact below_drewN (Below.refl _ _) _ | fail)) (first
      | (go_at_call 40; refine (lValid A cp B num L cs _ ?_ ?_ hn).mono ?_; (solve | exact hT6.ch.below (Below.mono (And.left (by assumption)) hBz)); (solve | exact Nat.le_trans hBz (Below.size (And.left (by assumption)))); (intro e wm hh; obtain ⟨rfl, hbm⟩ := HVB.out _ _ _ hh); have hbm2 : Below w6.heap.size w6 wm := Below.trans (And.left (by assumption)) (hbm.mono (Below.size (And.left (by assumption)))))
      | (go_at_call 41; refine (rValid A cp B num L cs _ ?_ ?_ hn).mono ?_; (solve | exact hT6.ch.below (Below.mono (And.left (by assumption)) hBz)); (solve | exact Nat.le_trans hBz (Below.size (And.left (by assumption)))); (intro e wk hh; obtain ⟨rfl, hbk⟩ := HVB.out _ _ _ hh); have hbk2 : Below w6.heap.size w6 wk := Below.trans (And.left (by assumption)) (hbk.mono (Below.size (And.left (by assumption)))))
      | (go_at_call 17; refine (lAwake _).mono ?_; (rintro e ww ⟨rfl, hbw⟩); have hbw2 : Below w6.heap.size w6 ww := Below.trans (And.left (by assumption)) (hbw.mono (Below.size (And.left (by assumption)))))
      | fail)
    all_goals
      go_wp2
      go_ret
      exact ⟨rfl, hal6.trans (hbw2.mono hal6.size)⟩
end Go.Proofs.Ytoknkmlkeacgjaa
