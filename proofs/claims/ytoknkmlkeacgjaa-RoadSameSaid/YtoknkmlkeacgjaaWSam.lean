/- Contracts of Same (both texts) and the walk of RoadSame. -/
import Derived.Test.YtoknkmlkeacgjaaWCar
namespace Go.Proofs.Ytoknkmlkeacgjaa
open Go.RowKit
def SmIn (L : Int) (cs : List Chg) (c v d t : Int) : Prop := (0 ≤ c ∧ c ≤ lenAt L cs v.toNat) ∧ (0 ≤ d ∧ d ≤ lenAt L cs t.toNat)
/-- Place c of version v is place d of version t when it is carried. -/
def thereB (cs : List Chg) (c v d t : Int) : Bool := decide (carryTo (movesF cs v.toNat t.toNat) c (movesF cs v.toNat t.toNat).length = some d)
open Classical in
noncomputable def sameF (num L : Int) (cs : List Chg) (c v d t : Int) : Bool × Int :=
  if RoadOk num L cs then if VersOk cs v t then if SmIn L cs c v d t then (thereB cs c v d t || thereB cs d t c v, 0) else (false, 2) else (false, 61) else (false, 60)
def SameRes (num L : Int) (cs : List Chg) (c v d t : Int) (w : World) (e : Ending) (w' : World) : Prop :=
  e = .returned (.tuple #[.bool (sameF num L cs c v d t).1, .int .i64 (sameF num L cs c v d t).2]) ∧ Below w.heap.size w w'
theorem same_sym (num L : Int) (cs : List Chg) (c v d t : Int) : sameF num L cs d t c v = sameF num L cs c v d t := by
  unfold sameF
  by_cases h1 : RoadOk num L cs
  · rw [if_pos h1, if_pos h1]
    by_cases h2 : VersOk cs v t
    · rw [if_pos h2, if_pos (show VersOk cs t v from ⟨h2.2, h2.1⟩)]
      by_cases h3 : SmIn L cs c v d t
      · rw [if_pos h3, if_pos (show SmIn L cs d t c v from ⟨h3.2, h3.1⟩), Bool.or_comm]
      · rw [if_neg h3, if_neg (fun h => h3 ⟨h.2, h.1⟩)]
    · rw [if_neg h2, if_neg (fun h => h2 ⟨h.2, h.1⟩)]
  · rw [if_neg h1, if_neg h1]
theorem same60 {num L : Int} {cs : List Chg} {c v d t : Int} (h : ¬ RoadOk num L cs) : sameF num L cs c v d t = (false, 60) := if_neg h
theorem same61 {num L : Int} {cs : List Chg} {c v d t : Int} (h : RoadOk num L cs) (h2 : ¬ VersOk cs v t) : sameF num L cs c v d t = (false, 61) := by unfold sameF; rw [if_pos h, if_neg h2]
theorem same2 {num L : Int} {cs : List Chg} {c v d t : Int} (h : RoadOk num L cs) (h2 : VersOk cs v t) (h3 : ¬ SmIn L cs c v d t) : sameF num L cs c v d t = (false, 2) := by unfold sameF; rw [if_pos h, if_pos h2, if_neg h3]
theorem same0 {num L : Int} {cs : List Chg} {c v d t : Int} (h : RoadOk num L cs) (h2 : VersOk cs v t) (h3 : SmIn L cs c v d t) : sameF num L cs c v d t = (thereB cs c v d t || thereB cs d t c v, 0) := by unfold sameF; rw [if_pos h, if_pos h2, if_pos h3]
theorem there_t {cs : List Chg} {c : Int} {v : Nat} {d : Int} {t : Nat} (h : carryTo (movesF cs v t) c (movesF cs v t).length = some d) : thereB cs c v d t = true := by simp only [thereB, Int.toNat_natCast]; exact decide_eq_true h
theorem there_f {cs : List Chg} {c : Int} {v : Nat} {d x : Int} {t : Nat} (h : carryTo (movesF cs v t) c (movesF cs v t).length = some x) (hx : x ≠ d) : thereB cs c v d t = false := by simp only [thereB, Int.toNat_natCast, h]; exact decide_eq_false (fun e => hx (by injection e))
theorem there_n {cs : List Chg} {c : Int} {v : Nat} {d : Int} {t : Nat} (h : carryTo (movesF cs v t) c (movesF cs v t).length = none) : thereB cs c v d t = false := by simp only [thereB, Int.toNat_natCast, h]; exact decide_eq_false (fun e => by cases e)
set_option maxRecDepth 100000 in
set_option maxHeartbeats 4000000 in
theorem lSame (A : Option Addr) (cp B : Nat) (num L : Int) (cs : List Chg) (c v d t : Int) (w : World) (h : Chs w B A cs) (hB : B ≤ w.heap.size) (hn : cs.length ≤ 9223372036854775807) :
    Calls Try.prog 27 #[.agg #[.int .i64 num, .int .i64 L, .slice A cs.length cp], .int .i64 c, .int .i64 v, .int .i64 d, .int .i64 t] w (SameRes num L cs c v d t w) := by
  have hT := RdBox.new (c := cp) (num := num) (L := L) (T := 24) h hB
  have hal : Below w.heap.size w (w.alloc (.cells #[.int .i64 num, .int .i64 L, .slice A cs.length cp] 24)) := (Below.refl _ _).alloc (Nat.le_refl _) _
  generalize hW : w.alloc (.cells #[.int .i64 num, .int .i64 L, .slice A cs.length cp] 24) = w1 at hT hal
  have hz1 : w1.heap.size = w.heap.size + 1 := by rw [← hW]; simp
  have hV := two_ints w1 v t 3 rfl
  have hb : Below w1.heap.size w1 (w1.alloc (.cells #[.int .i64 v, .int .i64 t] 3)) := (Below.refl _ _).alloc (Nat.le_refl _) _
  clear hz1
  have HW := Lib.hid hW
  clear hW h
  obtain ⟨-, q0, q1, q2, hl0, hz⟩ := id hT
  go_enter Try.func27, Try.ntmps27
  go_upto_region 1 with fail
  rw [HW.out]
  clear HW
  go_wp2_with fail
  have hT' := hT.below hb hz
  have hal' := hal.trans (hb.mono hal.size)
  generalize hW1 : w1.alloc (.cells #[.int .i64 v, .int .i64 t] 3) = w1' at *
  clear hW1
  refine (lchecked A (some ⟨w1.heap.size, 0, none⟩) cp 2 B num L cs [v, t] w1' hT'.ch (by have := hT'.sz; omega) hn hV (by simp)).mono ?_
  rintro e w2 ⟨r1, r2, r3, hb2⟩
  have hT2 := hT'.below hb2 hT'.sz
  have hal2 := hal'.trans (hb2.mono hal'.size)
  clear q0 q1 q2 hz hb hb2 hT hT' hV hal hal'
  obtain ⟨-, q0, q1, q2, -, hz⟩ := id hT2
  by_cases ho : RoadOk num L cs
  rotate_left
  · rw [r1 ho]
    have HO := Lib.hid ho
    clear r1 r2 r3 ho
    go_wp2
    go_ret2
    exact ⟨by rw [same60 HO.out]; rfl, hal2⟩
  have HO := Lib.hid ho
  by_cases hv : VersOk cs v t
  rotate_left
  · rw [r2 ho (fun hh => hv (vers_iff.1 hh))]
    have HV := Lib.hid hv
    clear r1 r2 r3 ho hv
    go_wp2
    go_ret2
    exact ⟨by rw [same61 HO.out HV.out]; rfl, hal2⟩
  obtain ⟨A', c', rfl, hI⟩ := r3 ho (vers_iff.2 hv)
  obtain ⟨⟨v0, v1⟩, v2, v3⟩ := id hv
  have HV := Lib.hid hv
  obtain ⟨fn, rfl⟩ := Int.eq_ofNat_of_zero_le v0
  obtain ⟨tn, rfl⟩ := Int.eq_ofNat_of_zero_le v2
  have h40 := ho.2.2.1
  clear r1 r2 r3 ho hv
  obtain ⟨b, off, hA, hbb, hc⟩ := hI.at_ (k := fn) (by rw [lens_length]; omega)
  have u0 := hc fn (by rw [lens_length]; omega)
  rw [lens_at L cs (by omega)] at u0
  have u1 := hc tn (by rw [lens_length]; omega)
  rw [lens_at L cs (by omega)] at u1
  subst hA
  clear hc
  have hlb := lenAt_bd HO.out.2.1.1 HO.out.2.1.2 fn (fun j hj => HO.out.2.2.2 j (by omega))
  have hlt := lenAt_bd HO.out.2.1.1 HO.out.2.1.2 tn (fun j hj => HO.out.2.2.2 j (by omega))
  by_cases hin : 0 ≤ c ∧ c ≤ lenAt L cs fn
  rotate_left
  · have j1 := inB_f hin
    go_wp2_with (go_at_call 51; refine (lwithin _ _ _ _).mono ?_; rintro e w' ⟨rfl, rfl⟩)
    go_ret2
    exact ⟨by rw [same2 HO.out HV.out (fun hh => hin hh.1)]; rfl, hal2⟩
  have j1 := inB_t hin.1 hin.2
  by_cases hid : 0 ≤ d ∧ d ≤ lenAt L cs tn
  rotate_left
  · have j2 := inB_f hid
    go_wp2_with (go_at_call 51; refine (lwithin _ _ _ _).mono ?_; rintro e w' ⟨rfl, rfl⟩)
    go_ret2
    exact ⟨by rw [same2 HO.out HV.out (fun hh => hid hh.2)]; rfl, hal2⟩
  have j2 := inB_t hid.1 hid.2
  have HS0 := Lib.hid (same0 HO.out HV.out (c := c) (d := d) (L := L) ⟨hin, hid⟩)
  go_wp2_with (go_at_call 51; refine (lwithin _ _ _ _).mono ?_; rintro e w' ⟨rfl, rfl⟩)
  refine (lmoves A cp B num L cs fn tn w2 hT2.ch (by have := hT2.lt; have := hT2.sz; omega) HO.out (by omega) (by omega)).mono ?_
  rintro e wam ⟨Am, cm, rfl, hM, hbm⟩
  have hTwam := hT2.below hbm hT2.sz
  have halwam := hal2.trans (hbm.mono hal2.size)
  clear q0 q1 q2
  obtain ⟨-, q0, q1, q2, -, _⟩ := id hTwam
  go_wp2_with fail
  refine (lcarry Am cm wam.heap.size (movesF cs fn tn) c wam hM (Nat.le_refl _) (by rw [movesF_length]; omega) (moves_grow HO.out (by omega) (by omega)) (by omega) (by omega)).mono ?_
  rintro e w4 ⟨rfl, hbw4⟩
  have hTw4 := hTwam.below hbw4 hTwam.sz
  have halw4 := halwam.trans (hbw4.mono halwam.size)
  clear q0 q1 q2
  obtain ⟨-, q0, q1, q2, -, _⟩ := id hTw4
  clear j1 j2 u0 u1
  cases hr : carryTo (movesF cs fn tn) c (movesF cs fn tn).length with
  | some x =>
    have HR := Lib.hid hr
    simp only [optPair, Option.getD_some, Option.isSome_some]
    clear hr
    by_cases hxd : x = d
    · subst hxd
      go_wp2
      go_ret2
      exact ⟨by first | (rw [HS0.out, there_t HR.out]; rfl) | (rw [HS0.out, there_t HR.out, Bool.or_true]; rfl) | (rw [HS0.out, there_t HR.out]; simp; done), halw4⟩
    · have hxb : (x == d) = false := by simp [hxd]
      go_wp2_with fail
      refine (lmoves A cp B num L cs tn fn w4 hTw4.ch (by have := hTw4.lt; have := hTw4.sz; omega) HO.out (by omega) (by omega)).mono ?_
      rintro e wbm ⟨Am, cm, rfl, hM, hbm⟩
      have hTwbm := hTw4.below hbm hTw4.sz
      have halwbm := halw4.trans (hbm.mono halw4.size)
      clear q0 q1 q2
      obtain ⟨-, q0, q1, q2, -, _⟩ := id hTwbm
      go_wp2_with fail
      refine (lcarry Am cm wbm.heap.size (movesF cs tn fn) d wbm hM (Nat.le_refl _) (by rw [movesF_length]; omega) (moves_grow HO.out (by omega) (by omega)) (by omega) (by omega)).mono ?_
      rintro e w6 ⟨rfl, hbw6⟩
      have hTw6 := hTwbm.below hbw6 hTwbm.sz
      have halw6 := halwbm.trans (hbw6.mono halwbm.size)
      clear q0 q1 q2
      obtain ⟨-, q0, q1, q2, -, _⟩ := id hTw6
      cases hr2 : carryTo (movesF cs tn fn) d (movesF cs tn fn).length with
      | some y =>
        have HR2 := Lib.hid hr2
        simp only [optPair, Option.getD_some, Option.isSome_some]
        clear hr2
        by_cases hyc : y = c
        · subst hyc
          go_wp2
          go_ret2
          exact ⟨by first | (rw [HS0.out, there_t HR2.out]; rfl) | (rw [HS0.out, there_t HR2.out, Bool.or_true]; rfl) | (rw [HS0.out, there_t HR2.out]; simp; done), halw6⟩
        · have hyb : (y == c) = false := by simp [hyc]
          go_wp2
          go_ret2
          exact ⟨by first | (rw [HS0.out, there_f HR.out hxd, there_f HR2.out hyc]; rfl) | (rw [HS0.out, there_f HR.out hxd, there_f HR2.out hyc, Bool.or_true]; rfl) | (rw [HS0.out, there_f HR.out hxd, there_f HR2.out hyc]; simp; done), halw6⟩
      | none =>
        have HR2 := Lib.hid hr2
        simp only [optPair, Option.getD_none, Option.isSome_none]
        clear hr2
        go_wp2
        go_ret2
        exact ⟨by first | (rw [HS0.out, there_f HR.out hxd, there_n HR2.out]; rfl) | (rw [HS0.out, there_f HR.out hxd, there_n HR2.out, Bool.or_true]; rfl) | (rw [HS0.out, there_f HR.out hxd, there_n HR2.out]; simp; done), halw6⟩
  | none =>
    have HR := Lib.hid hr
    simp only [optPair, Option.getD_none, Option.isSome_none]
    clear hr
    go_wp2_with fail
    refine (lmoves A cp B num L cs tn fn w4 hTw4.ch (by have := hTw4.lt; have := hTw4.sz; omega) HO.out (by omega) (by omega)).mono ?_
    rintro e wbm ⟨Am, cm, rfl, hM, hbm⟩
    have hTwbm := hTw4.below hbm hTw4.sz
    have halwbm := halw4.trans (hbm.mono halw4.size)
    clear q0 q1 q2
    obtain ⟨-, q0, q1, q2, -, _⟩ := id hTwbm
    go_wp2_with fail
    refine (lcarry Am cm wbm.heap.size (movesF cs tn fn) d wbm hM (Nat.le_refl _) (by rw [movesF_length]; omega) (moves_grow HO.out (by omega) (by omega)) (by omega) (by omega)).mono ?_
    rintro e w6 ⟨rfl, hbw6⟩
    have hTw6 := hTwbm.below hbw6 hTwbm.sz
    have halw6 := halwbm.trans (hbw6.mono halwbm.size)
    clear q0 q1 q2
    obtain ⟨-, q0, q1, q2, -, _⟩ := id hTw6
    cases hr2 : carryTo (movesF cs tn fn) d (movesF cs tn fn).length with
    | some y =>
      have HR2 := Lib.hid hr2
      simp only [optPair, Option.getD_some, Option.isSome_some]
      clear hr2
      by_cases hyc : y = c
      · subst hyc
        go_wp2
        go_ret2
        exact ⟨by first | (rw [HS0.out, there_t HR2.out]; rfl) | (rw [HS0.out, there_t HR2.out, Bool.or_true]; rfl) | (rw [HS0.out, there_t HR2.out]; simp; done), halw6⟩
      · have hyb : (y == c) = false := by simp [hyc]
        go_wp2
        go_ret2
        exact ⟨by first | (rw [HS0.out, there_n HR.out, there_f HR2.out hyc]; rfl) | (rw [HS0.out, there_n HR.out, there_f HR2.out hyc, Bool.or_true]; rfl) | (rw [HS0.out, there_n HR.out, there_f HR2.out hyc]; simp; done), halw6⟩
    | none =>
      have HR2 := Lib.hid hr2
      simp only [optPair, Option.getD_none, Option.isSome_none]
      clear hr2
      go_wp2
      go_ret2
      exact ⟨by first | (rw [HS0.out, there_n HR.out, there_n HR2.out]; rfl) | (rw [HS0.out, there_n HR.out, there_n HR2.out, Bool.or_true]; rfl) | (rw [HS0.out, there_n HR.out, there_n HR2.out]; simp; done), halw6⟩
set_option maxRecDepth 100000 in
set_option maxHeartbeats 4000000 in
theorem rSame (A : Option Addr) (cp B : Nat) (num L : Int) (cs : List Chg) (c v d t : Int) (w : World) (h : Chs w B A cs) (hB : B ≤ w.heap.size) (hn : cs.length ≤ 9223372036854775807) :
    Calls Try.prog 28 #[.agg #[.int .i64 num, .int .i64 L, .slice A cs.length cp], .int .i64 c, .int .i64 v, .int .i64 d, .int .i64 t] w (SameRes num L cs c v d t w) := by
  have hT := RdBox.new (c := cp) (num := num) (L := L) (T := 24) h hB
  have hal : Below w.heap.size w (w.alloc (.cells #[.int .i64 num, .int .i64 L, .slice A cs.length cp] 24)) := (Below.refl _ _).alloc (Nat.le_refl _) _
  generalize hW : w.alloc (.cells #[.int .i64 num, .int .i64 L, .slice A cs.length cp] 24) = w1 at hT hal
  have HW := Lib.hid hW
  clear hW h
  obtain ⟨-, q0, q1, q2, hl0, hz⟩ := id hT
  go_enter Try.func28, Try.ntmps28
  go_upto_region 1 with fail
  rw [HW.out]
  clear HW
  go_wp2_with fail
  refine (rVersions A cp B num L cs v t w1 hT.ch (by omega) hn).mono ?_
  rintro e w2 ⟨r1, r2, r3, hb2⟩
  have hT2 := hT.below hb2 hz
  have hal2 := hal.trans (hb2.mono hal.size)
  clear q0 q1 q2 hz hb2 hT hal
  obtain ⟨-, q0, q1, q2, -, hz⟩ := id hT2
  by_cases ho : RoadOk num L cs
  rotate_left
  · rw [r1 ho]
    have HO := Lib.hid ho
    clear r1 r2 r3 ho
    go_wp2
    go_ret2
    exact ⟨by rw [same60 HO.out]; rfl, hal2⟩
  have HO := Lib.hid ho
  by_cases hv : VersOk cs v t
  rotate_left
  · rw [r2 ho hv]
    have HV := Lib.hid hv
    clear r1 r2 r3 ho hv
    go_wp2
    go_ret2
    exact ⟨by rw [same61 HO.out HV.out]; rfl, hal2⟩
  obtain ⟨A', c', rfl, hI⟩ := r3 ho hv
  obtain ⟨⟨v0, v1⟩, v2, v3⟩ := id hv
  have HV := Lib.hid hv
  obtain ⟨fn, rfl⟩ := Int.eq_ofNat_of_zero_le v0
  obtain ⟨tn, rfl⟩ := Int.eq_ofNat_of_zero_le v2
  have h40 := ho.2.2.1
  clear r1 r2 r3 ho hv
  obtain ⟨b, off, hA, hbb, hc⟩ := hI.at_ (k := fn) (by rw [lens_length]; omega)
  have u0 := hc fn (by rw [lens_length]; omega)
  rw [lens_at L cs (by omega)] at u0
  have u1 := hc tn (by rw [lens_length]; omega)
  rw [lens_at L cs (by omega)] at u1
  subst hA
  clear hc
  have hlb := lenAt_bd HO.out.2.1.1 HO.out.2.1.2 fn (fun j hj => HO.out.2.2.2 j (by omega))
  have hlt := lenAt_bd HO.out.2.1.1 HO.out.2.1.2 tn (fun j hj => HO.out.2.2.2 j (by omega))
  by_cases hin : 0 ≤ c ∧ c ≤ lenAt L cs fn
  rotate_left
  · have j1 := inB_f hin
    go_wp2_with (go_at_call 55; refine (rfrom _ _ _ _).mono ?_; rintro e w' ⟨rfl, rfl⟩)
    go_ret2
    exact ⟨by rw [same2 HO.out HV.out (fun hh => hin hh.1)]; rfl, hal2⟩
  have j1 := inB_t hin.1 hin.2
  by_cases hid : 0 ≤ d ∧ d ≤ lenAt L cs tn
  rotate_left
  · have j2 := inB_f hid
    go_wp2_with (go_at_call 55; refine (rfrom _ _ _ _).mono ?_; rintro e w' ⟨rfl, rfl⟩)
    go_ret2
    exact ⟨by rw [same2 HO.out HV.out (fun hh => hid hh.2)]; rfl, hal2⟩
  have j2 := inB_t hid.1 hid.2
  have HS0 := Lib.hid (same0 HO.out HV.out (c := c) (d := d) (L := L) ⟨hin, hid⟩)
  go_wp2_with (go_at_call 55; refine (rfrom _ _ _ _).mono ?_; rintro e w' ⟨rfl, rfl⟩)
  refine (rcarry A cp B num L cs fn tn c w2 hT2.ch (by have := hT2.lt; have := hT2.sz; omega) HO.out (by omega) (by omega) (by omega) (by omega)).mono ?_
  rintro e w4 ⟨rfl, hbw4⟩
  have hTw4 := hT2.below hbw4 hT2.sz
  have halw4 := hal2.trans (hbw4.mono hal2.size)
  clear q0 q1 q2
  obtain ⟨-, q0, q1, q2, -, _⟩ := id hTw4
  clear j1 j2 u0 u1
  cases hr : carryTo (movesF cs fn tn) c (movesF cs fn tn).length with
  | some x =>
    have HR := Lib.hid hr
    simp only [optPair, Option.getD_some, Option.isSome_some]
    clear hr
    by_cases hxd : x = d
    · subst hxd
      go_wp2_with fail
      refine (rcarry A cp B num L cs tn fn x w4 hTw4.ch (by have := hTw4.lt; have := hTw4.sz; omega) HO.out (by omega) (by omega) (by omega) (by omega)).mono ?_
      rintro e w6 ⟨rfl, hbw6⟩
      have hTw6 := hTw4.below hbw6 hTw4.sz
      have halw6 := halw4.trans (hbw6.mono halw4.size)
      clear q0 q1 q2
      obtain ⟨-, q0, q1, q2, -, _⟩ := id hTw6
      cases hr2 : carryTo (movesF cs tn fn) x (movesF cs tn fn).length with
      | some y =>
        simp only [optPair, Option.getD_some, Option.isSome_some]
        clear hr2
        go_wp2
        go_ret2
        exact ⟨by first | (rw [HS0.out, there_t HR.out]; rfl) | (rw [HS0.out, there_t HR.out, Bool.or_true]; rfl) | (rw [HS0.out, there_t HR.out]; simp; done), halw6⟩
      | none =>
        simp only [optPair, Option.getD_none, Option.isSome_none]
        clear hr2
        go_wp2
        go_ret2
        exact ⟨by first | (rw [HS0.out, there_t HR.out]; rfl) | (rw [HS0.out, there_t HR.out, Bool.or_true]; rfl) | (rw [HS0.out, there_t HR.out]; simp; done), halw6⟩
    · have hxb : (x == d) = false := by simp [hxd]
      go_wp2_with fail
      refine (rcarry A cp B num L cs tn fn d w4 hTw4.ch (by have := hTw4.lt; have := hTw4.sz; omega) HO.out (by omega) (by omega) (by omega) (by omega)).mono ?_
      rintro e w6 ⟨rfl, hbw6⟩
      have hTw6 := hTw4.below hbw6 hTw4.sz
      have halw6 := halw4.trans (hbw6.mono halw4.size)
      clear q0 q1 q2
      obtain ⟨-, q0, q1, q2, -, _⟩ := id hTw6
      cases hr2 : carryTo (movesF cs tn fn) d (movesF cs tn fn).length with
      | some y =>
        have HR2 := Lib.hid hr2
        simp only [optPair, Option.getD_some, Option.isSome_some]
        clear hr2
        by_cases hyc : y = c
        · subst hyc
          go_wp2
          go_ret2
          exact ⟨by first | (rw [HS0.out, there_t HR2.out]; rfl) | (rw [HS0.out, there_t HR2.out, Bool.or_true]; rfl) | (rw [HS0.out, there_t HR2.out]; simp; done), halw6⟩
        · have hyb : (y == c) = false := by simp [hyc]
          go_wp2
          go_ret2
          exact ⟨by first | (rw [HS0.out, there_f HR.out hxd, there_f HR2.out hyc]; rfl) | (rw [HS0.out, there_f HR.out hxd, there_f HR2.out hyc, Bool.or_true]; rfl) | (rw [HS0.out, there_f HR.out hxd, there_f HR2.out hyc]; simp; done), halw6⟩
      | none =>
        have HR2 := Lib.hid hr2
        simp only [optPair, Option.getD_none, Option.isSome_none]
        clear hr2
        go_wp2
        go_ret2
        exact ⟨by first | (rw [HS0.out, there_f HR.out hxd, there_n HR2.out]; rfl) | (rw [HS0.out, there_f HR.out hxd, there_n HR2.out, Bool.or_true]; rfl) | (rw [HS0.out, there_f HR.out hxd, there_n HR2.out]; simp; done), halw6⟩
  | none =>
    have HR := Lib.hid hr
    simp only [optPair, Option.getD_none, Option.isSome_none]
    clear hr
    go_wp2_with fail
    refine (rcarry A cp B num L cs tn fn d w4 hTw4.ch (by have := hTw4.lt; have := hTw4.sz; omega) HO.out (by omega) (by omega) (by omega) (by omega)).mono ?_
    rintro e w6 ⟨rfl, hbw6⟩
    have hTw6 := hTw4.below hbw6 hTw4.sz
    have halw6 := halw4.trans (hbw6.mono halw4.size)
    clear q0 q1 q2
    obtain ⟨-, q0, q1, q2, -, _⟩ := id hTw6
    cases hr2 : carryTo (movesF cs tn fn) d (movesF cs tn fn).length with
    | some y =>
      have HR2 := Lib.hid hr2
      simp only [optPair, Option.getD_some, Option.isSome_some]
      clear hr2
      by_cases hyc : y = c
      · subst hyc
        go_wp2
        go_ret2
        exact ⟨by first | (rw [HS0.out, there_t HR2.out]; rfl) | (rw [HS0.out, there_t HR2.out, Bool.or_true]; rfl) | (rw [HS0.out, there_t HR2.out]; simp; done), halw6⟩
      · have hyb : (y == c) = false := by simp [hyc]
        go_wp2
        go_ret2
        exact ⟨by first | (rw [HS0.out, there_n HR.out, there_f HR2.out hyc]; rfl) | (rw [HS0.out, there_n HR.out, there_f HR2.out hyc, Bool.or_true]; rfl) | (rw [HS0.out, there_n HR.out, there_f HR2.out hyc]; simp; done), halw6⟩
    | none =>
      have HR2 := Lib.hid hr2
      simp only [optPair, Option.getD_none, Option.isSome_none]
      clear hr2
      go_wp2
      go_ret2
      exact ⟨by first | (rw [HS0.out, there_n HR.out, there_n HR2.out]; rfl) | (rw [HS0.out, there_n HR.out, there_n HR2.out, Bool.or_true]; rfl) | (rw [HS0.out, there_n HR.out, there_n HR2.out]; simp; done), halw6⟩
theorem pair_new (w : World) (a b c d : Int) (T : TypeId) : (w.alloc (.cells #[.int .i64 a, .int .i64 b, .int .i64 c, .int .i64 d] T)).cell? ⟨w.heap.size, 0, none⟩ = some (.int .i64 a) ∧ (w.alloc (.cells #[.int .i64 a, .int .i64 b, .int .i64 c, .int .i64 d] T)).cell? ⟨w.heap.size, 1, none⟩ = some (.int .i64 b) ∧
    (w.alloc (.cells #[.int .i64 a, .int .i64 b, .int .i64 c, .int .i64 d] T)).cell? ⟨w.heap.size, 2, none⟩ = some (.int .i64 c) ∧ (w.alloc (.cells #[.int .i64 a, .int .i64 b, .int .i64 c, .int .i64 d] T)).cell? ⟨w.heap.size, 3, none⟩ = some (.int .i64 d) := ⟨by simp [go_sem], by simp [go_sem], by simp [go_sem], by simp [go_sem]⟩
structure PrBox (W : World) (n : Nat) (a b c d : Int) : Prop where
  p0 : W.cell? ⟨n, 0, none⟩ = some (.int .i64 a)
  p1 : W.cell? ⟨n, 1, none⟩ = some (.int .i64 b)
  p2 : W.cell? ⟨n, 2, none⟩ = some (.int .i64 c)
  p3 : W.cell? ⟨n, 3, none⟩ = some (.int .i64 d)
  pz : n < W.heap.size
theorem PrBox.below {W W' : World} {n C : Nat} {a b c d : Int} (h : PrBox W n a b c d) (hb : Below C W W') (hC : n < C) : PrBox W' n a b c d :=
  ⟨(hb.cell (p := ⟨n, 0, none⟩) hC).trans h.p0, (hb.cell (p := ⟨n, 1, none⟩) hC).trans h.p1, (hb.cell (p := ⟨n, 2, none⟩) hC).trans h.p2, (hb.cell (p := ⟨n, 3, none⟩) hC).trans h.p3, Nat.lt_of_lt_of_le h.pz hb.size⟩
theorem PrBox.new (w : World) (a b c d : Int) (T : TypeId) {n : Nat} (hn : w.heap.size = n) : PrBox (w.alloc (.cells #[.int .i64 a, .int .i64 b, .int .i64 c, .int .i64 d] T)) n a b c d := by
  subst hn
  obtain ⟨h0, h1, h2, h3⟩ := pair_new w a b c d T
  exact ⟨h0, h1, h2, h3, by simp⟩
set_option maxRecDepth 100000 in
set_option maxHeartbeats 4000000 in
theorem wSame (A : Option Addr) (cp B : Nat) (num L : Int) (cs : List Chg) (c v d t : Int) (w : World) (h : Chs w B A cs) (hB : B ≤ w.heap.size) (hn : cs.length ≤ 9223372036854775807) :
    Calls Try.prog 7 #[.agg #[.int .i64 num, .int .i64 L, .slice A cs.length cp], .agg #[.int .i64 c, .int .i64 v, .int .i64 d, .int .i64 t]] w fun e w' => e = .returned (.bool true) ∧ Below w.heap.size w w' := by
  have hT := RdBox.new (c := cp) (num := num) (L := L) (T := 24) h hB
  have hal : Below w.heap.size w (w.alloc (.cells #[.int .i64 num, .int .i64 L, .slice A cs.length cp] 24)) := (Below.refl _ _).alloc (Nat.le_refl _) _
  generalize hW : w.alloc (.cells #[.int .i64 num, .int .i64 L, .slice A cs.length cp] 24) = w0 at hT hal
  have hz0 : w0.heap.size = w.heap.size + 1 := by rw [← hW]; simp
  have hT1 := hT.below ((Below.refl w0.heap.size w0).alloc (Nat.le_refl _) (.cells #[.int .i64 c, .int .i64 v, .int .i64 d, .int .i64 t] 43)) hT.sz
  have hY1 := PrBox.new w0 c v d t 43 hz0
  have hal1 := hal.alloc hal.size (.cells #[.int .i64 c, .int .i64 v, .int .i64 d, .int .i64 t] 43)
  generalize hW1 : w0.alloc (.cells #[.int .i64 c, .int .i64 v, .int .i64 d, .int .i64 t] 43) = w1 at *
  have HW := Lib.hid hW
  have HW1 := Lib.hid hW1
  clear hW hW1 hT hal h hz0
  obtain ⟨-, q0, q1, q2, hl0, hz⟩ := id hT1
  obtain ⟨p0, p1, p2, p3, pz⟩ := id hY1
  go_enter Try.func7, Try.ntmps7
  go_upto_region 1 with fail
  rw [HW.out, HW1.out]
  clear HW HW1
  go_wp2_with fail
  refine (lmany A cp num L cs w1).mono ?_
  rintro e w2 ⟨rfl, hb2⟩
  have hT2 := hT1.below hb2 hT1.sz
  have hY2 := hY1.below hb2 hY1.pz
  have hal2 := hal1.trans (hb2.mono hal1.size)
  clear hT1 hY1 hal1 hb2 q0 q1 q2 hz p0 p1 p2 p3 pz
  obtain ⟨-, q0, q1, q2, -, hz⟩ := id hT2
  obtain ⟨p0, p1, p2, p3, pz⟩ := id hY2
  by_cases hm : 60 < cs.length
  · have hd : decide (60 < cs.length) = true := by simp [hm]
    rw [hd]
    go_wp2_with fail
    refine (lAwake w2).mono ?_
    rintro e w5 ⟨rfl, hb5⟩
    go_wp2
    go_ret
    exact ⟨rfl, hal2.trans (hb5.mono hal2.size)⟩
  have hd : decide (60 < cs.length) = false := by simp [hm]
  rw [hd]
  clear hd hm
  have HSY := Lib.hid (same_sym num L cs c v d t)
  generalize hbe : sameF num L cs c v d t = be at *
  obtain ⟨bb, ee⟩ := be
  have HBE := Lib.hid hbe
  clear hbe
  go_wp2_with fail
  refine (lSame A cp B num L cs c v d t w2 hT2.ch (by omega) hn).mono ?_
  rintro e w3 ⟨rfl, hb3⟩
  rw [HBE.out]
  have hT3 := hT2.below hb3 hT2.sz
  have hY3 := hY2.below hb3 hY2.pz
  have hal3 := hal2.trans (hb3.mono hal2.size)
  clear hT2 hY2 hal2 hb3 q0 q1 q2 hz p0 p1 p2 p3 pz
  obtain ⟨-, q0, q1, q2, -, hz⟩ := id hT3
  obtain ⟨p0, p1, p2, p3, pz⟩ := id hY3
  go_wp2_with fail
  refine (rSame A cp B num L cs c v d t w3 hT3.ch (by omega) hn).mono ?_
  rintro e w4 ⟨rfl, hb4⟩
  rw [HBE.out]
  have hT4 := hT3.below hb4 hT3.sz
  have hY4 := hY3.below hb4 hY3.pz
  have hal4 := hal3.trans (hb4.mono hal3.size)
  clear hT3 hY3 hal3 hb4 q0 q1 q2 hz p0 p1 p2 p3 pz
  obtain ⟨-, q0, q1, q2, -, hz⟩ := id hT4
  obtain ⟨p0, p1, p2, p3, pz⟩ := id hY4
  go_wp2_with fail
  refine (lSame A cp B num L cs d t c v w4 hT4.ch (by omega) hn).mono ?_
  rintro e w5 ⟨rfl, hb5⟩
  rw [HSY.out]
  have hT5 := hT4.below hb5 hT4.sz
  have hY5 := hY4.below hb5 hY4.pz
  have hal5 := hal4.trans (hb5.mono hal4.size)
  clear hT4 hY4 hal4 hb5 q0 q1 q2 hz p0 p1 p2 p3 pz
  obtain ⟨-, q0, q1, q2, -, hz⟩ := id hT5
  obtain ⟨p0, p1, p2, p3, pz⟩ := id hY5
  cases bb <;> (
    go_wp2_with fail
    refine (lAwake w5).mono ?_
    rintro e w6 ⟨rfl, hb6⟩
    go_wp2
    go_ret
    exact ⟨rfl, hal5.trans (hb6.mono hal5.size)⟩)
end Go.Proofs.Ytoknkmlkeacgjaa
