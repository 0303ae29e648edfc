/- Contract of the program's Carry. -/
import Derived.Test.YtdmmcdbojmalfaaGreatChk
namespace Go.Proofs.YtdmmcdbojmalfaaGreat
open Go.RowKit
def VersOk (cs : List Chg) (f t : Int) : Prop := (0 ≤ f ∧ f ≤ cs.length) ∧ (0 ≤ t ∧ t ≤ cs.length)
/-- What Carry answers. -/
def CarryIs (num L : Int) (cs : List Chg) (c f t v er : Int) : Prop :=
  (¬ RoadOk num L cs → v = 0 ∧ er = 60) ∧ (RoadOk num L cs → ¬ VersOk cs f t → v = 0 ∧ er = 61) ∧ (RoadOk num L cs → VersOk cs f t → ¬ (0 ≤ c ∧ c ≤ lenAt L cs f.toNat) → v = 0 ∧ er = 2) ∧
  (RoadOk num L cs → VersOk cs f t → (0 ≤ c ∧ c ≤ lenAt L cs f.toNat) → (∀ d, carryTo (movesF cs f.toNat t.toNat) c (movesF cs f.toNat t.toNat).length = some d → v = d ∧ er = 0) ∧ (carryTo (movesF cs f.toNat t.toNat) c (movesF cs f.toNat t.toNat).length = none → v = 0 ∧ er = 62))
def CarryRes (num L : Int) (cs : List Chg) (c f t : Int) (w : World) (e : Ending) (w' : World) : Prop := ∃ v er : Int, CarryIs num L cs c f t v er ∧ e = .returned (.tuple #[.int .i64 v, .int .i64 er]) ∧ Below w.heap.size w w'
theorem moves_grow {num L : Int} {cs : List Chg} (h : RoadOk num L cs) {f t : Nat} (hf : f ≤ cs.length) (ht : t ≤ cs.length) : ∀ j, j < (movesF cs f t).length → -10000000 ≤ (mvAt (movesF cs f t) j).grow ∧ (mvAt (movesF cs f t) j).grow ≤ 10000000 := by
  intro j hj
  rw [movesF_length] at hj
  have key : ∀ k, k < cs.length → -10000000 ≤ (chAt cs k).new - ((chAt cs k).to - (chAt cs k).fr) ∧ (chAt cs k).new - ((chAt cs k).to - (chAt cs k).fr) ≤ 10000000 := by
    intro k hk
    obtain ⟨_, ⟨d2, d3, d4⟩, ⟨d5, d6⟩, _⟩ := h.2.2.2 k hk
    have := lenAt_bd h.2.1.1 h.2.1.2 k (fun j hj => h.2.2.2 j (by omega))
    omega
  by_cases hft : f ≤ t
  · have hz : f - t = 0 := by omega
    have e1 : mvAt (movesF cs f t) j = upM cs (f + j) := by simp [movesF, ups, downs, hz, mvAt, show j < t - f by omega]
    rw [e1]
    exact key (f + j) (by omega)
  · have hz : t - f = 0 := by omega
    have e1 : mvAt (movesF cs f t) j = downM cs (f - 1 - j) := by simp [movesF, ups, downs, hz, mvAt, show j < f - t by omega]
    rw [e1]
    have := key (f - 1 - j) (by omega)
    simp only [downM]
    omega
theorem two_ints (w : World) (a b : Int) (T : TypeId) {H : Nat} (hH : w.heap.size = H) : Ints (w.alloc (.cells #[.int .i64 a, .int .i64 b] T)) (w.alloc (.cells #[.int .i64 a, .int .i64 b] T)).heap.size (some ⟨H, 0, none⟩) [a, b] := by
  subst hH
  refine .inr ⟨w.heap.size, 0, rfl, by simp, fun j hj => ?_⟩
  have hj : j < 2 := hj
  obtain rfl | rfl : j = 0 ∨ j = 1 := by omega
  · simp [go_sem, at0]
  · simp [go_sem, at0]
theorem vers_iff {cs : List Chg} {f t : Int} : (∀ j, j < [f, t].length → 0 ≤ at0 [f, t] j ∧ at0 [f, t] j ≤ cs.length) ↔ VersOk cs f t := by
  constructor
  · intro h
    have h0 := h 0 (by simp)
    have h1 := h 1 (by simp)
    simp [at0] at h0 h1
    exact ⟨h0, h1⟩
  · rintro ⟨h0, h1⟩ j hj
    have hj : j < 2 := hj
    obtain rfl | rfl : j = 0 ∨ j = 1 := by omega
    · simpa [at0] using h0
    · simpa [at0] using h1
set_option maxRecDepth 100000 in
set_option maxHeartbeats 1500000 in
theorem lCarry (A : Option Addr) (cp B : Nat) (num L : Int) (cs : List Chg) (c f t : Int) (w : World) (h : Chs w B A cs) (hB : B ≤ w.heap.size) (hn : cs.length ≤ 9223372036854775807) :
    Calls Tryz.prog 16 #[.agg #[.int .i64 num, .int .i64 L, .slice A cs.length cp], .int .i64 c, .int .i64 f, .int .i64 t] w (CarryRes num L cs c f t w) := by
  have hT := RdBox.new (c := cp) (num := num) (L := L) (T := 24) h hB
  have hal : Below w.heap.size w (w.alloc (.cells #[.int .i64 num, .int .i64 L, .slice A cs.length cp] 24)) := (Below.refl _ _).alloc (Nat.le_refl _) _
  generalize hW : w.alloc (.cells #[.int .i64 num, .int .i64 L, .slice A cs.length cp] 24) = w0 at hT hal
  have hz : w0.heap.size = w.heap.size + 1 := by rw [← hW]; simp
  have HW := Lib.hid hW
  clear hW h
  obtain ⟨-, q0, q1, q2, -, _⟩ := id hT
  have hV := two_ints w0 f t 3 hz
  have HZ := Lib.hid hz
  clear hz
  have hb : Below w0.heap.size w0 (w0.alloc (.cells #[.int .i64 f, .int .i64 t] 3)) := (Below.refl _ _).alloc (Nat.le_refl _) _
  go_enter Tryz.func16, Tryz.ntmps16
  go_wp2_with fail
  rw [HW.out]
  clear HW
  generalize w0.alloc (.cells #[.int .i64 f, .int .i64 t] 3) = w1 at *
  have hT1 := hT.below hb hT.sz
  have hal1 := hal.trans (hb.mono hal.size)
  refine (lchecked A (some ⟨w.heap.size + 1, 0, none⟩) cp 2 B num L cs [f, t] w1 hT1.ch (by have := hT1.lt; have := hT1.sz; omega) hn hV (by simp)).mono ?_
  rintro e w2 ⟨r1, r2, r3, hb2⟩
  have hT2 := hT1.below hb2 hT1.sz
  have hal2 := hal1.trans (hb2.mono hal1.size)
  clear q0 q1 q2
  obtain ⟨-, q0, q1, q2, -, _⟩ := id hT2
  by_cases ho : RoadOk num L cs
  · have HO := Lib.hid ho
    by_cases hv : VersOk cs f t
    · obtain ⟨A', c', rfl, hI⟩ := r3 ho (vers_iff.2 hv)
      obtain ⟨⟨v0, v1⟩, v2, v3⟩ := id hv
      have HV := Lib.hid hv
      obtain ⟨fn, rfl⟩ := Int.eq_ofNat_of_zero_le v0
      obtain ⟨tn, rfl⟩ := Int.eq_ofNat_of_zero_le v2
      have h40 := ho.2.2.1
      clear r1 r2 r3 ho hv hb hb2 hT hT1 hV
      obtain ⟨b, off, hA, hbb, hc⟩ := hI.at_ (k := fn) (by rw [lens_length]; omega)
      have u0 := hc fn (by rw [lens_length]; omega)
      rw [lens_at L cs (by omega)] at u0
      subst hA
      clear hc
      by_cases hin : 0 ≤ c ∧ c ≤ lenAt L cs fn
      · have j1 := inB_t hin.1 hin.2
        have hlb := lenAt_bd HO.out.2.1.1 HO.out.2.1.2 fn (fun j hj => HO.out.2.2.2 j (by omega))
        go_wp2_with (go_at_call 40; refine (lwithin _ _ _ _).mono ?_; rintro e w' ⟨rfl, rfl⟩)
        refine (lmoves A cp B num L cs fn tn w2 hT2.ch (by have := hT2.lt; have := hT2.sz; omega) HO.out (by omega) (by omega)).mono ?_
        rintro e w3 ⟨Am, cm, rfl, hM, hb3⟩
        have hal3 := hal2.trans (hb3.mono hal2.size)
        clear q0 q1 q2 u0 j1
        go_wp2_with fail
        refine (lcarry Am cm w3.heap.size (movesF cs fn tn) c w3 hM (Nat.le_refl _) (by rw [movesF_length]; omega) (moves_grow HO.out (by omega) (by omega)) hin.1 (by omega)).mono ?_
        rintro e w4 ⟨rfl, hb4⟩
        have hal4 := hal3.trans (hb4.mono hal3.size)
        cases hr : carryTo (movesF cs fn tn) c (movesF cs fn tn).length with
        | some d =>
          have HR := Lib.hid hr
          simp only [optPair, Option.getD_some, Option.isSome_some]
          clear hr
          go_wp2
          go_ret2
          exact ⟨d, 0, ⟨fun hh => absurd HO.out hh, fun _ hh => absurd HV.out hh, fun _ _ hh => absurd hin hh, fun _ _ _ => ⟨fun d' hd => ⟨by have := HR.out.symm.trans hd; cases this; rfl, rfl⟩, fun hd => by have := HR.out.symm.trans hd; cases this⟩⟩, rfl, hal4⟩
        | none =>
          have HR := Lib.hid hr
          simp only [optPair, Option.getD_none, Option.isSome_none]
          clear hr
          go_wp2
          go_ret2
          exact ⟨0, 62, ⟨fun hh => absurd HO.out hh, fun _ hh => absurd HV.out hh, fun _ _ hh => absurd hin hh, fun _ _ _ => ⟨fun d' hd => by (have := HR.out.symm.trans hd; cases this), fun _ => ⟨rfl, rfl⟩⟩⟩, rfl, hal4⟩
      · have j1 := inB_f hin
        go_wp2_with (go_at_call 40; refine (lwithin _ _ _ _).mono ?_; rintro e w' ⟨rfl, rfl⟩)
        go_ret2
        exact ⟨0, 2, ⟨fun hh => absurd HO.out hh, fun _ hh => absurd HV.out hh, fun _ _ _ => ⟨rfl, rfl⟩, fun _ _ hh => absurd hh hin⟩, rfl, hal2⟩
    · rw [r2 ho (fun hh => hv (vers_iff.1 hh))]
      have HV := Lib.hid hv
      clear r1 r2 r3 ho hv
      go_wp2
      go_ret2
      exact ⟨0, 61, ⟨fun hh => absurd HO.out hh, fun _ _ => ⟨rfl, rfl⟩, fun _ hh => absurd hh HV.out, fun _ hh => absurd hh HV.out⟩, rfl, hal2⟩
  · rw [r1 ho]
    have HO := Lib.hid ho
    clear r1 r2 r3 ho
    go_wp2
    go_ret2
    exact ⟨0, 60, ⟨fun _ => ⟨rfl, rfl⟩, fun hh => absurd hh HO.out, fun hh => absurd hh HO.out, fun hh => absurd hh HO.out⟩, rfl, hal2⟩
end Go.Proofs.YtdmmcdbojmalfaaGreat
