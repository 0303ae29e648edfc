/- Contract of the program's Kept. -/
import Derived.Test.YtdmmcdbojmalfaaGreatKep
import Derived.Deep.RegionHeld3
import Derived.Deep.RegionLawGrows
namespace Go.Proofs.YtdmmcdbojmalfaaGreat
open Go.RowKit
theorem moves_ok {num L : Int} {cs : List Chg} (h : RoadOk num L cs) {f t : Nat} (hf : f ≤ cs.length) (ht : t ≤ cs.length) : ∀ j, j < (movesF cs f t).length → MvOk (mvAt (movesF cs f t) j) := by
  intro j hj
  rw [movesF_length] at hj
  have key : ∀ k, k < cs.length → MvOk (upM cs k) ∧ MvOk (downM cs k) := by
    intro k hk
    obtain ⟨_, ⟨d2, d3, d4⟩, ⟨d5, d6⟩, d7⟩ := h.2.2.2 k hk
    have := lenAt_bd h.2.1.1 h.2.1.2 k (fun j hj => h.2.2.2 j (by omega))
    simp only [lenAt] at d7
    refine ⟨⟨⟨?_, ?_, ?_⟩, ?_, ?_⟩, ⟨⟨?_, ?_, ?_⟩, ?_, ?_⟩⟩ <;> simp only [upM, downM] <;> omega
  by_cases hft : f ≤ t
  · have hz : f - t = 0 := by omega
    have e1 : mvAt (movesF cs f t) j = upM cs (f + j) := by simp [movesF, ups, downs, hz, mvAt, show j < t - f by omega]
    rw [e1]
    exact (key (f + j) (by omega)).1
  · have hz : t - f = 0 := by omega
    have e1 : mvAt (movesF cs f t) j = downM cs (f - 1 - j) := by simp [movesF, ups, downs, hz, mvAt, show j < f - t by omega]
    rw [e1]
    exact (key (f - 1 - j) (by omega)).2
theorem keep_len {ms : List Mov} {s : Int × Int} (hm : ∀ j, j < ms.length → MvOk (mvAt ms j)) (hs : s.1 < s.2) (s0 : 0 ≤ s.1) (s1 : s.2 ≤ 10000000) : Full (keepTo ms [s] ms.length) ∧ (keepTo ms [s] ms.length).length ≤ 10000000 := by
  have hF : Full [s] := fun p hp => by rw [List.mem_singleton.1 hp]; exact hs
  have hK : InK 10000000 [s] := fun p hp => by rw [List.mem_singleton.1 hp]; omega
  obtain ⟨a, b, c⟩ := keep_inv hm hF hK ms.length (Nat.le_refl _)
  refine ⟨a, ?_⟩
  have := met_ge a
  simp only [met] at c
  omega
/-- The stretch lies in the version. -/
def SpOk (L : Int) (cs : List Chg) (s : Int × Int) (f : Nat) : Prop := 0 ≤ s.1 ∧ s.1 < s.2 ∧ s.2 ≤ lenAt L cs f
def KeptOut (cs : List Chg) (s : Int × Int) (f t : Nat) (us : List (Int × Int)) : Prop :=
  Norm us ∧ (∀ c, InS us c ↔ InS (keepTo (movesF cs f t) [s] (movesF cs f t).length) c) ∧ us.length ≤ 10000000
/-- What Kept returns. -/
def KeptRes (num L : Int) (cs : List Chg) (s : Int × Int) (f t : Int) (w : World) (e : Ending) (w' : World) : Prop :=
  (¬ RoadOk num L cs → e = .returned (.tuple #[.slice none 0 0, .int .i64 60])) ∧ (RoadOk num L cs → ¬ VersOk cs f t → e = .returned (.tuple #[.slice none 0 0, .int .i64 61])) ∧
  (RoadOk num L cs → VersOk cs f t → ¬ SpOk L cs s f.toNat → e = .returned (.tuple #[.slice none 0 0, .int .i64 2])) ∧
  (RoadOk num L cs → VersOk cs f t → SpOk L cs s f.toNat → ∃ (us : List (Int × Int)) (A' : Option Addr) (c' : Nat), KeptOut cs s f.toNat t.toNat us ∧ e = .returned (.tuple #[.slice A' us.length c', .int .i64 0]) ∧ Pairs w' w'.heap.size A' us) ∧ Below w.heap.size w w'
theorem heldK {w2 w' : World} {a b : Nat} {x0 x1 x2 z0 z1 : Value} (ha : a < w2.heap.size) (hb : b < w2.heap.size) (q0 : w2.cell? ⟨a, 0, none⟩ = some x0) (q1 : w2.cell? ⟨a, 1, none⟩ = some x1) (q2 : w2.cell? ⟨a, 2, none⟩ = some x2)
    (y0 : w2.cell? ⟨b, 0, none⟩ = some z0) (y1 : w2.cell? ⟨b, 1, none⟩ = some z1) (h : Below w2.heap.size w2 w') :
    Below w2.heap.size w2 w' ∧ w'.cell? ⟨a, 0, none⟩ = some x0 ∧ w'.cell? ⟨a, 1, none⟩ = some x1 ∧ w'.cell? ⟨a, 2, none⟩ = some x2 ∧ w'.cell? ⟨b, 0, none⟩ = some z0 ∧ w'.cell? ⟨b, 1, none⟩ = some z1 :=
  ⟨h, (h.cell ha).trans q0, (h.cell ha).trans q1, (h.cell ha).trans q2, (h.cell hb).trans y0, (h.cell hb).trans y1⟩
set_option maxRecDepth 100000 in
set_option maxHeartbeats 2000000 in
theorem lKept (A : Option Addr) (cp B : Nat) (num L : Int) (cs : List Chg) (s : Int × Int) (f t : Int) (w : World) (h : Chs w B A cs) (hB : B ≤ w.heap.size) (hn : cs.length ≤ 9223372036854775807) :
    Calls Tryz.prog 17 #[.agg #[.int .i64 num, .int .i64 L, .slice A cs.length cp], .agg #[.int .i64 s.1, .int .i64 s.2], .int .i64 f, .int .i64 t] w (KeptRes num L cs s f t w) := by
  have hT := RdBox.new (c := cp) (num := num) (L := L) (T := 24) h hB
  have hal : Below w.heap.size w (w.alloc (.cells #[.int .i64 num, .int .i64 L, .slice A cs.length cp] 24)) := (Below.refl _ _).alloc (Nat.le_refl _) _
  generalize hW : w.alloc (.cells #[.int .i64 num, .int .i64 L, .slice A cs.length cp] 24) = w0 at hT hal
  have hz : w0.heap.size = w.heap.size + 1 := by rw [← hW]; simp
  have hT' := hT.below ((Below.refl w0.heap.size w0).alloc (Nat.le_refl _) (.cells #[.int .i64 s.1, .int .i64 s.2] 59)) hT.sz
  have hal' := hal.alloc hal.size (.cells #[.int .i64 s.1, .int .i64 s.2] 59)
  have y0 : (w0.alloc (.cells #[.int .i64 s.1, .int .i64 s.2] 59)).cell? ⟨w.heap.size + 1, 0, none⟩ = some (.int .i64 s.1) := by rw [← hz]; simp [go_sem]
  have y1 : (w0.alloc (.cells #[.int .i64 s.1, .int .i64 s.2] 59)).cell? ⟨w.heap.size + 1, 1, none⟩ = some (.int .i64 s.2) := by rw [← hz]; simp [go_sem]
  generalize hW1 : w0.alloc (.cells #[.int .i64 s.1, .int .i64 s.2] 59) = w1 at hT' hal' y0 y1
  have hz1 : w1.heap.size = w.heap.size + 2 := by rw [← hW1]; simp [hz]
  have HW := Lib.hid hW
  have HW1 := Lib.hid hW1
  clear hW hW1 h hT hal
  obtain ⟨-, q0, q1, q2, -, _⟩ := id hT'
  have hV := two_ints w1 f t 3 rfl
  have HZ := Lib.hid hz1
  have hb : Below w1.heap.size w1 (w1.alloc (.cells #[.int .i64 f, .int .i64 t] 3)) := (Below.refl _ _).alloc (Nat.le_refl _) _
  have hy : w.heap.size + 1 < w1.heap.size := by omega
  clear hz hz1
  go_enter Tryz.func17, Tryz.ntmps17
  go_upto_region 1 with fail
  rw [HW.out, HW1.out]
  go_wp2_with fail
  clear HW HW1
  generalize w1.alloc (.cells #[.int .i64 f, .int .i64 t] 3) = w1' at *
  have hT1 := hT'.below hb hT'.sz
  have hal1 := hal'.trans (hb.mono hal'.size)
  refine (lchecked A (some ⟨w1.heap.size, 0, none⟩) cp 2 B num L cs [f, t] w1' hT1.ch (by have := hT1.lt; have := hT1.sz; omega) hn hV (by simp)).mono ?_
  rintro e w2 ⟨r1, r2, r3, hb2⟩
  have hT2 := hT1.below hb2 hT1.sz
  have hal2 := hal1.trans (hb2.mono hal1.size)
  have hbb2 : Below w1.heap.size w1 w2 := hb.trans (hb2.mono hb.size)
  replace y0 := (hbb2.cell (p := ⟨w.heap.size + 1, 0, none⟩) hy).trans y0
  replace y1 := (hbb2.cell (p := ⟨w.heap.size + 1, 1, none⟩) hy).trans y1
  replace hy := Nat.lt_of_lt_of_le hy hbb2.size
  clear q0 q1 q2 hb hb2 hT1 hV hal1 hal' hbb2
  obtain ⟨-, q0, q1, q2, -, _⟩ := id hT2
  by_cases ho : RoadOk num L cs
  · have HO := Lib.hid ho
    by_cases hv : VersOk cs f t
    · obtain ⟨A', c', rfl, hI⟩ := r3 ho (vers_iff.2 hv)
      obtain ⟨⟨v0, v1⟩, v2, v3⟩ := id hv
      have HV := Lib.hid hv
      obtain ⟨fn, rfl⟩ := Int.eq_ofNat_of_zero_le v0
      obtain ⟨tn, rfl⟩ := Int.eq_ofNat_of_zero_le v2
      have h40 := ho.2.2.1
      clear r1 r2 r3 ho hv hT'
      obtain ⟨b, off, hA, hbb, hc⟩ := hI.at_ (k := fn) (by rw [lens_length]; omega)
      have u0 := hc fn (by rw [lens_length]; omega)
      rw [lens_at L cs (by omega)] at u0
      subst hA
      clear hc
      have hlb := lenAt_bd HO.out.2.1.1 HO.out.2.1.2 fn (fun j hj => HO.out.2.2.2 j (by omega))
      obtain ⟨n0, n1⟩ := hlb
      have v4 : (fn : Int) < (cs.length : Int) + 1 := by omega
      have v5 : fn < cs.length + 1 := by omega
      have v6 : fn ≤ cs.length := by omega
      by_cases k0 : 0 ≤ s.1
      rotate_left
      · have HS : Hid (¬ SpOk L cs s fn) := fun hh => k0 hh.1
        go_wp2_with fail
        go_quiet (fail)
        go_wp2_with fail
        go_ret2
        exact ⟨fun hh => absurd HO.out hh, fun _ hh => absurd HV.out hh, fun _ _ _ => rfl, fun _ _ hh => absurd hh HS.out, below_drewN hal2 _⟩
      by_cases k1 : s.1 < s.2
      rotate_left
      · have HS : Hid (¬ SpOk L cs s fn) := fun hh => k1 hh.2.1
        go_wp2_with fail
        go_quiet (fail)
        go_wp2_with fail
        go_ret2
        exact ⟨fun hh => absurd HO.out hh, fun _ hh => absurd HV.out hh, fun _ _ _ => rfl, fun _ _ hh => absurd hh HS.out, below_drewN hal2 _⟩
      by_cases k2 : s.2 ≤ lenAt L cs fn
      rotate_left
      · have HS : Hid (¬ SpOk L cs s fn) := fun hh => k2 hh.2.2
        go_wp2_with fail
        go_quiet (fail)
        go_wp2_with fail
        go_ret2
        exact ⟨fun hh => absurd HO.out hh, fun _ hh => absurd HV.out hh, fun _ _ _ => rfl, fun _ _ hh => absurd hh HS.out, below_drewN hal2 _⟩
      have HS : Hid (SpOk L cs s fn) := ⟨k0, k1, k2⟩
      go_wp2_with fail
      go_quiet (fail)
      clear u0
      go_upto_region 6 with fail
      have hbq : Below w2.heap.size w2 (w2.drewN nq) := below_drewN (Below.refl w2.heap.size w2) nq
      have hal3 := below_drewN hal2 nq
      have hT3 := hT2.below hbq hT2.sz
      replace y0 := (hbq.cell (p := ⟨w.heap.size + 1, 0, none⟩) hy).trans y0
      replace y1 := (hbq.cell (p := ⟨w.heap.size + 1, 1, none⟩) hy).trans y1
      replace hy := Nat.lt_of_lt_of_le hy hbq.size
      have HK := Lib.hid hal3
      generalize w2.drewN nq = w3 at *
      clear q0 q1 q2 hT2 hal2 hbq hI hbb hal3
      obtain ⟨-, q0, q1, q2, -, _⟩ := id hT3
      have hzz := hT3.sz
      have hBz : B ≤ w3.heap.size := by have := hT3.lt; omega
      have hft : fn ≤ cs.length ∧ tn ≤ cs.length := ⟨by omega, by omega⟩
      have hsl : s.2 ≤ 10000000 := by omega
      clear n0 n1 k2 v0 v1 v2 v3 v4 v5 v6
      go_region_held3 (fun w' => Below w3.heap.size w3 w' ∧ w'.cell? ⟨w.heap.size, 0, none⟩ = some (.int .i64 num) ∧ w'.cell? ⟨w.heap.size, 1, none⟩ = some (.int .i64 L) ∧ w'.cell? ⟨w.heap.size, 2, none⟩ = some (.slice A cs.length cp) ∧ w'.cell? ⟨w.heap.size + 1, 0, none⟩ = some (.int .i64 s.1) ∧ w'.cell? ⟨w.heap.size + 1, 1, none⟩ = some (.int .i64 s.2)) ((refine heldK hzz hy q0 q1 q2 y0 y1 ?_; first | assumption | exact hbm2 | exact hbk2 | exact Below.refl _ _ | exact (Below.refl _ _).drew | exact below_drewN (Below.refl _ _) _ | fail)) (first
        | (go_at_call 42; refine (lmoves A cp B num L cs fn tn _ ?_ ?_ HO.out hft.1 hft.2).mono ?_; (solve | exact hT3.ch.below (Below.mono (And.left (by assumption)) hBz)); (solve | exact Nat.le_trans hBz (Below.size (And.left (by assumption)))); (rintro e wm ⟨Am, cm, rfl, hM, hbm⟩); have hbm2 : Below w3.heap.size w3 wm := Below.trans (And.left (by assumption)) (hbm.mono (Below.size (And.left (by assumption)))))
        | (go_at_call 43; refine (lkept Am cm wm.heap.size (movesF cs fn tn) s _ ?_ ?_ ?_ (moves_ok HO.out hft.1 hft.2) k1 k0 hsl).mono ?_; (solve | exact hM | exact hM.below (below_drewN (Below.refl _ _) _) | exact hM.below (Below.refl _ _).drew); (solve | exact Nat.le_refl _); (solve | (rw [movesF_length]; omega)); (rintro e wk ⟨us, Ak, ck, n1, n2, n3, rfl, hP, hbk⟩); have hbk2 : Below w3.heap.size w3 wk := Below.trans (And.left (by assumption)) (hbk.mono (Below.size (And.left (by assumption)))))
        | fail)
      all_goals
        have hlen := (keep_len (moves_ok HO.out hft.1 hft.2) k1 k0 hsl).2
        have hfin := HK.out.trans (hbk2.mono HK.out.size)
        go_wp2
        go_ret2
        exact ⟨fun hh => absurd HO.out hh, fun _ hh => absurd HV.out hh, fun _ _ hh => absurd HS.out hh, fun _ _ _ => ⟨us, Ak, ck, ⟨n1, n2, Nat.le_trans n3 hlen⟩, rfl, hP⟩, hfin⟩
    · rw [r2 ho (fun hh => hv (vers_iff.1 hh))]
      have HV := Lib.hid hv
      clear r1 r2 r3 ho hv
      go_wp2
      go_ret2
      exact ⟨fun hh => absurd HO.out hh, fun _ _ => rfl, fun _ hh => absurd hh HV.out, fun _ hh => absurd hh HV.out, hal2⟩
  · rw [r1 ho]
    have HO := Lib.hid ho
    clear r1 r2 r3 ho
    go_wp2
    go_ret2
    exact ⟨fun _ => rfl, fun hh => absurd hh HO.out, fun hh => absurd hh HO.out, fun hh => absurd hh HO.out, hal2⟩
end Go.Proofs.YtdmmcdbojmalfaaGreat
