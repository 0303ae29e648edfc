/- Contracts of Gone (both texts). -/
import Derived.Test.YtpcpkoaigjbdhaaRKp
import Derived.Test.YtpcpkoaigjbdhaaTot
import Derived.Test.YtpcpkoaigjbdhaaOrd
namespace Go.Proofs.Ytpcpkoaigjbdhaa
open Go.RowKit
theorem un_facts {num L : Int} {cs : List Chg} (ho : RoadOk num L cs) {f t : Nat} (hf : f ≤ cs.length) (ht : t ≤ cs.length) {s : Int × Int} (s0 : 0 ≤ s.1) (s1 : s.1 < s.2) (s2 : s.2 ≤ 10000000) {us : List (Int × Int)} (n1 : Norm us) (n2 : ∀ c, InS us c ↔ InS (keepTo (movesF cs f t) [s] (movesF cs f t).length) c) :
    0 ≤ met us ∧ met us ≤ s.2 - s.1 ∧ InK 10000000000 us ∧ us.length ≤ 10000000 := by
  have hm := moves_ok ho hf ht
  have hF : Full [s] := fun p hp => by rw [List.mem_singleton.1 hp]; exact s1
  have hK : InK 10000000 [s] := fun p hp => by rw [List.mem_singleton.1 hp]; omega
  obtain ⟨a, b, c⟩ := keep_inv hm hF hK _ (Nat.le_refl _)
  have hmt := met_norm n1 a n2
  have hlen : (movesF cs f t).length ≤ 80 := by rw [movesF_length]; have := ho.2.2.1; omega
  have hge := met_ge n1.1
  simp only [met] at c
  refine ⟨by omega, by omega, fun p hp => ?_, by omega⟩
  have f1 := n1.1 p hp
  obtain ⟨q, hq, q1, q2⟩ := (n2 p.1).1 ⟨p, hp, Int.le_refl _, f1⟩
  obtain ⟨r, hr, r1, r2⟩ := (n2 (p.2 - 1)).1 ⟨p, hp, by omega, by omega⟩
  have := b q hq
  have := b r hr
  omega
/-- What Gone returns. -/
def GoneRes (num L : Int) (cs : List Chg) (f t : Int) (w : World) (e : Ending) (w' : World) : Prop :=
  (¬ RoadOk num L cs → e = .returned (.tuple #[.int .i64 0, .int .i64 60])) ∧ (RoadOk num L cs → ¬ VersOk cs f t → e = .returned (.tuple #[.int .i64 0, .int .i64 61])) ∧
  (RoadOk num L cs → VersOk cs f t → lenAt L cs f.toNat = 0 → e = .returned (.tuple #[.int .i64 0, .int .i64 0])) ∧
  (RoadOk num L cs → VersOk cs f t → lenAt L cs f.toNat ≠ 0 → ∃ us : List (Int × Int), Norm us ∧ (∀ c, InS us c ↔ InS (keepTo (movesF cs f.toNat t.toNat) [(0, lenAt L cs f.toNat)] (movesF cs f.toNat t.toNat).length) c) ∧ e = .returned (.tuple #[.int .i64 (lenAt L cs f.toNat - met us), .int .i64 0])) ∧ Below w.heap.size w w'
theorem gone_same {num L : Int} {cs : List Chg} {f t : Int} {w1 w1' w2 w2' : World} {e1 e2 : Ending} (h1 : GoneRes num L cs f t w1 e1 w1') (h2 : GoneRes num L cs f t w2 e2 w2') : e1 = e2 ∧ ∃ v er : Int, e1 = .returned (.tuple #[.int .i64 v, .int .i64 er]) := by
  by_cases ho : RoadOk num L cs
  · by_cases hv : VersOk cs f t
    · by_cases hl : lenAt L cs f.toNat = 0
      · rw [h1.2.2.1 ho hv hl, h2.2.2.1 ho hv hl]; exact ⟨rfl, _, _, rfl⟩
      · obtain ⟨us, n1, n2, he⟩ := h1.2.2.2.1 ho hv hl
        obtain ⟨us', m1, m2, he'⟩ := h2.2.2.2.1 ho hv hl
        have : us = us' := norm_unique n1 m1 fun c => by rw [n2 c, m2 c]
        rw [he, he', this]
        exact ⟨rfl, _, _, rfl⟩
    · rw [h1.2.1 ho hv, h2.2.1 ho hv]; exact ⟨rfl, _, _, rfl⟩
  · rw [h1.1 ho, h2.1 ho]; exact ⟨rfl, _, _, rfl⟩
theorem heldG {w2 w' : World} {a b i : Nat} {x0 x1 x2 y : Value} (ha : a < w2.heap.size) (hb : b < w2.heap.size) (q0 : w2.cell? ⟨a, 0, none⟩ = some x0) (q1 : w2.cell? ⟨a, 1, none⟩ = some x1) (q2 : w2.cell? ⟨a, 2, none⟩ = some x2) (u0 : w2.cell? ⟨b, i, none⟩ = some y) (h : Below w2.heap.size w2 w') :
    Below w2.heap.size w2 w' ∧ w'.cell? ⟨a, 0, none⟩ = some x0 ∧ w'.cell? ⟨a, 1, none⟩ = some x1 ∧ w'.cell? ⟨a, 2, none⟩ = some x2 ∧ w'.cell? ⟨b, i, none⟩ = some y :=
  ⟨h, (h.cell ha).trans q0, (h.cell ha).trans q1, (h.cell ha).trans q2, (h.cell hb).trans u0⟩
set_option maxRecDepth 100000 in
set_option maxHeartbeats 4000000 in
theorem lGone (A : Option Addr) (cp B : Nat) (num L : Int) (cs : List Chg) (f t : Int) (w : World) (h : Chs w B A cs) (hB : B ≤ w.heap.size) (hn : cs.length ≤ 9223372036854775807) :
    Calls Try.prog 7 #[.agg #[.int .i64 num, .int .i64 L, .slice A cs.length cp], .int .i64 f, .int .i64 t] w (GoneRes num L cs f t w) := by
  have hT := RdBox.new (c := cp) (num := num) (L := L) (T := 24) h hB
  have hal : Below w.heap.size w (w.alloc (.cells #[.int .i64 num, .int .i64 L, .slice A cs.length cp] 24)) := (Below.refl _ _).alloc (Nat.le_refl _) _
  generalize hW : w.alloc (.cells #[.int .i64 num, .int .i64 L, .slice A cs.length cp] 24) = w1 at hT hal
  have hV := two_ints w1 f t 3 rfl
  have hb : Below w1.heap.size w1 (w1.alloc (.cells #[.int .i64 f, .int .i64 t] 3)) := (Below.refl _ _).alloc (Nat.le_refl _) _
  have HW := Lib.hid hW
  clear hW h
  obtain ⟨-, q0, q1, q2, hl0, hz⟩ := id hT
  go_enter Try.func7, Try.ntmps7
  go_upto_region 1 with fail
  rw [HW.out]
  clear HW
  go_wp2_with fail
  have hT' := hT.below hb hz
  have hal' := hal.trans (hb.mono hal.size)
  generalize hW1 : w1.alloc (.cells #[.int .i64 f, .int .i64 t] 3) = w1' at *
  clear hW1
  refine (lchecked A (some ⟨w1.heap.size, 0, none⟩) cp 2 B num L cs [f, t] w1' hT'.ch (by have := hT'.sz; omega) hn hV (by simp)).mono ?_
  rintro e w2 ⟨r1, r2, r3, hb2⟩
  have hT2 := hT'.below hb2 hT'.sz
  have hal2 := hal'.trans (hb2.mono hal'.size)
  clear q0 q1 q2 hz hb hb2 hT hT' hV hal hal'
  obtain ⟨-, q0, q1, q2, -, hz⟩ := id hT2
  by_cases ho : RoadOk num L cs
  rotate_left
  · rw [r1 ho]
    have HO := Lib.hid ho
    clear r1 r2 r3 ho
    go_wp2
    go_ret2
    exact ⟨fun _ => rfl, fun hh => absurd hh HO.out, fun hh => absurd hh HO.out, fun hh => absurd hh HO.out, hal2⟩
  have HO := Lib.hid ho
  by_cases hv : VersOk cs f t
  rotate_left
  · rw [r2 ho (fun hh => hv (vers_iff.1 hh))]
    have HV := Lib.hid hv
    clear r1 r2 r3 ho hv
    go_wp2
    go_ret2
    exact ⟨fun hh => absurd HO.out hh, fun _ _ => rfl, fun _ hh => absurd hh HV.out, fun _ hh => absurd hh HV.out, hal2⟩
  obtain ⟨A', c', rfl, hI⟩ := r3 ho (vers_iff.2 hv)
  obtain ⟨⟨v0, v1⟩, v2, v3⟩ := id hv
  have HV := Lib.hid hv
  obtain ⟨fn, rfl⟩ := Int.eq_ofNat_of_zero_le v0
  obtain ⟨tn, rfl⟩ := Int.eq_ofNat_of_zero_le v2
  have h40 := ho.2.2.1
  clear r1 r2 r3 ho hv
  obtain ⟨b, off, hA, hbb, hc⟩ := hI.at_ (k := fn) (by rw [lens_length]; omega)
  have u0 := hc fn (by rw [lens_length]; omega)
  rw [lens_at L cs (by omega)] at u0
  subst hA
  clear hc hI
  have hlb := lenAt_bd HO.out.2.1.1 HO.out.2.1.2 fn (fun j hj => HO.out.2.2.2 j (by omega))
  have HL : Hid (lenAt L cs (Int.toNat fn) = lenAt L cs fn) := Lib.hid (by simp)
  have HT : Hid (Int.toNat (fn : Int) = fn ∧ Int.toNat (tn : Int) = tn) := Lib.hid ⟨by simp, by simp⟩
  generalize hlen : lenAt L cs fn = len at *
  have HLEN := Lib.hid hlen
  clear hlen
  obtain ⟨n0, n1⟩ := hlb
  by_cases hl : len = 0
  · have hlb' : (len == 0) = true := by simp [hl]
    subst hl
    go_wp2
    go_ret2
    exact ⟨fun hh => absurd HO.out hh, fun _ hh => absurd HV.out hh, fun _ _ _ => rfl, fun _ _ hh => absurd HL.out hh, hal2⟩
  have hlb' : (len == 0) = false := by simp [hl]
  have hft : fn ≤ cs.length ∧ tn ≤ cs.length := ⟨by omega, by omega⟩
  have hsl : (0 : Int) < len := by omega
  have v4 : (fn : Int) < (cs.length : Int) + 1 := by omega
  have v5 : fn < cs.length + 1 := by omega
  have v6 : (0 : Int) ≤ (fn : Int) := by omega
  have hBz : B ≤ w2.heap.size := by omega
  go_upto_region 4 with fail
  go_region_held3 (fun w' => Below w2.heap.size w2 w' ∧ w'.cell? ⟨w.heap.size, 0, none⟩ = some (.int .i64 num) ∧ w'.cell? ⟨w.heap.size, 1, none⟩ = some (.int .i64 L) ∧ w'.cell? ⟨w.heap.size, 2, none⟩ = some (.slice A cs.length cp) ∧ w'.cell? ⟨b, off + fn, none⟩ = some (.int .i64 len)) ((refine heldG hz hbb q0 q1 q2 u0 ?_; first | assumption | exact hbm2 | exact hbk2 | exact hbt2 | exact Below.refl _ _ | exact (Below.refl _ _).drew | exact below_drewN (Below.refl _ _) _ | fail)) (first
    | (go_at_call 18; refine (lmoves A cp B num L cs fn tn _ ?_ ?_ HO.out hft.1 hft.2).mono ?_; (solve | exact hT2.ch.below (Below.mono (And.left (by assumption)) hBz)); (solve | exact Nat.le_trans hBz (Below.size (And.left (by assumption)))); (rintro e wm ⟨Am, cm, rfl, hM, hbm⟩); have hbm2 : Below w2.heap.size w2 wm := Below.trans (And.left (by assumption)) (hbm.mono (Below.size (And.left (by assumption)))))
    | (go_at_call 17; refine (lkept Am cm wm.heap.size (movesF cs fn tn) (0, len) _ ?_ ?_ ?_ (moves_ok HO.out hft.1 hft.2) hsl (Int.le_refl 0) n1).mono ?_; (solve | exact hM | exact hM.below (below_drewN (Below.refl _ _) _) | exact hM.below (Below.refl _ _).drew); (solve | exact Nat.le_refl _); (solve | (rw [movesF_length]; omega)); (rintro e wk ⟨us, Ak, ck, m1, m2, m3, rfl, hP, hbk⟩); have hbk2 : Below w2.heap.size w2 wk := Below.trans (And.left (by assumption)) (hbk.mono (Below.size (And.left (by assumption)))))
    | (go_at_call 16; refine (ltotal Ak ck wk.heap.size us _ ?_ ?_ m1.1 ?_ ?_ ?_).mono ?_; (solve | exact hP | exact hP.below (below_drewN (Below.refl _ _) _) | exact hP.below (Below.refl _ _).drew); (solve | exact Nat.le_refl _); (solve | (have := (un_facts HO.out hft.1 hft.2 (Int.le_refl 0) hsl n1 m1 m2).2.1; simp only at this; omega)); (solve | exact (un_facts HO.out hft.1 hft.2 (Int.le_refl 0) hsl n1 m1 m2).2.2.1); (solve | exact (un_facts HO.out hft.1 hft.2 (Int.le_refl 0) hsl n1 m1 m2).2.2.2); (rintro e wt ⟨rfl, hbt⟩); have hbt2 : Below w2.heap.size w2 wt := Below.trans (And.left (by assumption)) (hbt.mono (Below.size (And.left (by assumption)))))
    | fail)
  all_goals
    have hbd := un_facts HO.out hft.1 hft.2 (Int.le_refl 0) hsl n1 m1 m2
    have hw : IntKind.i64.wrap (len - met us) = len - met us := IntWalk.i64_in _ (by have := hbd.2.1; have := hbd.1; simp only at *; omega)
    have HWR := Lib.hid hw
    clear hw hbd
    go_wp2
    go_ret2
    exact ⟨fun hh => absurd HO.out hh, fun _ hh => absurd HV.out hh, fun _ _ h0 => absurd (HL.out.symm.trans h0) hl, fun _ _ _ => ⟨us, m1, by rw [HL.out]; exact m2, by first | (rw [HL.out, ← HWR.out]; rfl) | (rw [HL.out]; show Ending.returned (.tuple #[.int .i64 (IntKind.i64.wrap (len - met us)), .int .i64 0]) = _; rw [HWR.out])⟩, hal2.trans (hbt2.mono hal2.size)⟩
theorem one_pairN {w w' : World} {a b : Int} (h : NewOf w #[.int .i64 a, .int .i64 b] 26 w') : Pairs w' w'.heap.size (some ⟨w.heap.size, 0, none⟩) [(a, b)] := by
  have hc := new_cells h
  have hs := new_size h
  refine .inr ⟨w.heap.size, 0, rfl, by omega, fun j hj => ?_⟩
  have hj : j < 1 := hj
  obtain rfl : j = 0 := by omega
  have h0 := hc 0 _ rfl
  have h1 := hc 1 _ rfl
  simp [Addr.add] at h0 h1
  simp [atp, h0, h1]
end Go.Proofs.Ytpcpkoaigjbdhaa

