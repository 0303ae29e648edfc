/- TopCarried: contract of keptAll. -/
import Derived.Test.YtpcpkoaigjbdhaaTcW
import Derived.Test.YtpcpkoaigjbdhaaUnf
import Derived.Deep.RegionHeld3
namespace Go.Proofs.Ytpcpkoaigjbdhaa
open Go.RowKit
def Moved (cs : List Chg) (f t : Nat) (xs us : List (Int × Int)) : Prop := Norm us ∧ ∀ c, InS us c ↔ ∃ d, InS xs d ∧ runL gF (movesF cs f t) d = some c
theorem norm_one {y : Int × Int} (h : y.1 < y.2) : Norm [y] := norm_cons.2 ⟨h, fun q hq => (by cases hq), norm_nil⟩
section
variable {num L : Int} {cs : List Chg} {f t : Nat}
theorem len_bd (ho : RoadOk num L cs) {k : Nat} (hk : k ≤ cs.length) : 0 ≤ lenAt L cs k ∧ lenAt L cs k ≤ 10000000 := lenAt_bd ho.2.1.1 ho.2.1.2 k fun j hj => ho.2.2.2 j (by omega)
theorem Moved.within (ho : RoadOk num L cs) (hf : f ≤ cs.length) (ht : t ≤ cs.length) {xs us : List (Int × Int)} (hs : ∀ p ∈ xs, 0 ≤ p.1 ∧ p.2 ≤ lenAt L cs f) (h : Moved cs f t xs us) : ∀ p ∈ us, p.1 < p.2 ∧ 0 ≤ p.1 ∧ p.2 ≤ lenAt L cs t := by
  intro p hp
  have f1 := h.1.1 p hp
  obtain ⟨d, ⟨q, hq, q1, q2⟩, hd⟩ := (h.2 p.1).1 ⟨p, hp, Int.le_refl _, f1⟩
  obtain ⟨d', ⟨q', hq', q1', q2'⟩, hd'⟩ := (h.2 (p.2 - 1)).1 ⟨p, hp, by omega, by omega⟩
  have a1 := hs q hq
  have a2 := hs q' hq'
  have := met_in ho hf ht (c := d) (by omega) hd
  have := met_in ho hf ht (c := d') (by omega) hd'
  omega
theorem Moved.count (ho : RoadOk num L cs) (hc : cs.length ≤ 12) (hf : f ≤ cs.length) (ht : t ≤ cs.length) {xs us : List (Int × Int)} (hN : Norm xs) (hs : ∀ p ∈ xs, 0 ≤ p.1 ∧ p.2 ≤ lenAt L cs f) (h : Moved cs f t xs us) : us.length ≤ xs.length + 12 := by
  have hm := moves_ok ho hf ht
  have hK : InK 10000000 xs := fun p hp => by
    have a1 := hs p hp
    have a2 := hN.1 p hp
    have := len_bd ho hf
    omega
  have := keep_count hm hN hK h.1 fun c => by rw [h.2 c, keep_all hm]
  rw [movesF_length] at this
  omega
theorem kept_one (ho : RoadOk num L cs) (hc : cs.length ≤ 12) (hf : f ≤ cs.length) (ht : t ≤ cs.length) {y : Int × Int} (hy : y.1 < y.2) (h0 : 0 ≤ y.1) (h1 : y.2 ≤ lenAt L cs f) {us : List (Int × Int)} (hk : KeptOut cs y f t us) :
    Moved cs f t [y] us ∧ us.length ≤ 13 ∧ ∀ p ∈ us, p.1 < p.2 ∧ 0 ≤ p.1 ∧ p.2 ≤ lenAt L cs t := by
  have hs : ∀ p ∈ [y], 0 ≤ p.1 ∧ p.2 ≤ lenAt L cs f := fun p hp => by rw [List.mem_singleton.1 hp]; exact ⟨h0, h1⟩
  have hM : Moved cs f t [y] us := ⟨hk.1, fun c => by rw [hk.2.1 c, keep_all (moves_ok ho hf ht)]⟩
  have := hM.count ho hc hf ht (norm_one hy) hs
  simp only [List.length_singleton] at this
  exact ⟨hM, by omega, hM.within ho hf ht hs⟩
end
theorem held5 {w2 w' : World} {a b i : Nat} {x0 x1 x2 z0 z1 : Value} (ha : a < w2.heap.size) (hb : b < w2.heap.size) (q0 : w2.cell? ⟨a, 0, none⟩ = some x0) (q1 : w2.cell? ⟨a, 1, none⟩ = some x1) (q2 : w2.cell? ⟨a, 2, none⟩ = some x2)
    (y0 : w2.cell? ⟨b, i, none⟩ = some z0) (y1 : w2.cell? ⟨b, i + 1, none⟩ = some z1) (h : Below w2.heap.size w2 w') :
    Below w2.heap.size w2 w' ∧ w'.cell? ⟨a, 0, none⟩ = some x0 ∧ w'.cell? ⟨a, 1, none⟩ = some x1 ∧ w'.cell? ⟨a, 2, none⟩ = some x2 ∧ w'.cell? ⟨b, i, none⟩ = some z0 ∧ w'.cell? ⟨b, i + 1, none⟩ = some z1 :=
  ⟨h, (h.cell ha).trans q0, (h.cell ha).trans q1, (h.cell ha).trans q2, (h.cell hb).trans y0, (h.cell (p := ⟨b, i + 1, none⟩) hb).trans y1⟩
set_option maxRecDepth 100000 in
set_option maxHeartbeats 4000000 in
theorem lkeptAll (A A2 : Option Addr) (cp c2 B B2 : Nat) (num L : Int) (cs : List Chg) (xs : List (Int × Int)) (f t : Nat) (w : World) (h : Chs w B A cs) (hB : B ≤ w.heap.size) (h2 : Pairs w B2 A2 xs) (hB2 : B2 ≤ w.heap.size)
    (hc : cs.length ≤ 12) (ho : RoadOk num L cs) (hf : f ≤ cs.length) (ht : t ≤ cs.length) (hN : Norm xs) (hs : ∀ p ∈ xs, 0 ≤ p.1 ∧ p.2 ≤ lenAt L cs f) (hl : xs.length ≤ 40) :
    Calls Try.prog 9 #[.agg #[.int .i64 num, .int .i64 L, .slice A cs.length cp], .slice A2 xs.length c2, .int .i64 f, .int .i64 t] w fun e w' => ∃ (us : List (Int × Int)) (A' : Option Addr) (c' : Nat), Moved cs f t xs us ∧ us.length ≤ xs.length + 12 ∧ (∀ p ∈ us, p.1 < p.2 ∧ 0 ≤ p.1 ∧ p.2 ≤ lenAt L cs t) ∧ e = .returned (.tuple #[.slice A' us.length c', .bool true]) ∧ Pairs w' w'.heap.size A' us ∧ Below w.heap.size w w' := by
  have hT := RdBox.new (c := cp) (num := num) (L := L) (T := 24) h hB
  have hal : Below w.heap.size w (w.alloc (.cells #[.int .i64 num, .int .i64 L, .slice A cs.length cp] 24)) := (Below.refl _ _).alloc (Nat.le_refl _) _
  generalize hW : w.alloc (.cells #[.int .i64 num, .int .i64 L, .slice A cs.length cp] 24) = w0 at hT hal
  have hz : w0.heap.size = w.heap.size + 1 := by rw [← hW]; simp
  have HW := Lib.hid hW
  clear hW h
  have h20 := h2.below (hal.mono hB2)
  have hB20 : B2 ≤ w0.heap.size := by omega
  have HO := Lib.hid ho
  have HN := Lib.hid hN
  have HS := Lib.hid hs
  have hT0 := hT
  obtain ⟨-, q0, q1, q2, -, _⟩ := id hT
  clear ho hN hs h2
  go_enter Try.func9, Try.ntmps9
  go_wp2_with fail
  rw [HW.out]
  clear HW q0 q1 q2
  go_loopw [10, 11] (fun out iv wr => ∃ (k : Nat) (Lo : List (Int × Int)), k ≤ xs.length ∧ iv = .int .i64 k ∧ wr.ownsRow w0.heap.size 26 2 out Lo.length (pcells Lo) ∧ Hid (∀ c, InS Lo c ↔ ∃ d, (∃ j, j < k ∧ (atp xs j).1 ≤ d ∧ d < (atp xs j).2) ∧ runL gF (movesF cs f t) d = some c) ∧ Hid (∀ p ∈ Lo, p.1 < p.2 ∧ 0 ≤ p.1 ∧ p.2 ≤ lenAt L cs t) ∧ Lo.length ≤ k * 13 ∧ Below w0.heap.size w0 wr) (fun _ iv _ => xs.length - (intOf iv).toNat)
  case atStart => exact ⟨0, [], Nat.zero_le _, rfl, World.ownsRow_nil _ _ _ _, Lib.hid fun c => ⟨fun hh => absurd hh inS_nil, fun ⟨_, ⟨_, hh, _⟩, _⟩ => absurd hh (Nat.not_lt_zero _)⟩, Lib.hid (fun p hp => by cases hp), Nat.zero_le _, Below.refl _ _⟩
  case round =>
    obtain ⟨k, Lo, hk, rfl, hown, hin, hrg, hll, hb⟩ := hrel
    have hbs := hb.size
    have hT1 := hT0.below hb hT0.sz
    by_cases hlt : k < xs.length
    · obtain ⟨b, o, rfl, hbb, hcc⟩ := (h20.below (hb.mono hB20)).at_ hlt
      obtain ⟨y1, y2⟩ := hcc k hlt
      clear hcc
      obtain ⟨s0, s1⟩ := HS.out _ (atp_mem hlt)
      have s2 := HN.out.1 _ (atp_mem hlt)
      have v1 : (k : Int) < (xs.length : Int) := by omega
      have hbw : b < wr.heap.size := by omega
      have hpz := hT1.sz
      obtain ⟨hCh, q0, q1, q2, hlt2, _⟩ := id hT1
      have HY : Hid (∀ us, KeptOut cs (atp xs k) f t us → Moved cs f t [atp xs k] us ∧ us.length ≤ 13 ∧ ∀ p ∈ us, p.1 < p.2 ∧ 0 ≤ p.1 ∧ p.2 ≤ lenAt L cs t) := Lib.hid fun us hk => kept_one HO.out hc hf ht s2 s0 s1 hk
      have HSP : Hid (SpOk L cs (atp xs k) (f : Int).toNat) := Lib.hid ⟨s0, s2, by rw [Int.toNat_natCast]; exact s1⟩
      have HV : Hid (VersOk cs f t) := Lib.hid ⟨⟨by omega, by omega⟩, by omega, by omega⟩
      generalize hy : atp xs k = y at *
      have HYE := Lib.hid hy
      clear hy
      have hBz : B ≤ wr.heap.size := by omega
      go_upto_region 5 with fail
      go_region_held3 (fun w' => Below wr.heap.size wr w' ∧ w'.cell? ⟨w.heap.size, 0, none⟩ = some (.int .i64 num) ∧ w'.cell? ⟨w.heap.size, 1, none⟩ = some (.int .i64 L) ∧ w'.cell? ⟨w.heap.size, 2, none⟩ = some (.slice A cs.length cp) ∧ w'.cell? ⟨b, o + k * 2, none⟩ = some (.int .i64 y.1) ∧ w'.cell? ⟨b, o + k * 2 + 1, none⟩ = some (.int .i64 y.2)) ((refine held5 hpz hbw q0 q1 q2 y1 y2 ?_; first | assumption | exact hbm2 | exact Below.refl _ _ | exact (Below.refl _ _).drew | exact below_drewN (Below.refl _ _) _ | fail)) (first
        | (go_at_call 8; refine (lKept A cp B num L cs y f t _ ?_ ?_ (by omega)).mono ?_; (solve | exact hCh.below (Below.mono (And.left (by assumption)) hBz)); (solve | exact Nat.le_trans hBz (Below.size (And.left (by assumption)))); (rintro e wm ⟨-, -, -, r4, hbm⟩; obtain ⟨us, A5, c5, ko, rfl, hP5⟩ := r4 HO.out HV.out HSP.out; have hbm2 : Below wr.heap.size wr wm := Below.trans (And.left (by assumption)) (hbm.mono (Below.size (And.left (by assumption))))))
        | fail)
      all_goals
        have KO := Lib.hid (HY.out us (by simpa only [Int.toNat_natCast] using ko))
        clear ko HY
        have h13 := KO.out.2.1
        have hown2 := owns_keep hown hbm2
        have hb2 := hb.trans (hbm2.mono hbs)
        clear hown q0 q1 q2 y1 y2 hT1 hCh
        go_wp2_with (first
          | (at_builtin; go_loud (refine wpList_append_any ?_ (.tmp 35) (.tmp 36) ?_ w0.heap.size u10 Lo.length Lo ?_ ?_ A5 c5 _ us hP5 ?_ ?_ ?_ ?_; (solve | (rfl)); (solve | (rfl)); (solve | (rfl)); (solve | (exact hown2)); (solve | (rfl)); (solve | (omega)); (solve | (exact hb2.size)); (intro v3 w3 hown3 hgrow3; have hb3 := hb2.grown hgrow3 hb2.size fun k hk => (hown2.lt k hk).1)))
          | fail)
        have hle : Lo.length + us.length = (Lo ++ us).length := by simp
        rw [hle] at hown3
        refine ⟨⟨k + 1, Lo ++ us, by omega, by go_num, hown3, Lib.hid fun c => ?_, Lib.hid fun p hp => ?_, by simp; omega, hb3⟩, by simp [intOf]; omega⟩
        · rw [inS_append, hin.out c, KO.out.1.2 c]
          constructor
          · rintro (⟨d, ⟨j, h1, h2⟩, h3⟩ | ⟨d, h2, h3⟩)
            · exact ⟨d, ⟨j, by omega, h2⟩, h3⟩
            · rw [inS_one] at h2; exact ⟨d, ⟨k, by omega, by rw [HYE.out]; exact h2⟩, h3⟩
          · rintro ⟨d, ⟨j, h1, h2⟩, h3⟩
            by_cases e : j = k
            · subst e; rw [HYE.out] at h2; exact .inr ⟨d, inS_one.2 h2, h3⟩
            · exact .inl ⟨d, ⟨j, by omega, h2⟩, h3⟩
        · rcases List.mem_append.1 hp with h | h
          · exact hrg.out p h
          · exact KO.out.2.2 p h
    · obtain rfl : k = xs.length := by omega
      obtain ⟨_, A4, c4, rfl, hP4⟩ := owns_pairs hown
      have hlb := len_bd HO.out ht
      have HLO := Lib.hid (letL_iff.2 ⟨fun p hp => by have := hrg.out p hp; unfold LetS; omega, (by omega : Lo.length ≤ 1000)⟩)
      clear hown hlb
      go_wp2_with fail
      refine (lUnionF A4 c4 _ Lo wr hP4 (Nat.le_refl _) (by omega)).mono ?_
      rintro e w5 ⟨-, hu, hb5⟩
      obtain ⟨us, A5, c5, n1, n2, n3, rfl, hP5⟩ := hu HLO.out
      have hM : Moved cs f t xs us := ⟨n1, fun c => by
        rw [n2 c, hin.out c]
        constructor
        · rintro ⟨d, h1, h2⟩; exact ⟨d, inS_at.2 h1, h2⟩
        · rintro ⟨d, h1, h2⟩; exact ⟨d, inS_at.1 h1, h2⟩⟩
      have HM := Lib.hid hM
      clear hM n1 n2 n3 hu
      go_wp2
      go_ret2
      exact ⟨us, A5, c5, HM.out, HM.out.count HO.out hc hf ht HN.out HS.out, HM.out.within HO.out hf ht HS.out, rfl, hP5, hal.trans ((hb.trans (hb5.mono hbs)).mono (by omega))⟩
end Go.Proofs.Ytpcpkoaigjbdhaa
