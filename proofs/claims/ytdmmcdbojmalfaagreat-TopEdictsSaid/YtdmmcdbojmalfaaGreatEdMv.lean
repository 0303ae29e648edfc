/- TopEdicts: the edicts on a version: the order. -/
import Derived.Test.YtdmmcdbojmalfaaGreatEdQ
import Derived.Test.YtdmmcdbojmalfaaGreatEdM
import Derived.BigQuiet
import Derived.IntWalk
import Derived.BigRegion
import Derived.Test.YtdmmcdbojmalfaaGreatEdKp
namespace Go.Proofs.YtdmmcdbojmalfaaGreat
open Go.RowKit
theorem flat_set : ∀ (ys : List Edc) (k : Nat) (x : Edc), k < ys.length →
    ((((((((ys.flatMap encE).set (k * 8) (.int .i64 x.num)).set (k * 8 + 1) (.int .i64 x.topic)).set (k * 8 + 2) (.int .i64 x.val)).set (k * 8 + 3) (.int .i64 x.dir)).set (k * 8 + 4) (.int .i64 x.fr)).set (k * 8 + 5) (.int .i64 x.til)).set (k * 8 + 6) (.int .i64 x.st)).set (k * 8 + 7) (.int .i64 x.en) = (ys.set k x).flatMap encE
  | [], k, x, h => by simp at h
  | y :: ys, 0, x, _ => by simp [encE]
  | y :: ys, k + 1, x, h => by
    have ih := flat_set ys k x (by simpa using h)
    rw [List.set_cons_succ, List.flatMap_cons, List.flatMap_cons, ← ih]
    have e : ∀ (l : List Value) (i : Nat) (u : Value), (encE y ++ l).set ((k + 1) * 8 + i) u = encE y ++ l.set (k * 8 + i) u := fun l i u => by
      rw [List.set_append_right _ _ (by rw [encE_len]; omega), encE_len]
      rw [show (k + 1) * 8 + i - 8 = k * 8 + i by omega]
    have e0 : ∀ (l : List Value) (u : Value), (encE y ++ l).set ((k + 1) * 8) u = encE y ++ l.set (k * 8) u := fun l u => e l 0 u
    rw [e0, e, e, e, e, e, e, e]
/-- An edict that is written into an own row. -/
def setE (w : World) (g o : Nat) (x : Edc) : World :=
  (((((((w.setCell ⟨g, o, none⟩ (.int .i64 x.num)).setCell ⟨g, o + 1, none⟩ (.int .i64 x.topic)).setCell ⟨g, o + 2, none⟩ (.int .i64 x.val)).setCell ⟨g, o + 3, none⟩ (.int .i64 x.dir)).setCell ⟨g, o + 4, none⟩ (.int .i64 x.fr)).setCell ⟨g, o + 5, none⟩ (.int .i64 x.til)).setCell ⟨g, o + 6, none⟩ (.int .i64 x.st)).setCell ⟨g, o + 7, none⟩ (.int .i64 x.en)
theorem own_setE {w : World} {base g n cap : Nat} {ys : List Edc} (h : w.ownsRow base 65 8 (.slice (some ⟨g, 0, none⟩) n cap) n (ys.flatMap encE)) (hl : ys.length = n) {k : Nat} (hk : k < n) (x : Edc) :
    (setE w g (k * 8) x).ownsRow base 65 8 (.slice (some ⟨g, 0, none⟩) n cap) n ((ys.set k x).flatMap encE) := by
  rw [← flat_set ys k x (by omega)]
  exact ((((((((h.stored _ _).1.stored _ _).1.stored _ _).1.stored _ _).1.stored _ _).1.stored _ _).1.stored _ _).1.stored _ _).1
theorem below_setE {B : Nat} {w0 w : World} {g o : Nat} {x : Edc} (h : Below B w0 w) (hg : B ≤ g) : Below B w0 (setE w g o x) :=
  (((((((h.setCell (p := ⟨g, _, none⟩) hg _).setCell (p := ⟨g, _, none⟩) hg _).setCell (p := ⟨g, _, none⟩) hg _).setCell (p := ⟨g, _, none⟩) hg _).setCell (p := ⟨g, _, none⟩) hg _).setCell (p := ⟨g, _, none⟩) hg _).setCell (p := ⟨g, _, none⟩) hg _).setCell (p := ⟨g, _, none⟩) hg _
/-- All but the one at k are in order, and those behind k are greater than it. -/
structure AlmE (ys : List Edc) (k : Nat) : Prop where
  p1 : ∀ a b (ha : a < ys.length) (hb : b < ys.length), a < b → a ≠ k → b ≠ k → ys[a].num < ys[b].num
  p2 : ∀ b (hk : k < ys.length) (hb : b < ys.length), k < b → ys[k].num < ys[b].num
theorem alm_new {ys : List Edc} (h : AscN ys) (x : Edc) : AlmE (ys ++ [x]) ys.length := by
  have h' := List.pairwise_iff_getElem.1 h
  constructor
  · intro a b ha hb hab hak hbk
    have hb' : b < ys.length := by simp at hb; omega
    rw [List.getElem_append_left (by omega : a < ys.length), List.getElem_append_left hb']
    exact h' a b (by omega) hb' hab
  · intro b hk hb hkb
    simp at hb; omega
theorem alm_done {ys : List Edc} {k : Nat} (h : AlmE ys k) (hk : k < ys.length) (hn : (ys.map (·.num)).Nodup) (he : ∀ m, k = m + 1 → ∀ (hm : m < ys.length), ¬ ys[k].num < ys[m].num) : AscN ys := by
  refine List.pairwise_iff_getElem.2 fun a b ha hb hab => ?_
  by_cases e1 : a = k
  · subst e1; exact h.p2 b hk hb hab
  · by_cases e2 : b = k
    · subst e2
      obtain ⟨m, rfl⟩ : ∃ m, b = m + 1 := ⟨b - 1, by omega⟩
      have h1 := he m rfl (by omega)
      have hne : ys[m].num ≠ ys[m + 1].num := fun hh => by
        have h2 : (ys.map (·.num))[m]'(by simp; omega) = (ys.map (·.num))[m + 1]'(by simpa using hk) := by simpa using hh
        have := (List.getElem_inj hn).1 h2
        omega
      have h3 : ys[m].num < ys[m + 1].num := by omega
      by_cases e3 : a = m
      · subst e3; exact h3
      · have := h.p1 a m ha (by omega) (by omega) (by omega) (by omega)
        omega
    · exact h.p1 a b ha hb hab e1 e2
theorem alm_swap {ys : List Edc} {m : Nat} (h : AlmE ys (m + 1)) (hk : m + 1 < ys.length) (hm : m < ys.length) (hlt : ys[m + 1].num < ys[m].num) : AlmE ((ys.set (m + 1) ys[m]).set m ys[m + 1]) m := by
  have hg : ∀ i (hi : i < ys.length), ((ys.set (m + 1) ys[m]).set m ys[m + 1])[i]'(by simpa using hi) = if i = m then ys[m + 1] else if i = m + 1 then ys[m] else ys[i] := fun i hi => by
    rw [List.getElem_set]
    by_cases e : m = i
    · subst e; simp
    · rw [if_neg e, if_neg (fun hh => e hh.symm), List.getElem_set]
      by_cases e2 : m + 1 = i
      · subst e2; simp
      · rw [if_neg e2, if_neg (fun hh => e2 hh.symm)]
  constructor
  · intro a b ha hb hab ham hbm
    have ha' : a < ys.length := by simpa using ha
    have hb' : b < ys.length := by simpa using hb
    rw [hg a ha', hg b hb', if_neg ham, if_neg hbm]
    by_cases e1 : a = m + 1
    · subst e1
      rw [if_pos rfl, if_neg (by omega)]
      exact h.p1 m b hm hb' (by omega) (by omega) (by omega)
    · rw [if_neg e1]
      by_cases e2 : b = m + 1
      · rw [if_pos e2]
        exact h.p1 a m ha' hm (by omega) (by omega) (by omega)
      · rw [if_neg e2]
        exact h.p1 a b ha' hb' hab e1 e2
  · intro b hk' hb hmb
    have hb' : b < ys.length := by simpa using hb
    rw [hg m hm, hg b hb', if_pos rfl, if_neg (by omega)]
    by_cases e2 : b = m + 1
    · rw [if_pos e2]; exact hlt
    · rw [if_neg e2]
      exact h.p2 b hk hb' (by omega)
theorem swap_perm {α : Type} : ∀ {ys : List α} {m : Nat} (hk : m + 1 < ys.length) (hm : m < ys.length), ((ys.set (m + 1) ys[m]).set m ys[m + 1]).Perm ys
  | a :: b :: ys, 0, _, _ => by simpa using List.Perm.swap a b ys
  | a :: ys, m + 1, hk, hm => by simpa using (swap_perm (ys := ys) (m := m) (by simpa using hk) (by simpa using hm))
/-- What Kept keeps of an edict's stretch from version 0 to version n. -/
noncomputable def kpF (cs : List Chg) (n : Nat) (e : Edc) : List (Int × Int) := by
  classical
  exact if h : ∃ us, KeptOut cs (e.fr, e.til) 0 n us then Classical.choose h else []
theorem kpF_of {cs : List Chg} {n : Nat} {e : Edc} {us : List (Int × Int)} (h : KeptOut cs (e.fr, e.til) 0 n us) : kpF cs n e = us := by
  have hx : ∃ us, KeptOut cs (e.fr, e.til) 0 n us := ⟨us, h⟩
  have hc : KeptOut cs (e.fr, e.til) 0 n (kpF cs n e) := by
    unfold kpF
    rw [dif_pos hx]
    exact Classical.choose_spec hx
  exact norm_unique hc.1 h.1 fun c => (hc.2.1 c).trans (h.2.1 c).symm
theorem heldM {wB w' : World} {a b o : Nat} {x0 x1 x2 z4 z5 : Value} (ha : a < wB.heap.size) (hb : b < wB.heap.size) (q0 : wB.cell? ⟨a, 0, none⟩ = some x0) (q1 : wB.cell? ⟨a, 1, none⟩ = some x1) (q2 : wB.cell? ⟨a, 2, none⟩ = some x2)
    (y4 : wB.cell? ⟨b, o + 4, none⟩ = some z4) (y5 : wB.cell? ⟨b, o + 5, none⟩ = some z5) (h : Below wB.heap.size wB w') :
    Below wB.heap.size wB w' ∧ w'.cell? ⟨a, 0, none⟩ = some x0 ∧ w'.cell? ⟨a, 1, none⟩ = some x1 ∧ w'.cell? ⟨a, 2, none⟩ = some x2 ∧ w'.cell? ⟨b, o + 4, none⟩ = some z4 ∧ w'.cell? ⟨b, o + 5, none⟩ = some z5 :=
  ⟨h, (h.cell (p := ⟨a, 0, none⟩) ha).trans q0, (h.cell (p := ⟨a, 1, none⟩) ha).trans q1, (h.cell (p := ⟨a, 2, none⟩) ha).trans q2, (h.cell (p := ⟨b, o + 4, none⟩) hb).trans y4, (h.cell (p := ⟨b, o + 5, none⟩) hb).trans y5⟩
def MovRes (cs : List Chg) (S : List Edc) (w : World) (e : Ending) (w' : World) : Prop :=
  ∃ (A : Option Addr) (c : Nat), e = .returned (.tuple #[.slice A (mvd (kpF cs cs.length) 0 S).length c, .bool true]) ∧ RowsK w' w'.heap.size A 8 encE (mvd (kpF cs cs.length) 0 S) ∧ Below w.heap.size w w'
set_option maxRecDepth 100000 in
set_option maxHeartbeats 16000000 in
theorem lMoved (AC A : Option Addr) (cC c B : Nat) (num L : Int) (cs : List Chg) (es S : List Edc) (w : World) (hC : Chs w B AC cs) (h : RowsK w B A 8 encE es) (hB : B ≤ w.heap.size) (hn : es.length ≤ 50) (hnd : (es.map (·.num)).Nodup) (hS : S.Perm es) (hSa : AscN S) (ho : RoadOk num L cs) (hsp : ∀ e ∈ S, SpOk L cs (e.fr, e.til) 0) (hml : ∀ k, (mvd (kpF cs cs.length) 0 (S.take k)).length ≤ 100000) :
    Calls Tryz.prog 9 #[.agg #[.int .i64 num, .int .i64 L, .slice AC cs.length cC], .slice A es.length c, .int .i64 cs.length] w (MovRes cs S w) := by
  have hT := RdBox.new (c := cC) (num := num) (L := L) (T := 24) hC hB
  have hb : Below w.heap.size w (w.alloc (.cells #[.int .i64 num, .int .i64 L, .slice AC cs.length cC] 24)) := (Below.refl _ _).alloc (Nat.le_refl _) _
  have hr1 := (h.more hB).below hb
  have HND := Lib.hid hnd
  have HS := Lib.hid hS
  have HSA := Lib.hid hSa
  have HRO := Lib.hid ho
  have HSP := Lib.hid hsp
  have HML := Lib.hid hml
  unfold MovRes
  obtain ⟨W, hW⟩ : ∃ W, w.heap.size = W := ⟨_, rfl⟩
  rw [hW] at hT hb hr1
  have HB := Lib.hid hb
  clear hC h hb hnd hS hSa ho hsp hml
  go_enter Tryz.func9, Tryz.ntmps9
  go_upto_region 1 with fail
  have hz1 : (w.alloc (.cells #[.int .i64 num, .int .i64 L, .slice AC cs.length cC] 24)).heap.size = W + 1 := by rw [← hW]; simp
  generalize w.alloc (.cells #[.int .i64 num, .int .i64 L, .slice AC cs.length cC] 24) = w1 at *
  have HT := Lib.hid hT
  clear hT
  go_wp2_with fail
  have hr0 : w1.ownsRow (W + 1) 65 8 (.slice none 0 0) 0 (([] : List Edc).flatMap encE) := World.ownsRow_nil _ _ _ _
  go_loopw [8, 9] (fun v i wr => ∃ (k : Nat) (ys : List Edc), k ≤ es.length ∧ i = .int .i64 k ∧ ys.Perm (es.take k) ∧ AscN ys ∧ wr.ownsRow (W + 1) 65 8 v k (ys.flatMap encE) ∧ Below (W + 1) w1 wr) (fun _ i _ => es.length - (intOf i).toNat)
  case atStart => exact ⟨0, [], Nat.zero_le _, rfl, List.Perm.refl _, List.Pairwise.nil, hr0, Below.refl _ _⟩
  case round =>
    obtain ⟨k, ys, hk, rfl, hp, ha, hown, hbk⟩ := hrel
    clear hr0
    have hsz := hbk.size
    by_cases hlt : k < es.length
    · obtain ⟨b, o, rfl, hbb, hcc⟩ := (hr1.below (hbk.mono (by omega))).at_ hlt
      have y0 := hcc k hlt 0 _ rfl
      have y1 := hcc k hlt 1 _ rfl
      have y2 := hcc k hlt 2 _ rfl
      have y3 := hcc k hlt 3 _ rfl
      have y4 := hcc k hlt 4 _ rfl
      have y5 := hcc k hlt 5 _ rfl
      have y6 := hcc k hlt 6 _ rfl
      have y7 := hcc k hlt 7 _ rfl
      simp only [Nat.add_zero] at y0
      have hyl : ys.length = k := by rw [hp.length_eq, List.length_take]; omega
      have hp' : (ys ++ [es[k]]).Perm (es.take (k + 1)) := by rw [List.take_succ_eq_append_getElem hlt]; exact hp.append_right _
      have hal := alm_new ha es[k]
      rw [hyl] at hal
      clear hcc
      generalize es[k] = x at *
      have HP := Lib.hid hp'
      have HAL := Lib.hid hal
      have HO := Lib.hid hown
      have HBK := Lib.hid hbk
      have hkI : (k : Int) < (es.length : Int) := by omega
      clear hp hp' hal hown hbk ha
      go_upto_region 6 with (first
        | (at_builtin; go_loud (refine wpList_push ?_ (.tmp 23) (.tmp 28) 26 ?_ (W + 1) 65 8 64 Tryz.underlying26 info65 ?_ ?_ ?_ u8 k (ys.flatMap encE) ?_ HO.out wr.heap.size ?_ ?_ ?_ ?_ ?_ ?_ ?_; (solve | (rfl)); (solve | (rfl)); (solve | (rfl)); (solve | (decide)); (solve | (decide)); (solve | (rfl)); (solve | (rfl)); (solve | (rfl)); (solve | (rfl)); (solve | (intro u hu; simp at hu; rcases hu with rfl | rfl | rfl | rfl | rfl | rfl | rfl | rfl <;> rfl)); (solve | (omega)); (solve | (omega)); (intro A7 c7 w7 hp7; have HPU := Lib.hid hp7; clear hp7)))
        | fail)
      have hown7 : w7.ownsRow (W + 1) 65 8 (.slice A7 (k + 1) c7) (k + 1) ((ys ++ [x]).flatMap encE) := by rw [flat_one]; exact HPU.out.own
      have hbk7 := HBK.out.trans HPU.out.below
      obtain ⟨g, cap, hv, hgl, hgh⟩ := hown7.form (Nat.succ_pos k)
      injection hv with hv1 _ hv2
      subst hv1 hv2
      have hl7 : (ys ++ [x]).length = k + 1 := by simp [hyl]
      generalize ys ++ [x] = zs at *
      clear y0 y1 y2 y3 y4 y5 y6 y7 HO HBK HPU
      go_wp2_with fail
      go_loopw [10] (fun i w5 => ∃ (m : Nat) (zs : List Edc), m ≤ k ∧ i = .int .i64 m ∧ zs.length = k + 1 ∧ Hid (zs.Perm (es.take (k + 1))) ∧ Hid (AlmE zs m) ∧ Hid (w5.ownsRow (W + 1) 65 8 (.slice (some ⟨g, 0, none⟩) (k + 1) c7) (k + 1) (zs.flatMap encE)) ∧ Hid (Below (W + 1) w1 w5)) (fun i _ => (intOf i).toNat)
      case atStart => exact ⟨k, zs, Nat.le_refl _, rfl, hl7, HP, HAL, Lib.hid hown7, Lib.hid hbk7⟩
      case round =>
        clear hown7 hbk7 HP HAL hl7 hyl
        clear zs
        obtain ⟨m, zs, hm, rfl, hzl, HP, HAL, HO, HBK⟩ := hrel
        have HNZ : Hid ((zs.map (·.num)).Nodup) := Lib.hid ((HP.out.map _).nodup_iff.2 (by
          have := List.take_sublist (k + 1) es
          exact (this.map _).nodup HND.out))
        cases m with
        | zero =>
          have HA := Lib.hid (alm_done HAL.out (by omega) HNZ.out (fun m hm => by omega))
          go_upto_region 7 with fail
          go_quiet (fail)
          go_wp2_with fail
          exact ⟨⟨k + 1, zs, by omega, by go_num, HP.out, HA.out, HO.out, below_drewN HBK.out _⟩, by simp [intOf]; omega⟩
        | succ m =>
          have hrow := own_rowW encE_len HO.out hzl
          have hm1 : m + 1 < zs.length := by omega
          have hm0 : m < zs.length := by omega
          have a0 := (hrow (m + 1) hm1 0 _ rfl).1
          have b0 := (hrow m hm0 0 _ rfl).1
          simp only [Nat.add_zero] at a0 b0
          have s1 : IntKind.i64.wrap ((m : Int) + 1 - 1) = m := by rw [IntWalk.i64_in _ (by omega)]; omega
          have d0 : decide ((0 : Int) < (m : Int) + 1) = true := decide_eq_true (by omega)
          have i1 : (m : Int) + 1 < (k : Int) + 1 := by omega
          have i2 : (m : Int) < (k : Int) + 1 := by omega
          have i3 : m + 1 < k + 1 := by omega
          have i4 : m < k + 1 := by omega
          clear hrow
          by_cases hlt2 : zs[m + 1].num < zs[m].num
          rotate_left
          · have HA := Lib.hid (alm_done HAL.out hm1 HNZ.out (fun m' hm' hm2 => by obtain rfl : m = m' := by omega
                                                                                   exact hlt2))
            generalize zs[m + 1].num = p1 at *
            generalize zs[m].num = p2 at *
            have hd : decide (p1 < p2) = false := decide_eq_false hlt2
            go_upto_region 7 with fail
            go_quiet (fail)
            go_wp2_with fail
            exact ⟨⟨k + 1, zs, by omega, by go_num, HP.out, HA.out, HO.out, below_drewN HBK.out _⟩, by simp [intOf]; omega⟩
          · have hZA := Lib.hid (alm_swap HAL.out hm1 hm0 hlt2)
            have hPP := Lib.hid ((swap_perm hm1 hm0).trans HP.out)
            have hd : decide (zs[m + 1].num < zs[m].num) = true := decide_eq_true hlt2
            go_upto_region 7 with fail
            go_quiet (fail)
            have HO2 := Lib.hid (owns_keep HO.out (below_drewN (Below.refl _ _) nq))
            have HBK2 := Lib.hid (below_drewN HBK.out nq)
            clear a0 b0 HO HBK hd
            generalize wr.drewN nq = wq at *
            have hrow := own_rowW encE_len HO2.out hzl
            have hra := fun i v h => hrow (m + 1) hm1 i v h
            have hrb := fun i v h => hrow m hm0 i v h
            have hOO := fun (xa xb : Edc) => Lib.hid (own_setE (own_setE (HO2.out) hzl i3 xb) (by simp [hzl]) i4 xa)
            have hBB := fun (xa xb : Edc) => Lib.hid (below_setE (g := g) (o := m * 8) (x := xa) (below_setE (g := g) (o := (m + 1) * 8) (x := xb) HBK2.out hgl) hgl)
            have HSW : Hid (∀ xa xb, xa = zs[m + 1] → xb = zs[m] → (zs.set (m + 1) xb).set m xa = (zs.set (m + 1) zs[m]).set m zs[m + 1]) := Lib.hid fun xa xb h1 h2 => by rw [h1, h2]
            have hsw := HSW.out _ _ rfl rfl
            have hO3 := hOO zs[m + 1] zs[m]
            have hB3 := hBB zs[m + 1] zs[m]
            clear hrow hOO hBB HSW hsw
            generalize zs[m + 1] = xa at *
            generalize zs[m] = xb at *
            have a0 := hra 0 _ rfl
            have a1 := hra 1 _ rfl
            have a2 := hra 2 _ rfl
            have a3 := hra 3 _ rfl
            have a4 := hra 4 _ rfl
            have a5 := hra 5 _ rfl
            have a6 := hra 6 _ rfl
            have a7 := hra 7 _ rfl
            have b0 := hrb 0 _ rfl
            have b1 := hrb 1 _ rfl
            have b2 := hrb 2 _ rfl
            have b3 := hrb 3 _ rfl
            have b4 := hrb 4 _ rfl
            have b5 := hrb 5 _ rfl
            have b6 := hrb 6 _ rfl
            have b7 := hrb 7 _ rfl
            clear hra hrb
            simp only [Nat.add_zero] at a0 b0
            obtain ⟨a0, fa0⟩ := a0
            obtain ⟨a1, fa1⟩ := a1
            obtain ⟨a2, fa2⟩ := a2
            obtain ⟨a3, fa3⟩ := a3
            obtain ⟨a4, fa4⟩ := a4
            obtain ⟨a5, fa5⟩ := a5
            obtain ⟨a6, fa6⟩ := a6
            obtain ⟨a7, fa7⟩ := a7
            obtain ⟨b0, fb0⟩ := b0
            obtain ⟨b1, fb1⟩ := b1
            obtain ⟨b2, fb2⟩ := b2
            obtain ⟨b3, fb3⟩ := b3
            obtain ⟨b4, fb4⟩ := b4
            obtain ⟨b5, fb5⟩ := b5
            obtain ⟨b6, fb6⟩ := b6
            obtain ⟨b7, fb7⟩ := b7
            go_upto_region 9 with fail
            go_region
            all_goals
              clear a0 a1 a2 a3 a4 a5 a6 a7 b0 b1 b2 b3 b4 b5 b6 b7 fa0 fa1 fa2 fa3 fa4 fa5 fa6 fa7 fb0 fb1 fb2 fb3 fb4 fb5 fb6 fb7
              go_wp2_with fail
              exact ⟨⟨m, (zs.set (m + 1) xb).set m xa, by omega, by go_num, by simp [hzl], hPP, hZA, Lib.hid (World.ownsRow.drew hO3.out), Lib.hid hB3.out.drew⟩, by simp [intOf]⟩
    · obtain rfl : k = es.length := by omega
      rw [List.take_length] at hp
      obtain rfl := asc_unique ha HSA.out (hp.trans HS.out.symm)
      obtain ⟨hl, A2, c2, rfl, hrr⟩ := own_rows encE_len hown (by decide)
      have HBW := Lib.hid (HB.out.trans (hbk.mono (by omega)))
      have hT2 := HT.out.below (hbk.mono (show W + 1 ≤ W + 1 from Nat.le_refl _)) (Nat.lt_succ_self W)
      obtain ⟨w2, rfl⟩ : ∃ w2 : World, w2 = wr := ⟨_, rfl⟩
      have h40 := HRO.out.2.2.1
      clear hown hbk hp ha HT HB HND hr1
      go_wp2_with fail
      have hr0 : w2.ownsRow w2.heap.size 65 8 (.slice none 0 0) (mvd (kpF cs cs.length) 0 (ys.take 0)).length ((mvd (kpF cs cs.length) 0 (ys.take 0)).flatMap encE) := World.ownsRow_nil _ _ _ _
      go_loopw [11, 12] (fun v i wr => ∃ k : Nat, k ≤ es.length ∧ i = .int .i64 k ∧ wr.ownsRow w2.heap.size 65 8 v (mvd (kpF cs cs.length) 0 (ys.take k)).length ((mvd (kpF cs cs.length) 0 (ys.take k)).flatMap encE) ∧ Below w2.heap.size w2 wr) (fun _ i _ => es.length - (intOf i).toNat)
      case atStart => exact ⟨0, Nat.zero_le _, rfl, hr0, Below.refl _ _⟩
      case round =>
        obtain ⟨k, hk, rfl, hown, hbk⟩ := hrel
        clear hr0
        have hsz2 := hbk.size
        by_cases hlt : k < ys.length
        · have hltI : (k : Int) < (es.length : Int) := by omega
          obtain ⟨b, o, rfl, hbb, hcc⟩ := (hrr.below hbk).at_ hlt
          have y4 := hcc k hlt 4 _ rfl
          have y5 := hcc k hlt 5 _ rfl
          clear hcc
          have hTr := hT2.below hbk (by omega)
          obtain ⟨hch, q0, q1, q2, -, _⟩ := id hTr
          have hWr : W < wr.heap.size := by omega
          have hbr : b < wr.heap.size := by omega
          have hspx := Lib.hid (HSP.out _ (List.getElem_mem hlt))
          have hver : VersOk cs 0 cs.length := ⟨⟨by omega, by omega⟩, by omega, by omega⟩
          have HVER := Lib.hid hver
          have HMk : Hid (mvd (kpF cs cs.length) 0 (ys.take (k + 1)) = mvd (kpF cs cs.length) 0 (ys.take k) ++ pcs ys[k] (mvd (kpF cs cs.length) 0 (ys.take k)).length (kpF cs cs.length ys[k])) := Lib.hid (by rw [List.take_succ_eq_append_getElem hlt, mvd_snoc, Nat.zero_add])
          generalize hx : ys[k] = x at *
          have HXX := Lib.hid hx
          clear hx hver
          have hBr : B ≤ wr.heap.size := by have := hTr.lt; omega
          have hc9 : cs.length ≤ 9223372036854775807 := by omega
          have HO := Lib.hid hown
          have HBK := Lib.hid hbk
          have HTR := Lib.hid hTr
          clear hown hbk hch hTr
          go_upto_region 14 with fail
          go_region_held3 (fun w' => Below wr.heap.size wr w' ∧ w'.cell? ⟨W, 0, none⟩ = some (.int .i64 num) ∧ w'.cell? ⟨W, 1, none⟩ = some (.int .i64 L) ∧ w'.cell? ⟨W, 2, none⟩ = some (.slice AC cs.length cC) ∧ w'.cell? ⟨b, o + k * 8 + 4, none⟩ = some (.int .i64 x.fr) ∧ w'.cell? ⟨b, o + k * 8 + 5, none⟩ = some (.int .i64 x.til)) ((refine heldM hWr hbr q0 q1 q2 y4 y5 ?_; first | assumption | exact hbm2 | exact Below.refl _ _ | exact (Below.refl _ _).drew | exact below_drewN (Below.refl _ _) _ | fail)) (first
            | (go_at_call 17; refine (lKept2 AC cC B num L cs (x.fr, x.til) 0 cs.length _ ?_ ?_ hc9).mono ?_; (solve | exact HTR.out.ch.below (Below.mono (And.left (by assumption)) hBr)); (solve | exact Nat.le_trans hBr (Below.size (And.left (by assumption)))); (rintro e wk ⟨-, -, -, r4, hbm⟩); (obtain ⟨us, Ak, ck, hK, rfl, hP, hlw⟩ := r4 HRO.out HVER.out hspx.out); have hbm2 : Below wr.heap.size wr wk := Below.trans (And.left (by assumption)) (hbm.mono (Below.size (And.left (by assumption)))))
            | fail)
          all_goals
            have hkp : kpF cs cs.length x = us := kpF_of (by simpa using hK)
            rw [hkp] at HMk
            have hwk := hbm2.size
            obtain ⟨gk, hgk, hgk2, hcc⟩ : ∃ gk, (0 < us.length → Ak = some ⟨gk, 0, none⟩ ∧ gk < wk.heap.size) ∧ wr.heap.size ≤ gk ∧ ∀ t, t < us.length → wk.cell? ⟨gk, t * 2, none⟩ = some (.int .i64 (atp us t).1) ∧ wk.cell? ⟨gk, t * 2 + 1, none⟩ = some (.int .i64 (atp us t).2) := by
              rcases hlw with h0 | ⟨g, rfl, hg⟩
              · exact ⟨wr.heap.size, fun h => absurd h (by omega), Nat.le_refl _, fun t ht => absurd ht (by omega)⟩
              · refine ⟨g, fun h => ?_, hg, fun t ht => ?_⟩
                · obtain ⟨b2, o2, hA, hb2, -⟩ := hP.at_ h
                  injection hA with hA
                  injection hA with hA1 _ _
                  exact ⟨rfl, by rw [hA1]; exact hb2⟩
                · obtain ⟨b2, o2, hA, hb2, hc2⟩ := hP.at_ ht
                  injection hA with hA
                  injection hA with hA1 hA2 _
                  have := hc2 t ht
                  rw [← hA1, ← hA2, Nat.zero_add] at this
                  exact this
            have HGK := Lib.hid hgk
            have HKC := Lib.hid hcc
            have hownk := owns_keep HO.out hbm2
            have hvk : u11.ownBlock ≠ some gk := fun hh => by have := (HO.out.lt _ hh).2; omega
            have HBK2 := Lib.hid (HBK.out.trans (hbm2.mono hsz2))
            have HMk0 := HML.out (k + 1)
            rw [HMk.out, List.length_append, pcs_length] at HMk0
            generalize mvd (kpF cs cs.length) 0 (ys.take k) = ms at *
            have hin : wk.ownsRow w2.heap.size 65 8 u11 (ms ++ pcs x ms.length (us.take 0)).length ((ms ++ pcs x ms.length (us.take 0)).flatMap encE) := by simpa [pcs] using hownk
            have hsmall : us.length ≤ 9223372036854775807 := by omega
            clear hK r4 hP hlw hbm hbm2 hgk hcc hownk HO HBK q0 q1 q2 y4 y5 hkp
            go_wp2_with fail
            go_loopw [11, 15] (fun v j w5 => ∃ m : Nat, m ≤ us.length ∧ j = .int .i64 m ∧ w5.ownsRow w2.heap.size 65 8 v (ms ++ pcs x ms.length (us.take m)).length ((ms ++ pcs x ms.length (us.take m)).flatMap encE) ∧ v.ownBlock ≠ some gk ∧ Hid (∀ t, t < us.length → w5.cell? ⟨gk, t * 2, none⟩ = some (.int .i64 (atp us t).1) ∧ w5.cell? ⟨gk, t * 2 + 1, none⟩ = some (.int .i64 (atp us t).2)) ∧ Hid (Below w2.heap.size w2 w5) ∧ wk.heap.size ≤ w5.heap.size) (fun _ j _ => us.length - (intOf j).toNat)
            case atStart => exact ⟨0, Nat.zero_le _, rfl, hin, hvk, HKC, HBK2, Nat.le_refl _⟩
            case round =>
              obtain ⟨m, hm, rfl, hown, hvg, HKC, HBK, hwz⟩ := hrel
              clear hin hvk
              by_cases hltm : m < us.length
              · obtain ⟨rfl, hgl⟩ := HGK.out (by omega)
                obtain ⟨t0, t1⟩ := HKC.out m hltm
                obtain ⟨b3, o3, hA3, hbb3, hc3⟩ := (hrr.below HBK.out).at_ hlt
                injection hA3 with hA3
                injection hA3 with hA31 hA32 _
                subst hA31 hA32
                have hxe := HXX.out
                have hc4 := hc3 k hlt
                rw [hxe] at hc4
                have y0 := hc4 0 _ rfl
                have y1 := hc4 1 _ rfl
                have y2 := hc4 2 _ rfl
                have y3 := hc4 3 _ rfl
                have y4 := hc4 4 _ rfl
                have y5 := hc4 5 _ rfl
                have y6 := hc4 6 _ rfl
                have y7 := hc4 7 _ rfl
                simp only [Nat.add_zero] at y0
                have htk : us.take (m + 1) = us.take m ++ [atp us m] := by rw [List.take_succ_eq_append_getElem hltm]; simp [atp, hltm]
                have HPC : Hid (ms ++ pcs x ms.length (us.take (m + 1)) = (ms ++ pcs x ms.length (us.take m)) ++ [{ x with num := ((ms.length + m + 1 : Nat) : Int), fr := (atp us m).1, til := (atp us m).2 }]) := Lib.hid (by
                  rw [htk, pcs_snoc, List.append_assoc, List.length_take, Nat.min_eq_left (Nat.le_of_lt hltm)])
                have hlen : (ms ++ pcs x ms.length (us.take m)).length = ms.length + m := by rw [List.length_append, pcs_length, List.length_take, Nat.min_eq_left (Nat.le_of_lt hltm)]
                have hown2 := hown
                rw [hlen] at hown2
                obtain ⟨⟨Av, cv, hv'⟩⟩ : Nonempty (∃ Av cv, u11 = .slice Av (ms.length + m) cv) := ⟨(own_rows encE_len hown2 (by decide)).2.elim fun A h => h.elim fun c h => ⟨A, c, h.1⟩⟩
                have hmI : (m : Int) < (us.length : Int) := by omega
                have hlm : ms.length + m ≤ 100000 := by omega
                subst hv'
                have hgl5 : gk < wr.heap.size := Nat.lt_of_lt_of_le hgl hwz
                have HO := Lib.hid hown2
                have HXV := Lib.hid hvg
                have s1 : IntKind.i64.wrap (((ms.length + m : Nat) : Int) + 1) = ((ms.length + m : Nat) : Int) + 1 := IntWalk.i64_in _ (by omega)
                have HLEN := Lib.hid hlen
                clear hc3 hc4 hxe htk hown hown2 hvg hlen
                generalize atp us m = p at *
                obtain ⟨nn, hnn⟩ : ∃ nn, ms.length + m = nn := ⟨_, rfl⟩
                rw [hnn] at HO HXV s1 HPC hlm
                have HNN := Lib.hid hnn
                rw [hnn]
                clear hnn
                go_upto_region 21 with fail
                go_region
                all_goals
                  have hbx : Below wr.heap.size wr ((wr.alloc (.cells #[.int .i64 ((nn : Int) + 1), .int .i64 x.topic, .int .i64 x.val, .int .i64 x.dir, .int .i64 p.1, .int .i64 p.2, .int .i64 x.st, .int .i64 x.en] 65)).drew) := ((Below.refl _ _).alloc (Nat.le_refl _) _).drew
                  have z0 : ((wr.alloc (.cells #[.int .i64 ((nn : Int) + 1), .int .i64 x.topic, .int .i64 x.val, .int .i64 x.dir, .int .i64 p.1, .int .i64 p.2, .int .i64 x.st, .int .i64 x.en] 65)).drew).cell? ⟨wr.heap.size, 0, none⟩ = some (.int .i64 ((nn : Int) + 1)) := by simp [go_sem]
                  have z1 : ((wr.alloc (.cells #[.int .i64 ((nn : Int) + 1), .int .i64 x.topic, .int .i64 x.val, .int .i64 x.dir, .int .i64 p.1, .int .i64 p.2, .int .i64 x.st, .int .i64 x.en] 65)).drew).cell? ⟨wr.heap.size, 1, none⟩ = some (.int .i64 x.topic) := by simp [go_sem]
                  have z2 : ((wr.alloc (.cells #[.int .i64 ((nn : Int) + 1), .int .i64 x.topic, .int .i64 x.val, .int .i64 x.dir, .int .i64 p.1, .int .i64 p.2, .int .i64 x.st, .int .i64 x.en] 65)).drew).cell? ⟨wr.heap.size, 2, none⟩ = some (.int .i64 x.val) := by simp [go_sem]
                  have z3 : ((wr.alloc (.cells #[.int .i64 ((nn : Int) + 1), .int .i64 x.topic, .int .i64 x.val, .int .i64 x.dir, .int .i64 p.1, .int .i64 p.2, .int .i64 x.st, .int .i64 x.en] 65)).drew).cell? ⟨wr.heap.size, 3, none⟩ = some (.int .i64 x.dir) := by simp [go_sem]
                  have z4 : ((wr.alloc (.cells #[.int .i64 ((nn : Int) + 1), .int .i64 x.topic, .int .i64 x.val, .int .i64 x.dir, .int .i64 p.1, .int .i64 p.2, .int .i64 x.st, .int .i64 x.en] 65)).drew).cell? ⟨wr.heap.size, 4, none⟩ = some (.int .i64 p.1) := by simp [go_sem]
                  have z5 : ((wr.alloc (.cells #[.int .i64 ((nn : Int) + 1), .int .i64 x.topic, .int .i64 x.val, .int .i64 x.dir, .int .i64 p.1, .int .i64 p.2, .int .i64 x.st, .int .i64 x.en] 65)).drew).cell? ⟨wr.heap.size, 5, none⟩ = some (.int .i64 p.2) := by simp [go_sem]
                  have z6 : ((wr.alloc (.cells #[.int .i64 ((nn : Int) + 1), .int .i64 x.topic, .int .i64 x.val, .int .i64 x.dir, .int .i64 p.1, .int .i64 p.2, .int .i64 x.st, .int .i64 x.en] 65)).drew).cell? ⟨wr.heap.size, 6, none⟩ = some (.int .i64 x.st) := by simp [go_sem]
                  have z7 : ((wr.alloc (.cells #[.int .i64 ((nn : Int) + 1), .int .i64 x.topic, .int .i64 x.val, .int .i64 x.dir, .int .i64 p.1, .int .i64 p.2, .int .i64 x.st, .int .i64 x.en] 65)).drew).cell? ⟨wr.heap.size, 7, none⟩ = some (.int .i64 x.en) := by simp [go_sem]
                  have HOb := Lib.hid (owns_keep HO.out hbx)
                  have hszb := hbx.size
                  have HBKb := Lib.hid (HBK.out.trans (hbx.mono (by have := HBK.out.size; exact this)))
                  have HKCb : Hid (∀ t, t < us.length → ((wr.alloc (.cells #[.int .i64 ((nn : Int) + 1), .int .i64 x.topic, .int .i64 x.val, .int .i64 x.dir, .int .i64 p.1, .int .i64 p.2, .int .i64 x.st, .int .i64 x.en] 65)).drew).cell? ⟨gk, t * 2, none⟩ = some (.int .i64 (atp us t).1) ∧ ((wr.alloc (.cells #[.int .i64 ((nn : Int) + 1), .int .i64 x.topic, .int .i64 x.val, .int .i64 x.dir, .int .i64 p.1, .int .i64 p.2, .int .i64 x.st, .int .i64 x.en] 65)).drew).cell? ⟨gk, t * 2 + 1, none⟩ = some (.int .i64 (atp us t).2)) := Lib.hid fun t ht => ⟨(hbx.cell (p := ⟨gk, t * 2, none⟩) hgl5).trans (HKC.out t ht).1, (hbx.cell (p := ⟨gk, t * 2 + 1, none⟩) hgl5).trans (HKC.out t ht).2⟩
                  have hw2b : w2.heap.size ≤ ((wr.alloc (.cells #[.int .i64 ((nn : Int) + 1), .int .i64 x.topic, .int .i64 x.val, .int .i64 x.dir, .int .i64 p.1, .int .i64 p.2, .int .i64 x.st, .int .i64 x.en] 65)).drew).heap.size := HBKb.out.size
                  clear hbx HO HBK HKC y0 y1 y2 y3 y4 y5 y6 y7 t0 t1
                  generalize (wr.alloc (.cells #[.int .i64 ((nn : Int) + 1), .int .i64 x.topic, .int .i64 x.val, .int .i64 x.dir, .int .i64 p.1, .int .i64 p.2, .int .i64 x.st, .int .i64 x.en] 65)).drew = wb at *
                  generalize wr.heap.size = X at *
                  go_wp2_with (first
                    | (at_builtin; go_loud (refine wpList_push ?_ (.tmp 116) (.tmp 118) 26 ?_ w2.heap.size 65 8 64 Tryz.underlying26 info65 ?_ ?_ ?_ (.slice Av nn cv) nn ((ms ++ pcs x ms.length (us.take m)).flatMap encE) ?_ HOb.out wb.heap.size ?_ ?_ ?_ ?_ ?_ ?_ ?_; (solve | (rfl)); (solve | (rfl)); (solve | (rfl)); (solve | (decide)); (solve | (decide)); (solve | (rfl)); (solve | (rfl)); (solve | (rfl)); (solve | (rfl)); (solve | (intro u hu; simp at hu; rcases hu with rfl | rfl | rfl | rfl | rfl | rfl | rfl | rfl <;> rfl)); (solve | (omega)); (solve | (omega)); (intro A7 c7 w7 hp7; have HPU := Lib.hid hp7; clear hp7)))
                    | fail)
                  have hfl : (ms ++ pcs x ms.length (us.take (m + 1))).flatMap encE = (ms ++ pcs x ms.length (us.take m)).flatMap encE ++ [.int .i64 ((nn : Int) + 1), .int .i64 x.topic, .int .i64 x.val, .int .i64 x.dir, .int .i64 p.1, .int .i64 p.2, .int .i64 x.st, .int .i64 x.en] := by
                    rw [HPC.out, flat_one]
                    simp only [encE]
                    rw [← HNN.out]
                    push_cast
                    rfl
                  have hll : (ms ++ pcs x ms.length (us.take (m + 1))).length = nn + 1 := by
                    rw [HPC.out, List.length_append, HLEN.out, HNN.out]
                    rfl
                  have hpw := HPU.out.size
                  refine ⟨⟨m + 1, by omega, by go_num, by rw [hll, hfl]; exact HPU.out.own, fun hh => ?_, Lib.hid fun t ht => ?_, Lib.hid (HBKb.out.trans HPU.out.below), by omega⟩, by simp [intOf]; omega⟩
                  · rcases HPU.out.at_ with e | ⟨q, e, hq⟩
                    · exact HXV.out (by rw [e]; exact hh)
                    · rw [e] at hh
                      injection hh with hh
                      omega
                  · obtain ⟨k1, k2⟩ := HKCb.out t ht
                    have hgb : gk < wb.heap.size := by omega
                    exact ⟨((HPU.out.far ⟨gk, t * 2, none⟩ hgb HXV.out).1).trans k1, ((HPU.out.far ⟨gk, t * 2 + 1, none⟩ hgb HXV.out).1).trans k2⟩
              · obtain rfl : m = us.length := by omega
                rw [List.take_length] at hown
                have HO := Lib.hid hown
                clear hown
                go_wp2_with fail
                exact ⟨⟨k + 1, by omega, by go_num, by rw [HMk.out]; exact HO.out, HBK.out⟩, by simp [intOf]; omega⟩
        · obtain rfl : k = ys.length := by omega
          rw [List.take_length] at hown
          have HO := Lib.hid hown
          have HBK := Lib.hid hbk
          clear hown hbk
          obtain ⟨-, A9, c9, hv9, hR9⟩ := own_rows encE_len HO.out (by decide)
          subst hv9
          have HR9 := Lib.hid hR9
          clear hR9
          go_wp2_with fail
          go_ret2
          exact ⟨A9, c9, rfl, HR9.out, by rw [hW]; exact HBW.out.trans (HBK.out.mono (by omega))⟩
end Go.Proofs.YtdmmcdbojmalfaaGreat
