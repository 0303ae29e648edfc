/- TopEdicts: mustStrip and Must. -/
import Derived.Test.YtdmmcdbojmalfaaGreatEdK
import Derived.Test.YtdmmcdbojmalfaaGreatEdP
import Derived.OwnWalk
namespace Go.Proofs.YtdmmcdbojmalfaaGreat
open Go.RowKit
/-- The first L cells of a row that may be written. -/
def IntsW (w : World) (g L : Nat) (f : Nat → Int) : Prop := g < w.heap.size ∧ ∀ m, m < L → w.cell? ⟨g, m, none⟩ = some (.int .i64 (f m)) ∧ w.frozen? ⟨g, m, none⟩ = false
section
variable {w w' : World} {g L : Nat} {f : Nat → Int}
theorem IntsW.below (h : IntsW w g L f) (hb : Below w.heap.size w w') : IntsW w' g L f :=
  ⟨Nat.lt_of_lt_of_le h.1 hb.size, fun m hm => ⟨(hb.cell (p := ⟨g, m, none⟩) h.1).trans (h.2 m hm).1, ((bcell hb).2 g m h.1).trans (h.2 m hm).2⟩⟩
theorem IntsW.store (h : IntsW w g L f) {k : Nat} (hk : k < L) (v : Int) : IntsW (w.setCell ⟨g, k, none⟩ (.int .i64 v)) g L (fun m => if m = k then v else f m) := by
  refine ⟨by simpa using h.1, fun m hm => ?_⟩
  by_cases e : m = k
  · subst e
    have := h.2 m hm
    refine ⟨?_, by simpa using this.2⟩
    simp only [if_pos]
    exact World.cell?_setCell_same _ _ _ this.1
  · have := h.2 m hm
    refine ⟨?_, by simpa using this.2⟩
    simp only [if_neg e]
    rw [World.cell?_setCell_other _ _ _ _ (fun hh => by injection hh with _ h2 _; exact e h2.symm)]
    exact this.1
theorem IntsW.congr {f' : Nat → Int} (h : IntsW w g L f) (e : ∀ m, m < L → f m = f' m) : IntsW w g L f' := ⟨h.1, fun m hm => by rw [← e m hm]; exact h.2 m hm⟩
end
/-- slices.SortFunc of a row of edicts that the call made. -/
theorem lSortV {w : World} {base n : Nat} {v : Value} {xs : List Edc} (h : w.ownsRow base 65 8 v n (xs.flatMap encE)) (hx : ∀ x ∈ xs, SmE x) (hn : xs.length ≤ 1000) :
    Calls Tryz.prog 48 #[v, .func (.func 49) #[] #[]] w fun e w' => e = .returned (.tuple #[]) ∧ ∃ (ys : List Edc) (A : Option Addr) (c : Nat), v = .slice A n c ∧ ys.length = n ∧ ys.Perm xs ∧ (ys.Pairwise fun a b => a.num ≤ b.num) ∧ (∀ k (hk : k < ys.length), ∃ b, A = some ⟨b, 0, none⟩ ∧ base ≤ b ∧ b < w'.heap.size ∧ ∀ (i : Nat) (u : Value), (encE ys[k])[i]? = some u → w'.cell? ⟨b, k * 8 + i, none⟩ = some u) ∧ Below base w w' := by
  obtain ⟨hl, A, c, rfl, hr⟩ := own_rows encE_len h (by decide)
  rcases Nat.eq_zero_or_pos n with h0 | h0
  · subst h0
    obtain rfl := List.eq_nil_of_length_eq_zero hl
    exact (lSortE0 A c w).mono fun e w' ⟨he, hw⟩ => ⟨he, [], A, c, rfl, rfl, List.Perm.refl _, List.Pairwise.nil, fun k hk => absurd hk (Nat.not_lt_zero _), by rw [hw]; exact Below.refl _ _⟩
  · obtain ⟨g, cap, hv, hg, hgl⟩ := h.form h0
    injection hv with hv1 _ hv2
    subst hv1 hv2
    have hR := own_rowW encE_len h hl
    refine Calls.mono (hl ▸ lSortE g c xs w hR hgl hx hn) ?_
    rintro e w' ⟨he, ys, hp, ho, hr, hgr⟩
    have hsz : g < w'.heap.size := Nat.lt_of_lt_of_le hgl hgr.size
    exact ⟨he, ys, _, c, rfl, by rw [hp.length_eq, hl], hp, ho, fun k hk => ⟨g, rfl, hg, hsz, fun i u hu => (hr k hk i u hu).1⟩, (Below.refl base w).grown hgr (by omega) (by intro k hk; cases hk; exact hg)⟩
structure MsSt (w w4 wr : World) (W G H4 L : Nat) (f : Nat → Int) : Prop where
  ints : IntsW wr G L f
  size : H4 ≤ wr.heap.size
  keep : ∀ p : Addr, p.block ≠ G → p.block < H4 → wr.cell? p = w4.cell? p
  below : Below W w wr
section
variable {w w4 wr wr2 wA : World} {W G H4 H5 L : Nat} {f f' : Nat → Int}
theorem MsSt.alloc (h : MsSt w w4 wr W G H4 L f) (hW : W ≤ H4) (o : Obj) : MsSt w w4 (wr.alloc o) W G H4 L f := by
  have hs := h.size
  have hb : Below wr.heap.size wr (wr.alloc o) := (Below.refl _ _).alloc (Nat.le_refl _) _
  exact ⟨h.ints.below hb, Nat.le_trans hs hb.size, fun p h1 h2 => (hb.cell (p := p) (by omega)).trans (h.keep p h1 h2), h.below.alloc (by omega) o⟩
theorem MsSt.store (h : MsSt w w4 wr W G H4 L f) (hG : W ≤ G) {k : Nat} (hk : k < L) (v : Int) : MsSt w w4 (wr.setCell ⟨G, k, none⟩ (.int .i64 v)) W G H4 L (fun j => if j = k then v else f j) :=
  ⟨h.ints.store hk v, by simpa using h.size, fun p h1 h2 => by rw [World.cell?_setCell_other _ _ _ _ (fun hh => h1 (by rw [← hh]))]; exact h.keep p h1 h2, Below.setCell h.below (p := ⟨G, k, none⟩) hG _⟩
theorem MsSt.trans (h : MsSt w w4 wA W G H4 L f) (h2 : MsSt w wA wr2 W G H5 L f') (hH : H4 ≤ H5) : MsSt w w4 wr2 W G H4 L f' :=
  ⟨h2.ints, Nat.le_trans hH h2.size, fun p h3 h4 => (h2.keep p h3 (by omega)).trans (h.keep p h3 h4), h2.below⟩
theorem MsSt.congr (h : MsSt w w4 wr W G H4 L f) (e : ∀ m, m < L → f m = f' m) : MsSt w w4 wr W G H4 L f' := ⟨h.ints.congr e, h.size, h.keep, h.below⟩
theorem MsSt.here (h : MsSt w w4 wr W G H4 L f) : MsSt w wr wr W G wr.heap.size L f := ⟨h.ints, Nat.le_refl _, fun _ _ _ => rfl, h.below⟩
end
theorem asc_of_le {ys S : List Edc} (h : ys.Pairwise fun a b => a.num ≤ b.num) (hp : ys.Perm S) (hS : AscN S) : ys = S := by
  refine asc_unique ?_ hS hp
  have nd : (S.map (·.num)).Nodup := by
    rw [List.nodup_iff_pairwise_ne, List.pairwise_map]
    exact List.Pairwise.imp (fun hh => by omega) hS
  have nd2 : (ys.map (·.num)).Nodup := (hp.map _).nodup_iff.2 nd
  rw [List.nodup_iff_pairwise_ne, List.pairwise_map] at nd2
  exact List.Pairwise.imp₂ (fun a b h1 h2 => by omega) h nd2
/-- The strip behind the edicts xs. -/
def strF (topic dir hour : Int) (xs : List Edc) (m : Nat) : Int := mustV topic dir hour m xs
theorem strF_snoc (topic dir hour : Int) (xs : List Edc) (x : Edc) (m : Nat) : strF topic dir hour (xs ++ [x]) m = oneV topic dir hour m (strF topic dir hour xs m) x := by simp [strF, mustV]
/-- A strip that was made. -/
def StripRes (L : Nat) (f : Nat → Int) (w : World) (e : Ending) (w' : World) : Prop := ∃ g, e = .returned (.slice (some ⟨g, 0, none⟩) L L) ∧ w.heap.size ≤ g ∧ IntsW w' g L f ∧ Below w.heap.size w w'
set_option maxRecDepth 100000 in
set_option maxHeartbeats 4000000 in
theorem lMustStrip (A : Option Addr) (c B L : Nat) (Jv : Value) (es S : List Edc) (hour dir topic : Int) (w : World) (h : RowsK w B A 8 encE es) (hB : B ≤ w.heap.size) (hL : 1 ≤ L ∧ L ≤ 100000)
    (hv : ∀ x ∈ es, SmE x ∧ 0 ≤ x.fr ∧ x.til ≤ L) (hn : es.length ≤ 50) (hS : S.Perm es) (hSa : AscN S) :
    Calls Tryz.prog 28 #[.agg #[.int .i64 L, Jv], .slice A es.length c, .int .i64 hour, .int .i64 dir, .int .i64 topic] w (StripRes L (strF topic dir hour S) w) := by
  obtain ⟨i0, hi, hz0, hz2, hz3⟩ := info_parts info3
  have hb : Below w.heap.size w (w.alloc (.cells #[.int .i64 L, Jv] 32)) := (Below.refl _ _).alloc (Nat.le_refl _) _
  have h1 := (h.more hB).below hb
  have q0 : (w.alloc (.cells #[.int .i64 L, Jv] 32)).cell? ⟨w.heap.size, 0, none⟩ = some (.int .i64 L) := by simp [go_sem]
  have hz : w.heap.size < (w.alloc (.cells #[.int .i64 L, Jv] 32)).heap.size := by simp
  have hSe := Lib.hid hS
  have hSA := Lib.hid hSa
  have HV := Lib.hid hv
  unfold StripRes
  obtain ⟨W, hW⟩ : ∃ W, w.heap.size = W := ⟨_, rfl⟩
  rw [hW] at q0 hb hz h1
  clear h hB hS hSa hv
  go_enter Tryz.func28, Tryz.ntmps28
  go_upto_region 1 with fail
  generalize w.alloc (.cells #[.int .i64 L, Jv] 32) = w1 at *
  go_wp2_with (first
    | (at_make; go_loud (refine wpList_make_full _ rfl _ _ 72 rfl W 3 i0 (.int .i64 0) 1 Tryz.underlying72 hi hz0 hz2 .i64 .i64 L L L rfl rfl rfl rfl (by rw [hz3]; omega) (by unfold maxLen; omega) (by omega) ?_; intro w2 hown2 hgr2))
    | fail)
  have hI2 : IntsW w2 w1.heap.size L (fun _ => 0) := ⟨(hown2.lt _ rfl).2, fun m hm => ⟨by rw [hown2.cellAt m (by omega)]; rw [show (Value.int IntKind.i64 0).cells = #[Value.int .i64 0] from rfl, toList_madeCells_one]; simp [hm], hown2.frozenAt m⟩⟩
  have hb12 : Below W w1 w2 := (Below.refl W w1).grown hgr2 (by omega) (by intro k hk; cases hk)
  have hr2 := h1.below hb12
  have hb2 := hb.trans hb12
  have hs12 := hgr2.size
  obtain ⟨G, hG⟩ : ∃ G, w1.heap.size = G := ⟨_, rfl⟩
  simp only [hG] at *
  have hcl := lCloneE A c W es hr2 (by omega) (by omega)
  clear h1 q0 hown2 hgr2 hb12 hr2 hb
  refine hcl.mono ?_
  rintro e w3 ⟨v3, rfl, hown3, hb3⟩
  have hso := lSortV hown3 (fun x hx => (HV.out x hx).1) (by omega)
  have hI3 := hI2.below hb3
  have hb03 := hb2.trans (hb3.mono (by have := hb2.size; have := hI2.1; omega))
  have h23 := hb3.size
  have hG2 := hI2.1
  clear hown3 hcl hb3 hb2 hI2
  go_wp2_with fail
  refine hso.mono ?_
  rintro e w4 ⟨rfl, ys, A3, c3, rfl, hyl, hyp, hyo, hat, hb4⟩
  obtain rfl := asc_of_le hyo (hyp.trans hSe.out.symm) hSA.out
  have hst : MsSt w w4 w4 W G w4.heap.size L (strF topic dir hour (ys.take 0)) := MsSt.congr (f := fun _ => 0) ⟨⟨by have := hb4.size; omega, fun m hm => ⟨(hb4.cell (p := ⟨G, m, none⟩) hG2).trans (hI3.2 m hm).1, ((bcell hb4).2 G m hG2).trans (hI3.2 m hm).2⟩⟩, Nat.le_refl _, fun _ _ _ => rfl, hb03.trans (hb4.mono (by omega))⟩ fun m hm => by simp [strF, mustV]
  have hWH : W ≤ w4.heap.size := by have := hb4.size; omega
  have hat' : Hid (∀ k (hk : k < ys.length), ∃ b, A3 = some ⟨b, 0, none⟩ ∧ b ≠ G ∧ b < w4.heap.size ∧ ∀ (i : Nat) (u : Value), (encE ys[k])[i]? = some u → w4.cell? ⟨b, k * 8 + i, none⟩ = some u) := Lib.hid fun k hk => by
    obtain ⟨b, h1, h2, h3, h4⟩ := hat k hk
    exact ⟨b, h1, by omega, h3, h4⟩
  have HV2 : Hid (∀ k (hk : k < ys.length), 0 ≤ ys[k].fr ∧ ys[k].til ≤ L) := Lib.hid fun k hk => (HV.out _ (hyp.mem_iff.1 (List.getElem_mem hk))).2
  rw [← hyl]
  clear hso hb4 hI3 hb03 hat hyo HV hSe hSA
  go_wp2_with fail
  go_loopw [25] (fun i wr => ∃ k : Nat, k ≤ ys.length ∧ i = .int .i64 k ∧ MsSt w w4 wr W G w4.heap.size L (strF topic dir hour (ys.take k))) (fun i _ => ys.length - (intOf i).toNat)
  case atStart => exact ⟨0, Nat.zero_le _, rfl, hst⟩
  case round =>
    obtain ⟨k, hk, rfl, hM⟩ := hrel
    clear hst
    by_cases hlt : k < ys.length
    · obtain ⟨b, rfl, hbG, hbl, hcc⟩ := hat'.out k hlt
      have hk8 := fun (i : Nat) u hu => (hM.keep ⟨b, k * 8 + i, none⟩ hbG hbl).trans (hcc i u hu)
      have y0 := hk8 0 _ rfl
      have y1 := hk8 1 _ rfl
      have y2 := hk8 2 _ rfl
      have y3 := hk8 3 _ rfl
      have y4 := hk8 4 _ rfl
      have y5 := hk8 5 _ rfl
      have y6 := hk8 6 _ rfl
      have y7 := hk8 7 _ rfl
      simp only [Nat.add_zero] at y0
      obtain ⟨v1, v2⟩ := HV2.out k hlt
      have htk : ys.take (k + 1) = ys.take k ++ [ys[k]] := by rw [List.take_succ_eq_append_getElem hlt]
      have HF : Hid (∀ m, strF topic dir hour (ys.take (k + 1)) m = oneV topic dir hour m (strF topic dir hour (ys.take k) m) ys[k]) := Lib.hid fun m => by rw [htk, strF_snoc]
      clear hk8 hcc htk
      generalize ys[k] = x at *
      have hA := hM.alloc hWH (.cells #[.int .i64 x.num, .int .i64 x.topic, .int .i64 x.val, .int .i64 x.dir, .int .i64 x.fr, .int .i64 x.til, .int .i64 x.st, .int .i64 x.en] 65)
      have hskip : ¬ actB topic dir hour x = true → MsSt w w4 (wr.alloc (.cells #[.int .i64 x.num, .int .i64 x.topic, .int .i64 x.val, .int .i64 x.dir, .int .i64 x.fr, .int .i64 x.til, .int .i64 x.st, .int .i64 x.en] 65)) W G w4.heap.size L (strF topic dir hour (ys.take (k + 1))) := fun hn => hA.congr fun m _ => by rw [HF.out]; unfold oneV; rw [if_neg (fun hh => hn hh.1)]
      have hAC : actB topic dir hour x = (decide (x.topic = topic) && decide (x.dir = dir) && decide (x.st ≤ hour) && decide (hour < x.en)) := rfl
      by_cases a1 : x.topic = topic
      rotate_left
      · have e1 : (x.topic == topic) = false := by simp [a1]
        have fin := Lib.hid (hskip (by rw [hAC, decide_eq_false a1]; simp))
        clear hskip hA hM a1 hAC
        go_wp2_with fail
        exact ⟨⟨k + 1, by omega, by go_num, fin.out⟩, by simp [intOf]; omega⟩
      have e1 : (x.topic == topic) = true := by simp [a1]
      by_cases a2 : x.dir = dir
      rotate_left
      · have e2 : (x.dir == dir) = false := by simp [a2]
        have fin := Lib.hid (hskip (by rw [hAC, decide_eq_false a2]; simp))
        clear hskip hA hM a1 a2 hAC
        go_wp2_with fail
        exact ⟨⟨k + 1, by omega, by go_num, fin.out⟩, by simp [intOf]; omega⟩
      have e2 : (x.dir == dir) = true := by simp [a2]
      by_cases a3 : x.st ≤ hour
      rotate_left
      · have fin := Lib.hid (hskip (by rw [hAC, decide_eq_false a3]; simp))
        clear hskip hA hM a1 a2 hAC
        go_wp2_with fail
        exact ⟨⟨k + 1, by omega, by go_num, fin.out⟩, by simp [intOf]; omega⟩
      by_cases a4 : hour < x.en
      rotate_left
      · have fin := Lib.hid (hskip (by rw [hAC, decide_eq_false a4]; simp))
        clear hskip hA hM a1 a2 hAC
        go_wp2_with fail
        exact ⟨⟨k + 1, by omega, by go_num, fin.out⟩, by simp [intOf]; omega⟩
      have HAC : Hid (actB topic dir hour x = true) := Lib.hid (by rw [hAC, decide_eq_true a1, decide_eq_true a2, decide_eq_true a3, decide_eq_true a4]; rfl)
      have HA := Lib.hid hA
      obtain ⟨a, ha⟩ : ∃ a : Nat, x.fr = (a : Int) := ⟨x.fr.toNat, by omega⟩
      have HFA := Lib.hid ha
      have hsz1 : (wr.alloc (.cells #[.int .i64 x.num, .int .i64 x.topic, .int .i64 x.val, .int .i64 x.dir, .int .i64 x.fr, .int .i64 x.til, .int .i64 x.st, .int .i64 x.en] 65)).heap.size = wr.heap.size + 1 := by simp
      have z4 : (wr.alloc (.cells #[.int .i64 x.num, .int .i64 x.topic, .int .i64 x.val, .int .i64 x.dir, .int .i64 x.fr, .int .i64 x.til, .int .i64 x.st, .int .i64 x.en] 65)).cell? ⟨wr.heap.size, 4, none⟩ = some (.int .i64 x.fr) := by simp [go_sem]
      have hin : MsSt w (wr.alloc (.cells #[.int .i64 x.num, .int .i64 x.topic, .int .i64 x.val, .int .i64 x.dir, .int .i64 x.fr, .int .i64 x.til, .int .i64 x.st, .int .i64 x.en] 65)) (wr.alloc (.cells #[.int .i64 x.num, .int .i64 x.topic, .int .i64 x.val, .int .i64 x.dir, .int .i64 x.fr, .int .i64 x.til, .int .i64 x.st, .int .i64 x.en] 65)) W G (wr.heap.size + 1) L (fun m => if a ≤ m ∧ m < a then x.val else strF topic dir hour (ys.take k) m) := by
        have h1 := hA.here.congr (f' := fun m => if a ≤ m ∧ m < a then x.val else strF topic dir hour (ys.take k) m) fun m _ => by rw [if_neg (by omega)]
        rw [hsz1] at h1; exact h1
      have z2 : (wr.alloc (.cells #[.int .i64 x.num, .int .i64 x.topic, .int .i64 x.val, .int .i64 x.dir, .int .i64 x.fr, .int .i64 x.til, .int .i64 x.st, .int .i64 x.en] 65)).cell? ⟨wr.heap.size, 2, none⟩ = some (.int .i64 x.val) := by simp [go_sem]
      have z5 : (wr.alloc (.cells #[.int .i64 x.num, .int .i64 x.topic, .int .i64 x.val, .int .i64 x.dir, .int .i64 x.fr, .int .i64 x.til, .int .i64 x.st, .int .i64 x.en] 65)).cell? ⟨wr.heap.size, 5, none⟩ = some (.int .i64 x.til) := by simp [go_sem]
      have hGX : wr.heap.size ≠ G := by have := hM.ints.1; have := hM.size; omega
      have hX4 : w4.heap.size ≤ wr.heap.size + 1 := by have := hM.size; omega
      have hWX : W ≤ wr.heap.size + 1 := by omega
      have hGl := hM.ints.1
      clear hskip hA hM a1 a2 hAC
      clear ha hsz1
      go_upto_region 8 with fail
      generalize wr.alloc (.cells #[.int .i64 x.num, .int .i64 x.topic, .int .i64 x.val, .int .i64 x.dir, .int .i64 x.fr, .int .i64 x.til, .int .i64 x.st, .int .i64 x.en] 65) = wA at *
      generalize wr.heap.size = X at *
      have ha := HFA.out
      rw [ha] at z4
      clear ha y0 y1 y2 y3 y4 y5 y6 y7 v1
      go_wp2_with fail
      go_loopw [15] (fun i w5 => ∃ m : Nat, i = .int .i64 m ∧ a ≤ m ∧ ((m : Int) ≤ x.til ∨ m = a) ∧ MsSt w wA w5 W G (X + 1) L (fun j => if a ≤ j ∧ j < m then x.val else strF topic dir hour (ys.take k) j)) (fun i _ => (x.til - intOf i).toNat)
      case atStart => exact ⟨a, by first | rfl | go_num, Nat.le_refl _, .inr rfl, hin⟩
      case round =>
        obtain ⟨m, rfl, hma, hmt, hI⟩ := hrel
        clear hin
        have r2 := (hI.keep ⟨X, 2, none⟩ hGX (by simp only; omega)).trans z2
        have r5 := (hI.keep ⟨X, 5, none⟩ hGX (by simp only; omega)).trans z5
        by_cases hlt2 : (m : Int) < x.til
        · have hmL : m < L := by omega
          have hmL2 : (m : Int) < (L : Int) := by omega
          obtain ⟨c1, c2⟩ := hI.ints.2 m hmL
          have fin := Lib.hid ((hI.store (by omega) hmL x.val).congr (f' := fun j => if a ≤ j ∧ j < m + 1 then x.val else strF topic dir hour (ys.take k) j) fun j _ => by
            by_cases e : j = m
            · subst e; simp only [if_pos]; rw [if_pos ⟨hma, by omega⟩]
            · simp only [if_neg e]
              by_cases e2 : a ≤ j ∧ j < m
              · rw [if_pos e2, if_pos ⟨e2.1, by omega⟩]
              · rw [if_neg e2, if_neg (by omega)])
          clear hI
          go_wp2_with fail
          exact ⟨⟨m + 1, by go_num, by omega, .inl (by omega), fin.out⟩, by simp [intOf]; omega⟩
        · have fin := Lib.hid ((MsSt.trans HA.out hI hX4).congr (f' := strF topic dir hour (ys.take (k + 1))) fun j _ => by
            rw [HF.out]
            unfold oneV
            by_cases e2 : a ≤ j ∧ j < m
            · simp only [if_pos e2]
              have := HFA.out
              rw [if_pos ⟨HAC.out, by omega, by omega⟩]
            · simp only [if_neg e2]
              have := HFA.out
              rw [if_neg (fun hh => e2 ⟨by omega, by omega⟩)])
          clear hI
          go_wp2_with fail
          exact ⟨⟨k + 1, by omega, by go_num, fin.out⟩, by simp [intOf]; omega⟩
    · obtain rfl : k = ys.length := by omega
      rw [List.take_length] at hM
      have fin := Lib.hid hM
      clear hM
      go_wp2_with fail
      go_ret
      exact ⟨G, rfl, by omega, fin.out.ints, by rw [hW]; exact fin.out.below⟩
set_option maxRecDepth 100000 in
set_option maxHeartbeats 4000000 in
theorem lMust (AJ A : Option Addr) (cJ c B L : Nat) (J : List Int) (es S : List Edc) (hour dir topic : Int) (m : Nat) (w : World) (hJ : Ints w B AJ J) (h : RowsK w B A 8 encE es) (hB : B ≤ w.heap.size)
    (hv : VEds L J es) (hh : inB 0 hour 10000000 = true) (hd : dirB dir = true) (ht : inB 1 topic 2 = true) (hm : m < L) (hS : S.Perm es) (hSa : AscN S) (hve : ∀ x ∈ es, SmE x ∧ 0 ≤ x.fr ∧ x.til ≤ L) :
    Calls Tryz.prog 24 #[.agg #[.int .i64 L, .slice AJ J.length cJ], .slice A es.length c, .int .i64 hour, .int .i64 dir, .int .i64 topic, .int .i64 m] w fun e w' => e = .returned (.tuple #[.int .i64 (strF topic dir hour S m), .int .i64 0]) ∧ Below w.heap.size w w' := by
  have hb : Below w.heap.size w (w.alloc (.cells #[.int .i64 L, .slice AJ J.length cJ] 32)) := (Below.refl _ _).alloc (Nat.le_refl _) _
  have hx := LnBox.new w L AJ J.length cJ
  have hJ1 := (hJ.more hB).below hb
  have he1 := (h.more hB).below hb
  have hL : 1 ≤ L ∧ L ≤ 100000 := by have := hv.1.1; omega
  have hn : es.length ≤ 50 := hv.2.1
  obtain ⟨W, hW⟩ : ∃ W, w.heap.size = W := ⟨_, rfl⟩
  rw [hW] at hx hb hJ1 he1
  clear hJ h
  have hmi : inB 0 (m : Int) ((L : Int) - 1) = true := inB_t (by omega) (by omega)
  go_enter Tryz.func24, Tryz.ntmps24
  go_upto_region 1 with fail
  generalize w.alloc (.cells #[.int .i64 L, .slice AJ J.length cJ] 32) = w1 at *
  obtain ⟨q0, q1, hz⟩ := id hx
  have h1 := lordered AJ A cJ c W L J es w1 hour dir topic hJ1 he1 (by omega) hv hh hd ht
  go_wp2_with fail
  refine h1.mono ?_
  rintro e w2 ⟨rfl, hb2⟩
  have hx2 := hx.below hb2
  have he2 := he1.below (hb2.mono (by omega))
  have hb12 := hb.trans (hb2.mono (by omega))
  have h12 := hb2.size
  clear q0 q1 h1 hx hJ1 he1 hb hb2
  obtain ⟨q0, q1, hz2⟩ := id hx2
  have h2 := lMustStrip A c W L (.slice AJ J.length cJ) es S hour dir topic w2 he2 (by omega) hL hve hn hS hSa
  clear hve hS hSa hv hx2
  go_wp2_with (first
    | (go_at_call 20; refine (rwithin _ _ _ _).mono ?_; rintro e w' ⟨rfl, rfl⟩)
    | fail)
  refine h2.mono ?_
  rintro e w3 ⟨g, rfl, hg, hI, hb3⟩
  obtain ⟨c1, c2⟩ := hI.2 m hm
  have hg2 := hI.1
  have hb13 := hb12.trans (hb3.mono (by omega))
  have hm2 : (m : Int) < (L : Int) := by omega
  clear h2 hI hb3 hb12
  go_wp2_with fail
  go_ret2
  exact ⟨rfl, by rw [hW]; exact hb13⟩
end Go.Proofs.YtdmmcdbojmalfaaGreat
