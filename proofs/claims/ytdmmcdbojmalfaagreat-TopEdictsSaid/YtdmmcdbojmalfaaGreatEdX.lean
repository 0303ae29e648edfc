/- TopEdicts: the events of a row. -/
import Derived.Test.YtdmmcdbojmalfaaGreatEdU
namespace Go.Proofs.YtdmmcdbojmalfaaGreat
open Go.RowKit
def EvRes (evs : List (Int × Int)) (w : World) (e : Ending) (w' : World) : Prop := ∃ (A : Option Addr) (c : Nat), e = .returned (.slice A evs.length c) ∧ (∀ k, k < evs.length → ∃ b, A = some ⟨b, 0, none⟩ ∧ w.heap.size ≤ b ∧ b < w'.heap.size ∧ w'.cell? ⟨b, k * 2, none⟩ = some (.int .i64 (atp evs k).1) ∧ w'.cell? ⟨b, k * 2 + 1, none⟩ = some (.int .i64 (atp evs k).2)) ∧ Below w.heap.size w w'
/-- A meets in its box. -/
structure MeBox (w : World) (X : Nat) (x : Mee) : Prop where
  c0 : w.cell? ⟨X, 0, none⟩ = some (.int .i64 x.s.num)
  c1 : w.cell? ⟨X, 1, none⟩ = some (.int .i64 x.s.kind)
  c2 : w.cell? ⟨X, 2, none⟩ = some (.int .i64 x.s.val)
  c3 : w.cell? ⟨X, 3, none⟩ = some (.int .i64 x.s.chain)
  c4 : w.cell? ⟨X, 4, none⟩ = some (.int .i64 x.s.dir)
  c5 : w.cell? ⟨X, 5, none⟩ = some (.int .i64 x.s.rank)
  c6 : w.cell? ⟨X, 6, none⟩ = some (.int .i64 x.s.up)
  c7 : w.cell? ⟨X, 7, none⟩ = some (.int .i64 x.s.down)
  c8 : w.cell? ⟨X, 8, none⟩ = some (.slice none 0 0)
  c9 : w.cell? ⟨X, 9, none⟩ = some (.int .i64 x.far)
  hi : X < w.heap.size
theorem MeBox.new (w : World) (x : Mee) : MeBox (w.alloc (.cells #[.int .i64 x.s.num, .int .i64 x.s.kind, .int .i64 x.s.val, .int .i64 x.s.chain, .int .i64 x.s.dir, .int .i64 x.s.rank, .int .i64 x.s.up, .int .i64 x.s.down, .slice none 0 0, .int .i64 x.far] 120)) w.heap.size x := by
  constructor <;> simp [go_sem]
theorem MeBox.keep {w w' : World} {X : Nat} {x : Mee} (h : MeBox w X x) (hk : ∀ o, w'.cell? ⟨X, o, none⟩ = w.cell? ⟨X, o, none⟩) (hs : X < w'.heap.size) : MeBox w' X x :=
  ⟨(hk 0).trans h.c0, (hk 1).trans h.c1, (hk 2).trans h.c2, (hk 3).trans h.c3, (hk 4).trans h.c4, (hk 5).trans h.c5, (hk 6).trans h.c6, (hk 7).trans h.c7, (hk 8).trans h.c8, (hk 9).trans h.c9, hs⟩
set_option maxRecDepth 100000 in
set_option maxHeartbeats 8000000 in
theorem lEvents (AJ A : Option Addr) (cJ c B : Nat) (L : Int) (J : List Int) (ys : List Mee) (dir topic : Int) (w : World) (hJ : Ints w B AJ J) (h : RowsK w B A 10 encM ys) (hB : B ≤ w.heap.size) (hn : ys.length ≤ 400) (h7 : ∀ x ∈ ys, x.s.kind = 1 ∨ x.s.kind = 2 ∨ x.s.kind = 3 ∨ x.s.kind = 4)
    (ht : topic = 1 ∨ topic = 2) (hL : 1 ≤ L ∧ L ≤ 100000) (hJn : J.length ≤ 50) (hJb : ∀ j, j < J.length → 0 ≤ at0 J j ∧ at0 J j ≤ 1000000) :
    Calls Tryz.prog 54 #[.agg #[.int .i64 L, .slice AJ J.length cJ], .slice A ys.length c, .int .i64 dir, .int .i64 topic] w (EvRes (stopF L (evRow L dir topic J ys)).1 w) := by
  have hb : Below w.heap.size w (w.alloc (.cells #[.int .i64 L, .slice AJ J.length cJ] 32)) := (Below.refl _ _).alloc (Nat.le_refl _) _
  have hx := LnBox.new w L AJ J.length cJ
  have hJ1 := (hJ.more hB).below hb
  have hr1 := (h.more hB).below hb
  have HRC : Hid (∀ (wz : World) (Bz k : Nat) (hk : k < ys.length), Ints wz Bz AJ J → RowsK wz Bz A 10 encM ys → Bz ≤ wz.heap.size → Calls Tryz.prog 66 #[.agg #[.int .i64 L, .slice AJ J.length cJ], .slice A ys.length c, .int .i64 k, .int .i64 dir] wz fun e w' => e = .returned (.int .i64 (rcF L dir ys[k].far J)) ∧ Below wz.heap.size wz w') :=
    Lib.hid fun wz Bz k hk g1 g2 g3 => lReach AJ A cJ c Bz L J ys k dir wz g1 g2 g3 hk (by omega) (fun x hx => by rcases h7 x hx with h | h | h | h <;> omega) hL hJn hJb
  have H7 : Hid (∀ k (hk : k < ys.length), ys[k].s.kind = 1 ∨ ys[k].s.kind = 2 ∨ ys[k].s.kind = 3 ∨ ys[k].s.kind = 4) := Lib.hid fun k hk => h7 _ (List.getElem_mem hk)
  have HTP := Lib.hid ht
  unfold EvRes
  obtain ⟨W, hW⟩ : ∃ W, w.heap.size = W := ⟨_, rfl⟩
  rw [hW] at hx hb hJ1 hr1
  have HB := Lib.hid hb
  clear h hJ hb h7 hJb ht
  go_enter Tryz.func54, Tryz.ntmps54
  go_upto_region 1 with fail
  have hz1 : (w.alloc (.cells #[.int .i64 L, .slice AJ J.length cJ] 32)).heap.size = W + 1 := by rw [← hW]; simp
  generalize w.alloc (.cells #[.int .i64 L, .slice AJ J.length cJ] 32) = w1 at *
  have hE0 : EvAt ((w1.alloc (.cells #[.slice none 0 0] 103)).alloc (.cells #[.int .i64 (-1)] 3)) (W + 3) (W + 1 + 1) (W + 1) (.slice none 0 0) (evRow L dir topic J (ys.take 0)).1 (evRow L dir topic J (ys.take 0)).2 := by
    refine ⟨?_, ?_, ?_, ?_, World.ownsRow_nil _ _ _ _, by omega, by omega, by omega, by simp [hz1]⟩
    · rw [show W + 1 + 1 = (w1.alloc (.cells #[.slice none 0 0] 103)).heap.size by simp [hz1]]; simp [go_sem]; rfl
    · rw [show W + 1 + 1 = (w1.alloc (.cells #[.slice none 0 0] 103)).heap.size by simp [hz1]]; simp [go_sem]
    · rw [← hz1]; simp [go_sem]
    · rw [← hz1]; simp [go_sem]
  have hB0 : Below (W + 1) w1 ((w1.alloc (.cells #[.slice none 0 0] 103)).alloc (.cells #[.int .i64 (-1)] 3)) := ((Below.refl _ _).alloc (by omega) _).alloc (by simp; omega) _
  go_upto_region 4 with fail
  generalize (w1.alloc (.cells #[.slice none 0 0] 103)).alloc (.cells #[.int .i64 (-1)] 3) = w3 at *
  have hsz3 := hE0.lb
  have hx3 := hx.below (hB0.mono (by omega))
  have hr3 := hr1.below (hB0.mono (by omega))
  have hJ3 := hJ1.below (hB0.mono (by omega))
  have HB3 := Lib.hid (HB.out.trans (hB0.mono (by omega)))
  have hB3 := Below.refl (W + 1) w3
  clear hx hr1 hJ1 hB0
  go_wp2_with fail
  go_loopw [19] (fun i wr => ∃ k : Nat, k ≤ ys.length ∧ i = .int .i64 k ∧ (∃ v, EvAt wr (W + 3) (W + 1 + 1) (W + 1) v (evRow L dir topic J (ys.take k)).1 (evRow L dir topic J (ys.take k)).2) ∧ Below (W + 1) w3 wr) (fun i _ => ys.length - (intOf i).toNat)
  case atStart => exact ⟨0, Nat.zero_le _, rfl, ⟨_, hE0⟩, hB3⟩
  case round =>
    obtain ⟨k, hk, rfl, ⟨v, hE⟩, hbk⟩ := hrel
    clear hE0 hB3
    have hlen := evRow_length L dir topic J (ys.take k) ([], -1)
    rw [List.length_take] at hlen
    by_cases hlt : k < ys.length
    · obtain ⟨b, o, rfl, hbb, hcc⟩ := (hr3.below (hbk.mono (by omega))).at_ hlt
      have y0 := hcc k hlt 0 _ rfl
      have y1 := hcc k hlt 1 _ rfl
      have y2 := hcc k hlt 2 _ rfl
      have y3 := hcc k hlt 3 _ rfl
      have y4 := hcc k hlt 4 _ rfl
      have y5 := hcc k hlt 5 _ rfl
      have y6 := hcc k hlt 6 _ rfl
      have y7 := hcc k hlt 7 _ rfl
      have y8 := hcc k hlt 8 _ rfl
      have y9 := hcc k hlt 9 _ rfl
      simp only [Nat.add_zero] at y0
      have hkd := H7.out k hlt
      have HT : Hid (evRow L dir topic J (ys.take (k + 1)) = evStep L dir topic J (evRow L dir topic J (ys.take k)) ys[k]) := Lib.hid (by rw [← evRow_snoc, List.take_succ_eq_append_getElem hlt])
      have HRK := Lib.hid fun (wz : World) g1 g2 g3 => HRC.out wz W k hlt g1 g2 g3
      have hl2 : (evRow L dir topic J (ys.take k)).1.length ≤ 900 := by simp only [evRow, List.length_nil] at hlen ⊢; omega
      clear hcc hlen
      generalize ys[k] = x at *
      generalize evRow L dir topic J (ys.take k) = st at *
      have hsy := fun wz => lsays topic x.s wz HTP.out hkd
      have hbA : Below wr.heap.size wr (wr.alloc (.cells #[.int .i64 x.s.num, .int .i64 x.s.kind, .int .i64 x.s.val, .int .i64 x.s.chain, .int .i64 x.s.dir, .int .i64 x.s.rank, .int .i64 x.s.up, .int .i64 x.s.down, .slice none 0 0, .int .i64 x.far] 120)) := (Below.refl _ _).alloc (Nat.le_refl _) _
      have hbB : Below wr.heap.size wr ((wr.alloc (.cells #[.int .i64 x.s.num, .int .i64 x.s.kind, .int .i64 x.s.val, .int .i64 x.s.chain, .int .i64 x.s.dir, .int .i64 x.s.rank, .int .i64 x.s.up, .int .i64 x.s.down, .slice none 0 0, .int .i64 x.far] 120)).alloc (.cells (cellsS x.s) 77)) := hbA.alloc (by simp) _
      have hlb := hE.lb
      have hEB := hE.below hbB
      have hM := (MeBox.new wr x).keep (w' := (wr.alloc (.cells #[.int .i64 x.s.num, .int .i64 x.s.kind, .int .i64 x.s.val, .int .i64 x.s.chain, .int .i64 x.s.dir, .int .i64 x.s.rank, .int .i64 x.s.up, .int .i64 x.s.down, .slice none 0 0, .int .i64 x.far] 120)).alloc (.cells (cellsS x.s) 77)) (fun o => ((Below.refl _ _).alloc (Nat.le_refl _) _ : Below (wr.alloc (.cells #[.int .i64 x.s.num, .int .i64 x.s.kind, .int .i64 x.s.val, .int .i64 x.s.chain, .int .i64 x.s.dir, .int .i64 x.s.rank, .int .i64 x.s.up, .int .i64 x.s.down, .slice none 0 0, .int .i64 x.far] 120)).heap.size (wr.alloc (.cells #[.int .i64 x.s.num, .int .i64 x.s.kind, .int .i64 x.s.val, .int .i64 x.s.chain, .int .i64 x.s.dir, .int .i64 x.s.rank, .int .i64 x.s.up, .int .i64 x.s.down, .slice none 0 0, .int .i64 x.far] 120)) ((wr.alloc (.cells #[.int .i64 x.s.num, .int .i64 x.s.kind, .int .i64 x.s.val, .int .i64 x.s.chain, .int .i64 x.s.dir, .int .i64 x.s.rank, .int .i64 x.s.up, .int .i64 x.s.down, .slice none 0 0, .int .i64 x.far] 120)).alloc (.cells (cellsS x.s) 77))).cell (p := ⟨wr.heap.size, o, none⟩) (by simp)) (by simp; omega)
      have hbkB := hbk.trans (hbB.mono (by omega))
      have HKB := Lib.hid hbkB
      have HEB := Lib.hid hEB
      have HM := Lib.hid hM
      have hvX : v.ownBlock ≠ some wr.heap.size := fun hh => by have := (hE.own.lt _ hh).2; omega
      clear hbkB hEB hM hbB hbA hE hbk
      go_upto_region 8 with (go_at_call 65; refine (hsy _).mono ?_; rintro e w5 ⟨rfl, hw5⟩; have HW5 := Lib.hid hw5; clear hw5)
      have hw5 := HW5.out
      have hKB := HKB.out
      have hEB := HEB.out
      have hM := HM.out
      have hw5' : w5 = (wr.alloc (.cells #[.int .i64 x.s.num, .int .i64 x.s.kind, .int .i64 x.s.val, .int .i64 x.s.chain, .int .i64 x.s.dir, .int .i64 x.s.rank, .int .i64 x.s.up, .int .i64 x.s.down, .slice none 0 0, .int .i64 x.far] 120)).alloc (.cells (cellsS x.s) 77) := hw5
      rw [← hw5'] at hKB hEB hM
      clear HW5 hw5 hw5' HKB HEB HM hsy y0 y1 y2 y3 y4 y5 y6 y7 y8 y9
      cases hsb : saysB topic x.s with
      | false =>
        have HF := Lib.hid (show evRow L dir topic J (ys.take (k + 1)) = st by rw [HT.out]; unfold evStep; rw [if_neg (by rw [hsb]; decide)])
        have HK := Lib.hid hKB
        have HE := Lib.hid hEB
        clear hKB hEB hM hsb
        go_wp2_with fail
        exact ⟨⟨k + 1, by omega, by go_num, ⟨v, by rw [HF.out]; exact HE.out⟩, HK.out⟩, by simp [intOf]; omega⟩
      | true =>
        have HF := Lib.hid (show evRow L dir topic J (ys.take (k + 1)) = ((stopF x.far st).1 ++ [(x.far, saysV topic x.s)], if saysV topic x.s = 0 then -1 else rcF L dir x.far J) by rw [HT.out]; unfold evStep; rw [if_pos hsb])
        have c9 := hM.c9
        have hXl := hM.hi
        have hXW : W + 3 ≤ wr.heap.size := hlb
        generalize wr.heap.size = X at *
        have hst := lStop hEB (B := W + 1) (by omega) (by omega) (by omega) x.far
        have HK := Lib.hid hKB
        clear hsb hKB hM hEB
        go_wp2_with fail
        refine hst.mono ?_
        rintro e w6 ⟨rfl, ⟨v6, hE6⟩, hb6, hk6⟩
        have z9 := (hk6 ⟨X, 9, none⟩ hXl (by simp only; omega) (by simp only; omega) hvX).trans c9
        have HK6 := Lib.hid (HK.out.trans hb6)
        have hl6 := stopF_length x.far st
        have HE6 := Lib.hid hE6
        obtain ⟨ce, fe, co, fo, own, -, -, -, lb⟩ := hE6
        have HOW := Lib.hid own
        have hst2 : stopF x.far (st.1, st.2) = stopF x.far st := rfl
        rw [hst2] at HE6 HOW ce
        clear own hst hk6 hb6 c9 hst2
        generalize stopF x.far st = sp at *
        generalize saysV topic x.s = sv at *
        go_upto_region 11 with (first
          | (at_builtin; go_loud (refine wpList_push ?_ (.tmp 37) (.tmp 42) 103 ?_ (W + 3) 108 2 16 Tryz.underlying103 info108 ?_ ?_ ?_ v6 sp.1.length (pcells sp.1) ?_ HOW.out w6.heap.size ?_ ?_ ?_ ?_ ?_ ?_ ?_; (solve | (rfl)); (solve | (rfl)); (solve | (rfl)); (solve | (decide)); (solve | (decide)); (solve | (rfl)); (solve | (rfl)); (solve | (rfl)); (solve | (rfl)); (solve | (intro u hu; simp at hu; rcases hu with rfl | rfl <;> rfl)); (solve | (omega)); (solve | (omega)); (intro A7 c7 w7 hp7; have k2 := (hp7.below.cell (p := ⟨W + 1, 0, none⟩) (by simp only; omega)).trans co; have k4 := ((bcell hp7.below).2 (W + 1) 0 (by omega)).trans fo; have H7 := Lib.hid (HE6.out.push (p := (x.far, sv)) hp7); have H8 := Lib.hid ((hp7.below.mono (by omega : W + 1 ≤ W + 3)).setCell (p := ⟨W + 1, 0, none⟩) (Nat.le_refl _) (.slice A7 (sp.1.length + 1) c7)); clear hp7 ce fe co fo)))
          | fail)
        have hE8 := H7.out
        have hK8 := Lib.hid (HK6.out.trans H8.out)
        clear H7 H8 k2 k4
        generalize w7.setCell ⟨W + 1, 0, none⟩ (.slice A7 (sp.1.length + 1) c7) = w8 at *
        obtain ⟨ce, fe, -, -, -, -, -, -, -⟩ := id hE8
        have hE9 := hE8.setE (-1)
        have hK9 := Lib.hid (hK8.out.setCell (p := ⟨W + 1 + 1, 0, none⟩) (by simp only; omega) (.int .i64 (-1)))
        clear hE8 hK8 z9
        go_upto_region 12 with fail
        clear ce fe
        generalize w8.setCell ⟨W + 1 + 1, 0, none⟩ (.int .i64 (-1)) = w9 at *
        by_cases hsv : sv = 0
        · subst hsv
          rw [if_pos rfl] at HF
          have HE9 := Lib.hid hE9
          clear hE9
          go_wp2_with fail
          exact ⟨⟨k + 1, by omega, by go_num, ⟨_, by rw [HF.out]; exact HE9.out⟩, hK9.out⟩, by simp [intOf]; omega⟩
        · have e1 : (sv != 0) = true := by simp [hsv]
          rw [if_neg hsv] at HF
          have hl9 := hE9.lb
          have hrc := HRK.out w9 (hJ3.below (hK9.out.mono (by omega))) (hr3.below (hK9.out.mono (by omega))) (by omega)
          have q0 := (hK9.out.cell (p := ⟨W, 0, none⟩) (by simp only; omega)).trans hx3.q0
          have q1 := (hK9.out.cell (p := ⟨W, 1, none⟩) (by simp only; omega)).trans hx3.q1
          have HE9 := Lib.hid hE9
          have hX := Lib.hid hx3
          clear hE9 hsv hx3
          go_wp2_with fail
          refine hrc.mono ?_
          rintro e w10 ⟨rfl, hb10⟩
          have hE10 := HE9.out.below hb10
          obtain ⟨ce, fe, -, -, -, -, -, -, -⟩ := id hE10
          have hE11 := Lib.hid (hE10.setE (rcF L dir x.far J))
          have hK11 := Lib.hid ((hK9.out.trans (hb10.mono (by omega))).setCell (p := ⟨W + 1 + 1, 0, none⟩) (by simp only; omega) (.int .i64 (rcF L dir x.far J)))
          clear hE10 hrc q0 q1 hb10
          go_wp2_with fail
          exact ⟨⟨k + 1, by omega, by go_num, ⟨_, by rw [HF.out]; exact hE11.out⟩, hK11.out⟩, by simp [intOf]; omega⟩
    · obtain rfl : k = ys.length := by omega
      rw [List.take_length] at hE
      have hlb := hE.lb
      have hl2 : (evRow L dir topic J ys).1.length ≤ 900 := by
        have := evRow_length L dir topic J ys ([], -1)
        simp only [evRow, List.length_nil] at this ⊢; omega
      have q0 := (hbk.cell (p := ⟨W, 0, none⟩) (by simp only; omega)).trans hx3.q0
      have hst := lStop hE (B := W + 1) (Nat.le_succ _) (Nat.le_refl _) (by omega) L
      have HK := Lib.hid hbk
      have hX := Lib.hid hx3
      have hz3 : W < wr.heap.size := by omega
      clear hE hbk hlen hx3
      go_wp2_with fail
      refine hst.mono ?_
      rintro e w6 ⟨rfl, ⟨v6, hE6⟩, hb6, -⟩
      obtain ⟨ce, fe, co, fo, own, -, -, -, lb⟩ := hE6
      have hst2 : stopF L ((evRow L dir topic J ys).1, (evRow L dir topic J ys).2) = stopF L (evRow L dir topic J ys) := rfl
      rw [hst2] at own
      have HO := Lib.hid own
      have HBF := Lib.hid (HB3.out.trans ((HK.out.trans hb6).mono (by omega)))
      clear own hst q0 hb6 ce fe fo hst2
      go_wp2_with fail
      go_ret
      obtain ⟨-, A6, c6, hv6, hP⟩ := owns_pairs HO.out
      refine ⟨A6, c6, by rw [← hv6]; rfl, fun k hk => ?_, by rw [hW]; exact HBF.out⟩
      obtain ⟨g, cap, hg1, hg2, hg3⟩ := HO.out.form (by omega)
      have ho := HO.out
      rw [hg1] at ho
      rw [hg1] at hv6
      injection hv6 with hv1 _ _
      have e1 := ho.cellAt (k * 2) (by omega)
      have e2 := ho.cellAt (k * 2 + 1) (by omega)
      rw [(pcells_at _ k hk).1] at e1
      rw [(pcells_at _ k hk).2] at e2
      exact ⟨g, hv1.symm, by omega, hg3, e1, e2⟩
end Go.Proofs.YtdmmcdbojmalfaaGreat
