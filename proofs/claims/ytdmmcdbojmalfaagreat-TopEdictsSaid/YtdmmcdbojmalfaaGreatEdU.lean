/- TopEdicts: plates, ends of what begins, stops. -/
import Derived.Test.YtdmmcdbojmalfaaGreatEdR
import Derived.Test.YtdmmcdbojmalfaaGreatEdS
import Derived.BigQuiet
namespace Go.Proofs.YtdmmcdbojmalfaaGreat
open Go.RowKit
set_option maxRecDepth 100000 in
set_option maxHeartbeats 4000000 in
theorem lPlated (A : Option Addr) (c B : Nat) (ys : List Mee) (k : Nat) (w : World) (h : RowsK w B A 10 encM ys) (hk : k < ys.length) (hn : ys.length ≤ 1000) (h7 : ∀ x ∈ ys, x.s.kind ≠ 7) :
    Calls Tryz.prog 85 #[.slice A ys.length c, .int .i64 k] w fun e w' => e = .returned (.bool false) ∧ Drew w w' := by
  obtain ⟨b, o, rfl, hbb, hcc⟩ := h.at_ hk
  by_cases hlt : k + 1 < ys.length
  · have y1 := hcc (k + 1) hlt 1 _ rfl
    have h7' : (ys[k + 1].s.kind == 7) = false := by have := h7 _ (List.getElem_mem hlt); simp [this]
    have hg : decide ((k : Int) + 1 < (ys.length : Int)) = true := decide_eq_true (by omega)
    have hi : (k : Int) + 1 < (ys.length : Int) := by omega
    clear hcc h7 h
    generalize ys[k + 1] = x at *
    go_enter Tryz.func85, Tryz.ntmps85
    go_wp2_with fail
    go_quiet (fail)
    go_wp2_with fail
    go_ret
    exact ⟨rfl, _, rfl⟩
  · have hg : decide ((k : Int) + 1 < (ys.length : Int)) = false := decide_eq_false (by omega)
    clear hcc h7 h
    go_enter Tryz.func85, Tryz.ntmps85
    go_wp2_with fail
    go_quiet (fail)
    go_wp2_with fail
    go_ret
    exact ⟨rfl, _, rfl⟩
/-- Where a start at a distance ends. -/
def rcS (L dir far : Int) (e : Int) (j : Int) : Int := if far < disF L dir j then min e (disF L dir j) else e
def rcF (L dir far : Int) (J : List Int) : Int := J.foldl (rcS L dir far) L
theorem take_at0 {J : List Int} {k : Nat} (h : k < J.length) : J.take (k + 1) = J.take k ++ [at0 J k] := by rw [List.take_succ_eq_append_getElem h]; simp [at0, h]
theorem rcF_snoc (L dir far : Int) (J : List Int) (j : Int) : rcF L dir far (J ++ [j]) = rcS L dir far (rcF L dir far J) j := by simp [rcF]
set_option maxRecDepth 100000 in
set_option maxHeartbeats 4000000 in
theorem lReach (AJ A : Option Addr) (cJ c B : Nat) (L : Int) (J : List Int) (ys : List Mee) (k : Nat) (dir : Int) (w : World) (hJ : Ints w B AJ J) (h : RowsK w B A 10 encM ys) (hB : B ≤ w.heap.size) (hk : k < ys.length) (hn : ys.length ≤ 1000) (h7 : ∀ x ∈ ys, x.s.kind ≠ 7)
    (hL : 1 ≤ L ∧ L ≤ 100000) (hJn : J.length ≤ 50) (hJb : ∀ j, j < J.length → 0 ≤ at0 J j ∧ at0 J j ≤ 1000000) :
    Calls Tryz.prog 66 #[.agg #[.int .i64 L, .slice AJ J.length cJ], .slice A ys.length c, .int .i64 k, .int .i64 dir] w fun e w' => e = .returned (.int .i64 (rcF L dir ys[k].far J)) ∧ Below w.heap.size w w' := by
  have hb : Below w.heap.size w (w.alloc (.cells #[.int .i64 L, .slice AJ J.length cJ] 32)) := (Below.refl _ _).alloc (Nat.le_refl _) _
  have hx := LnBox.new w L AJ J.length cJ
  have hJ1 := (hJ.more hB).below hb
  have hr1 := (h.more hB).below hb
  have HJB := Lib.hid hJb
  have HPL : Hid (∀ wz : World, RowsK wz w.heap.size A 10 encM ys → Calls Tryz.prog 85 #[.slice A ys.length c, .int .i64 k] wz fun e w' => e = .returned (.bool false) ∧ Drew wz w') := Lib.hid fun wz hz => lPlated A c w.heap.size ys k wz hz hk hn h7
  obtain ⟨W, hW⟩ : ∃ W, w.heap.size = W := ⟨_, rfl⟩
  rw [hW] at hx hb hJ1 hr1 HPL
  have HB := Lib.hid hb
  clear h hJ hb h7 hJb
  obtain ⟨far, hfar⟩ : ∃ far, ys[k].far = far := ⟨_, rfl⟩
  rw [hfar]
  have HFAR := Lib.hid hfar
  clear hfar
  go_enter Tryz.func66, Tryz.ntmps66
  go_upto_region 1 with fail
  generalize w.alloc (.cells #[.int .i64 L, .slice AJ J.length cJ] 32) = w1 at *
  obtain ⟨q0, q1, hz⟩ := id hx
  have hpl := HPL.out w1 hr1
  go_wp2_with fail
  refine hpl.mono ?_
  rintro e w2 ⟨rfl, hd⟩
  replace q0 := (hd.cell _).trans q0
  replace q1 := (hd.cell _).trans q1
  have hJ2 := hJ1.below (hd.below W)
  have hr2 := hr1.below (hd.below W)
  have HB2 := Lib.hid (HB.out.trans (hd.below W))
  have hz2 : W < w2.heap.size := by rw [hd.heap]; exact hz
  clear hpl HPL hd hx hJ1 hr1
  obtain ⟨b, o, rfl, hbb, hcc⟩ := hr2.at_ hk
  have y9 := hcc k hk 9 _ rfl
  rw [HFAR.out] at y9
  clear hcc hr2
  have hki : (k : Int) < (ys.length : Int) := by omega
  go_wp2_with fail
  have hr0 := Below.refl w2.heap.size w2
  go_loopw [9, 36] (fun en i wr => ∃ m : Nat, m ≤ J.length ∧ i = .int .i64 m ∧ en = .int .i64 (rcF L dir far (J.take m)) ∧ Below w2.heap.size w2 wr) (fun _ i _ => J.length - (intOf i).toNat)
  case atStart => exact ⟨0, Nat.zero_le _, rfl, rfl, hr0⟩
  case round =>
    obtain ⟨m, hm, rfl, rfl, hbk⟩ := hrel
    clear hr0
    have hsz := hbk.size
    by_cases hlt : m < J.length
    · obtain ⟨bj, oj, rfl, hbj, hcj⟩ := (hJ2.below (hbk.mono (by omega))).at_ hlt
      have x0 := hcj m hlt
      have r0 := (hbk.cell (p := ⟨W, 0, none⟩) hz2).trans q0
      have r1 := (hbk.cell (p := ⟨W, 1, none⟩) hz2).trans q1
      have r9 := (hbk.cell (p := ⟨b, o + k * 10 + 9, none⟩) (by simp only; omega)).trans y9
      obtain ⟨u1, u2⟩ := HJB.out m hlt
      have HT : Hid (rcF L dir far (J.take (m + 1)) = rcS L dir far (rcF L dir far (J.take m)) (at0 J m)) := Lib.hid (by rw [take_at0 hlt, rcF_snoc])
      have hds := fun wz => ldist L (.slice (some ⟨bj, oj, none⟩) J.length cJ) dir (at0 J m) wz (by omega) (by omega)
      have hba : Below w2.heap.size w2 (wr.alloc (.cells #[.int .i64 L, .slice (some ⟨bj, oj, none⟩) J.length cJ] 32)) := hbk.trans (((Below.refl _ _).alloc (Nat.le_refl _) _).mono hsz)
      have r9' := (hba.cell (p := ⟨b, o + k * 10 + 9, none⟩) (by simp only; omega)).trans y9
      have HBA := Lib.hid hba
      clear hcj hba hbk
      unfold rcS at HT
      generalize disF L dir (at0 J m) = d at *
      generalize at0 J m = jj at *
      generalize rcF L dir far (J.take m) = en at *
      by_cases hd : far < d
      · have HT2 := Lib.hid (show rcF L dir far (J.take (m + 1)) = min en d by rw [HT.out, if_pos hd])
        go_wp2_with fail
        refine (hds _).mono ?_
        rintro e w5 ⟨rfl, rfl⟩
        clear hds r0 r1 r9 q0 q1
        go_wp2_with fail
        exact ⟨⟨m + 1, by omega, by go_num, by rw [HT2.out], HBA.out⟩, by simp [intOf]; omega⟩
      · have HT2 := Lib.hid (show rcF L dir far (J.take (m + 1)) = en by rw [HT.out, if_neg hd])
        go_wp2_with fail
        refine (hds _).mono ?_
        rintro e w5 ⟨rfl, rfl⟩
        clear hds r0 r1 r9 q0 q1
        go_wp2_with fail
        exact ⟨⟨m + 1, by omega, by go_num, by rw [HT2.out], HBA.out⟩, by simp [intOf]; omega⟩
    · obtain rfl : m = J.length := by omega
      rw [List.take_length]
      have HBA := Lib.hid (HB2.out.trans (hbk.mono (by omega)))
      clear hbk q0 q1 y9
      go_wp2_with fail
      go_ret
      exact ⟨rfl, by rw [hW]; exact HBA.out⟩
/-- The boxes of events: the end and the list. -/
structure EvAt (w : World) (base E O : Nat) (v : Value) (evs : List (Int × Int)) (en : Int) : Prop where
  ce : w.cell? ⟨E, 0, none⟩ = some (.int .i64 en)
  fe : w.frozen? ⟨E, 0, none⟩ = false
  co : w.cell? ⟨O, 0, none⟩ = some v
  fo : w.frozen? ⟨O, 0, none⟩ = false
  own : w.ownsRow base 108 2 v evs.length (pcells evs)
  lE : E < base
  lO : O < base
  ne : E ≠ O
  lb : base ≤ w.heap.size
section
variable {w w' : World} {base E O : Nat} {v v' : Value} {evs evs' : List (Int × Int)} {en : Int}
theorem EvAt.below (h : EvAt w base E O v evs en) (hb : Below w.heap.size w w') : EvAt w' base E O v evs en := by
  have h1 := h.lE; have h2 := h.lO; have h3 := h.lb
  exact ⟨(hb.cell (p := ⟨E, 0, none⟩) (by simp only; omega)).trans h.ce, ((bcell hb).2 E 0 (by omega)).trans h.fe, (hb.cell (p := ⟨O, 0, none⟩) (by simp only; omega)).trans h.co, ((bcell hb).2 O 0 (by omega)).trans h.fo, owns_keep h.own hb, h1, h2, h.ne, Nat.le_trans h3 hb.size⟩
theorem EvAt.setE (h : EvAt w base E O v evs en) (e' : Int) : EvAt (w.setCell ⟨E, 0, none⟩ (.int .i64 e')) base E O v evs e' :=
  ⟨World.cell?_setCell_same _ _ _ h.ce, by simpa using h.fe, by rw [World.cell?_setCell_other _ _ _ _ (fun hh => h.ne (by injection hh))]; exact h.co, by simpa using h.fo, ownsRow_setCell_below h.own h.lE _, h.lE, h.lO, h.ne, by simpa using h.lb⟩
theorem EvAt.push {A : Option Addr} {c : Nat} {p : Int × Int} (h : EvAt w base E O v evs en) (hp : Pushed base 108 2 w v evs.length (pcells evs ++ [.int .i64 p.1, .int .i64 p.2]) A c w') : EvAt (w'.setCell ⟨O, 0, none⟩ (.slice A (evs.length + 1) c)) base E O (.slice A (evs.length + 1) c) (evs ++ [p]) en := by
  have k1 := hp.below.cell (p := ⟨E, 0, none⟩) h.lE
  have k2 := hp.below.cell (p := ⟨O, 0, none⟩) h.lO
  have k3 := (bcell hp.below).2 E 0 h.lE
  have k4 := (bcell hp.below).2 O 0 h.lO
  refine ⟨by rw [World.cell?_setCell_other _ _ _ _ (fun hh => h.ne (by injection hh with h1; exact h1.symm))]; exact k1.trans h.ce, by simpa using k3.trans h.fe, World.cell?_setCell_same _ _ _ (k2.trans h.co), by simpa using k4.trans h.fo, ?_, h.lE, h.lO, h.ne, by have := hp.size; have := h.lb; simp; omega⟩
  refine ownsRow_setCell_below ?_ h.lO _
  rw [List.length_append, pcells_append]
  exact hp.own
end
set_option maxRecDepth 100000 in
set_option maxHeartbeats 4000000 in
theorem lStop {w : World} {base E O B : Nat} {v : Value} {evs : List (Int × Int)} {en : Int} (h : EvAt w base E O v evs en) (hE : B ≤ E) (hO : B ≤ O) (hn : evs.length ≤ 1000) (far : Int) :
    Calls Tryz.prog 64 #[.int .i64 far, .pointer (some ⟨E, 0, none⟩), .pointer (some ⟨O, 0, none⟩)] w fun e w' => e = .returned (.tuple #[]) ∧ (∃ v', EvAt w' base E O v' (stopF far (evs, en)).1 (stopF far (evs, en)).2) ∧ Below B w w' ∧ (∀ p : Addr, p.block < w.heap.size → p.block ≠ E → p.block ≠ O → v.ownBlock ≠ some p.block → w'.cell? p = w.cell? p) := by
  have hs : stopF far (evs, en) = if 0 ≤ en ∧ en ≤ far then (evs ++ [(en, 0)], -1) else (evs, en) := rfl
  have HS := Lib.hid hs
  have HH := Lib.hid h
  clear hs
  obtain ⟨ce, fe, co, fo, own, lE, lO, ne, lb⟩ := h
  have HOW := Lib.hid own
  clear own
  by_cases h1 : 0 ≤ en
  · by_cases h2 : en ≤ far
    · have HS2 := Lib.hid (show stopF far (evs, en) = (evs ++ [(en, 0)], -1) by rw [HS.out, if_pos ⟨h1, h2⟩])
      rw [HS2.out]
      go_enter Tryz.func64, Tryz.ntmps64
      go_wp2_with (first
        | (at_builtin; go_loud (refine wpList_push ?_ (.tmp 11) (.tmp 14) 103 ?_ base 108 2 16 Tryz.underlying103 info108 ?_ ?_ ?_ v evs.length (pcells evs) ?_ HOW.out w.heap.size ?_ ?_ ?_ ?_ ?_ ?_ ?_; (solve | (rfl)); (solve | (rfl)); (solve | (rfl)); (solve | (decide)); (solve | (decide)); (solve | (rfl)); (solve | (rfl)); (solve | (rfl)); (solve | (rfl)); (solve | (intro u hu; simp at hu; rcases hu with rfl | rfl <;> rfl)); (solve | (omega)); (solve | (omega)); (intro A7 c7 w7 hp7; have k2 := (hp7.below.cell (p := ⟨O, 0, none⟩) lO).trans co; have k4 := ((bcell hp7.below).2 O 0 lO).trans fo; have k1 := (hp7.below.cell (p := ⟨E, 0, none⟩) lE).trans ce; have k3 := ((bcell hp7.below).2 E 0 lE).trans fe; have HFA := Lib.hid hp7.far; have H7 := Lib.hid (HH.out.push (p := (en, 0)) hp7); have H8 := Lib.hid ((hp7.below.mono (by omega : B ≤ base)).setCell (p := ⟨O, 0, none⟩) hO (.slice A7 (evs.length + 1) c7)); clear hp7 ce fe co fo)))
        | fail)
      go_end0
      exact ⟨rfl, ⟨_, H7.out.setE (-1)⟩, H8.out.setCell (p := ⟨E, 0, none⟩) hE _, fun p h1 h2 h3 h4 => by rw [World.cell?_setCell_other _ _ _ _ (fun hh => h2 (by rw [← hh])), World.cell?_setCell_other _ _ _ _ (fun hh => h3 (by rw [← hh]))]; exact (HFA.out p h1 h4).1⟩
    · have HS2 := Lib.hid (show stopF far (evs, en) = (evs, en) by rw [HS.out, if_neg (fun hh => h2 hh.2)])
      rw [HS2.out]
      go_enter Tryz.func64, Tryz.ntmps64
      go_wp2_with fail
      go_end0
      exact ⟨rfl, ⟨v, HH.out⟩, Below.refl _ _, fun _ _ _ _ _ => rfl⟩
  · have HS2 := Lib.hid (show stopF far (evs, en) = (evs, en) by rw [HS.out, if_neg (fun hh => h1 hh.1)])
    rw [HS2.out]
    go_enter Tryz.func64, Tryz.ntmps64
    go_wp2_with fail
    go_end0
    exact ⟨rfl, ⟨v, HH.out⟩, Below.refl _ _, fun _ _ _ _ _ => rfl⟩
/-- One sign more. -/
def evStep (L dir topic : Int) (J : List Int) (s : List (Int × Int) × Int) (x : Mee) : List (Int × Int) × Int :=
  if saysB topic x.s = true then ((stopF x.far s).1 ++ [(x.far, saysV topic x.s)], if saysV topic x.s = 0 then -1 else rcF L dir x.far J) else s
def evRow (L dir topic : Int) (J : List Int) (ys : List Mee) : List (Int × Int) × Int := ys.foldl (evStep L dir topic J) ([], -1)
theorem evRow_snoc (L dir topic : Int) (J : List Int) (ys : List Mee) (x : Mee) : evRow L dir topic J (ys ++ [x]) = evStep L dir topic J (evRow L dir topic J ys) x := by simp [evRow]
theorem stopF_length (far : Int) (s : List (Int × Int) × Int) : (stopF far s).1.length ≤ s.1.length + 1 := by
  unfold stopF
  split <;> simp
theorem evStep_length (L dir topic : Int) (J : List Int) (s : List (Int × Int) × Int) (x : Mee) : (evStep L dir topic J s x).1.length ≤ s.1.length + 2 := by
  unfold evStep
  have := stopF_length x.far s
  split
  · simp; omega
  · omega
theorem evRow_length (L dir topic : Int) (J : List Int) : ∀ (ys : List Mee) (s : List (Int × Int) × Int), (ys.foldl (evStep L dir topic J) s).1.length ≤ s.1.length + 2 * ys.length
  | [], s => by simp
  | x :: ys, s => by
    have h1 := evRow_length L dir topic J ys (evStep L dir topic J s x)
    have h2 := evStep_length L dir topic J s x
    simp only [List.foldl_cons, List.length_cons]
    omega
end Go.Proofs.YtdmmcdbojmalfaaGreat
