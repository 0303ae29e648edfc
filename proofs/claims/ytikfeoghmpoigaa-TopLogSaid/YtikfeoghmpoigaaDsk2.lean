/- TopLog: clones of bytes, NewDisk, Cut, Crash, Read. -/
import Derived.Test.YtikfeoghmpoigaaDsk
import Derived.Shelf.SlicesE.Clone
import Derived.Deep.DeepCutAuto
namespace Go.Proofs.Ytikfeoghmpoigaa
open Go.RowKit
section
variable {w w' : World} {base d : Nat} {S : Dk}
theorem own_byts {b : Nat} {v : Value} {n : Nat} {xs : List Nat} (h : w.ownsRow b 5 1 v n (bcells xs)) : xs.length = n ∧ ∃ (A : Option Addr) (c : Nat), v = .slice A n c ∧ Byts w w.heap.size A xs := by
  have hl : xs.length = n := by have := h.1; simpa [bcells] using this
  refine ⟨hl, ?_⟩
  rcases Nat.eq_zero_or_pos n with h0 | h0
  · obtain ⟨A, c, hv⟩ := own_len h
    exact ⟨A, c, hv, .inl (List.eq_nil_of_length_eq_zero (by omega))⟩
  · obtain ⟨g, cap, rfl, _, hg⟩ := h.form h0
    refine ⟨_, cap, rfl, .inr ⟨g, 0, rfl, hg, fun j hj => ?_⟩⟩
    have e1 := h.cellAt j (by omega)
    rw [show (bcells xs)[j]? = some (.int .u8 (atb xs j : Nat)) by simp [bcells, atb, hj]] at e1
    simpa using e1
set_option maxRecDepth 100000 in
set_option maxHeartbeats 2000000 in
theorem lbClone (A : Option Addr) (c B : Nat) (xs : List Nat) (h : Byts w B A xs) (hB : B ≤ w.heap.size) (hl : xs.length ≤ 1000000) :
    Calls Try.prog 22 #[.slice A xs.length c] w fun e w' => ∃ v', e = .returned v' ∧ w'.ownsRow w.heap.size 5 1 v' xs.length (bcells xs) ∧ Below w.heap.size w w' := by
  have q22 : ∀ (w : World) (a : Option Addr) (n c n' c' : Nat), (binOp .eql 24 (.slice a n c) (.slice none n' c')).run Try.prog w = .ok (.bool a.isNone) w := fun w a n c n' c' => Lib.run_eql_slice_nil w _ _ a n c n' c' Try.underlying24
  cases A with
  | none =>
    obtain rfl : xs = [] := by
      rcases h with h | ⟨_, _, h, _⟩
      · exact h
      · cases h
    go_enter Try.func22, Try.ntmps22
    go_wp2_with fail
    go_ret
    exact ⟨_, rfl, World.ownsRow_nil _ _ _ _, Below.refl _ _⟩
  | some a =>
    obtain ⟨i0, hi, hz0, hz2, hz3⟩ := info_parts info5
    have hba := (Below.refl w.heap.size w).alloc (Nat.le_refl _) (.cells #[] 5)
    have hown : (w.alloc (.cells #[] 5)).ownsRow w.heap.size 5 1 (.slice (some ⟨w.heap.size, 0, none⟩) 0 0) 0 (bcells []) := World.ownsRow_lit (base := w.heap.size) (e := 5) (size := 1) w #[] 0 (Nat.le_refl _) (by decide) rfl
    have hx := h.below (hba.mono hB)
    go_enter Try.func22, Try.ntmps22
    go_wp2_with (first
      | (at_builtin; go_loud (refine wpList_append_own_at _ ?_ (.tmp 5) (.tmp 6) 24 ?_ w.heap.size 5 i0 (.int .u8 0) 1 1 Try.underlying24 hi hz0 hz2 hz3 ?_ ?_ (.slice (some ⟨w.heap.size, 0, none⟩) 0 0) 0 (bcells []) ?_ hown a xs.length c (bcells xs) ?_ ?_ hx.news bcells_one ?_ ?_ ?_ ?_; (solve | (rfl)); (solve | (rfl)); (solve | (rfl)); (solve | (decide)); (solve | (rfl)); (solve | (rfl)); (solve | (simp [bcells])); (solve | (unfold maxLen; omega)); (solve | (omega)); (solve | (simp; done)); (intro v' w2 hown2 hgrow hnil hat)))
      | fail)
    go_ret
    exact ⟨v', rfl, by simpa [bcells] using hown2, hba.grown hgrow (by simp) (by intro k hk; simp [Value.ownBlock] at hk; omega)⟩
set_option maxRecDepth 100000 in
set_option maxHeartbeats 2000000 in
theorem lsClone (A : Option Addr) (c B : Nat) (xs : List Nat) (h : Byts w B A xs) (hB : B ≤ w.heap.size) (hl : xs.length ≤ 1000000) :
    Calls Try.prog 23 #[.slice A xs.length c] w fun e w' => ∃ v', e = .returned v' ∧ w'.ownsRow w.heap.size 5 1 v' xs.length (bcells xs) ∧ Below w.heap.size w w' := by
  have q22 : ∀ (w : World) (a : Option Addr) (n c n' c' : Nat), (binOp .eql 24 (.slice a n c) (.slice none n' c')).run Try.prog w = .ok (.bool a.isNone) w := fun w a n c n' c' => Lib.run_eql_slice_nil w _ _ a n c n' c' Try.underlying24
  cases A with
  | none =>
    obtain rfl : xs = [] := by
      rcases h with h | ⟨_, _, h, _⟩
      · exact h
      · cases h
    go_enter Try.func23, Try.ntmps23
    go_wp2_with fail
    go_ret
    exact ⟨_, rfl, World.ownsRow_nil _ _ _ _, Below.refl _ _⟩
  | some a =>
    obtain ⟨i0, hi, hz0, hz2, hz3⟩ := info_parts info5
    have hba := (Below.refl w.heap.size w).alloc (Nat.le_refl _) (.cells #[] 5)
    have hown : (w.alloc (.cells #[] 5)).ownsRow w.heap.size 5 1 (.slice (some ⟨w.heap.size, 0, none⟩) 0 0) 0 (bcells []) := World.ownsRow_lit (base := w.heap.size) (e := 5) (size := 1) w #[] 0 (Nat.le_refl _) (by decide) rfl
    have hx := h.below (hba.mono hB)
    go_enter Try.func23, Try.ntmps23
    go_wp2_with (first
      | (at_builtin; go_loud (refine wpList_append_own_at _ ?_ (.tmp 5) (.tmp 6) 24 ?_ w.heap.size 5 i0 (.int .u8 0) 1 1 Try.underlying24 hi hz0 hz2 hz3 ?_ ?_ (.slice (some ⟨w.heap.size, 0, none⟩) 0 0) 0 (bcells []) ?_ hown a xs.length c (bcells xs) ?_ ?_ hx.news bcells_one ?_ ?_ ?_ ?_; (solve | (rfl)); (solve | (rfl)); (solve | (rfl)); (solve | (decide)); (solve | (rfl)); (solve | (rfl)); (solve | (simp [bcells])); (solve | (unfold maxLen; omega)); (solve | (omega)); (solve | (simp; done)); (intro v' w2 hown2 hgrow hnil hat)))
      | fail)
    go_ret
    exact ⟨v', rfl, by simpa [bcells] using hown2, hba.grown hgrow (by simp) (by intro k hk; simp [Value.ownBlock] at hk; omega)⟩
set_option maxRecDepth 100000 in
set_option maxHeartbeats 2000000 in
theorem lNewDisk : Calls Try.prog 5 #[] w fun e w' => e = .returned (.pointer (some ⟨w.heap.size, 0, none⟩)) ∧ DskAt w' w.heap.size w.heap.size ⟨.slice none 0 0, [], 0, 0, false, 0⟩ ∧ Below w.heap.size w w' := by
  go_enter Try.func5, Try.ntmps5
  go_wp2_with fail
  go_ret
  refine ⟨rfl, ?_, (Below.refl _ _).alloc (Nat.le_refl _) _⟩
  refine ⟨by simp [go_sem], by simp [go_sem], by simp [go_sem], by simp [go_sem], by simp [go_sem], by simp [go_sem], fun j hj => ?_, World.ownsRow_nil _ _ _ _, by simp [Value.ownBlock], Nat.le_refl _, by simp, fun x hx => (by cases hx), Nat.le_refl _, Nat.zero_le _, Nat.zero_le _, Nat.zero_le _⟩
  rcases (by omega : j = 0 ∨ j = 1 ∨ j = 2 ∨ j = 3 ∨ j = 4 ∨ j = 5) with rfl | rfl | rfl | rfl | rfl | rfl <;> simp [go_sem]
set_option maxRecDepth 100000 in
set_option maxHeartbeats 2000000 in
theorem lRead (h : DskAt w base d S) (hd : S.down = false) :
    Calls Try.prog 14 #[.pointer (some ⟨d, 0, none⟩)] w fun e w' => ∃ v', e = .returned (.tuple #[v', .int .i64 0]) ∧ w'.ownsRow w.heap.size 5 1 v' S.bs.length (bcells S.bs) ∧ Below w.heap.size w w' := by
  have hdn := ldown h
  rw [hd] at hdn
  obtain ⟨hl, A, c, hv, hb⟩ := own_byts h.own
  obtain ⟨c0, c1, c2, c3, c4, c5, fz, own, hnd, hlo, hhi, -, -, hlen, -, -⟩ := id h
  rw [hv] at c2
  have hcl := lsClone (w := w) A c _ S.bs hb (Nat.le_refl _) hlen
  clear fz own hv hnd hl
  go_enter Try.func14, Try.ntmps14
  go_wp2_with (first
    | (go_at_call 9; refine hdn.mono ?_; rintro e w' ⟨rfl, rfl⟩)
    | (go_at_call 23; refine hcl.mono ?_; rintro e w' ⟨v', rfl, hown, hbl⟩)
    | fail)
  go_ret2
  exact ⟨v', rfl, hown, hbl⟩
theorem own_take {b e n m cap g : Nat} {xs : List Value} (h : w.ownsRow b e 1 (.slice (some ⟨g, 0, none⟩) n cap) n xs) (hm : m ≤ n) : w.ownsRow b e 1 (.slice (some ⟨g, 0, none⟩) m cap) m (xs.take m) := by
  have hl := h.1
  refine ⟨by rw [List.length_take]; omega, ?_⟩
  rcases h.2 with ⟨h1, _⟩ | ⟨g', cap', cur, h1, hb, hg, hn, hc, hs, ht⟩
  · cases h1
  · injection h1 with h1 _ h3
    injection h1 with h1
    injection h1 with h1
    subst h1 h3
    refine .inr ⟨g, cap, cur, rfl, hb, hg, by omega, hc, hs, ?_⟩
    rw [← ht, List.take_take]
    congr 1
    omega
set_option maxRecDepth 100000 in
set_option maxHeartbeats 2000000 in
theorem lwith (a b c : Int) (w : World) : Calls Try.prog 26 #[.int .i64 a, .int .i64 b, .int .i64 c] w fun e w' => e = .returned (.bool (inB a b c)) ∧ w' = w := by
  by_cases h1 : a ≤ b
  · by_cases h2 : b ≤ c
    · rw [inB_t h1 h2]
      go_enter Try.func26, Try.ntmps26
      go_wp2
      go_ret
      exact ⟨rfl, rfl⟩
    · rw [inB_f (fun h => h2 h.2)]
      go_enter Try.func26, Try.ntmps26
      go_wp2
      go_ret
      exact ⟨rfl, rfl⟩
  · rw [inB_f (fun h => h1 h.1)]
    go_enter Try.func26, Try.ntmps26
    go_wp2
    go_ret
    exact ⟨rfl, rfl⟩
theorem DskAt.cut (h : DskAt w base d S) (n : Nat) (hn : n ≤ S.bs.length) (v' : Value) (hb : v'.ownBlock = S.v.ownBlock) (own : w.ownsRow base 5 1 v' n (bcells (S.bs.take n))) :
    DskAt ((w.setCell ⟨d, 2, none⟩ v').setCell ⟨d, 3, none⟩ (.int .i64 n)) base d { S with v := v', bs := S.bs.take n, safe := n } := by
  have hl : (S.bs.take n).length = n := by rw [List.length_take]; omega
  have hne : v'.ownBlock ≠ some d := by rw [hb]; exact h.ne
  refine ⟨?_, ?_, ?_, World.cell?_setCell_same (u := .int .i64 S.safe) _ _ _ ?_, ?_, ?_, fun j hj => ?_, ?_, hne, h.lo, by simpa using h.hi, fun x hx => h.u8 x (List.mem_of_mem_take hx), ?_, ?_, h.arm, h.lif⟩
  · rw [World.cell?_setCell_other _ _ _ _ (ne_addr (by decide)), World.cell?_setCell_other _ _ _ _ (ne_addr (by decide))]; exact h.c0
  · rw [World.cell?_setCell_other _ _ _ _ (ne_addr (by decide)), World.cell?_setCell_other _ _ _ _ (ne_addr (by decide))]; exact h.c1
  · rw [World.cell?_setCell_other _ _ _ _ (ne_addr (by decide))]; exact World.cell?_setCell_same _ _ _ h.c2
  · rw [World.cell?_setCell_other _ _ _ _ (ne_addr (by decide))]; exact h.c3
  · rw [World.cell?_setCell_other _ _ _ _ (ne_addr (by decide)), World.cell?_setCell_other _ _ _ _ (ne_addr (by decide))]; exact h.c4
  · rw [World.cell?_setCell_other _ _ _ _ (ne_addr (by decide)), World.cell?_setCell_other _ _ _ _ (ne_addr (by decide))]; exact h.c5
  · rw [World.frozen?_setCell, World.frozen?_setCell]; exact h.fz j hj
  · show World.ownsRow _ base 5 1 v' (S.bs.take n).length (bcells (S.bs.take n))
    rw [hl]
    exact (Chg.setCell (T := fun k => k = d) rfl).own ((Chg.setCell (T := fun k => k = d) rfl).own own (fun g hg e => hne (by rw [hg, e]))) (fun g hg e => hne (by rw [hg, e]))
  · show n ≤ (S.bs.take n).length; omega
  · show (S.bs.take n).length ≤ _; have := h.len; omega
/-- The disk with its first n bytes alone. -/
def cutS (S : Dk) (v' : Value) (n : Nat) : Dk := { begS S with v := v', bs := S.bs.take n, safe := n }
set_option maxRecDepth 100000 in
set_option maxHeartbeats 2000000 in
theorem lCut (h : DskAt w base d S) (hd : S.down = false) (n : Nat) (hn : n ≤ S.bs.length) :
    Calls Try.prog 16 #[.pointer (some ⟨d, 0, none⟩), .int .i64 n] w fun e w' => e = .returned (.int .i64 (begE S)) ∧ Chg (fun k => k = d) w w' ∧ (S.armed = 1 → DskAt w' base d (begS S)) ∧
      (S.armed ≠ 1 → ∃ v', v'.ownBlock = S.v.ownBlock ∧ DskAt w' base d (cutS S v' n)) := by
  have hdn := ldown h
  rw [hd] at hdn
  have hw : inB 0 n S.bs.length = true := inB_t (by omega) (by omega)
  have hb0 := lbegin h hd
  obtain ⟨A0, cc0, hv0⟩ := own_len h.own
  obtain ⟨c0, c1, c2, c3, c4, c5, -, -, -, -, -, -, -, -, -, -⟩ := id h
  rw [hv0] at c2
  go_enter Try.func16, Try.ntmps16
  go_wp2_with (first
    | (go_at_call 9; refine hdn.mono ?_; rintro e w' ⟨rfl, rfl⟩)
    | (go_at_call 26; refine (lwith _ _ _ _).mono ?_; rintro e w' ⟨rfl, rfl⟩; rw [hw])
    | fail)
  refine hb0.mono ?_
  rintro e w1 ⟨rfl, h1, hc1⟩
  clear hdn hw hb0 c0 c1 c2 c3 c4 c5
  by_cases ha : S.armed = 1
  · have e1 : begE S = 92 := by unfold begE; rw [if_pos ha]
    rw [e1]
    have E1 := Lib.hid e1
    clear e1
    go_wp2_with fail
    go_ret
    exact ⟨by rw [E1.out]; rfl, hc1, fun _ => h1, fun hh => absurd ha hh⟩
  · have e1 : begE S = 0 := by unfold begE; rw [if_neg ha]
    obtain ⟨q1, q2, q3, q4⟩ := begS_same S
    rw [e1]
    have E1 := Lib.hid e1
    have hn1 : n ≤ (begS S).bs.length := by rw [q2]; exact hn
    obtain ⟨c0, c1, c2, c3, c4, c5, fz, own, hnd, hlo, hhi, hu8, -, hlen, -, -⟩ := id h1
    have f2 := fz 2 (by omega)
    have f3 := fz 3 (by omega)
    have fin : ∀ v', v'.ownBlock = (begS S).v.ownBlock → w1.ownsRow base 5 1 v' n (bcells ((begS S).bs.take n)) → v'.ownBlock = S.v.ownBlock ∧ DskAt ((w1.setCell ⟨d, 2, none⟩ v').setCell ⟨d, 3, none⟩ (.int .i64 n)) base d (cutS S v' n) := by
      intro v' hb hown
      refine ⟨by rw [hb, q1], ?_⟩
      have hd2 := h1.cut n hn1 v' hb hown
      unfold cutS
      rw [← q2]
      exact hd2
    have FIN := Lib.hid fin
    have hch : ∀ v', Chg (fun k => k = d) w' ((w1.setCell ⟨d, 2, none⟩ v').setCell ⟨d, 3, none⟩ (.int .i64 n)) := fun v' => (hc1.trans (Chg.setCell (T := fun k => k = d) rfl) fun k _ h => h).trans (Chg.setCell (T := fun k => k = d) rfl) fun k _ h => h
    clear fz h h1 e1 q1 q2 q3 q4 hd fin
    generalize begS S = S1 at *
    rcases id own.2 with ⟨hv, h0⟩ | ⟨g, cap, cur, hv, hbg, hgg, hnc, hcm, hcs, _⟩
    · obtain rfl : n = 0 := by omega
      have fin := Lib.hid (FIN.out (.slice none 0 0) (by rw [hv]) (World.ownsRow_nil _ _ _ _))
      rw [hv] at c2
      go_wp2_with fail
      go_ret
      exact ⟨by rw [E1.out]; rfl, hch _, fun hh => absurd hh ha, fun _ => ⟨_, fin.out⟩⟩
    · have fin := Lib.hid (FIN.out (.slice (some ⟨g, 0, none⟩) n cap) (by rw [hv]; rfl) (by rw [hv] at own; have := own_take own hn1; simpa [bcells, List.map_take] using this))
      rw [hv] at c2
      have hn2 : n ≤ cap := by omega
      clear own hgg
      go_wp2_with fail
      go_ret
      exact ⟨by rw [E1.out]; rfl, hch _, fun hh => absurd hh ha, fun _ => ⟨_, fin.out⟩⟩
/-- What a loss of power leaves: keep of the loose bytes. -/
def kept (S : Dk) (keep : Int) : Nat := S.safe + (min (max keep 0) ((S.bs.length : Int) - S.safe)).toNat
def crashS (S : Dk) (v' : Value) (keep : Int) : Dk := ⟨v', S.bs.take (kept S keep), kept S keep, 0, false, S.life + 1⟩
theorem DskAt.drew (h : DskAt w base d S) : DskAt w.drew base d S := h.chg (Chg.of_below (T := fun _ => False) (Below.refl _ _).drew) (fun h => h) (fun _ _ h => h)
theorem Chg.drew {T : Nat → Prop} (h : Chg T w w') : Chg T w w'.drew := ⟨h.os, h.tape, h.output, h.size, h.block⟩
theorem kept_le (hs : S.safe ≤ S.bs.length) (keep : Int) : S.safe ≤ kept S keep ∧ kept S keep ≤ S.bs.length := by unfold kept; omega
set_option maxRecDepth 100000 in
set_option maxHeartbeats 4000000 in
theorem lCrash (h : DskAt w base d S) (keep : Int) (hl : S.life ≤ 900) :
    Calls Try.prog 13 #[.pointer (some ⟨d, 0, none⟩), .int .i64 keep] w fun e w' => e = .returned (.tuple #[]) ∧ Chg (fun k => k = d) w w' ∧ ∃ v', v'.ownBlock = S.v.ownBlock ∧ DskAt w' base d (crashS S v' keep) := by
  obtain ⟨A0, cc0, hv0⟩ := own_len h.own
  obtain ⟨c0, c1, c2, c3, c4, c5, fz, own, hnd, hlo, hhi, hu8, hsf, hlen, -, -⟩ := id h
  have k1 : 0 ≤ min (max keep 0) ((S.bs.length : Int) - S.safe) := by omega
  have k2 : min (max keep 0) ((S.bs.length : Int) - S.safe) ≤ (S.bs.length : Int) - S.safe := by omega
  have f2 := fz 2 (by omega)
  rw [hv0] at c2
  go_enter Try.func13, Try.ntmps13
  go_wp2_with (first
    | (go_at_call 18; refine (lnone h).mono ?_; rintro e w' ⟨rfl, rfl⟩)
    | fail)
  go_quiet (fail)
  obtain ⟨K, hK⟩ : ∃ K : Nat, min (max keep 0) ((S.bs.length : Int) - S.safe) = (K : Int) := ⟨(min (max keep 0) ((S.bs.length : Int) - S.safe)).toNat, by omega⟩
  have hkp : kept S keep = S.safe + K := by unfold kept; rw [hK]; rfl
  rw [hK] at k1 k2 ⊢
  clear hK
  have hbd : Below w'.heap.size w' (w'.drewN nq) := below_drewN (Below.refl _ _) _
  have h2 := h.chg (Chg.of_below (T := fun _ => False) hbd) (fun h => h) (fun _ _ h => h)
  have hc2 : Chg (fun k => k = d) w' (w'.drewN nq) := Chg.of_below hbd
  clear c0 c1 c2 c3 c4 c5 fz own hhi f2 hbd
  generalize w'.drewN nq = w2 at *
  obtain ⟨c0, c1, c2, c3, c4, c5, fz, own, -, -, hhi, -, -, -, -, -⟩ := id h2
  have f1 := fz 1 (by omega)
  have f2 := fz 2 (by omega)
  have f3 := fz 3 (by omega)
  have f4 := fz 4 (by omega)
  have f5 := fz 5 (by omega)
  clear fz
  have hsum : Hid ((S.safe : Int) + (K : Int) = ((S.safe + K : Nat) : Int)) := Lib.hid (by push_cast; rfl)
  have hn1 : S.safe + K ≤ S.bs.length := by omega
  have h3 := h2.setSafe (S.safe + K) hn1
  have hc3 : Chg (fun k => k = d) w' (w2.setCell ⟨d, 3, none⟩ (.int .i64 ((S.safe + K : Nat) : Int))) := hc2.trans (Chg.setCell (T := fun k => k = d) rfl) fun k _ h => h
  go_upto_region 3 with fail
  rw [hsum.out]
  clear c0 c1 c2 c3 c4 c5 own hhi h2 hc2 f1 f2 f3 f4 f5 hsum
  generalize w2.setCell ⟨d, 3, none⟩ (.int .i64 ((S.safe + K : Nat) : Int)) = w3 at *
  obtain ⟨c0, c1, c2, c3, c4, c5, fz, own, -, -, hhi, -, -, -, -, -⟩ := id h3
  have f2 := fz 2 (by omega)
  clear fz
  have hfin : ∃ v', v'.ownBlock = S.v.ownBlock ∧ w3.ownsRow base 5 1 v' (S.safe + K) (bcells (S.bs.take (S.safe + K))) ∧ ((S.v = .slice none 0 0 ∧ S.safe + K = 0 ∧ v' = .slice none 0 0) ∨ ∃ g cap, S.v = .slice (some ⟨g, 0, none⟩) S.bs.length cap ∧ S.safe + K ≤ cap ∧ v' = .slice (some ⟨g, 0, none⟩) (S.safe + K) cap) := by
    rcases id own.2 with ⟨hv, h0⟩ | ⟨g, cap, cur, hv, hbg, hgg, hnc, hcm, hcs, _⟩
    · have hv : S.v = .slice none 0 0 := hv
      have h0 : S.bs.length = 0 := h0
      have e0 : S.safe + K = 0 := by omega
      exact ⟨.slice none 0 0, by rw [hv], by rw [e0]; exact World.ownsRow_nil _ _ _ _, .inl ⟨hv, e0, rfl⟩⟩
    · have hv : S.v = .slice (some ⟨g, 0, none⟩) S.bs.length cap := hv
      have hnc : S.bs.length ≤ cap := hnc
      have own' : w3.ownsRow base 5 1 S.v S.bs.length (bcells S.bs) := own
      refine ⟨.slice (some ⟨g, 0, none⟩) (S.safe + K) cap, by rw [hv]; rfl, ?_, .inr ⟨g, cap, hv, by omega, rfl⟩⟩
      rw [hv] at own'
      have := own_take own' hn1
      simpa [bcells, List.map_take] using this
  obtain ⟨v', hvb, hvo, hvv⟩ := hfin
  have h4 := h3.setBytes v' (S.bs.take (S.safe + K)) (by rw [show (S.bs.take (S.safe + K)).length = S.safe + K by rw [List.length_take]; omega]; exact hvo) (by rw [hvb]; exact h3.ne) (fun x hx => hu8 x (List.mem_of_mem_take hx)) (show S.safe + K ≤ (S.bs.take (S.safe + K)).length by rw [List.length_take]; omega) (by rw [List.length_take]; omega)
  have hc4 : Chg (fun k => k = d) w' (w3.setCell ⟨d, 2, none⟩ v') := hc3.trans (Chg.setCell (T := fun k => k = d) rfl) fun k _ h => h
  have H4 := Lib.hid h4
  have HC4 := Lib.hid hc4
  clear own c0 c1 c4 c5 hvo h4 hc4
  have c2' : w3.cell? ⟨d, 2, none⟩ = some S.v := c2
  have c3' : w3.cell? ⟨d, 3, none⟩ = some (.int .i64 ((S.safe + K : Nat) : Int)) := c3
  clear c2 c3
  go_cut [1] (fun t1 wx => DskAt wx base d { { S with safe := S.safe + K } with v := v', bs := S.bs.take (S.safe + K) } ∧ Chg (fun k => k = d) w' wx)
  case first =>
    generalize hn2 : S.safe + K = n at *
    clear hn2
    rcases hvv with ⟨hv, rfl, rfl⟩ | ⟨g, cap, hv, hcap, rfl⟩
    · rw [hv] at c2'
      go_region
      all_goals (go_wp2_with fail; go_meet)
      all_goals exact ⟨by first | exact H4.out | exact H4.out.drew, by first | exact HC4.out | exact HC4.out.drew⟩
    · rw [hv] at c2'
      go_region
      all_goals (go_wp2_with fail; go_meet)
      all_goals exact ⟨by first | exact H4.out | exact H4.out.drew, by first | exact HC4.out | exact HC4.out.drew⟩
  case rest =>
    obtain ⟨h5, hc5⟩ := hcut
    obtain ⟨w5, rfl⟩ : ∃ w5 : World, w5 = wc := ⟨_, rfl⟩
    have h6 := ((h5.setDown false).setArmed 0 (by omega)).setLife (S.life + 1) (by omega)
    rw [show ((S.life + 1 : Nat) : Int) = (S.life : Int) + 1 by push_cast; rfl] at h6
    have hc6 : Chg (fun k => k = d) w' (((w5.setCell ⟨d, 1, none⟩ (.bool false)).setCell ⟨d, 4, none⟩ (.int .i64 0)).setCell ⟨d, 5, none⟩ (.int .i64 ((S.life : Int) + 1))) :=
      ((hc5.trans (Chg.setCell (T := fun k => k = d) rfl) fun k _ h => h).trans (Chg.setCell (T := fun k => k = d) rfl) fun k _ h => h).trans (Chg.setCell (T := fun k => k = d) rfl) fun k _ h => h
    obtain ⟨c0, c1, c2, c3, c4, c5, fz, own, -, -, hhi, -, -, -, -, -⟩ := id h5
    have f1 := fz 1 (by omega)
    have f4 := fz 4 (by omega)
    have f5 := fz 5 (by omega)
    have c5' : w5.cell? ⟨d, 5, none⟩ = some (.int .i64 S.life) := c5
    have c1' : w5.cell? ⟨d, 1, none⟩ = some (.bool S.down) := c1
    have c4' : w5.cell? ⟨d, 4, none⟩ = some (.int .i64 S.armed) := c4
    have H6 := Lib.hid h6
    have HC6 := Lib.hid hc6
    have HKP := Lib.hid hkp
    have HVB := Lib.hid hvb
    clear fz own h5 hc5 c0 c1 c2 c3 c4 c5 h6 hc6 hkp c2' c3' H4 HC4 h3 hc3 f2 hvv
    go_wp2_with fail
    go_end0
    refine ⟨rfl, HC6.out, v', (by first | exact HVB.out | (rw [← hv0]; exact HVB.out)), ?_⟩
    unfold crashS
    rw [HKP.out]
    exact H6.out
end
end Go.Proofs.Ytikfeoghmpoigaa
