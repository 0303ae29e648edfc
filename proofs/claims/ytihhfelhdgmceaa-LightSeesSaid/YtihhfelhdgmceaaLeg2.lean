/- Contract of the program's Legible. -/
import Derived.Test.YtihhfelhdgmceaaLeg1
import Derived.Deep.DeepCutAuto
import Derived.Test.YtihhfelhdgmceaaBri2
namespace Go.Proofs.Ytihhfelhdgmceaa
open Go.RowKit
theorem info106 : (Try.prog.info? 106).map (fun i => (i.zero, i.size, i.bytes)) = some (some (.agg #[.int .i64 0, .int .i64 0]), 2, 16) := by kernel_rfl
noncomputable def legOk (t : Tb) (s : Sc) (need letter : Int) (n : Nat) : Bool := decide (10 * (n : Int) ≤ 6 * letter) && decide (need ≤ brightF t s n)
def LegArg (need letter : Int) : Prop := (0 ≤ need ∧ need ≤ 1000000000) ∧ 1 ≤ letter ∧ letter ≤ 2000
/-- What Legible returns. -/
def LegRes (t : Tb) (s : Sc) (need letter : Int) (w : World) (e : Ending) (w' : World) : Prop :=
  (seenF t s ≠ 0 → e = .returned (.tuple #[.slice none 0 0, .int .i64 (seenF t s)])) ∧
  (seenF t s = 0 → ¬ LegArg need letter → e = .returned (.tuple #[.slice none 0 0, .int .i64 2])) ∧
  (seenF t s = 0 → LegArg need letter → ∃ (A : Option Addr) (c : Nat), e = .returned (.tuple #[.slice A (spansTo (legOk t s need letter) 400).length c, .int .i64 0]) ∧ Pairs w' w'.heap.size A (spansTo (legOk t s need letter) 400)) ∧ Below w.heap.size w w'
theorem legOk_t {t : Tb} {s : Sc} {need letter : Int} {k : Nat} (h1 : 10 * ((k : Int) + 1) ≤ 6 * letter) (h2 : need ≤ brightF t s ((k : Int) + 1)) : legOk t s need letter (k + 1) = true := by
  simp only [legOk, Int.natCast_add, Int.natCast_one, Bool.and_eq_true, decide_eq_true_eq]
  exact ⟨h1, h2⟩
theorem legOk_f {t : Tb} {s : Sc} {need letter : Int} {k : Nat} (h : ¬ (10 * ((k : Int) + 1) ≤ 6 * letter ∧ need ≤ brightF t s ((k : Int) + 1))) : legOk t s need letter (k + 1) = false := by
  rw [Bool.eq_false_iff]
  simp only [legOk, Int.natCast_add, Int.natCast_one, ne_eq, Bool.and_eq_true, decide_eq_true_eq]
  exact h
theorem spans_skip {ok : Nat → Bool} {k : Nat} (h : ok (k + 1) = false) : spansTo ok (k + 1) = spansTo ok k := by simp [spansTo, h]
theorem spans_step {ok : Nat → Bool} {k : Nat} (h : ok (k + 1) = true) : spansTo ok (k + 1) = stepSpan (spansTo ok k) ((k : Int) + 1) := by simp [spansTo, h]
set_option maxRecDepth 100000 in
set_option maxHeartbeats 4000000 in
theorem lLegible (A0 A1 A2 : Option Addr) (c0 c1 c2 B : Nat) (t : Tb) (s : Sc) (need letter : Int) (w : World) (h : Tab w B A0 A1 A2 t) (hB : B ≤ w.heap.size) (hn : Small t) :
    Calls Try.prog 45 #[.agg #[.slice A0 t.obs.length c0, .slice A1 t.ent.length c1, .slice A2 t.r.length c2], .agg #[.int .i64 s.rise, .int .i64 s.side, .int .i64 s.turn, .int .i64 s.power], .int .i64 need, .int .i64 letter] w (LegRes t s need letter w) := by
  have hT := Boxed.new (c0 := c0) (c1 := c1) (c2 := c2) h hB
  have hal := boxed_world (w := w) (v := #[.slice A0 t.obs.length c0, .slice A1 t.ent.length c1, .slice A2 t.r.length c2])
  generalize hW : w.alloc (.cells #[.slice A0 t.obs.length c0, .slice A1 t.ent.length c1, .slice A2 t.r.length c2] 25) = w0 at hT hal
  have hz : w0.heap.size = w.heap.size + 1 := by rw [← hW]; simp
  have HW := Lib.hid hW
  have hS := ScBox.new w0 s 40
  have hb1 : Below w0.heap.size w0 (w0.alloc (.cells #[.int .i64 s.rise, .int .i64 s.side, .int .i64 s.turn, .int .i64 s.power] 40)) := (Below.refl _ _).alloc (Nat.le_refl _) _
  generalize hW1 : w0.alloc (.cells #[.int .i64 s.rise, .int .i64 s.side, .int .i64 s.turn, .int .i64 s.power] 40) = w1 at hS hb1
  have HW1 := Lib.hid hW1
  replace hT := hT.below hb1 hT.sz
  replace hal := hal.trans (hb1.mono (by omega))
  rw [hz] at hS
  clear h hW hb1 hz hW1
  obtain ⟨q0, q1, q2⟩ := And.intro hT.q0 (And.intro hT.q1 hT.q2)
  obtain ⟨v0, v1, v2, v3, _⟩ := id hS
  by_cases hz : seenF t s = 0
  · have HZ := Lib.hid hz
    obtain ⟨ht, hs⟩ := seenF_z hz
    clear hz
    by_cases hd : 0 ≤ need ∧ need ≤ 1000000000
    · by_cases hl : 1 ≤ letter ∧ letter ≤ 2000
      · have i1 := inB_t hd.1 hd.2
        have i2 := inB_t hl.1 hl.2
        go_enter Try.func45, Try.ntmps45
        go_wp2_with fail
        rw [HW.out, HW1.out]
        refine (lseen _ _ _ _ _ _ B _ s _ hT.tab (by have := hT.lt; have := hT.sz; omega) hn).mono ?_
        rintro x w2 ⟨rfl, hb⟩
        rw [HZ.out]
        replace hal := hal.trans (hb.mono hal.size)
        replace hT := hT.below hb hT.sz
        replace hS := hS.below hb hS.sz
        clear v0 v1 v2 v3 q0 q1 q2 hb
        obtain ⟨q0, q1, q2⟩ := And.intro hT.q0 (And.intro hT.q1 hT.q2)
        obtain ⟨v0, v1, v2, v3, _⟩ := id hS
        go_wp2_with (go_at_call 58; refine (lwithin _ _ _ _).mono ?_; rintro e w' ⟨rfl, rfl⟩)
        obtain ⟨l0, l1⟩ := hl
        obtain ⟨n0, n1⟩ := hd
        clear HW HW1 i1 i2
        have hsz0 : w.heap.size + 1 < w2.heap.size := hS.sz
        obtain ⟨i0, hi, hz0, hz2, hz3⟩ := info_parts info106
        go_loopw [11, 12, 13] (fun out d _ wr => ∃ k : Nat, k ≤ 400 ∧ d = .int .i64 ((k : Int) + 1) ∧ wr.ownsRow w2.heap.size 106 2 out (spansTo (legOk t s need letter) k).length (pcells (spansTo (legOk t s need letter) k)) ∧ Below w2.heap.size w2 wr) (fun _ d _ _ => 401 - (intOf d).toNat)
        case atStart => exact ⟨0, Nat.zero_le _, rfl, World.ownsRow_nil _ _ _ _, Below.refl _ _⟩
        case round =>
          obtain ⟨k, hk, rfl, hown, hb⟩ := hrel
          by_cases hlt : k < 400
          · have hT' := hT.below hb hT.sz
            have hS' := hS.below hb hS.sz
            obtain ⟨q0', q1', q2'⟩ := And.intro hT'.q0 (And.intro hT'.q1 hT'.q2)
            obtain ⟨v0', v1', v2', v3', _⟩ := id hS'
            by_cases c1 : 10 * ((k : Int) + 1) ≤ 6 * letter
            · go_wp2_with fail
              refine (lbright _ _ _ _ _ _ B _ _ _ _ hT'.tab (by have := hT'.lt; have := hT'.sz; omega) ht hs (by omega) (by omega)).mono ?_
              rintro x w3 ⟨rfl, hb3⟩
              replace hown := owns_keep hown hb3
              replace hb := hb.trans (hb3.mono hb.size)
              by_cases c2 : need ≤ brightF t s ((k : Int) + 1)
              · have HOK := Lib.hid (spans_step (legOk_t c1 c2))
                have hsl := spansTo_length (legOk t s need letter) k
                obtain ⟨_, A, c, rfl, hPp⟩ := owns_pairs hown
                generalize hps : spansTo (legOk t s need letter) k = ps at *
                generalize hnl : ps.length = n at *
                rcases n with _ | m
                · have HS := Lib.hid (step_app (d := (k : Int) + 1) (Or.inl hnl))
                  go_upto_region 14 with fail
                  go_wp2_with (first
                    | (at_builtin; refine wpList_append_lies _ ?_ (.tmp 66) (.tmp 71) 43 ?_ w2.heap.size 106 i0 (.agg #[.int .i64 0, .int .i64 0]) 2 16 Try.underlying43 hi hz0 hz2 hz3 ?_ ?_ (.slice A 0 c) (0) (pcells ps) ?_ ?_ ⟨w3.heap.size, 0, none⟩ 1 1 [.int .i64 ((k : Int) + 1), .int .i64 ((k : Int) + 1 + 1)] ?_ ?_ ?_ ?_ ?_ ?_ ?_ ?_ (w3.heap.size + 1) ?_ ?_; (solve | (rfl)); (solve | (rfl)); (solve | (rfl)); (solve | (decide)); (solve | (rfl)); (solve | (exact owns_new (t := 106) (cs := #[_, _]) hown (by first | exact .inl rfl | exact .inr (.inl rfl) | exact .inr (.inr rfl)))); (solve | (rfl)); (solve | (rfl)); (solve | (exact new_cells (t := 106) (cs := #[_, _]) (by first | exact .inl rfl | exact .inr (.inl rfl) | exact .inr (.inr rfl)))); (solve | ((intro u hu; simp only [List.mem_cons, List.not_mem_nil, or_false] at hu; rcases hu with rfl | rfl <;> rfl))); (solve | (omega)); (solve | ((unfold maxLen; omega))); (solve | (omega)); (solve | ((have := hb.size; simp; omega))); (solve | ((simp; done))); (intro g3 cap3 w6 hown3 hgrow hat hg3))
                    | fail)
                  have hfin : w6.ownsRow w2.heap.size 106 2 (.slice (some ⟨g3, 0, none⟩) (0 + 1) cap3) (spansTo (legOk t s need letter) (k + 1)).length (pcells (spansTo (legOk t s need letter) (k + 1))) := by
                    rw [HOK.out, HS.out, pcells_append, List.length_append, hnl]
                    exact hown3
                  have hb6 : Below w2.heap.size w2 w6 := app_below (t := 106) (cs := #[_, _]) (.inl rfl) hb hb.size hown hgrow
                  exact ⟨⟨k + 1, by omega, by go_num, hfin, hb6⟩, by simp [intOf]; omega⟩
                · obtain ⟨g, cap, hv, hgb, hgl⟩ := hown.form (by omega)
                  cases hv
                  have e1 := hown.cellAt (m * 2 + 1) (by omega)
                  rw [(pcells_at ps m (by omega)).2] at e1
                  have hfz := hown.frozenAt (m * 2 + 1)
                  by_cases ht : (atp ps m).2 = (k : Int) + 1
                  · have HS := Lib.hid (step_set hnl ht)
                    go_upto_region 13 with fail
                    go_wp2
                    have hst := (hown.stored (m * 2 + 1) (.int .i64 ((k : Int) + 1 + 1))).1
                    rw [pcells_set ps m _ (by omega)] at hst
                    have hfin : (w3.setCell ⟨g, m * 2 + 1, none⟩ (.int .i64 ((k : Int) + 1 + 1))).ownsRow w2.heap.size 106 2 (.slice (some ⟨g, 0, none⟩) (m + 1) c) (spansTo (legOk t s need letter) (k + 1)).length (pcells (spansTo (legOk t s need letter) (k + 1))) := by
                      rw [HOK.out, HS.out, List.length_set, hnl]
                      exact hst
                    exact ⟨⟨k + 1, by omega, by go_num, hfin, hb.setCell hgb _⟩, by simp [intOf]; omega⟩
                  · have HS := Lib.hid (step_app (ps := ps) (d := (k : Int) + 1) (Or.inr (by rw [hnl]; exact ht)))
                    go_upto_region 14 with fail
                    go_wp2_with (first
                      | (at_builtin; refine wpList_append_lies _ ?_ (.tmp 66) (.tmp 71) 43 ?_ w2.heap.size 106 i0 (.agg #[.int .i64 0, .int .i64 0]) 2 16 Try.underlying43 hi hz0 hz2 hz3 ?_ ?_ (.slice (some ⟨g, 0, none⟩) (m + 1) c) (m + 1) (pcells ps) ?_ ?_ ⟨w3.heap.size, 0, none⟩ 1 1 [.int .i64 ((k : Int) + 1), .int .i64 ((k : Int) + 1 + 1)] ?_ ?_ ?_ ?_ ?_ ?_ ?_ ?_ (w3.heap.size + 1) ?_ ?_; (solve | (rfl)); (solve | (rfl)); (solve | (rfl)); (solve | (decide)); (solve | (rfl)); (solve | (exact owns_new (t := 106) (cs := #[_, _]) hown (by first | exact .inl rfl | exact .inr (.inl rfl) | exact .inr (.inr rfl)))); (solve | (rfl)); (solve | (rfl)); (solve | (exact new_cells (t := 106) (cs := #[_, _]) (by first | exact .inl rfl | exact .inr (.inl rfl) | exact .inr (.inr rfl)))); (solve | ((intro u hu; simp only [List.mem_cons, List.not_mem_nil, or_false] at hu; rcases hu with rfl | rfl <;> rfl))); (solve | (omega)); (solve | ((unfold maxLen; omega))); (solve | (omega)); (solve | ((have := hb.size; simp; omega))); (solve | ((simp; done))); (intro g3 cap3 w6 hown3 hgrow hat hg3))
                      | fail)
                    have hfin : w6.ownsRow w2.heap.size 106 2 (.slice (some ⟨g3, 0, none⟩) (m + 1 + 1) cap3) (spansTo (legOk t s need letter) (k + 1)).length (pcells (spansTo (legOk t s need letter) (k + 1))) := by
                      rw [HOK.out, HS.out, pcells_append, List.length_append, hnl]
                      exact hown3
                    have hb6 : Below w2.heap.size w2 w6 := app_below (t := 106) (cs := #[_, _]) (.inl rfl) hb hb.size hown hgrow
                    exact ⟨⟨k + 1, by omega, by go_num, hfin, hb6⟩, by simp [intOf]; omega⟩
              · have HOK := Lib.hid (spans_skip (legOk_f (letter := letter) fun h => c2 h.2))
                go_wp2_with fail
                exact ⟨⟨k + 1, by omega, by go_num, by rw [HOK.out]; exact hown, hb⟩, by simp [intOf]; omega⟩
            · have HOK := Lib.hid (spans_skip (legOk_f (t := t) (s := s) (need := need) fun h => c1 h.1))
              go_wp2_with fail
              exact ⟨⟨k + 1, by omega, by go_num, by rw [HOK.out]; exact hown, hb⟩, by simp [intOf]; omega⟩
          · obtain rfl : k = 400 := by omega
            obtain ⟨_, A, c, rfl, hPp⟩ := owns_pairs hown
            go_wp2
            go_ret2
            exact ⟨fun h => absurd HZ.out h, fun _ h => absurd ⟨⟨n0, n1⟩, l0, l1⟩ h, fun _ _ => ⟨A, c, rfl, hPp⟩, hal.trans (hb.mono hal.size)⟩
      · have i1 := inB_t hd.1 hd.2
        have i2 := inB_f hl
        go_enter Try.func45, Try.ntmps45
        go_wp2_with fail
        rw [HW.out, HW1.out]
        refine (lseen _ _ _ _ _ _ B _ s _ hT.tab (by have := hT.lt; have := hT.sz; omega) hn).mono ?_
        rintro x w2 ⟨rfl, hb⟩
        rw [HZ.out]
        go_wp2_with (go_at_call 58; refine (lwithin _ _ _ _).mono ?_; rintro e w' ⟨rfl, rfl⟩)
        go_ret2
        exact ⟨fun h => absurd HZ.out h, fun _ _ => rfl, fun _ h => absurd h.2 hl, hal.trans (hb.mono hal.size)⟩
    · have i1 := inB_f hd
      go_enter Try.func45, Try.ntmps45
      go_wp2_with fail
      rw [HW.out, HW1.out]
      refine (lseen _ _ _ _ _ _ B _ s _ hT.tab (by have := hT.lt; have := hT.sz; omega) hn).mono ?_
      rintro x w2 ⟨rfl, hb⟩
      rw [HZ.out]
      go_wp2_with (go_at_call 58; refine (lwithin _ _ _ _).mono ?_; rintro e w' ⟨rfl, rfl⟩)
      go_ret2
      exact ⟨fun h => absurd HZ.out h, fun _ _ => rfl, fun _ h => absurd h.1 hd, hal.trans (hb.mono hal.size)⟩
  · have HZ := Lib.hid hz
    have hne : (seenF t s != 0) = true := by rw [bne_iff_ne]; exact hz
    clear hz
    go_enter Try.func45, Try.ntmps45
    go_wp2_with fail
    rw [HW.out, HW1.out]
    refine (lseen _ _ _ _ _ _ B _ s _ hT.tab (by have := hT.lt; have := hT.sz; omega) hn).mono ?_
    rintro x w2 ⟨rfl, hb⟩
    go_wp2
    go_ret2
    exact ⟨fun _ => rfl, fun h => absurd h HZ.out, fun h => absurd h HZ.out, hal.trans (hb.mono hal.size)⟩
end Go.Proofs.Ytihhfelhdgmceaa
