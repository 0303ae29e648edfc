/- TopLog: Entries, SameEntries. -/
import Derived.Test.YtikfeoghmpoigaaPut
import Derived.Laws.IdiomStrings
import Derived.Laws.BytesArg
namespace Go.Proofs.Ytikfeoghmpoigaa
open Go.RowKit
/-- Bytes as a string. -/
def strB (xs : List Nat) : ByteArray := strOfNums (xs.map fun x : Nat => (x : Int))
theorem conv_zero (w : World) (p : Option Addr) (c : Nat) : (convert 24 9 (.slice p 0 c)).run Try.prog w = .ok (.string ByteArray.empty) w := by
  rw [run_convert_bytes_string w 24 9 5 _ 0 c Try.underlying24 Try.underlying5 Try.underlying9]
  cases p <;> simp [Conv.bytesToString, loadCells]
  all_goals rfl
theorem Byts.conv {w : World} {B : Nat} {A : Option Addr} {xs : List Nat} (h : Byts w B A xs) (n c : Nat) (hn : xs.length = n) : (convert 24 9 (.slice A n c)).run Try.prog w = .ok (.string (strB xs)) w := by
  subst hn
  rcases h with rfl | ⟨b, off, rfl, _, hc⟩
  · exact conv_zero w A c
  · exact run_convert_bytes_arg (P := Try.prog) w 24 5 Try.underlying24 Try.underlying5 b off xs.length c (xs.map fun x : Nat => (x : Int)) (by simp) (fun i hi => by rw [hc i hi]; simp [atb, List.getD_eq_getElem?_getD, hi]) 9 Try.underlying9
/-- What holds at the head of Entries' loop. -/
def EnRel (w : World) (es : List (List Nat)) (k : Nat) (v : Value) (wr : World) : Prop :=
  ∃ N : Nat → Prop, Ents wr w.heap.size N v (es.take k) ∧ (∀ b, N b → b < wr.heap.size) ∧ (∀ b, b < w.heap.size → N b) ∧ (∀ g, v.ownBlock = some g → N g) ∧ Below w.heap.size w wr
theorem ents_next {w4 w5 : World} {base n : Nat} {N : Nat → Prop} {zs : List Value} {z ev v5 : Value} {es : List (List Nat)} {e : List Nat} (hz : EntsZ w4 N (zs ++ [z]) (es ++ [e])) (hg : w4.grownBy w5 ev.ownBlock) (hn : es.length = n)
    (hown5 : w5.ownsRow base 24 1 v5 (n + 1) (zs ++ [z])) (hat : v5.ownBlock = ev.ownBlock ∨ v5.ownBlock = some w4.heap.size) (hE : ∀ g, ev.ownBlock = some g → N g) :
    Ents w5 base (fun b => N b ∨ v5.ownBlock = some b) v5 (es ++ [e]) := by
  have hc1 : Chg (fun b => ev.ownBlock = some b) w4 w5 := Chg.of_grown hg fun g hg => hg
  refine ⟨zs ++ [z], by rw [List.length_append, hn]; exact hown5, hz.step hc1 (fun b _ hb => hE b hb) fun b hb hh => ?_⟩
  rcases hh with hh | hh
  · exact hh
  · rcases hat with e1 | e1
    · exact hE b (by rw [← e1]; exact hh)
    · rw [e1] at hh; injection hh with hh; omega
theorem en_next {w w3 w5 : World} {es : List (List Nat)} {k : Nat} {N : Nat → Prop} {v z v5 : Value} {zs : List Value} {cs : Array Value} {t : TypeId} {e : List Nat} (hez2 : EntsZ w3 N (zs ++ [z]) (es.take k ++ [e])) (hes : es.take (k + 1) = es.take k ++ [e]) (htl : (es.take k).length = k)
    (hN : ∀ b, N b → b < w3.heap.size) (hO : ∀ b, b < w.heap.size → N b) (hE : ∀ g, v.ownBlock = some g → N g) (hvl : ∀ g, v.ownBlock = some g → w.heap.size ≤ g) (hb3 : Below w.heap.size w w3) (ho5 : w5.ownsRow w.heap.size 24 1 v5 (k + 1) (zs ++ [z])) (hg5 : (w3.alloc (.cells cs t)).grownBy w5 v.ownBlock)
    (hat5 : v5.ownBlock = v.ownBlock ∨ v5.ownBlock = some (w3.alloc (.cells cs t)).heap.size) : EnRel w es (k + 1) v5 w5 := by
  have hb4 : Below w3.heap.size w3 (w3.alloc (.cells cs t)) := (Below.refl _ _).alloc (Nat.le_refl _) _
  have hez4 := hez2.step (N' := N) (Chg.of_below (T := fun _ => False) hb4) (fun _ _ h => h.elim) (fun _ _ h => h)
  refine ⟨fun b => N b ∨ v5.ownBlock = some b, by rw [hes]; exact ents_next hez4 hg5 htl ho5 hat5 hE, ?_, fun b hb => .inl (hO b hb), fun g hg => .inr hg, (hb3.trans (hb4.mono hb3.size)).grown hg5 (by have := hb3.size; simp; omega) hvl⟩
  intro b hb
  have h5 := hg5.size
  simp at h5
  rcases hb with hb | hb
  · have := hN b hb; omega
  · exact (ho5.lt b hb).2
set_option maxRecDepth 100000 in
set_option maxHeartbeats 4000000 in
theorem lEntries2 {w : World} {base d l life : Nat} {f : Bool} {ev : Value} {es : List (List Nat)} {N : Nat → Prop} (hlg : LogAt w base d l life f ev) (hen : Ents w base N ev es) (hu : U8s es) (hne : es.length ≤ 1000) :
    Calls Try.prog 11 #[.pointer (some ⟨l, 0, none⟩)] w fun en w' => ∃ v N', en = .returned v ∧ Ents w' w.heap.size N' v es ∧ (∀ b, b < w.heap.size → N' b) ∧ Below w.heap.size w w' := by
  obtain ⟨c0, c1, c2, c3, -, -, -⟩ := id hlg
  have hnn := lLnone hlg
  obtain ⟨zs, hoz, hez⟩ := hen
  obtain ⟨A, c, hv⟩ := own_len hoz
  rw [hv] at c3
  have hcell : ∀ j, j < es.length → ∃ b, A = some ⟨b, 0, none⟩ ∧ b < w.heap.size ∧ w.cell? ⟨b, j, none⟩ = zs[j]? := by
    intro j hj
    obtain ⟨g, cap, hv2, _, hg⟩ := hoz.form (by omega)
    rw [hv] at hv2
    injection hv2 with h1 _ h2
    refine ⟨g, h1, hg, ?_⟩
    rw [hv, h1] at hoz
    exact hoz.cellAt j (by omega)
  have HC := Lib.hid hcell
  have HZ := Lib.hid hez
  have HU := Lib.hid hu
  clear hcell hez hoz hlg hv hu
  have hr0 : EnRel w es 0 (.slice none 0 0) w := ⟨fun b => b < w.heap.size, Ents.nil, fun _ h => h, fun _ h => h, (by intro g hg; cases hg), Below.refl _ _⟩
  go_enter Try.func11, Try.ntmps11
  go_wp2_with (first
    | (go_at_call 19; refine hnn.mono ?_; rintro e w' ⟨rfl, rfl⟩)
    | fail)
  obtain ⟨w1, rfl⟩ : ∃ w1 : World, w1 = w' := ⟨_, rfl⟩
  clear hnn c0 c1 c2 c3
  go_loopw [3, 13] (fun v i wr => ∃ k : Nat, k ≤ es.length ∧ i = .int .i64 k ∧ EnRel w1 es k v wr) (fun _ i _ => es.length - (intOf i).toNat)
  case atStart => exact ⟨0, Nat.zero_le _, rfl, hr0⟩
  case round =>
    obtain ⟨k, hk, rfl, hrel⟩ := hrel
    clear hr0
    by_cases hlt : k < es.length
    · obtain ⟨N', hen, hN, hO, hE, hbl⟩ := hrel
      obtain ⟨b, rfl, hbb, hcz⟩ := HC.out k hlt
      obtain ⟨A1, cc1, hz1, hA1, hby1⟩ := HZ.out.2 k hlt
      have y1 : wr.cell? ⟨b, k, none⟩ = some (.slice A1 (ate es k).length cc1) := by
        rw [hbl.cell (p := ⟨b, k, none⟩) hbb, hcz, hz1]
      have hue := HU.out _ (ate_mem hlt)
      have hcl := lbClone (w := wr) A1 cc1 w1.heap.size (ate es k) (hby1.byts.below hbl) hbl.size (by omega)
      have HES : Hid (es.take (k + 1) = es.take k ++ [ate es k]) := Lib.hid (by rw [List.take_succ_eq_append_getElem hlt]; simp [ate, hlt])
      have HTL : Hid ((es.take k).length = k) := Lib.hid (by rw [List.length_take]; omega)
      have hvl := fun g hg => (hen.lt g hg).1
      clear hcz hz1 hby1 hue
      go_wp2_with (first
        | (go_at_call 22; refine hcl.mono ?_; rintro en w3 ⟨v3, rfl, ho3, hb3⟩; obtain ⟨-, A3, c3, rfl, hA3, -, hbn3⟩ := own_bytsN (N := N') ho3 hN; obtain ⟨zt, hot, het⟩ := hen.step (N' := N') (Chg.of_below (T := fun _ => False) hb3) (fun _ _ h => h.elim) (fun _ _ h => h) (fun _ _ h => h); have het2 := het.snoc hbn3 hA3; rw [HTL.out] at hot; have hz4 : (w3.alloc (.cells #[.slice A3 (ate es k).length c3] 24)).cell? ⟨w3.heap.size, 0, none⟩ = some (.slice A3 (ate es k).length c3) := by simp [go_sem])
        | (at_builtin; go_loud (refine wpList_push ?_ (.tmp 17) (.tmp 20) ?_ w1.heap.size _ k zt ?_ (hot.alloc (.cells #[.slice A3 (ate es k).length c3] 24)) w3.heap.size (.slice A3 (ate es k).length c3) ?_ hz4 ?_ ?_ ?_ ?_; (solve | (rfl)); (solve | (rfl)); (solve | (rfl)); (solve | (rfl)); (solve | (rfl)); (solve | (omega)); (solve | (have := hbl.size; have := hb3.size; simp; omega)); (intro v5 w5 ho5 hg5 hat5; have hrel5 := en_next het2 HES.out HTL.out (fun b hb => by have := hN b hb; have := hb3.size; omega) hO hE hvl (hbl.trans (hb3.mono hbl.size)) ho5 hg5 hat5; clear ho5 hg5 hat5)))
        | fail)
      exact ⟨⟨k + 1, by omega, by go_num, hrel5⟩, by simp [intOf]; omega⟩
    · obtain rfl : k = es.length := by omega
      obtain ⟨N', hen, hN, hO, hE, hbl⟩ := hrel
      rw [List.take_length] at hen
      go_wp2_with fail
      go_ret
      exact ⟨_, N', rfl, hen, hO, hbl⟩
theorem lEntries {w : World} {base d l life : Nat} {f : Bool} {ev : Value} {es : List (List Nat)} {N : Nat → Prop} (hlg : LogAt w base d l life f ev) (hen : Ents w base N ev es) (hu : U8s es) (hne : es.length ≤ 1000) :
    Calls Try.prog 11 #[.pointer (some ⟨l, 0, none⟩)] w fun en w' => ∃ v N', en = .returned v ∧ Ents w' w.heap.size N' v es ∧ Below w.heap.size w w' :=
  (lEntries2 hlg hen hu hne).mono fun _ _ ⟨v, N', h1, h2, _, h3⟩ => ⟨v, N', h1, h2, h3⟩
/-- Two equal lists of entries are the same. -/
def EntRd (w : World) (v : Value) (es : List (List Nat)) : Prop :=
  ∃ (A : Option Addr) (c : Nat), v = .slice A es.length c ∧ ∀ j, j < es.length → ∃ b A1 c1, A = some ⟨b, 0, none⟩ ∧ w.cell? ⟨b, j, none⟩ = some (.slice A1 (ate es j).length c1) ∧ Byts w w.heap.size A1 (ate es j)
theorem Ents.rd {w : World} {base : Nat} {N : Nat → Prop} {v : Value} {es : List (List Nat)} (h : Ents w base N v es) : EntRd w v es := by
  obtain ⟨zs, hoz, hez⟩ := h
  obtain ⟨A, c, hv⟩ := own_len hoz
  refine ⟨A, c, hv, fun j hj => ?_⟩
  obtain ⟨g, cap, hv2, _, hg⟩ := hoz.form (by omega)
  obtain ⟨A1, c1, h1, h2, h3⟩ := hez.2 j hj
  refine ⟨g, A1, c1, ?_, ?_, h3.byts⟩
  · rw [hv] at hv2; injection hv2
  · rw [hv2] at hoz
    exact (hoz.cellAt j (by omega)).trans h1
set_option maxRecDepth 100000 in
set_option maxHeartbeats 4000000 in
theorem lSame {w : World} {v1 v2 : Value} {es : List (List Nat)} (h1 : EntRd w v1 es) (h2 : EntRd w v2 es) (hne : es.length ≤ 1000) :
    Calls Try.prog 10 #[v1, v2] w fun en w' => en = .returned (.bool true) ∧ Drew w w' := by
  obtain ⟨A, c, rfl, hc1⟩ := h1
  obtain ⟨A', c', rfl, hc2⟩ := h2
  have H1 := Lib.hid hc1
  have H2 := Lib.hid hc2
  clear hc1 hc2
  go_enter Try.func10, Try.ntmps10
  go_wp2_with fail
  obtain ⟨w1, rfl⟩ : ∃ w1 : World, w1 = w := ⟨_, rfl⟩
  go_loopw [5] (fun i wr => ∃ k : Nat, k ≤ es.length ∧ i = .int .i64 k ∧ Drew w1 wr) (fun i _ => es.length - (intOf i).toNat)
  case atStart => exact ⟨0, Nat.zero_le _, rfl, Drew.refl _⟩
  case round =>
    obtain ⟨k, hk, rfl, q, rfl⟩ := hrel
    by_cases hlt : k < es.length
    · obtain ⟨b, A1, cc1, rfl, y1, z1⟩ := H1.out k hlt
      obtain ⟨b', A2, cc2, rfl, y2, z2⟩ := H2.out k hlt
      obtain ⟨n, hn⟩ : ∃ n, (ate es k).length = n := ⟨_, rfl⟩
      have k1 : ∀ m, (convert 24 9 (.slice A1 n cc1)).run Try.prog (w1.drewN m) = .ok (.string (strB (ate es k))) (w1.drewN m) := fun m => (z1.keep (w' := w1.drewN m) fun p _ => rfl).conv n cc1 hn
      have k2 : ∀ m, (convert 24 9 (.slice A2 n cc2)).run Try.prog (w1.drewN m) = .ok (.string (strB (ate es k))) (w1.drewN m) := fun m => (z2.keep (w' := w1.drewN m) fun p _ => rfl).conv n cc2 hn
      rw [hn] at y1 y2
      have b0 : (0 : Int) ≤ (k : Int) := by omega
      have b1 : (k : Int) < (es.length : Int) := by omega
      have b2 : k < es.length := hlt
      clear z1 z2 hn
      go_wp2_with fail
      go_quiet (fail)
      go_wp2_with fail
      exact ⟨⟨k + 1, by omega, by go_num, _, rfl⟩, by simp [intOf]; omega⟩
    · obtain rfl : k = es.length := by omega
      go_wp2_with fail
      go_ret
      exact ⟨rfl, _, rfl⟩
end Go.Proofs.Ytikfeoghmpoigaa
