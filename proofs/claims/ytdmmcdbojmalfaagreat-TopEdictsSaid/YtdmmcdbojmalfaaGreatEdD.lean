/- TopEdicts: numbers that are all different. -/
import Derived.Test.YtdmmcdbojmalfaaGreatEdW
import Derived.Maps.OwnOps
import Derived.Maps.Views
import Derived.Maps.OwnSet
namespace Go.Proofs.YtdmmcdbojmalfaaGreat
open Go.RowKit Go.Maps
theorem plainElem_bool_inv {H : Type} {P : Program} {e : TypeId} (he : P.underlying e = some .bool) {v : Value} {z : DataW H × List MemPlace} (h : plainElem P e v = some z) : ∃ a, v = .bool a ∧ z = (.lit (.bool a), []) := by
  unfold plainElem at h
  rw [he] at h
  cases v <;> simp at h
  exact ⟨_, rfl, h.symm⟩
theorem look_bool {H : Type} {P : Program} {k t e : TypeId} {w : World} {b n : Nat} {D : DataW H} (h : w.ownsMap P k (plainElem P e) b n D) (K : Keyed P k) (ht : P.underlying t = some (.map k e)) (he : P.underlying e = some .bool) (hz : (zeroValue e).run P w = .ok (.bool false) w)
    {key : Value} {kl : Lit} (hkey : keyOf P k key = some kl) : ∃ c, (Instr.lookup t (.map (some b)) key false).run P w = .ok (.bool c) w ∧ D.atKey kl (.lit (.bool false)) = .lit (.bool c) := by
  obtain ⟨v, ps, hrun, hv⟩ := h.lookup K ht hz (plainElem_bool he false) hkey
  obtain ⟨c, rfl, hc⟩ := plainElem_bool_inv he hv
  simp only [Prod.mk.injEq] at hc
  exact ⟨c, hrun, hc.1⟩
/-- The map says of each number whether it is among xs. -/
def MarksOf (D : DataW Unit) (xs : List Int) : Prop := ∀ z : Int, D.atKey (.int .i64 z) (.lit (.bool false)) = .lit (.bool (decide (z ∈ xs)))
theorem marks_nil : MarksOf (.map []) [] := fun _ => rfl
theorem marks_put {D : DataW Unit} {xs : List Int} (h : MarksOf D xs) (hm : IsMap D) (z : Int) : MarksOf (D.put (.int .i64 z) (.lit (.bool true))) (xs ++ [z]) := fun y => by
  by_cases e : y = z
  · subst e
    rw [atKey_put_same hm (by exact trivial)]
    simp
  · rw [atKey_put_other (by simpa using e), h y]
    congr 2
    simp [e]
theorem law3 : Keyed Tryz.prog 3 := int_keyed Tryz.underlying3
theorem zero4 (w : World) : (zeroValue 4).run Tryz.prog w = .ok (.bool false) w := by kernel_rfl
/-- The map b of w holds the marks xs. -/
def Marks (w : World) (b n : Nat) (xs : List Int) : Prop := ∃ D : DataW Unit, w.ownsMap Tryz.prog 3 (plainElem Tryz.prog 4) b n D ∧ MarksOf D xs
theorem Marks.below {w w' : World} {b n : Nat} {xs : List Int} (h : Marks w b n xs) (hb : Below w.heap.size w w') : Marks w' b n xs := by
  obtain ⟨D, h1, h2⟩ := h
  exact ⟨D, h1.kept (row := none) ⟨hb.os, hb.tape, hb.output, hb.size, fun k hk _ => hb.block k hk⟩ (by simp), h2⟩
theorem wf_i64 {z : Int} (h : -9223372036854775808 ≤ z ∧ z ≤ 9223372036854775807) : (Lit.int .i64 z).wf = true := by
  simp [Lit.wf, IntKind.min, IntKind.max, IntKind.signed, IntKind.bits]; omega
theorem wpList_marks_look {w : World} {ops : Array Oper} {rest : List Oper} {o : Oper} {a : Act} {Q : Exit → Act → World → Prop} (hg : o.guard = none) (m x : Operand) (hop : o.op = Op.lookup 94 m x false) (b n : Nat) (xs : List Int) (z : Int)
    (hm : a.eval m = .map (some b)) (h : Marks w b n xs) (hx : a.eval x = .int .i64 z) (hz : (Lit.int .i64 z).wf = true) (hK : wpList Tryz.prog ops Q rest (a.put o.dst (.bool (decide (z ∈ xs)))) w) : wpList Tryz.prog ops Q (o :: rest) a w := by
  obtain ⟨D, hown, hD⟩ := h
  refine wpList_plain hg fun K' hK' => ?_
  obtain ⟨c, hrun, hat⟩ := look_bool hown law3 Tryz.underlying94 Tryz.underlying4 (zero4 w) (keyOf_int_mk Tryz.underlying3 hz)
  rw [hD z] at hat
  injection hat with hat
  injection hat with hat
  subst hat
  unfold Oper.wp
  simp [execOp, hop, hm, hx, hrun, Result.andThen]
  exact hK' _ _ hK
theorem wpList_marks_put {w : World} {ops : Array Oper} {rest : List Oper} {o : Oper} {a : Act} {Q : Exit → Act → World → Prop} (hg : o.guard = none) (m x v : Operand) (hop : o.op = Op.mapUpdate 94 m x v) (b n : Nat) (xs : List Int) (z : Int)
    (hm : a.eval m = .map (some b)) (h : Marks w b n xs) (hn : n ≤ 1000000) (hx : a.eval x = .int .i64 z) (hv : a.eval v = .bool true) (hz : (Lit.int .i64 z).wf = true)
    (hK : ∀ w', Marks w' b (n + 1) (xs ++ [z]) → w.grownBy w' (some b) → wpList Tryz.prog ops Q rest (a.put o.dst undef) w') : wpList Tryz.prog ops Q (o :: rest) a w := by
  obtain ⟨D, hown, hD⟩ := h
  exact wpList_mapUpdate_own w hg m x v 94 hop 3 4 law3 Tryz.underlying94 _ b n D hm hown (by unfold maxLen; omega) _ _ _ hx hv (keyOf_int_mk Tryz.underlying3 hz) _ [] (plainElem_bool Tryz.underlying4 true) fun w' h1 h2 => hK w' ⟨_, h1, marks_put hD hown.isMap z⟩ h2
/-- Signs that are not covered. -/
structure Sgn where
  num : Int
  kind : Int
  val : Int
  chain : Int
  dir : Int
  rank : Int
  up : Int
  down : Int
def encG (x : Sgn) : List Value := [.int .i64 x.num, .int .i64 x.kind, .int .i64 x.val, .int .i64 x.chain, .int .i64 x.dir, .int .i64 x.rank, .int .i64 x.up, .int .i64 x.down, .slice none 0 0]
theorem encG_len (x : Sgn) : (encG x).length = 9 := rfl
theorem nodup_snoc {xs : List Int} {z : Int} (h : xs.Nodup) (hz : z ∉ xs) : (xs ++ [z]).Nodup := by
  rw [List.nodup_append]
  exact ⟨h, by simp, fun a ha b hb e => by simp at hb; subst hb; subst e; exact hz ha⟩
theorem mem_take_nodup {xs : List Int} {k : Nat} (hk : k < xs.length) (h : xs[k] ∈ xs.take k) : ¬ xs.Nodup := fun hn => by
  obtain ⟨j, hj, e⟩ := List.getElem_of_mem h
  have hjk : j < k := by rw [List.length_take] at hj; omega
  rw [List.getElem_take] at e
  have := (List.nodup_iff_pairwise_ne.1 hn)
  exact (List.pairwise_iff_getElem.1 this j k (by omega) hk hjk) e
set_option maxRecDepth 100000 in
theorem lnumE (x : Edc) (w : World) : Calls Tryz.prog 23 #[.agg #[.int .i64 x.num, .int .i64 x.topic, .int .i64 x.val, .int .i64 x.dir, .int .i64 x.fr, .int .i64 x.til, .int .i64 x.st, .int .i64 x.en]] w fun e w' => e = .returned (.int .i64 x.num) ∧ w' = w.alloc (.cells #[.int .i64 x.num, .int .i64 x.topic, .int .i64 x.val, .int .i64 x.dir, .int .i64 x.fr, .int .i64 x.til, .int .i64 x.st, .int .i64 x.en] 65) := by
  go_enter Tryz.func23, Tryz.ntmps23
  go_wp2
  go_ret
  exact ⟨rfl, rfl⟩
set_option maxRecDepth 100000 in
set_option maxHeartbeats 4000000 in
theorem ldifE (A : Option Addr) (c B : Nat) (xs : List Edc) (w : World) (h : RowsK w B A 8 encE xs) (hB : B ≤ w.heap.size) (hn : xs.length ≤ 1000) (hwf : ∀ x ∈ xs, (Lit.int .i64 x.num).wf = true) :
    Calls Tryz.prog 22 #[.slice A xs.length c, .func (.func 23) #[] #[]] w (Tells (xs.map (·.num)).Nodup w) := by
  have hmm := @run_makeMap Tryz.prog
  have hb0 : Below w.heap.size w (w.alloc (.map #[] 0)) := (Below.refl _ _).alloc (Nat.le_refl _) _
  have hm0 : Marks (w.alloc (.map #[] 0)) w.heap.size 0 [] := ⟨_, World.ownsMap_made _ _ _ _, marks_nil⟩
  obtain ⟨M, hM⟩ : ∃ M, w.heap.size = M := ⟨_, rfl⟩
  rw [hM] at hb0 hm0 hB
  have HWF := Lib.hid hwf
  clear hwf
  go_enter Tryz.func22, Tryz.ntmps22
  go_wp2_with fail
  generalize w.alloc (.map #[] 0) = w1 at *
  clear hmm
  go_loopw [11] (fun i wr => ∃ k : Nat, k ≤ xs.length ∧ i = .int .i64 k ∧ Marks wr M k ((xs.map (·.num)).take k) ∧ Hid (((xs.map (·.num)).take k).Nodup) ∧ Below M w wr) (fun i _ => xs.length - (intOf i).toNat)
  case atStart => exact ⟨0, Nat.zero_le _, rfl, by simpa using hm0, Lib.hid (by simp), hb0⟩
  case round =>
    obtain ⟨k, hk, rfl, hmk, hnd, hbk⟩ := hrel
    clear hm0 hb0
    by_cases hlt : k < xs.length
    · obtain ⟨b, o, rfl, hbb, hcc⟩ := (h.below (hbk.mono hB)).at_ hlt
      have y0 := hcc k hlt 0 _ rfl
      have y1 := hcc k hlt 1 _ rfl
      have y2 := hcc k hlt 2 _ rfl
      have y3 := hcc k hlt 3 _ rfl
      have y4 := hcc k hlt 4 _ rfl
      have y5 := hcc k hlt 5 _ rfl
      have y6 := hcc k hlt 6 _ rfl
      have y7 := hcc k hlt 7 _ rfl
      simp only [Nat.add_zero] at y0
      have hz := HWF.out _ (List.getElem_mem hlt)
      have HX : Hid ((xs.map (·.num)).take (k + 1) = (xs.map (·.num)).take k ++ [xs[k].num]) := Lib.hid (by rw [List.take_succ_eq_append_getElem (by simpa using hlt)]; simp)
      have HMEM : Hid (xs[k].num ∈ (xs.map (·.num)).take k → ¬ (xs.map (·.num)).Nodup) := Lib.hid fun hh => mem_take_nodup (k := k) (by simpa using hlt) (by simpa using hh)
      clear hcc
      generalize xs[k] = x at *
      have hs : M ≤ wr.heap.size := by have := hbk.size; omega
      have hlk := hnd
      have hb1 : Below wr.heap.size wr (wr.alloc (.cells #[.int .i64 x.num, .int .i64 x.topic, .int .i64 x.val, .int .i64 x.dir, .int .i64 x.fr, .int .i64 x.til, .int .i64 x.st, .int .i64 x.en] 65)) := (Below.refl _ _).alloc (Nat.le_refl _) _
      have hb2 : Below wr.heap.size wr ((wr.alloc (.cells #[.int .i64 x.num, .int .i64 x.topic, .int .i64 x.val, .int .i64 x.dir, .int .i64 x.fr, .int .i64 x.til, .int .i64 x.st, .int .i64 x.en] 65)).alloc (.cells #[.int .i64 x.num, .int .i64 x.topic, .int .i64 x.val, .int .i64 x.dir, .int .i64 x.fr, .int .i64 x.til, .int .i64 x.st, .int .i64 x.en] 65)) := hb1.alloc (by simp) _
      have hb3 : Below wr.heap.size wr (((wr.alloc (.cells #[.int .i64 x.num, .int .i64 x.topic, .int .i64 x.val, .int .i64 x.dir, .int .i64 x.fr, .int .i64 x.til, .int .i64 x.st, .int .i64 x.en] 65)).alloc (.cells #[.int .i64 x.num, .int .i64 x.topic, .int .i64 x.val, .int .i64 x.dir, .int .i64 x.fr, .int .i64 x.til, .int .i64 x.st, .int .i64 x.en] 65)).alloc (.cells #[.int .i64 x.num, .int .i64 x.topic, .int .i64 x.val, .int .i64 x.dir, .int .i64 x.fr, .int .i64 x.til, .int .i64 x.st, .int .i64 x.en] 65)) := hb2.alloc (by simp; omega) _
      have hm2 := hmk.below hb2
      have hm3 := hmk.below hb3
      have HB2 := Lib.hid ((hbk.trans (hb2.mono hs)))
      have HB3 := Lib.hid ((hbk.trans (hb3.mono hs)))
      have hs3 : M ≤ (((wr.alloc (.cells #[.int .i64 x.num, .int .i64 x.topic, .int .i64 x.val, .int .i64 x.dir, .int .i64 x.fr, .int .i64 x.til, .int .i64 x.st, .int .i64 x.en] 65)).alloc (.cells #[.int .i64 x.num, .int .i64 x.topic, .int .i64 x.val, .int .i64 x.dir, .int .i64 x.fr, .int .i64 x.til, .int .i64 x.st, .int .i64 x.en] 65)).alloc (.cells #[.int .i64 x.num, .int .i64 x.topic, .int .i64 x.val, .int .i64 x.dir, .int .i64 x.fr, .int .i64 x.til, .int .i64 x.st, .int .i64 x.en] 65)).heap.size := HB3.out.size |> fun hh => by omega
      clear hmk hb1 hb2 hb3 hbk
      by_cases hin : x.num ∈ (xs.map (·.num)).take k
      · have hd : decide (x.num ∈ (xs.map (·.num)).take k) = true := decide_eq_true hin
        have HN := Lib.hid (HMEM.out hin)
        clear hin
        go_wp2_with (first
          | (go_at_call 23; refine (lnumE x _).mono ?_; rintro e w' ⟨rfl, rfl⟩)
          | (at_lookup; refine wpList_marks_look ?_ (.tmp 15) (.tmp 18) ?_ M k _ x.num ?_ hm2 ?_ hz ?_; (solve | (rfl)); (solve | (rfl)); (solve | (rfl)); (solve | (rfl)); rw [hd])
          | fail)
        go_ret
        exact tells_f HN.out (by rw [hM]; exact HB2.out)
      · have hd : decide (x.num ∈ (xs.map (·.num)).take k) = false := decide_eq_false hin
        have HIN := Lib.hid hin
        clear hin
        go_wp2_with (first
          | (go_at_call 23; refine (lnumE x _).mono ?_; rintro e w' ⟨rfl, rfl⟩)
          | (at_lookup; refine wpList_marks_look ?_ (.tmp 15) (.tmp 18) ?_ M k _ x.num ?_ hm2 ?_ hz ?_; (solve | (rfl)); (solve | (rfl)); (solve | (rfl)); (solve | (rfl)); rw [hd])
          | (at_mapUpdate; refine wpList_marks_put ?_ (.tmp 20) (.tmp 23) (.const (.bool true)) ?_ M k _ x.num ?_ hm3 ?_ ?_ ?_ hz ?_; (solve | (rfl)); (solve | (rfl)); (solve | (rfl)); (solve | (omega)); (solve | (rfl)); (solve | (rfl)); intro w5 hm5 hg5)
          | fail)
        have hb5 := HB3.out.grown hg5 hs3 (fun g hg => by injection hg with hg; omega)
        exact ⟨⟨k + 1, by omega, by go_num, by rw [HX.out]; exact hm5, Lib.hid (by rw [HX.out]; exact nodup_snoc hnd.out HIN.out), hb5⟩, by simp [intOf]; omega⟩
    · obtain rfl : k = xs.length := by omega
      have HV : Hid ((xs.map (·.num)).Nodup) := Lib.hid (by have := hnd.out; rwa [List.take_of_length_le (by simp)] at this)
      go_wp2_with fail
      go_ret
      exact tells_t HV.out (by rw [hM]; exact hbk)
set_option maxRecDepth 100000 in
theorem lnumS (x : Sgn) (w : World) : Calls Tryz.prog 35 #[.agg #[.int .i64 x.num, .int .i64 x.kind, .int .i64 x.val, .int .i64 x.chain, .int .i64 x.dir, .int .i64 x.rank, .int .i64 x.up, .int .i64 x.down, .slice none 0 0]] w fun e w' => e = .returned (.int .i64 x.num) ∧ w' = w.alloc (.cells #[.int .i64 x.num, .int .i64 x.kind, .int .i64 x.val, .int .i64 x.chain, .int .i64 x.dir, .int .i64 x.rank, .int .i64 x.up, .int .i64 x.down, .slice none 0 0] 77) := by
  go_enter Tryz.func35, Tryz.ntmps35
  go_wp2
  go_ret
  exact ⟨rfl, rfl⟩
set_option maxRecDepth 100000 in
set_option maxHeartbeats 4000000 in
theorem ldifS (A : Option Addr) (c B : Nat) (xs : List Sgn) (w : World) (h : RowsK w B A 9 encG xs) (hB : B ≤ w.heap.size) (hn : xs.length ≤ 1000) (hwf : ∀ x ∈ xs, (Lit.int .i64 x.num).wf = true) :
    Calls Tryz.prog 34 #[.slice A xs.length c, .func (.func 35) #[] #[]] w (Tells (xs.map (·.num)).Nodup w) := by
  have hmm := @run_makeMap Tryz.prog
  have hb0 : Below w.heap.size w (w.alloc (.map #[] 0)) := (Below.refl _ _).alloc (Nat.le_refl _) _
  have hm0 : Marks (w.alloc (.map #[] 0)) w.heap.size 0 [] := ⟨_, World.ownsMap_made _ _ _ _, marks_nil⟩
  obtain ⟨M, hM⟩ : ∃ M, w.heap.size = M := ⟨_, rfl⟩
  rw [hM] at hb0 hm0 hB
  have HWF := Lib.hid hwf
  clear hwf
  go_enter Tryz.func34, Tryz.ntmps34
  go_wp2_with fail
  generalize w.alloc (.map #[] 0) = w1 at *
  clear hmm
  go_loopw [11] (fun i wr => ∃ k : Nat, k ≤ xs.length ∧ i = .int .i64 k ∧ Marks wr M k ((xs.map (·.num)).take k) ∧ Hid (((xs.map (·.num)).take k).Nodup) ∧ Below M w wr) (fun i _ => xs.length - (intOf i).toNat)
  case atStart => exact ⟨0, Nat.zero_le _, rfl, by simpa using hm0, Lib.hid (by simp), hb0⟩
  case round =>
    obtain ⟨k, hk, rfl, hmk, hnd, hbk⟩ := hrel
    clear hm0 hb0
    by_cases hlt : k < xs.length
    · obtain ⟨b, o, rfl, hbb, hcc⟩ := (h.below (hbk.mono hB)).at_ hlt
      have y0 := hcc k hlt 0 _ rfl
      have y1 := hcc k hlt 1 _ rfl
      have y2 := hcc k hlt 2 _ rfl
      have y3 := hcc k hlt 3 _ rfl
      have y4 := hcc k hlt 4 _ rfl
      have y5 := hcc k hlt 5 _ rfl
      have y6 := hcc k hlt 6 _ rfl
      have y7 := hcc k hlt 7 _ rfl
      have y8 := hcc k hlt 8 _ rfl
      simp only [Nat.add_zero] at y0
      have hz := HWF.out _ (List.getElem_mem hlt)
      have HX : Hid ((xs.map (·.num)).take (k + 1) = (xs.map (·.num)).take k ++ [xs[k].num]) := Lib.hid (by rw [List.take_succ_eq_append_getElem (by simpa using hlt)]; simp)
      have HMEM : Hid (xs[k].num ∈ (xs.map (·.num)).take k → ¬ (xs.map (·.num)).Nodup) := Lib.hid fun hh => mem_take_nodup (k := k) (by simpa using hlt) (by simpa using hh)
      clear hcc
      generalize xs[k] = x at *
      have hs : M ≤ wr.heap.size := by have := hbk.size; omega
      have hlk := hnd
      have hb1 : Below wr.heap.size wr (wr.alloc (.cells #[.int .i64 x.num, .int .i64 x.kind, .int .i64 x.val, .int .i64 x.chain, .int .i64 x.dir, .int .i64 x.rank, .int .i64 x.up, .int .i64 x.down, .slice none 0 0] 77)) := (Below.refl _ _).alloc (Nat.le_refl _) _
      have hb2 : Below wr.heap.size wr ((wr.alloc (.cells #[.int .i64 x.num, .int .i64 x.kind, .int .i64 x.val, .int .i64 x.chain, .int .i64 x.dir, .int .i64 x.rank, .int .i64 x.up, .int .i64 x.down, .slice none 0 0] 77)).alloc (.cells #[.int .i64 x.num, .int .i64 x.kind, .int .i64 x.val, .int .i64 x.chain, .int .i64 x.dir, .int .i64 x.rank, .int .i64 x.up, .int .i64 x.down, .slice none 0 0] 77)) := hb1.alloc (by simp) _
      have hb3 : Below wr.heap.size wr (((wr.alloc (.cells #[.int .i64 x.num, .int .i64 x.kind, .int .i64 x.val, .int .i64 x.chain, .int .i64 x.dir, .int .i64 x.rank, .int .i64 x.up, .int .i64 x.down, .slice none 0 0] 77)).alloc (.cells #[.int .i64 x.num, .int .i64 x.kind, .int .i64 x.val, .int .i64 x.chain, .int .i64 x.dir, .int .i64 x.rank, .int .i64 x.up, .int .i64 x.down, .slice none 0 0] 77)).alloc (.cells #[.int .i64 x.num, .int .i64 x.kind, .int .i64 x.val, .int .i64 x.chain, .int .i64 x.dir, .int .i64 x.rank, .int .i64 x.up, .int .i64 x.down, .slice none 0 0] 77)) := hb2.alloc (by simp; omega) _
      have hm2 := hmk.below hb2
      have hm3 := hmk.below hb3
      have HB2 := Lib.hid ((hbk.trans (hb2.mono hs)))
      have HB3 := Lib.hid ((hbk.trans (hb3.mono hs)))
      have hs3 : M ≤ (((wr.alloc (.cells #[.int .i64 x.num, .int .i64 x.kind, .int .i64 x.val, .int .i64 x.chain, .int .i64 x.dir, .int .i64 x.rank, .int .i64 x.up, .int .i64 x.down, .slice none 0 0] 77)).alloc (.cells #[.int .i64 x.num, .int .i64 x.kind, .int .i64 x.val, .int .i64 x.chain, .int .i64 x.dir, .int .i64 x.rank, .int .i64 x.up, .int .i64 x.down, .slice none 0 0] 77)).alloc (.cells #[.int .i64 x.num, .int .i64 x.kind, .int .i64 x.val, .int .i64 x.chain, .int .i64 x.dir, .int .i64 x.rank, .int .i64 x.up, .int .i64 x.down, .slice none 0 0] 77)).heap.size := HB3.out.size |> fun hh => by omega
      clear hmk hb1 hb2 hb3 hbk
      by_cases hin : x.num ∈ (xs.map (·.num)).take k
      · have hd : decide (x.num ∈ (xs.map (·.num)).take k) = true := decide_eq_true hin
        have HN := Lib.hid (HMEM.out hin)
        clear hin
        go_wp2_with (first
          | (go_at_call 35; refine (lnumS x _).mono ?_; rintro e w' ⟨rfl, rfl⟩)
          | (at_lookup; refine wpList_marks_look ?_ (.tmp 15) (.tmp 18) ?_ M k _ x.num ?_ hm2 ?_ hz ?_; (solve | (rfl)); (solve | (rfl)); (solve | (rfl)); (solve | (rfl)); rw [hd])
          | fail)
        go_ret
        exact tells_f HN.out (by rw [hM]; exact HB2.out)
      · have hd : decide (x.num ∈ (xs.map (·.num)).take k) = false := decide_eq_false hin
        have HIN := Lib.hid hin
        clear hin
        go_wp2_with (first
          | (go_at_call 35; refine (lnumS x _).mono ?_; rintro e w' ⟨rfl, rfl⟩)
          | (at_lookup; refine wpList_marks_look ?_ (.tmp 15) (.tmp 18) ?_ M k _ x.num ?_ hm2 ?_ hz ?_; (solve | (rfl)); (solve | (rfl)); (solve | (rfl)); (solve | (rfl)); rw [hd])
          | (at_mapUpdate; refine wpList_marks_put ?_ (.tmp 20) (.tmp 23) (.const (.bool true)) ?_ M k _ x.num ?_ hm3 ?_ ?_ ?_ hz ?_; (solve | (rfl)); (solve | (rfl)); (solve | (rfl)); (solve | (omega)); (solve | (rfl)); (solve | (rfl)); intro w5 hm5 hg5)
          | fail)
        have hb5 := HB3.out.grown hg5 hs3 (fun g hg => by injection hg with hg; omega)
        exact ⟨⟨k + 1, by omega, by go_num, by rw [HX.out]; exact hm5, Lib.hid (by rw [HX.out]; exact nodup_snoc hnd.out HIN.out), hb5⟩, by simp [intOf]; omega⟩
    · obtain rfl : k = xs.length := by omega
      have HV : Hid ((xs.map (·.num)).Nodup) := Lib.hid (by have := hnd.out; rwa [List.take_of_length_le (by simp)] at this)
      go_wp2_with fail
      go_ret
      exact tells_t HV.out (by rw [hM]; exact hbk)
end Go.Proofs.YtdmmcdbojmalfaaGreat
