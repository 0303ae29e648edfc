/- TopLog: Open. -/
import Derived.Test.YtikfeoghmpoigaaLgw
namespace Go.Proofs.Ytikfeoghmpoigaa
open Go.RowKit
theorem own_bytsN {w : World} {b0 : Nat} {N : Nat → Prop} {v : Value} {n : Nat} {xs : List Nat} (h : w.ownsRow b0 5 1 v n (bcells xs)) (hN : ∀ b, N b → b < b0) :
    xs.length = n ∧ ∃ (A : Option Addr) (c : Nat), v = .slice A n c ∧ (A = none → c = 0) ∧ n ≤ c ∧ BytsN w N A xs := by
  have hl : xs.length = n := by have := h.1; simpa [bcells] using this
  refine ⟨hl, ?_⟩
  rcases id h.2 with ⟨rfl, rfl⟩ | ⟨g, cap, cur, rfl, hb, hg, hnc, rest⟩
  · exact ⟨none, 0, rfl, fun _ => rfl, Nat.le_refl _, .inl (List.eq_nil_of_length_eq_zero hl)⟩
  · refine ⟨_, cap, rfl, (by intro e; cases e), hnc, .inr ⟨g, 0, rfl, (h.lt g rfl).2, fun hh => by have := hN g hh; omega, fun j hj => ?_⟩⟩
    have e1 := h.cellAt j (by omega)
    rw [show (bcells xs)[j]? = some (.int .u8 (atb xs j : Nat)) by simp [bcells, atb, hj]] at e1
    simpa using e1
/-- 's[at:]' of bytes. -/
theorem slice_from {H n c at' : Nat} {A : Option Addr} {bs : List Nat} (hl : bs.length = n) (h : at' ≤ n) (hc : n ≤ c) (_hA : A = none → c = 0) (w0 : World) (h0 : Byts w0 H A bs) :
    ∃ A' c', (∀ w, (Instr.slice 24 (.slice A n c) (some (.int .i64 (at' : Int))) none none).run Try.prog w = .ok (.slice A' (n - at') c') w) ∧ n - at' ≤ c' ∧ Byts w0 H A' (bs.drop at') ∧ ∀ w, Byts w H A bs → Byts w H A' (bs.drop at') := by
  have hz : ∀ w, (Go.sizeOf 5).run Try.prog w = .ok 1 w := fun w => by kernel_rfl
  have he : Try.prog.elem 24 = 5 := by kernel_rfl
  have ht' : Try.prog.underlying 24 = some (.slice (Try.prog.elem 24)) := by rw [he]; exact Try.underlying24
  have hrun : ∀ w, (Instr.slice 24 (.slice A n c) (some (.int .i64 (at' : Int))) none none).run Try.prog w = .ok (.slice (if c = at' then A else A.map (·.add (at' * 1))) (n - at') (c - at')) w := fun w => by
    rw [run_slice_l w 24 A n c ht' .i64 (at' : Int) (by omega) (by omega), he, hz]
    simp [Result.andThen, sliced]
  have key : ∀ w, Byts w H A bs → Byts w H (if c = at' then A else A.map (·.add (at' * 1))) (bs.drop at') := by
    intro w hw
    rcases hw with h1 | ⟨b, off, h1, hb, hcc⟩
    · exact .inl (by rw [h1]; simp)
    · by_cases hcat : c = at'
      · refine .inl (List.eq_nil_of_length_eq_zero (by rw [List.length_drop]; omega))
      · rw [if_neg hcat]
        refine .inr ⟨b, off + at', ?_, hb, fun j hj => ?_⟩
        · rw [h1, Nat.mul_one]; simp [Go.WideShapes.add_plain]
        · rw [List.length_drop] at hj
          rw [Nat.add_assoc, hcc (at' + j) (by omega)]
          simp [atb, List.getD_eq_getElem?_getD, List.getElem?_drop]
  exact ⟨_, _, hrun, by omega, key w0 h0, key⟩
theorem wpList_push {ops : Array Oper} {rest : List Oper} {o : Oper} {a : Act} {w : World} {Q : Exit → Act → World → Prop} (hgd : o.guard = none) (s x : Operand)
    (ho : o.op = .call { callee := .builtin .append, args := #[s, x], argTypes := #[33, 33] })
    (base : Nat) (v : Value) (n : Nat) (zs : List Value) (hs : a.eval s = v) (hown : w.ownsRow base 24 1 v n zs)
    (ad : Nat) (z : Value) (hx : a.eval x = .slice (some ⟨ad, 0, none⟩) 1 1) (hz : w.cell? ⟨ad, 0, none⟩ = some z) (hz1 : z.oneCell' = true)
    (h63 : n ≤ 1000000) (hbase : base ≤ w.heap.size)
    (h : ∀ v' w', w'.ownsRow base 24 1 v' (n + 1) (zs ++ [z]) → w.grownBy w' v.ownBlock → (v'.ownBlock = v.ownBlock ∨ v'.ownBlock = some w.heap.size) → wpList Try.prog ops Q rest (a.put o.dst v') w') : wpList Try.prog ops Q (o :: rest) a w := by
  obtain ⟨i0, hi, hz0, hz2, hz3⟩ := info_parts info24
  refine wpList_append_own_at w hgd s x 33 ho base 24 i0 (.slice none 0 0) 1 24 Try.underlying33 hi hz0 hz2 hz3 rfl (by decide) v n zs hs hown ⟨ad, 0, none⟩ 1 1 [z] hx rfl ?_ ?_ (by unfold maxLen; omega) (by omega) hbase ?_
  · intro j u hj
    match j with
    | 0 => simp at hj; subst hj; rw [Go.WideShapes.add_plain]; exact hz
    | j + 1 => simp at hj
  · intro u hu
    simp at hu
    rw [hu]; exact hz1
  · intro v' w' h1 h2 _ h4
    exact h v' w' h1 h2 h4
theorem ents_push {w4 w5 : World} {base l n : Nat} {N : Nat → Prop} {zs : List Value} {z ev v5 : Value} {es : List (List Nat)} {e : List Nat} (hz : EntsZ w4 N (zs ++ [z]) (es ++ [e])) (hg : w4.grownBy w5 ev.ownBlock) (hn : es.length = n)
    (hown5 : w5.ownsRow base 24 1 v5 (n + 1) (zs ++ [z])) (hat : v5.ownBlock = ev.ownBlock ∨ v5.ownBlock = some w4.heap.size) (hl : N l) (hE : ∀ g, ev.ownBlock = some g → N g) (hvl : v5.ownBlock ≠ some l) :
    Ents (w5.setCell ⟨l, 3, none⟩ v5) base (fun b => N b ∨ v5.ownBlock = some b) v5 (es ++ [e]) := by
  have hc1 : Chg (fun b => ev.ownBlock = some b) w4 w5 := Chg.of_grown hg fun g hg => hg
  have hc2 : Chg (fun b => b = l) w5 (w5.setCell ⟨l, 3, none⟩ v5) := Chg.setCell rfl
  refine ⟨zs ++ [z], ?_, ?_⟩
  · rw [List.length_append, hn]
    exact hc2.own hown5 fun g hg hh => hvl (by rw [hg, hh])
  · have h5 : EntsZ w5 (fun b => N b ∨ v5.ownBlock = some b) (zs ++ [z]) (es ++ [e]) := hz.step hc1 (fun b _ hb => hE b hb) fun b hb hh => by
      rcases hh with hh | hh
      · exact hh
      · rcases hat with e1 | e1
        · exact hE b (by rw [← e1]; exact hh)
        · rw [e1] at hh; injection hh with hh; omega
    exact h5.step hc2 (fun b _ hb => .inl (by rw [hb]; exact hl)) fun b _ hh => hh
/-- The result of Open where the disk stays up. -/
def OpenOk (base d : Nat) (S : Dk) (es : List (List Nat)) (N0 : Nat → Prop) (w : World) (en : Ending) (w' : World) : Prop :=
  ∃ (l : Nat) (ev v' : Value) (N : Nat → Prop), en = .returned (.tuple #[.pointer (some ⟨l, 0, none⟩), .int .i64 0]) ∧ (∀ b, N0 b → N b) ∧ v'.ownBlock = S.v.ownBlock ∧ Mach w' base d l ⟨v', flat es, (flat es).length, 0, false, S.life⟩ false ev es N ∧ w.heap.size ≤ l ∧ (∀ g, ev.ownBlock = some g → w.heap.size ≤ g)
def OpenDown (base d : Nat) (S : Dk) (en : Ending) (w' : World) : Prop :=
  en = .returned (.tuple #[.pointer none, .int .i64 92]) ∧ DskAt w' base d { S with armed := 0, down := true }
def OpenPost (base d : Nat) (S : Dk) (es : List (List Nat)) (N0 : Nat → Prop) (w : World) (en : Ending) (w' : World) : Prop :=
  Chg (fun k => k = d) w w' ∧ if S.armed = 1 then OpenDown base d S en w' else OpenOk base d S es N0 w en w'
/-- What holds at the head of Open's loop. -/
def OpRel (w1 : World) (base b0 d L : Nat) (S : Dk) (es : List (List Nat)) (N0 : Nat → Prop) (k : Nat) (wr : World) : Prop :=
  ∃ (ev : Value) (N : Nat → Prop), LogAt wr base d L S.life false ev ∧ Ents wr b0 N ev (es.take k) ∧ (∀ b, N0 b → N b) ∧ N L ∧ (∀ g, ev.ownBlock = some g → N g ∧ L < g) ∧ (∀ b, N b → b < wr.heap.size) ∧ Below L w1 wr
theorem op_next {w1 w3 w5 : World} {base b0 d L k : Nat} {S : Dk} {es : List (List Nat)} {N0 N : Nat → Prop} {ev z v5 : Value} {zs : List Value} {cs : Array Value} {t : TypeId} {e : List Nat}
    (hlg3 : LogAt w3 base d L S.life false ev) (hez2 : EntsZ w3 N (zs ++ [z]) (es.take k ++ [e])) (hes : es.take (k + 1) = es.take k ++ [e]) (htl : (es.take k).length = k) (hNN : ∀ b, N0 b → N b) (hNL : N L) (hNE : ∀ g, ev.ownBlock = some g → N g ∧ L < g)
    (hNlt : ∀ b, N b → b < w3.heap.size) (hbl3 : Below L w1 w3) (ho5 : w5.ownsRow b0 24 1 v5 (k + 1) (zs ++ [z])) (hg5 : (w3.alloc (.cells cs t)).grownBy w5 ev.ownBlock) (hat5 : v5.ownBlock = ev.ownBlock ∨ v5.ownBlock = some (w3.alloc (.cells cs t)).heap.size) :
    OpRel w1 base b0 d L S es N0 (k + 1) (w5.setCell ⟨L, 3, none⟩ v5) ∧ w5.frozen? ⟨L, 3, none⟩ = false ∧ w5.cell? ⟨L, 3, none⟩ = some ev ∧ L < w5.heap.size := by
  have hb4 : Below w3.heap.size w3 (w3.alloc (.cells cs t)) := (Below.refl _ _).alloc (Nat.le_refl _) _
  have hz4 : (w3.alloc (.cells cs t)).heap.size = w3.heap.size + 1 := by simp
  have hc5 : Chg (fun b => ev.ownBlock = some b) (w3.alloc (.cells cs t)) w5 := Chg.of_grown hg5 fun g hg => hg
  have hlg4 := hlg3.step (Chg.of_below (T := fun _ => False) hb4) (fun h => h)
  have hlg5 := hlg4.step hc5 fun hh => by have := (hNE L hh).2; omega
  have hez4 := hez2.step (N' := N) (Chg.of_below (T := fun _ => False) hb4) (fun _ _ h => h.elim) (fun _ _ h => h)
  have hvL : ∀ g, v5.ownBlock = some g → L < g := fun g hg => by
    rcases hat5 with e1 | e1
    · exact (hNE g (by rw [← e1]; exact hg)).2
    · rw [e1] at hg; injection hg with hg; have := hlg3.hi; omega
  have hp := ents_push (l := L) (n := k) hez4 hg5 htl ho5 hat5 hNL (fun g hg => (hNE g hg).1) (fun hh => by have := hvL L hh; omega)
  refine ⟨⟨v5, fun b => N b ∨ v5.ownBlock = some b, hlg5.setEv v5, by rw [hes]; exact hp, fun b hb => .inl (hNN b hb), .inl hNL, fun g hg => ⟨.inr hg, hvL g hg⟩, ?_, ?_⟩, hlg5.fz 3 (by omega), hlg5.c3, hlg5.hi⟩
  · intro b hb
    have h5 := hg5.size
    rw [show (w5.setCell ⟨L, 3, none⟩ v5).heap.size = w5.heap.size by simp]
    rcases hb with hb | hb
    · have := hNlt b hb; omega
    · exact (ho5.lt b hb).2
  · have h45 : Below L w3 (w3.alloc (.cells cs t)) := hb4.mono (by have := hlg3.hi; omega)
    have h55 := hc5.below (B := L) (by have := hlg3.hi; omega) fun b hb hh => by have := (hNE b hh).2; omega
    exact ((hbl3.trans h45).trans h55).setCell (Nat.le_refl _) _
theorem op_drew {w1 wr w3 : World} {base b0 d L k : Nat} {S : Dk} {es : List (List Nat)} {N0 : Nat → Prop} (h : OpRel w1 base b0 d L S es N0 k wr) (hd : Drew wr w3) : OpRel w1 base b0 d L S es N0 k w3 := by
  obtain ⟨ev, N, hlg, hen, hNN, hNL, hNE, hNlt, hbl⟩ := h
  have hb := hd.below wr.heap.size
  exact ⟨ev, N, hlg.step (Chg.of_below (T := fun _ => False) hb) (fun h => h), hen.step (Chg.of_below (T := fun _ => False) hb) (fun _ _ h => h.elim) (fun _ _ h => h) (fun _ _ h => h), hNN, hNL, hNE, fun b hb' => Nat.lt_of_lt_of_le (hNlt b hb') hb.size, hbl.trans (hb.mono (by have := hlg.hi; omega))⟩
theorem op_disk {w1 w3 : World} {base b0 d L k : Nat} {S : Dk} {es : List (List Nat)} {N0 : Nat → Prop} (h : OpRel w1 base b0 d L S es N0 k w3) (h1 : DskAt w1 base d S) (hL : w1.heap.size = L) : DskAt w3 base d S := by
  obtain ⟨ev, N, hlg, hen, hNN, hNL, hNE, hNlt, hbl⟩ := h
  subst hL
  exact h1.chg (Chg.of_below (T := fun _ => False) hbl) (fun h => h) (fun _ _ h => h)
theorem op_end {w1 w3 w4 : World} {base b0 d L : Nat} {S S' : Dk} {es : List (List Nat)} {N0 : Nat → Prop} (h : OpRel w1 base b0 d L S es N0 es.length w3) (h1 : DskAt w1 base d S) (hL : w1.heap.size = L) (hb : base ≤ b0) (hc : Chg (fun k => k = d) w3 w4) (hd4 : DskAt w4 base d S')
    (hv : S'.v.ownBlock = S.v.ownBlock) (hlife : S'.life = S.life) (hNd : N0 d) (hNS : ∀ g, S.v.ownBlock = some g → N0 g) :
    ∃ ev N, (∀ b, N0 b → N b) ∧ Mach w4 base d L S' false ev es N ∧ (∀ g, ev.ownBlock = some g → b0 ≤ g) := by
  obtain ⟨ev, N, hlg, hen, hNN, hNL, hNE, hNlt, hbl⟩ := h
  have hdL : d < L := by rw [← hL]; exact h1.hi
  rw [List.take_length] at hen
  obtain ⟨zs, hoz, hez⟩ := hen
  have hsv : ∀ g, S'.v.ownBlock = some g → g < L := fun g hg => by rw [hv] at hg; have := (h1.own.lt g hg).2; omega
  refine ⟨ev, N, hNN, ⟨hd4, ?_, ⟨zs, own_mono (hc.own hoz fun g hg hh => by have := (hNE g hg).2; omega) hb, hez.step hc (fun b _ hh => by rw [hh]; exact hNN d hNd) (fun b _ hh => hh)⟩, hNN d hNd, hNL, ?_, fun g hg => (hNE g hg).1, ?_, by omega, ?_, ?_, ?_, ?_⟩, fun g hg => (hoz.lt g hg).1⟩
  · rw [hlife]; exact hlg.step hc (by omega)
  · intro g hg; rw [hv] at hg; exact hNN g (hNS g hg)
  · intro b hb; exact Nat.lt_of_lt_of_le (hNlt b hb) hc.size
  · intro hh; have := hsv L hh; omega
  · intro hh; have := (hNE L hh).2; omega
  · intro hh; have := (hNE d hh).2; omega
  · intro g hg hh; have := hsv g hg; have := (hNE g hh).2; omega
theorem ret_pe {l : Nat} {a b : Int} (h : a = b) : Ending.returned (.tuple #[.pointer (some ⟨l, 0, none⟩), .int .i64 a]) = .returned (.tuple #[.pointer (some ⟨l, 0, none⟩), .int .i64 b]) := by rw [h]
theorem flat_take_len {es : List (List Nat)} {k : Nat} (h : k < es.length) : (flat (es.take (k + 1))).length = (flat (es.take k)).length + ((ate es k).length + 7) := by
  rw [flat_take_succ h, List.length_append, enc_length]
theorem flat_take_le (es : List (List Nat)) (k : Nat) : (flat (es.take k)).length ≤ (flat es).length := by
  conv => rhs; rw [← List.take_append_drop k es]
  unfold flat
  rw [List.flatMap_append, List.length_append]
  omega
theorem drop_flat {es : List (List Nat)} {k : Nat} {rest : List Nat} (h : k < es.length) : (flat es ++ rest).drop (flat (es.take k)).length = enc (ate es k) ++ (flat (es.drop (k + 1)) ++ rest) := by
  rw [flat_split h, List.append_assoc, List.drop_left, List.append_assoc]
set_option maxRecDepth 100000 in
set_option maxHeartbeats 2000000 in
theorem lOpen {w : World} {base d : Nat} {S : Dk} {es : List (List Nat)} {rest : List Nat} {N0 : Nat → Prop} (h : DskAt w base d S) (hd : S.down = false) (hbs : S.bs = flat es ++ rest) (ht : Torn rest) (hu : U8s es) (hne : es.length ≤ 1000) (ha : S.armed ≤ 1)
    (hN0 : ∀ b, N0 b → b < w.heap.size) (hNd : N0 d) (hNS : ∀ g, S.v.ownBlock = some g → N0 g) :
    Calls Try.prog 6 #[.pointer (some ⟨d, 0, none⟩)] w (OpenPost base d S es N0 w) := by
  have hrd := lRead h hd
  have HU := Lib.hid hu
  have HT := Lib.hid ht
  have HBS := Lib.hid hbs
  have HHD := Lib.hid hd
  clear hu ht hbs
  go_enter Try.func6, Try.ntmps6
  go_wp2_with fail
  refine hrd.mono ?_
  rintro en w1 ⟨v1, rfl, ho1, hb1⟩
  clear hrd
  have hl1 : S.bs.length ≤ 1000000 := h.len
  have h1 := h.chg (Chg.of_below (T := fun _ => False) hb1) (fun h => h) (fun _ _ h => h)
  obtain ⟨-, A, c, hv1, hAn, hnc, hby⟩ := own_bytsN (N := fun b => b < w.heap.size) ho1 fun b hb => hb
  have hbyt := hby.byts
  obtain ⟨n, hnn⟩ : ∃ n, S.bs.length = n := ⟨_, rfl⟩
  rw [hnn] at hv1 hnc hl1 ho1
  rw [hv1]
  have HNN := Lib.hid hnn
  obtain ⟨c0, c1, c2, c3, c4, c5, -, -, -, -, hhi, -, -, -, -, -⟩ := id h1
  have HB1 := Lib.hid hb1
  have HBY := Lib.hid hbyt
  have HAN := Lib.hid hAn
  have HN0 := Lib.hid hN0
  have HNS := Lib.hid hNS
  have H1 := Lib.hid h1
  clear hb1 hby hv1 hnn hbyt hAn ho1 hN0 hNS h h1 c0 c1 c2 c3 c4
  obtain ⟨L, hL⟩ : ∃ L, w1.heap.size = L := ⟨_, rfl⟩
  go_wp2_with fail
  have hlg : LogAt (w1.alloc (.cells #[.pointer (some ⟨d, 0, none⟩), .int .i64 S.life, .bool false, .slice none 0 0] 45)) base d L S.life false (.slice none 0 0) := by
    subst hL
    refine ⟨by simp [go_sem], by simp [go_sem], by simp [go_sem], by simp [go_sem], fun j hj => ?_, by have := H1.out.lo; omega, by simp⟩
    rcases (by omega : j = 0 ∨ j = 1 ∨ j = 2 ∨ j = 3) with rfl | rfl | rfl | rfl <;> simp [go_sem]
  have hb2 : Below L w1 (w1.alloc (.cells #[.pointer (some ⟨d, 0, none⟩), .int .i64 S.life, .bool false, .slice none 0 0] 45)) := (Below.refl _ _).alloc (by omega) _
  have hwL : w.heap.size ≤ L := by have := HB1.out.size; omega
  have hlt0 : ∀ b, (fun b => N0 b ∨ b = L) b → b < (w1.alloc (.cells #[.pointer (some ⟨d, 0, none⟩), .int .i64 S.life, .bool false, .slice none 0 0] 45)).heap.size := by
    intro b hb
    have h1 := hlg.hi
    rcases hb with hb | hb
    · have := HN0.out b hb; omega
    · omega
  have hr0 : OpRel w1 base w.heap.size d L S es N0 0 (w1.alloc (.cells #[.pointer (some ⟨d, 0, none⟩), .int .i64 S.life, .bool false, .slice none 0 0] 45)) :=
    ⟨_, fun b => N0 b ∨ b = L, hlg, Ents.nil, fun b hb => .inl hb, .inr rfl, (by intro g hg; cases hg), hlt0, hb2⟩
  have hLs := hlg.hi
  clear hlg hb2 c5 hhi hlt0
  rw [hL] at HBY
  generalize w1.alloc (.cells #[.pointer (some ⟨d, 0, none⟩), .int .i64 S.life, .bool false, .slice none 0 0] 45) = w2 at *
  go_loopw [7] (fun i wr => ∃ k : Nat, k ≤ es.length ∧ i = .int .i64 ((flat (es.take k)).length : Nat) ∧ OpRel w1 base w.heap.size d L S es N0 k wr) (fun i _ => n - (intOf i).toNat)
  case atStart => exact ⟨0, Nat.zero_le _, rfl, hr0⟩
  case round =>
    obtain ⟨k, hk, rfl, hrel⟩ := hrel
    have HREL := Lib.hid hrel
    obtain ⟨ev, N, hlg, hen, hNN, hNL, hNE, hNlt, hbl⟩ := hrel
    clear hr0 hLs
    have hby := HBY.out.below hbl
    have hat : (flat (es.take k)).length ≤ n := by
      have e1 := HNN.out
      have e2 := flat_take_le es k
      rw [HBS.out, List.length_append] at e1
      omega
    obtain ⟨A', c', hsl, hc', hbd, -⟩ := slice_from HNN.out hat hnc HAN.out wr hby
    have hLw := hlg.hi
    by_cases hlt : k < es.length
    · have hdr : S.bs.drop (flat (es.take k)).length = enc (ate es k) ++ (flat (es.drop (k + 1)) ++ rest) := by rw [HBS.out]; exact drop_flat hlt
      have hlen : n - (flat (es.take k)).length = (enc (ate es k) ++ (flat (es.drop (k + 1)) ++ rest)).length := by rw [← hdr, List.length_drop, HNN.out]
      have hue := HU.out _ (ate_mem hlt)
      have hat2 : (flat (es.take (k + 1))).length ≤ n := by
        have e1 := HNN.out
        have e2 := flat_take_le es (k + 1)
        rw [HBS.out, List.length_append] at e1
        omega
      rw [flat_take_len hlt] at hat2
      rw [hdr] at hbd
      have hfy := lfirst_yes (w := wr) A' c' L (ate es k) _ (by omega) hbd hue.2 hue.1 _ hlen hc'
      have HFT : Hid ((flat (es.take (k + 1))).length = (flat (es.take k)).length + ((ate es k).length + 7)) := Lib.hid (flat_take_len hlt)
      have HES : Hid (es.take (k + 1) = es.take k ++ [ate es k]) := Lib.hid (by rw [List.take_succ_eq_append_getElem hlt]; simp [ate, hlt])
      have HTL : Hid ((es.take k).length = k) := Lib.hid (by rw [List.length_take]; omega)
      clear hdr hlen hbd hby hue
      generalize (flat (es.take k)).length = at' at *
      obtain ⟨sz, hsz⟩ : ∃ sz, (ate es k).length + 7 = sz := ⟨_, rfl⟩
      rw [hsz] at HFT hat2 hfy
      have hs0 : ((sz : Int) == 0) = false := by simp; omega
      have hsp : 0 < sz := by omega
      clear hsz
      go_wp2_with fail
      refine hfy.mono ?_
      rintro en w3 ⟨v3, rfl, ho3, hb3⟩
      clear hsl
      obtain ⟨-, A3, c3', hv3, hA3, -, hbn3⟩ := own_bytsN (N := N) ho3 hNlt
      rw [hv3]
      have hlg3 := hlg.step (Chg.of_below (T := fun _ => False) hb3) (fun h => h)
      have hen3 := hen.step (N' := N) (Chg.of_below (T := fun _ => False) hb3) (fun _ _ h => h.elim) (fun _ _ h => h) (fun _ _ h => h)
      obtain ⟨zs, hoz, hez⟩ := hen3
      have hez2 := hez.snoc hbn3 hA3
      have hbl3 := hbl.trans (hb3.mono (by omega))
      have hsz3 := hb3.size
      clear hv3 ho3 hbn3 hez hen hlg hfy
      rw [HTL.out] at hoz
      obtain ⟨c0, c1, c2, c3, fz, hlo, hhi⟩ := id hlg3
      have f3 := fz 3 (by omega)
      clear fz
      have hLN : Hid (∀ g, ev.ownBlock = some g → N g ∧ L < g) := Lib.hid hNE
      have HNN2 := Lib.hid hNN
      have HNLT := Lib.hid hNlt
      clear hNE hNN hNlt
      have hz4 : (w3.alloc (.cells #[.slice A3 (ate es k).length c3'] 24)).cell? ⟨w3.heap.size, 0, none⟩ = some (.slice A3 (ate es k).length c3') := by simp [go_sem]
      have hoz4 := hoz.alloc (.cells #[.slice A3 (ate es k).length c3'] 24)
      go_wp2_with (first
        | (at_builtin; go_loud (refine wpList_push ?_ (.tmp 38) (.tmp 40) ?_ w.heap.size ev k zs ?_ hoz4 w3.heap.size (.slice A3 (ate es k).length c3') ?_ hz4 ?_ ?_ ?_ ?_; (solve | (rfl)); (solve | (rfl)); (solve | (rfl)); (solve | (rfl)); (solve | (rfl)); (solve | (omega)); (solve | (simp; omega)); (intro v5 w5 ho5 hg5 hat5; obtain ⟨hrel5, g5, y5, hL5⟩ := op_next hlg3 hez2 HES.out HTL.out HNN2.out hNL hLN.out (fun b hb => by have := HNLT.out b hb; omega) hbl3 ho5 hg5 hat5; obtain ⟨A5, c5, rfl⟩ := own_len ho5; clear ho5 hg5 hat5)))
        | fail)
      exact ⟨⟨k + 1, by omega, by rw [HFT.out]; go_num, hrel5⟩, by simp [intOf]; omega⟩
    · obtain rfl : k = es.length := by omega
      rw [List.take_length] at *
      have hdr : S.bs.drop (flat es).length = rest := by rw [HBS.out, List.drop_left]
      have hlen : n - (flat es).length = rest.length := by rw [← hdr, List.length_drop, HNN.out]
      rw [hdr] at hbd
      have hft := lfirst_torn (w := wr) A' c' L rest hbd HT.out
      rw [← hlen] at hft
      have HLEN := Lib.hid hlen
      have HTK : Hid (S.bs.take (flat es).length = flat es) := Lib.hid (by rw [HBS.out, List.take_left])
      clear hdr hlen hbd hby hlg hen hNN hNL hNE hNlt hbl hd
      obtain ⟨fl, hfl⟩ : ∃ fl, (flat es).length = fl := ⟨_, rfl⟩
      rw [hfl] at hat hsl hc' hft HTK HLEN
      rw [hfl]
      have HFL := Lib.hid hfl
      clear hfl
      go_wp2_with fail
      refine hft.mono ?_
      rintro en w3 ⟨rfl, hdw⟩
      have hR3 := op_drew HREL.out hdw
      have hD3 := op_disk hR3 H1.out hL
      clear hsl hft
      have hbase : base ≤ w.heap.size := by have := H1.out.lo; have := HN0.out d hNd; omega
      have hfln : fl ≤ S.bs.length := by rw [HNN.out]; exact hat
      have hcl1 : Chg (fun k => k = d) w w3 := by
        obtain ⟨_, _, _, _, _, _, _, _, hbl⟩ := hR3
        exact Chg.of_below (HB1.out.trans (hbl.mono hwL))
      have HC1 := Lib.hid hcl1
      have HR3 := Lib.hid hR3
      clear hcl1 hR3 hdw
      by_cases hlt2 : fl < n
      · have hct := lCut hD3 HHD.out fl hfln
        go_wp2_with fail
        refine hct.mono ?_
        rintro en w4 ⟨rfl, hc4, hx1, hx2⟩
        have HC4 := Lib.hid hc4
        have HX1 := Lib.hid hx1
        have HX2 := Lib.hid hx2
        clear hc4 hx1 hx2 hct
        by_cases ha1 : S.armed = 1
        · have e1 : begE S = 92 := by unfold begE; rw [if_pos ha1]
          rw [e1]
          have HA1 := Lib.hid ha1
          clear ha1 ha e1
          go_wp2_with fail
          go_ret2
          refine ⟨HC1.out.trans HC4.out fun _ _ hh => hh, ?_⟩
          rw [if_pos HA1.out]
          refine ⟨rfl, ?_⟩
          have e2 : begS S = { S with armed := 0, down := true } := by unfold begS; rw [if_neg (by rw [HA1.out]; decide), HA1.out]; rfl
          rw [← e2]
          exact HX1.out HA1.out
        · have e1 : begE S = 0 := by unfold begE; rw [if_neg ha1]
          have e0 : S.armed = 0 := by omega
          rw [e1]
          have HA1 := Lib.hid ha1
          have HA0 := Lib.hid e0
          clear ha1 ha e1 e0
          go_wp2_with fail
          go_ret2
          refine ⟨HC1.out.trans HC4.out fun _ _ hh => hh, ?_⟩
          rw [if_neg HA1.out]
          obtain ⟨v', hv', hd4⟩ := HX2.out HA1.out
          have e2 : cutS S v' fl = ⟨v', flat es, (flat es).length, 0, false, S.life⟩ := by
            unfold cutS begS
            rw [if_pos HA0.out, HTK.out, HFL.out]
            have := HA0.out
            have := HHD.out
            cases S
            simp_all
          rw [e2] at hd4
          obtain ⟨ev', N', q1, q2, q3⟩ := op_end HR3.out H1.out hL hbase HC4.out hd4 hv' rfl hNd HNS.out
          exact ⟨L, ev', v', N', rfl, q1, hv', q2, hwL, q3⟩
      · have hct := lSync hD3 HHD.out
        have hnl : Hid (S.bs = flat es) := Lib.hid (by
          have e1 := HTK.out
          rw [List.take_of_length_le (by rw [HNN.out]; omega)] at e1
          exact e1)
        go_wp2_with fail
        refine hct.mono ?_
        rintro en w4 ⟨rfl, hd4, hc4⟩
        have HC4 := Lib.hid hc4
        have HD4 := Lib.hid hd4
        clear hc4 hd4 hct
        by_cases ha1 : S.armed = 1
        · have e1 : begE S = 92 := by unfold begE; rw [if_pos ha1]
          rw [e1]
          have HA1 := Lib.hid ha1
          clear ha1 ha e1
          go_wp2_with fail
          go_ret2
          refine ⟨HC1.out.trans HC4.out fun _ _ hh => hh, ?_⟩
          rw [if_pos HA1.out]
          refine ⟨rfl, ?_⟩
          have e2 : synS S = { S with armed := 0, down := true } := by unfold synS; rw [if_pos HA1.out]; unfold begS; rw [if_neg (by rw [HA1.out]; decide), HA1.out]; rfl
          rw [← e2]
          exact HD4.out
        · have e1 : begE S = 0 := by unfold begE; rw [if_neg ha1]
          have e0 : S.armed = 0 := by omega
          rw [e1]
          have HA1 := Lib.hid ha1
          have HA0 := Lib.hid e0
          clear ha1 ha e1 e0
          go_wp2_with fail
          go_ret2
          refine ⟨HC1.out.trans HC4.out fun _ _ hh => hh, ?_⟩
          rw [if_neg HA1.out]
          have hd4 := HD4.out
          have e2 : synS S = ⟨S.v, flat es, (flat es).length, 0, false, S.life⟩ := by
            unfold synS begS
            rw [if_neg HA1.out, if_pos HA0.out, ← hnl.out]
            have := HA0.out
            have := HHD.out
            cases S
            simp_all
          rw [e2] at hd4
          obtain ⟨ev', N', q1, q2, q3⟩ := op_end HR3.out H1.out hL hbase HC4.out hd4 rfl rfl hNd HNS.out
          exact ⟨L, ev', S.v, N', rfl, q1, rfl, q2, hwL, q3⟩
end Go.Proofs.Ytikfeoghmpoigaa
