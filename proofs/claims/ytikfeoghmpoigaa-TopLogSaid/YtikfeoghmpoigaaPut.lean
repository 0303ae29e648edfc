/- TopLog: Put. -/
import Derived.Test.YtikfeoghmpoigaaOpn
import Derived.Deep.RegionHeld3
import Derived.Deep.RegionLawGrows
namespace Go.Proofs.Ytikfeoghmpoigaa
open Go.RowKit
section
variable {w w' : World} {base d l : Nat} {S S' : Dk} {f : Bool} {ev : Value} {es : List (List Nat)} {N : Nat → Prop}
theorem Mach.disk (M : Mach w base d l S f ev es N) (hc : Chg (DkT d S) w w') (hd : DskAt w' base d S') (hlife : S'.life = S.life) (hv : S'.v.ownBlock = S.v.ownBlock ∨ ∃ g, S'.v.ownBlock = some g ∧ w.heap.size ≤ g) :
    Mach w' base d l S' f ev es (fun b => N b ∨ S'.v.ownBlock = some b) := by
  have hT : ∀ b, DkT d S b → N b := fun b hb => by
    rcases hb with hb | hb
    · rw [hb]; exact M.nd
    · exact M.nS b hb
  have hl : ¬ DkT d S l := fun hb => by
    rcases hb with hb | hb
    · exact M.ld hb
    · exact M.sl hb
  have he : ∀ g, ev.ownBlock = some g → ¬ DkT d S g := fun g hg hb => by
    rcases hb with hb | hb
    · exact M.ed (by rw [hg, hb])
    · exact M.se g hb hg
  refine ⟨hd, by rw [hlife]; exact M.lg.step hc hl, M.en.step hc (fun b _ hb => hT b hb) he ?_, .inl M.nd, .inl M.nl, fun g hg => .inr hg, fun g hg => .inl (M.nE g hg), ?_, M.ld, ?_, M.el, M.ed, ?_⟩
  · intro b hb hh
    rcases hh with hh | hh
    · exact hh
    · rcases hv with e | ⟨g, e, hg⟩
      · exact M.nS b (by rw [← e]; exact hh)
      · rw [e] at hh; injection hh with hh; omega
  · intro b hb
    rcases hb with hb | hb
    · exact Nat.lt_of_lt_of_le (M.nlt b hb) hc.size
    · exact (hd.own.lt b hb).2
  · intro hh
    rcases hv with e | ⟨g, e, hg⟩
    · exact M.sl (by rw [← e]; exact hh)
    · rw [e] at hh; injection hh with hh; have := M.lg.hi; omega
  · intro g hg hh
    rcases hv with e | ⟨g', e, hg'⟩
    · exact M.se g (by rw [← e]; exact hg) hh
    · rw [e] at hg; injection hg with hg; have := (M.en.lt g hh).2; omega
theorem Mach.below (M : Mach w base d l S f ev es N) (hb : Below w.heap.size w w') : Mach w' base d l S f ev es N := by
  have hc := Chg.of_below (T := fun _ => False) hb
  exact ⟨M.dk.chg hc (fun h => h) (fun _ _ h => h), M.lg.step hc (fun h => h), M.en.step hc (fun _ _ h => h.elim) (fun _ _ h => h) (fun _ _ h => h), M.nd, M.nl, M.nS, M.nE, fun b hb' => Nat.lt_of_lt_of_le (M.nlt b hb') hb.size, M.ld, M.sl, M.el, M.ed, M.se⟩
theorem Mach.fail (M : Mach w base d l S f ev es N) (b : Bool) : Mach (w.setCell ⟨l, 2, none⟩ (.bool b)) base d l S b ev es N := by
  have hc : Chg (fun k => k = l) w (w.setCell ⟨l, 2, none⟩ (.bool b)) := Chg.setCell rfl
  exact ⟨M.dk.chg hc (fun h => M.ld h.symm) (fun g hg h => M.sl (by rw [hg, h])), M.lg.setFailed b, M.en.step hc (fun b _ hb => by rw [hb]; exact M.nl) (fun g hg h => M.el (by rw [hg, h])) (fun _ _ h => h), M.nd, M.nl, M.nS, M.nE, fun b hb' => Nat.lt_of_lt_of_le (M.nlt b hb') hc.size, M.ld, M.sl, M.el, M.ed, M.se⟩
/-- One more entry. -/
theorem Mach.push {w3 w5 : World} {z v5 : Value} {zs : List Value} {cs : Array Value} {t : TypeId} {e : List Nat} (M : Mach w3 base d l S f ev es N) (hez : EntsZ w3 N (zs ++ [z]) (es ++ [e])) (ho5 : w5.ownsRow base 24 1 v5 (es.length + 1) (zs ++ [z]))
    (hg5 : (w3.alloc (.cells cs t)).grownBy w5 ev.ownBlock) (hat5 : v5.ownBlock = ev.ownBlock ∨ v5.ownBlock = some (w3.alloc (.cells cs t)).heap.size) :
    Mach (w5.setCell ⟨l, 3, none⟩ v5) base d l S f v5 (es ++ [e]) (fun b => N b ∨ v5.ownBlock = some b) ∧ w5.frozen? ⟨l, 3, none⟩ = false ∧ w5.cell? ⟨l, 3, none⟩ = some ev ∧ l < w5.heap.size ∧ Chg (MT d l S ev) w3 (w5.setCell ⟨l, 3, none⟩ v5) := by
  have hb4 : Below w3.heap.size w3 (w3.alloc (.cells cs t)) := (Below.refl _ _).alloc (Nat.le_refl _) _
  have hz4 : (w3.alloc (.cells cs t)).heap.size = w3.heap.size + 1 := by simp
  have M4 := M.below hb4
  have hc5 : Chg (fun b => ev.ownBlock = some b) (w3.alloc (.cells cs t)) w5 := Chg.of_grown hg5 fun g hg => hg
  have hc6 : Chg (fun k => k = l) w5 (w5.setCell ⟨l, 3, none⟩ v5) := Chg.setCell rfl
  have hvne : ∀ q, q < w3.heap.size → ev.ownBlock ≠ some q → v5.ownBlock ≠ some q := fun q hq hn hh => by
    rcases hat5 with e1 | e1
    · exact hn (by rw [← e1]; exact hh)
    · rw [e1] at hh; injection hh with hh; omega
  have hvl := hvne l M.lg.hi M.el
  have hlg5 := M4.lg.step hc5 M.el
  have hez4 := hez.step (N' := N) (Chg.of_below (T := fun _ => False) hb4) (fun _ _ h => h.elim) (fun _ _ h => h)
  have hp := ents_push (l := l) (n := es.length) hez4 hg5 rfl ho5 hat5 M.nl M.nE hvl
  have hdk5 := M4.dk.chg hc5 M.ed (fun g hg h => M.se g hg h)
  have hdk6 := hdk5.chg hc6 (fun h => M.ld h.symm) (fun g hg h => M.sl (by rw [hg, h]))
  refine ⟨⟨hdk6, hlg5.setEv v5, hp, .inl M.nd, .inl M.nl, fun g hg => .inl (M.nS g hg), fun g hg => .inr hg, ?_, M.ld, M.sl, hvl, hvne d M.dk.hi M.ed, ?_⟩, hlg5.fz 3 (by omega), hlg5.c3, hlg5.hi, ?_⟩
  · intro b hb
    have h5 := hg5.size
    rw [show (w5.setCell ⟨l, 3, none⟩ v5).heap.size = w5.heap.size by simp]
    rcases hb with hb | hb
    · have := M.nlt b hb; omega
    · exact (ho5.lt b hb).2
  · intro g hg
    exact hvne g (M.dk.own.lt g hg).2 (M.se g hg)
  · exact ((Chg.of_below hb4).trans (hc5.mono (T' := MT d l S ev) fun b _ hb => .inr (.inr (.inr hb))) fun _ _ h => h).trans (hc6.mono (T' := MT d l S ev) fun b _ hb => .inr (.inl hb)) fun _ _ h => h
end
def Fresh (w : World) (v v' : Value) : Prop := v'.ownBlock = v.ownBlock ∨ ∃ g, v'.ownBlock = some g ∧ w.heap.size ≤ g
def PutPost (base d l : Nat) (S : Dk) (ev : Value) (es : List (List Nat)) (e : List Nat) (N : Nat → Prop) (w : World) (en : Ending) (w' : World) : Prop :=
  Chg (MT d l S ev) w w' ∧
  if S.armed = 1 then en = .returned (.int .i64 92) ∧ ∃ N', (∀ b, N b → N' b) ∧ Mach w' base d l { S with armed := 0, down := true } true ev es N'
  else ∃ v', Fresh w S.v v' ∧
    if S.armed = 2 then en = .returned (.int .i64 92) ∧ ∃ N', (∀ b, N b → N' b) ∧ Mach w' base d l { S with v := v', bs := S.bs ++ enc e, armed := 0, down := true } true ev es N'
    else en = .returned (.int .i64 0) ∧ ∃ ev' N', Fresh w ev ev' ∧ (∀ b, N b → N' b) ∧ Mach w' base d l { S with v := v', bs := S.bs ++ enc e, safe := (S.bs ++ enc e).length, armed := S.armed - 2 } false ev' (es ++ [e]) N'
set_option maxRecDepth 100000 in
set_option maxHeartbeats 2000000 in
theorem lLnone {w : World} {base d l life : Nat} {f : Bool} {ev : Value} (h : LogAt w base d l life f ev) : Calls Try.prog 19 #[.pointer (some ⟨l, 0, none⟩)] w fun e w' => e = .returned (.bool false) ∧ w' = w := by
  obtain ⟨c0, c1, c2, c3, -, -, -⟩ := id h
  go_enter Try.func19, Try.ntmps19
  go_wp2
  go_ret
  exact ⟨rfl, rfl⟩
set_option maxRecDepth 100000 in
set_option maxHeartbeats 4000000 in
/-- A log that has failed is dead. -/
theorem lPutDead {w : World} {base d l : Nat} {S : Dk} {ev : Value} {es : List (List Nat)} {N : Nat → Prop} (M : Mach w base d l S true ev es N) (A : Option Addr) (n c : Nat) :
    Calls Try.prog 8 #[.pointer (some ⟨l, 0, none⟩), .slice A n c] w fun en w' => en = .returned (.int .i64 93) ∧ Drew w w' := by
  obtain ⟨c0, c1, c2, c3, -, -, -⟩ := id M.lg
  have hnn := lLnone M.lg
  have d5 := M.dk.c5
  clear M
  go_enter Try.func8, Try.ntmps8
  go_wp2_with (first
    | (go_at_call 19; refine hnn.mono ?_; rintro e w' ⟨rfl, rfl⟩)
    | fail)
  go_quiet (fail)
  go_wp2_with fail
  go_ret
  exact ⟨rfl, _, rfl⟩
theorem step_push {ops : Array Oper} {o : Oper} {a : Act} {w : World} {K : Act → World → Prop} {Q : Exit → Act → World → Prop} {E : Prop} (hgd : o.guard = none) (s x : Operand)
    (ho : o.op = .call { callee := .builtin .append, args := #[s, x], argTypes := #[33, 33] })
    (base : Nat) (v : Value) (n : Nat) (zs : List Value) (hs : a.eval s = v) (hown : w.ownsRow base 24 1 v n zs)
    (ad : Nat) (z : Value) (hx : a.eval x = .slice (some ⟨ad, 0, none⟩) 1 1) (hz : w.cell? ⟨ad, 0, none⟩ = some z) (hz1 : z.oneCell' = true)
    (h63 : n ≤ 1000000) (hbase : base ≤ w.heap.size)
    (h : ∀ A c w', w'.ownsRow base 24 1 (.slice A (n + 1) c) (n + 1) (zs ++ [z]) → w.grownBy w' v.ownBlock → ((Value.slice A (n + 1) c).ownBlock = v.ownBlock ∨ (Value.slice A (n + 1) c).ownBlock = some w.heap.size) → K (a.put o.dst (.slice A (n + 1) c)) w') :
    if Region.wanted o (yielded ops a.tmps) = true then Oper.wp Try.prog o a w K Q else E := by
  obtain ⟨i0, hi, hz0, hz2, hz3⟩ := info_parts info24
  refine step_append_lies w hgd s x 33 ho base 24 i0 (.slice none 0 0) 1 24 Try.underlying33 hi hz0 hz2 hz3 rfl (by decide) v n zs hs hown ⟨ad, 0, none⟩ 1 1 [z] hx rfl ?_ ?_ (by decide) (by unfold maxLen; omega) (by omega) hbase w.heap.size rfl ?_
  · intro j u hj
    match j with
    | 0 => simp at hj; subst hj; rw [Go.WideShapes.add_plain]; exact hz
    | j + 1 => simp at hj
  · intro u hu
    simp at hu
    rw [hu]; exact hz1
  · intro g cap w' h1 h2 h4 _
    exact h _ _ w' h1 h2 (by rcases h4 with h4 | h4; exact .inl h4.symm; exact .inr (by rw [h4]; rfl))
theorem put1 {S : Dk} (h : S.armed = 1) : begS S = { S with armed := 0, down := true } := by unfold begS; rw [if_neg (by rw [h]; decide), h]; rfl
theorem put2 {S : Dk} (h : S.armed = 2) (v' : Value) (xs : List Nat) : synS (appS S v' xs) = { S with v := v', bs := S.bs ++ xs, armed := 0, down := true } ∧ begE (appS S v' xs) = 92 ∧ (appS S v' xs).down = false := by
  have e1 : begS S = { S with armed := 1, down := false } := by unfold begS; rw [if_neg (by rw [h]; decide), h]; rfl
  have e2 : appS S v' xs = { S with v := v', bs := S.bs ++ xs, armed := 1, down := false } := by unfold appS; rw [e1]
  rw [e2]
  exact ⟨rfl, rfl, rfl⟩
theorem put3 {S : Dk} (h1 : S.armed ≠ 1) (h2 : S.armed ≠ 2) (hd : S.down = false) (v' : Value) (xs : List Nat) : synS (appS S v' xs) = { S with v := v', bs := S.bs ++ xs, safe := (S.bs ++ xs).length, armed := S.armed - 2 } ∧ begE (appS S v' xs) = 0 ∧ (appS S v' xs).down = false := by
  obtain ⟨v, bs, safe, armed, down, life⟩ := S
  simp only at h1 h2 hd
  subst hd
  match armed, h1, h2 with
  | 0, _, _ => exact ⟨rfl, rfl, rfl⟩
  | 1, h1, _ => exact absurd rfl h1
  | 2, _, h2 => exact absurd rfl h2
  | n + 3, _, _ => exact ⟨rfl, rfl, rfl⟩
def AppPost (base d : Nat) (S : Dk) (xs : List Nat) (w : World) (en : Ending) (w' : World) : Prop :=
  en = .returned (.int .i64 (begE S)) ∧ Chg (DkT d S) w w' ∧ (S.armed = 1 → DskAt w' base d (begS S)) ∧ (S.armed ≠ 1 → ∃ v', Fresh w S.v v' ∧ DskAt w' base d (appS S v' xs))
theorem app_any {w2 wm : World} {base d g2 cap2 : Nat} {S : Dk} {e : List Nat} (hdk : DskAt w2 base d S) (hd : S.down = false) (ho2 : wm.ownsRow w2.heap.size 5 1 (.slice (some ⟨g2, 0, none⟩) (e.length + 7) cap2) (e.length + 7) (bcells (enc e))) (hb2 : Below w2.heap.size w2 wm) (hu : U8 e)
    (hl : S.bs.length + e.length + 7 ≤ 1000000) : Calls Try.prog 20 #[.pointer (some ⟨d, 0, none⟩), .slice (some ⟨g2, 0, none⟩) (e.length + 7) cap2] wm (AppPost base d S (enc e) wm) := by
  obtain ⟨-, A, c, hv, hby⟩ := own_byts ho2
  injection hv with hv1 _ hv2
  subst hv1
  subst hv2
  have hg := ho2.lt g2 rfl
  have hdm := hdk.chg (Chg.of_below (T := fun _ => False) hb2) (fun h => h) (fun _ _ h => h)
  have := lAppend hdm hd ⟨g2, 0, none⟩ cap2 wm.heap.size (enc e) hby (u8_enc hu) (Nat.le_refl _) (fun b off hb => by injection hb with hb; injection hb with hb; have := hdk.hi; omega) (by rw [enc_length]; omega)
  rw [enc_length] at this
  exact this
set_option maxRecDepth 100000 in
set_option maxHeartbeats 4000000 in
theorem lPut {w : World} {base d l : Nat} {S : Dk} {ev : Value} {es : List (List Nat)} {N : Nat → Prop} (M : Mach w base d l S false ev es N) (hd : S.down = false) (A : Option Addr) (c : Nat) (e : List Nat) (he : BytsN w (MT d l S ev) A e) (hA : A = none → c = 0) (hu : U8 e) (hle : e.length ≤ 2000)
    (hbs : S.bs.length + e.length + 7 ≤ 1000000) (hes : es.length ≤ 1000) :
    Calls Try.prog 8 #[.pointer (some ⟨l, 0, none⟩), .slice A e.length c] w (PutPost base d l S ev es e N w) := by
  obtain ⟨c0, c1, c2, c3, -, -, -⟩ := id M.lg
  have hnn := lLnone M.lg
  have d5 := M.dk.c5
  have hcn : ∀ w2 : World, Mach w2 base d l S false ev es N → BytsN w2 (MT d l S ev) A e → Calls Try.prog 21 #[.slice A e.length c] w2 fun en w' => ∃ g cap, en = .returned (.slice (some ⟨g, 0, none⟩) (e.length + 7) cap) ∧ w'.ownsRow w2.heap.size 5 1 (.slice (some ⟨g, 0, none⟩) (e.length + 7) cap) (e.length + 7) (bcells (enc e)) ∧ Below w2.heap.size w2 w' := fun w2 _ h2 =>
    (lencode (w := w2) A c w2.heap.size e h2.byts hA (Nat.le_refl _) hu hle).mono fun en w' ⟨v', h1, h3, h4⟩ => by
      obtain ⟨g, cap, rfl, _, _⟩ := h3.form (by omega)
      exact ⟨g, cap, h1, h3, h4⟩
  have HCN := Lib.hid hcn
  have HM := Lib.hid M
  have HE := Lib.hid he
  have HA := Lib.hid hA
  have HU := Lib.hid hu
  have HD := Lib.hid hd
  clear M he hA hu hd hcn
  go_enter Try.func8, Try.ntmps8
  go_wp2_with (first
    | (go_at_call 19; refine hnn.mono ?_; rintro e w' ⟨rfl, rfl⟩)
    | fail)
  go_quiet (fail)
  go_wp2_with fail
  have hbd : Below w'.heap.size w' (w'.drewN nq) := below_drewN (Below.refl _ _) _
  have HM1 := Lib.hid (HM.out.below hbd)
  have HE1 : Hid (BytsN (w'.drewN nq) (MT d l S ev) A e) := Lib.hid (HE.out.step (Chg.of_below (T := fun _ => False) hbd) (fun _ _ h => h.elim) (fun _ _ h => h))
  have HB1 := Lib.hid hbd
  clear hnn c0 c1 c2 c3 d5 hbd
  generalize w'.drewN nq = w1 at *
  have c0 := HM1.out.lg.c0
  go_region_held3 (fun w2 => w2.cell? ⟨l, 0, none⟩ = some (.pointer (some ⟨d, 0, none⟩))) ((first | assumption | go_keep)) (first
    | (go_at_call 21; refine (HCN.out _ (HM1.out.below (below_drewN (Below.refl _ _) 1)) (HE1.out.step (Chg.of_below (T := fun _ => False) (below_drewN (Below.refl w1.heap.size w1) 1)) (fun _ _ h => h.elim) (fun _ _ h => h))).mono ?_; rintro en wm ⟨g2, cap2, rfl, ho2, hb2⟩; have ym := Lib.hid ((HM1.out.below (below_drewN (Below.refl w1.heap.size w1) 1)).below hb2); have y0 := ym.out.lg.c0)
    | (go_at_call 20; refine (app_any (HM1.out.below (below_drewN (Below.refl w1.heap.size w1) 1)).dk HD.out ho2 hb2 HU.out hbs).mono ?_; rintro en w4 ⟨rfl, hx1, hx2, hx3⟩; have y4 : w4.cell? ⟨l, 0, none⟩ = some (.pointer (some ⟨d, 0, none⟩)) := (hx1.cell (p := ⟨l, 0, none⟩) ym.out.lg.hi (fun hb => by rcases hb with hb | hb; exact ym.out.ld hb; exact ym.out.sl hb)).trans y0)
    | fail)
  have hBW : Below w'.heap.size w' wm := (HB1.out.trans ((below_drewN (Below.refl w1.heap.size w1) 1).mono HB1.out.size)).trans (hb2.mono (by have := HB1.out.size; simpa using this))
  have hc4 : Chg (MT d l S ev) w' w4 := (Chg.of_below hBW).trans (hx1.mono (T' := MT d l S ev) fun b _ hb => by rcases hb with hb | hb; exact .inl hb; exact .inr (.inr (.inl hb))) fun _ _ h => h
  have HX1 := Lib.hid hx1
  have HC4 := Lib.hid hc4
  have HBW := Lib.hid hBW
  clear ho2 hb2 hBW hc4 hx1 c0 y0 y4
  by_cases ha : S.armed = 1
  · have e1 : begE S = 92 := by unfold begE; rw [if_pos ha]
    rw [e1]
    have M4 := ym.out.disk HX1.out (hx2 ha) (begS_same S).2.2.2 (.inl (by rw [(begS_same S).1]))
    rw [put1 ha] at M4
    have HA1 := Lib.hid ha
    obtain ⟨k0, k1, k2, k3, fz, -, hhi⟩ := id M4.lg
    have f2 := fz 2 (by omega)
    have HM4 := Lib.hid M4
    clear fz ha hx2 hx3 e1 M4
    go_wp2_with fail
    go_ret
    refine ⟨HC4.out.trans (Chg.setCell (T := MT d l S ev) (.inr (.inl rfl))) fun _ _ h => h, ?_⟩
    rw [if_pos HA1.out]
    exact ⟨rfl, _, fun b hb => .inl hb, HM4.out.fail true⟩
  · obtain ⟨v', hfv, hd4⟩ := hx3 ha
    have e1 : begE S = 0 := by unfold begE; rw [if_neg ha]
    have hfv' : Fresh w' S.v v' := by
      rcases hfv with h | ⟨g, h, hg⟩
      · exact .inl h
      · exact .inr ⟨g, h, Nat.le_trans HBW.out.size hg⟩
    rw [e1]
    have M4 := ym.out.disk HX1.out hd4 (begS_same S).2.2.2 hfv
    have HA1 := Lib.hid ha
    have HFV := Lib.hid hfv'
    obtain ⟨k0, k1, k2, k3, fz, -, hhi⟩ := id M4.lg
    have HM4 := Lib.hid M4
    clear fz hx2 hx3 e1 M4 hfv hfv' hd4
    by_cases ha2 : S.armed = 2
    · obtain ⟨p1, p2, p3⟩ := put2 ha2 v' (enc e)
      have hsy := lSync HM4.out.dk p3
      rw [p1, p2] at hsy
      have HA2 := Lib.hid ha2
      clear ha ha2 p1 p2 p3
      go_wp2_with fail
      refine hsy.mono ?_
      rintro en w5 ⟨rfl, hd5, hc5⟩
      have M5 := HM4.out.disk (hc5.mono fun b _ hb => .inl hb) hd5 (begS_same S).2.2.2.symm (.inl rfl)
      obtain ⟨k0, k1, k2, k3, fz, -, hhi⟩ := id M5.lg
      have f2 := fz 2 (by omega)
      have HM5 := Lib.hid M5
      have HC5 := Lib.hid hc5
      clear fz M5 hc5 hd5 hsy
      go_wp2_with fail
      go_ret
      refine ⟨(HC4.out.trans (HC5.out.mono (T' := MT d l S ev) fun b _ hb => .inl hb) fun _ _ h => h).trans (Chg.setCell (T := MT d l S ev) (.inr (.inl rfl))) fun _ _ h => h, ?_⟩
      rw [if_neg HA1.out]
      refine ⟨v', HFV.out, ?_⟩
      rw [if_pos HA2.out]
      exact ⟨rfl, _, fun b hb => .inl (.inl hb), HM5.out.fail true⟩
    · obtain ⟨p1, p2, p3⟩ := put3 ha ha2 HD.out v' (enc e)
      have hsy := lSync HM4.out.dk p3
      rw [p1, p2] at hsy
      have HA2 := Lib.hid ha2
      clear ha ha2 p1 p2 p3
      go_wp2_with fail
      refine hsy.mono ?_
      rintro en w5 ⟨rfl, hd5, hc5⟩
      have M5 := HM4.out.disk (hc5.mono fun b _ hb => .inl hb) hd5 (begS_same S).2.2.2.symm (.inl rfl)
      obtain ⟨k0, k1, k2, k3, fz, -, hhi⟩ := id M5.lg
      have f3 := fz 3 (by omega)
      have HM5 := Lib.hid M5
      have HC5 := Lib.hid hc5
      clear fz M5 hc5 hd5 hsy
      go_wp2_with fail
      have hcW : Chg (MT d l S ev) w' w5 := HC4.out.trans (HC5.out.mono (T' := MT d l S ev) fun b _ hb => .inl hb) fun _ _ h => h
      have hby5 : BytsN w5 (MT d l S ev) A e := HE.out.step hcW (fun b _ hb => hb) (fun _ _ h => h)
      have HCW := Lib.hid hcW
      generalize hN5 : (fun b => (N b ∨ (appS S v' (enc e)).v.ownBlock = some b) ∨ v'.ownBlock = some b) = N5 at *
      have HCL : Hid (∀ w2 : World, Below w5.heap.size w5 w2 → Calls Try.prog 22 #[.slice A e.length c] w2 fun en wk => ∃ A6 c6 zs, en = .returned (.slice A6 e.length c6) ∧ Mach wk base d l { S with v := v', bs := S.bs ++ enc e, safe := (S.bs ++ enc e).length, armed := S.armed - 2 } false ev es N5 ∧
          wk.ownsRow base 24 1 ev es.length zs ∧ EntsZ wk N5 (zs ++ [.slice A6 e.length c6]) (es ++ [e]) ∧ Below w5.heap.size w5 wk) := Lib.hid fun w2 hb =>
        (lbClone A c w5.heap.size e (hby5.byts.below hb) hb.size (by omega)).mono fun en wk ⟨v6, h1, h2, h3⟩ => by
          have M2 := HM5.out.below hb
          have M6 := M2.below h3
          obtain ⟨-, A6, c6, rfl, hA6, -, hbn6⟩ := own_bytsN (N := N5) h2 M2.nlt
          obtain ⟨zs, hoz, hez⟩ := M6.en
          exact ⟨A6, c6, zs, h1, M6, hoz, hez.snoc hbn6 hA6, hb.trans (h3.mono hb.size)⟩
      have HN5 := Lib.hid hN5
      clear hcW hby5 k0 k1 k2 hN5
      go_region_law ((first
        | (refine step_push ?_ (.tmp 56) (.tmp 59) ?_ base ev es.length zs ?_ (hoz.alloc (.cells #[.slice A6 e.length c6] 24)) wk.heap.size (.slice A6 e.length c6) ?_ ?_ ?_ ?_ ?_ ?_; (solve | (rfl)); (solve | (rfl)); (solve | (rfl)); (solve | (rfl)); (solve | (simp [go_sem])); (solve | (rfl)); (solve | (omega)); (solve | (have := M6.lg.lo; have := M6.dk.lo; simp; omega)); (intro A7 c7 w7 ho7 hg7 hat7; obtain ⟨M7, g7, y7, hl7, hc7⟩ := M6.push hez2 ho7 hg7 hat7))
        | (rw [if_pos (by rfl)]; go_simp; go_at_call 22; refine (HCL.out _ ?_).mono ?_; (solve | exact (Below.refl _ _).drew | exact below_drewN (Below.refl _ _) _ | exact Below.refl _ _); (rintro en wk ⟨A6, c6, zs, rfl, M6, hoz, hez2, hb6⟩; have y6 := M6.lg.c3; have hl6 := M6.lg.hi); go_wp2_with fail)
        | fail))
      all_goals
        have HM7 := Lib.hid M7
        have hwk : w'.heap.size ≤ wk.heap.size := Nat.le_trans HCW.out.size hb6.size
        have hfe : Fresh w' ev (.slice A7 (es.length + 1) c7) := by
          rcases hat7 with h | h
          · exact .inl h
          · exact .inr ⟨_, h, by simp; omega⟩
        have HC8 : Hid (Chg (MT d l S ev) w' (w7.setCell ⟨l, 3, none⟩ (.slice A7 (es.length + 1) c7))) := Lib.hid ((HCW.out.trans (Chg.of_below (T := MT d l S ev) hb6) fun _ _ h => h).trans hc7 fun b hb hh => by
          rcases hh with h | h | h | h
          · exact .inl h
          · exact .inr (.inl h)
          · rcases HFV.out with h' | ⟨g, h', hg⟩
            · exact .inr (.inr (.inl (by rw [← h']; exact h)))
            · have h2 : v'.ownBlock = some b := h
              rw [h'] at h2
              injection h2 with h2
              omega
          · exact .inr (.inr (.inr h)))
        have HFE := Lib.hid hfe
        clear M7 hc7 ho7 hg7 hat7 hez2 hoz hfe hwk hb6 M6 y6 y7 g7
        go_wp2_with fail
        go_ret
        refine ⟨HC8.out, ?_⟩
        rw [if_neg HA1.out]
        refine ⟨v', HFV.out, ?_⟩
        rw [if_neg HA2.out]
        exact ⟨rfl, _, _, HFE.out, fun b hb => .inl (by have h5 := congrFun HN5.out b; rw [← h5]; exact .inl (.inl hb)), HM7.out⟩
end Go.Proofs.Ytikfeoghmpoigaa
