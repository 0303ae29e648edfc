/- TopLog: the disk in memory, and the contracts of its small methods. -/
import Derived.Test.YtikfeoghmpoigaaChk
import Derived.Test.YtikfeoghmpoigaaOwn
import Derived.Maps.AppendAt
import Derived.OwnWalk
namespace Go.Proofs.Ytikfeoghmpoigaa
open Go.RowKit
/-- Nothing has changed but in the blocks of T. -/
structure Chg (T : Nat → Prop) (w w' : World) : Prop where
  os : w'.os = w.os
  tape : w'.tape = w.tape
  output : w'.output = w.output
  size : w.heap.size ≤ w'.heap.size
  block : ∀ k, k < w.heap.size → ¬ T k → w'.heap[k]? = w.heap[k]?
section
variable {T T' : Nat → Prop} {w w' w2 : World} {B : Nat}
theorem Chg.refl (T : Nat → Prop) (w : World) : Chg T w w := ⟨rfl, rfl, rfl, Nat.le_refl _, fun _ _ _ => rfl⟩
theorem Chg.trans (h : Chg T w w') (g : Chg T' w' w2) (hT : ∀ k, k < w.heap.size → T' k → T k) : Chg T w w2 :=
  ⟨g.os.trans h.os, g.tape.trans h.tape, g.output.trans h.output, Nat.le_trans h.size g.size, fun k hk hn => (g.block k (Nat.lt_of_lt_of_le hk h.size) (fun ht => hn (hT k hk ht))).trans (h.block k hk hn)⟩
theorem Chg.mono (h : Chg T w w') (hT : ∀ k, k < w.heap.size → T k → T' k) : Chg T' w w' := ⟨h.os, h.tape, h.output, h.size, fun k hk hn => h.block k hk (fun ht => hn (hT k hk ht))⟩
theorem Chg.setCell {d j : Nat} {v : Value} (hT : T d) : Chg T w (w.setCell ⟨d, j, none⟩ v) :=
  ⟨rfl, rfl, rfl, by simp, fun k _ hn => heap_setCell_other w ⟨d, j, none⟩ k v (fun e => hn (by rw [e]; exact hT))⟩
theorem Chg.of_below (h : Below w.heap.size w w') : Chg T w w' := ⟨h.os, h.tape, h.output, h.size, fun k hk _ => h.block k hk⟩
theorem Chg.below (h : Chg T w w') (hB : B ≤ w.heap.size) (hT : ∀ k, k < B → ¬ T k) : Below B w w' := ⟨h.os, h.tape, h.output, h.size, fun k hk => h.block k (by omega) (hT k hk)⟩
theorem Chg.of_grown {row : Option Nat} (h : w.grownBy w' row) (hT : ∀ g, row = some g → T g) : Chg T w w' :=
  ⟨h.os, h.tape, h.output, h.size, fun k hk hn => h.block k hk (fun e => hn (hT k e.symm))⟩
theorem Chg.cell (h : Chg T w w') {p : Addr} (hp : p.block < w.heap.size) (hn : ¬ T p.block) : w'.cell? p = w.cell? p := by
  unfold World.cell?
  rw [h.block _ hp hn]
theorem Chg.frozen (h : Chg T w w') {p : Addr} (hp : p.block < w.heap.size) (hn : ¬ T p.block) : w'.frozen? p = w.frozen? p := by
  unfold World.frozen?
  rw [h.block _ hp hn]
theorem Chg.own {base : Nat} {e : TypeId} {size n : Nat} {v : Value} {xs : List Value} (h : Chg T w w') (ho : w.ownsRow base e size v n xs) (hn : ∀ g, v.ownBlock = some g → ¬ T g) : w'.ownsRow base e size v n xs := by
  refine ⟨ho.1, ?_⟩
  rcases ho.2 with h1 | ⟨g, cap, cur, rfl, hb, hgg, rest⟩
  · exact .inl h1
  · refine .inr ⟨g, cap, cur, rfl, hb, ?_, rest⟩
    have hlt : g < w.heap.size := by
      rcases Nat.lt_or_ge g w.heap.size with h | h
      · exact h
      · rw [Array.getElem?_eq_none h] at hgg; cases hgg
    rw [h.block g hlt (hn g rfl)]
    exact hgg
end
def bcells (xs : List Nat) : List Value := xs.map fun x => .int .u8 (x : Nat)
structure Dk where
  v : Value
  bs : List Nat
  safe : Nat
  armed : Nat
  down : Bool
  life : Nat
structure DskAt (w : World) (base d : Nat) (S : Dk) : Prop where
  c0 : w.cell? ⟨d, 0, none⟩ = some (.bool true)
  c1 : w.cell? ⟨d, 1, none⟩ = some (.bool S.down)
  c2 : w.cell? ⟨d, 2, none⟩ = some S.v
  c3 : w.cell? ⟨d, 3, none⟩ = some (.int .i64 S.safe)
  c4 : w.cell? ⟨d, 4, none⟩ = some (.int .i64 S.armed)
  c5 : w.cell? ⟨d, 5, none⟩ = some (.int .i64 S.life)
  fz : ∀ j, j < 6 → w.frozen? ⟨d, j, none⟩ = false
  own : w.ownsRow base 5 1 S.v S.bs.length (bcells S.bs)
  ne : S.v.ownBlock ≠ some d
  lo : base ≤ d
  hi : d < w.heap.size
  u8 : U8 S.bs
  sf : S.safe ≤ S.bs.length
  len : S.bs.length ≤ 1000000
  arm : S.armed ≤ 1000
  lif : S.life ≤ 1000
/-- The blocks of a disk. -/
def DkT (d : Nat) (S : Dk) (k : Nat) : Prop := k = d ∨ S.v.ownBlock = some k
section
variable {w w' : World} {base d : Nat} {S : Dk}
theorem DskAt.chg {T : Nat → Prop} (h : DskAt w base d S) (hc : Chg T w w') (h1 : ¬ T d) (h2 : ∀ g, S.v.ownBlock = some g → ¬ T g) : DskAt w' base d S :=
  ⟨(hc.cell (p := ⟨d, 0, none⟩) h.hi h1).trans h.c0, (hc.cell (p := ⟨d, 1, none⟩) h.hi h1).trans h.c1, (hc.cell (p := ⟨d, 2, none⟩) h.hi h1).trans h.c2, (hc.cell (p := ⟨d, 3, none⟩) h.hi h1).trans h.c3,
   (hc.cell (p := ⟨d, 4, none⟩) h.hi h1).trans h.c4, (hc.cell (p := ⟨d, 5, none⟩) h.hi h1).trans h.c5, fun j hj => (hc.frozen (p := ⟨d, j, none⟩) h.hi h1).trans (h.fz j hj), hc.own h.own h2, h.ne, h.lo, Nat.lt_of_lt_of_le h.hi hc.size, h.u8, h.sf, h.len, h.arm, h.lif⟩
theorem ne_addr {d i j : Nat} (h : i ≠ j) : (⟨d, i, none⟩ : Addr) ≠ ⟨d, j, none⟩ := fun e => h (by injection e)
theorem DskAt.setArmed (h : DskAt w base d S) (a : Nat) (ha : a ≤ 1000) : DskAt (w.setCell ⟨d, 4, none⟩ (.int .i64 a)) base d { S with armed := a } :=
  ⟨by rw [World.cell?_setCell_other _ _ _ _ (ne_addr (by decide))]; exact h.c0, by rw [World.cell?_setCell_other _ _ _ _ (ne_addr (by decide))]; exact h.c1, by rw [World.cell?_setCell_other _ _ _ _ (ne_addr (by decide))]; exact h.c2,
   by rw [World.cell?_setCell_other _ _ _ _ (ne_addr (by decide))]; exact h.c3, World.cell?_setCell_same _ _ _ h.c4, by rw [World.cell?_setCell_other _ _ _ _ (ne_addr (by decide))]; exact h.c5,
   fun j hj => by rw [World.frozen?_setCell]; exact h.fz j hj, (Chg.setCell (T := fun k => k = d) rfl).own h.own (fun g hg e => h.ne (by rw [hg, e])), h.ne, h.lo, by simpa using h.hi, h.u8, h.sf, h.len, ha, h.lif⟩
theorem DskAt.setDown (h : DskAt w base d S) (b : Bool) : DskAt (w.setCell ⟨d, 1, none⟩ (.bool b)) base d { S with down := b } :=
  ⟨by rw [World.cell?_setCell_other _ _ _ _ (ne_addr (by decide))]; exact h.c0, World.cell?_setCell_same _ _ _ h.c1, by rw [World.cell?_setCell_other _ _ _ _ (ne_addr (by decide))]; exact h.c2,
   by rw [World.cell?_setCell_other _ _ _ _ (ne_addr (by decide))]; exact h.c3, by rw [World.cell?_setCell_other _ _ _ _ (ne_addr (by decide))]; exact h.c4, by rw [World.cell?_setCell_other _ _ _ _ (ne_addr (by decide))]; exact h.c5,
   fun j hj => by rw [World.frozen?_setCell]; exact h.fz j hj, (Chg.setCell (T := fun k => k = d) rfl).own h.own (fun g hg e => h.ne (by rw [hg, e])), h.ne, h.lo, by simpa using h.hi, h.u8, h.sf, h.len, h.arm, h.lif⟩
theorem DskAt.setSafe (h : DskAt w base d S) (a : Nat) (ha : a ≤ S.bs.length) : DskAt (w.setCell ⟨d, 3, none⟩ (.int .i64 a)) base d { S with safe := a } :=
  ⟨by rw [World.cell?_setCell_other _ _ _ _ (ne_addr (by decide))]; exact h.c0, by rw [World.cell?_setCell_other _ _ _ _ (ne_addr (by decide))]; exact h.c1, by rw [World.cell?_setCell_other _ _ _ _ (ne_addr (by decide))]; exact h.c2,
   World.cell?_setCell_same _ _ _ h.c3, by rw [World.cell?_setCell_other _ _ _ _ (ne_addr (by decide))]; exact h.c4, by rw [World.cell?_setCell_other _ _ _ _ (ne_addr (by decide))]; exact h.c5,
   fun j hj => by rw [World.frozen?_setCell]; exact h.fz j hj, (Chg.setCell (T := fun k => k = d) rfl).own h.own (fun g hg e => h.ne (by rw [hg, e])), h.ne, h.lo, by simpa using h.hi, h.u8, ha, h.len, h.arm, h.lif⟩
theorem DskAt.setLife (h : DskAt w base d S) (a : Nat) (ha : a ≤ 1000) : DskAt (w.setCell ⟨d, 5, none⟩ (.int .i64 a)) base d { S with life := a } :=
  ⟨by rw [World.cell?_setCell_other _ _ _ _ (ne_addr (by decide))]; exact h.c0, by rw [World.cell?_setCell_other _ _ _ _ (ne_addr (by decide))]; exact h.c1, by rw [World.cell?_setCell_other _ _ _ _ (ne_addr (by decide))]; exact h.c2,
   by rw [World.cell?_setCell_other _ _ _ _ (ne_addr (by decide))]; exact h.c3, by rw [World.cell?_setCell_other _ _ _ _ (ne_addr (by decide))]; exact h.c4, World.cell?_setCell_same _ _ _ h.c5,
   fun j hj => by rw [World.frozen?_setCell]; exact h.fz j hj, (Chg.setCell (T := fun k => k = d) rfl).own h.own (fun g hg e => h.ne (by rw [hg, e])), h.ne, h.lo, by simpa using h.hi, h.u8, h.sf, h.len, h.arm, ha⟩
/-- Other bytes, in a row that the world holds. -/
theorem DskAt.setBytes (h : DskAt w base d S) (v : Value) (bs : List Nat) (own : w.ownsRow base 5 1 v bs.length (bcells bs)) (ne : v.ownBlock ≠ some d) (hu : U8 bs) (hs : S.safe ≤ bs.length) (hl : bs.length ≤ 1000000) :
    DskAt (w.setCell ⟨d, 2, none⟩ v) base d { S with v := v, bs := bs } :=
  ⟨by rw [World.cell?_setCell_other _ _ _ _ (ne_addr (by decide))]; exact h.c0, by rw [World.cell?_setCell_other _ _ _ _ (ne_addr (by decide))]; exact h.c1, World.cell?_setCell_same _ _ _ h.c2,
   by rw [World.cell?_setCell_other _ _ _ _ (ne_addr (by decide))]; exact h.c3, by rw [World.cell?_setCell_other _ _ _ _ (ne_addr (by decide))]; exact h.c4, by rw [World.cell?_setCell_other _ _ _ _ (ne_addr (by decide))]; exact h.c5,
   fun j hj => by rw [World.frozen?_setCell]; exact h.fz j hj, (Chg.setCell (T := fun k => k = d) rfl).own own (fun g hg e => ne (by rw [hg, e])), ne, h.lo, by simpa using h.hi, hu, hs, hl, h.arm, h.lif⟩
set_option maxRecDepth 100000 in
set_option maxHeartbeats 2000000 in
theorem lnone (h : DskAt w base d S) : Calls Try.prog 18 #[.pointer (some ⟨d, 0, none⟩)] w fun e w' => e = .returned (.bool false) ∧ w' = w := by
  obtain ⟨c0, c1, c2, c3, c4, c5, -, -, -, -, -, -, -, -, -, -⟩ := id h
  go_enter Try.func18, Try.ntmps18
  go_wp2
  go_ret
  exact ⟨rfl, rfl⟩
set_option maxRecDepth 100000 in
set_option maxHeartbeats 2000000 in
theorem ldown (h : DskAt w base d S) : Calls Try.prog 9 #[.pointer (some ⟨d, 0, none⟩)] w fun e w' => e = .returned (.bool S.down) ∧ w' = w := by
  obtain ⟨c0, c1, c2, c3, c4, c5, -, -, -, -, -, -, -, -, -, -⟩ := id h
  go_enter Try.func9, Try.ntmps9
  go_wp2_with (go_at_call 18; refine (lnone h).mono ?_; rintro e w' ⟨rfl, rfl⟩)
  go_ret
  exact ⟨rfl, rfl⟩
def begS (S : Dk) : Dk := if S.armed = 0 then S else { S with armed := S.armed - 1, down := decide (S.armed - 1 = 0) }
def begE (S : Dk) : Int := if S.armed = 1 then 92 else 0
set_option maxRecDepth 100000 in
set_option maxHeartbeats 2000000 in
theorem lbegin (h : DskAt w base d S) (hd : S.down = false) :
    Calls Try.prog 27 #[.pointer (some ⟨d, 0, none⟩)] w fun e w' => e = .returned (.int .i64 (begE S)) ∧ DskAt w' base d (begS S) ∧ Chg (fun k => k = d) w w' := by
  obtain ⟨c0, c1, c2, c3, c4, c5, fz, -, -, -, hi, -, -, -, ha, -⟩ := id h
  have f4 := fz 4 (by omega)
  have f1 := fz 1 (by omega)
  clear fz
  by_cases h0 : S.armed = 0
  · have e1 : begS S = S := by unfold begS; rw [if_pos h0]
    have e2 : begE S = 0 := by unfold begE; rw [if_neg (by omega)]
    rw [e1, e2]
    rw [h0] at c4
    rw [hd] at c1
    go_enter Try.func27, Try.ntmps27
    go_wp2
    go_ret
    exact ⟨rfl, h, Chg.refl _ _⟩
  · obtain ⟨n, hn⟩ : ∃ n, S.armed = n + 1 := ⟨S.armed - 1, by omega⟩
    have e1 : begS S = { S with armed := n, down := decide (n = 0) } := by unfold begS; rw [if_neg h0, hn]; rfl
    have hst := (h.setArmed n (by omega)).setDown (decide (n = 0))
    have hch : Chg (fun k => k = d) w ((w.setCell ⟨d, 4, none⟩ (.int .i64 n)).setCell ⟨d, 1, none⟩ (.bool (decide (n = 0)))) := (Chg.setCell (T := fun k => k = d) rfl).trans (Chg.setCell (T := fun k => k = d) rfl) fun k _ h => h
    rw [e1]
    have e2 : begE S = if n = 0 then 92 else 0 := by unfold begE; rw [hn]; simp
    rw [e2]
    have c4' : w.cell? ⟨d, 4, none⟩ = some (.int .i64 ((n : Int) + 1)) := by rw [c4, hn]; simp
    have hn2 : n ≤ 999 := by omega
    have v1 : (0 : Int) < (n : Int) + 1 := by omega
    clear c4 e1 e2 h0 hn ha
    by_cases hz : n = 0
    · subst hz
      simp only [decide_true, if_true] at hst hch ⊢
      go_enter Try.func27, Try.ntmps27
      go_wp2
      go_ret
      exact ⟨rfl, hst, hch⟩
    · have hz2 : ¬ ((n : Int) = 0) := by omega
      rw [if_neg hz]
      simp only [decide_false, hz] at hst hch ⊢
      go_enter Try.func27, Try.ntmps27
      have hz3 : ((n : Int) == 0) = false := by simp; omega
      go_wp2
      go_ret
      exact ⟨rfl, hst, hch⟩
set_option maxRecDepth 100000 in
set_option maxHeartbeats 2000000 in
theorem lArm (h : DskAt w base d S) (n : Nat) (hn : n ≤ 1000) :
    Calls Try.prog 7 #[.pointer (some ⟨d, 0, none⟩), .int .i64 n] w fun e w' => e = .returned (.tuple #[]) ∧ DskAt w' base d { S with armed := n } ∧ Chg (fun k => k = d) w w' := by
  obtain ⟨c0, c1, c2, c3, c4, c5, fz, -, -, -, hi, -, -, -, ha, -⟩ := id h
  have f4 := fz 4 (by omega)
  clear fz
  have hst := h.setArmed n hn
  have hch : Chg (fun k => k = d) w (w.setCell ⟨d, 4, none⟩ (.int .i64 n)) := Chg.setCell rfl
  have hm : max (n : Int) 0 = (n : Int) := by omega
  go_enter Try.func7, Try.ntmps7
  go_wp2_with (go_at_call 18; refine (lnone h).mono ?_; rintro e w' ⟨rfl, rfl⟩)
  go_end0
  exact ⟨rfl, hst, hch⟩
def synS (S : Dk) : Dk := if S.armed = 1 then begS S else { begS S with safe := S.bs.length }
theorem begS_same (S : Dk) : (begS S).v = S.v ∧ (begS S).bs = S.bs ∧ (begS S).safe = S.safe ∧ (begS S).life = S.life := by
  unfold begS; split <;> exact ⟨rfl, rfl, rfl, rfl⟩
theorem own_len {base e n : Nat} {v : Value} {xs : List Value} {w : World} (h : w.ownsRow base e 1 v n xs) : ∃ (A : Option Addr) (c : Nat), v = .slice A n c := by
  rcases h.2 with ⟨rfl, rfl⟩ | ⟨g, cap, cur, rfl, _⟩
  · exact ⟨_, _, rfl⟩
  · exact ⟨_, _, rfl⟩
set_option maxRecDepth 100000 in
set_option maxHeartbeats 2000000 in
theorem lSync (h : DskAt w base d S) (hd : S.down = false) :
    Calls Try.prog 17 #[.pointer (some ⟨d, 0, none⟩)] w fun e w' => e = .returned (.int .i64 (begE S)) ∧ DskAt w' base d (synS S) ∧ Chg (fun k => k = d) w w' := by
  have hdn := ldown h
  rw [hd] at hdn
  go_enter Try.func17, Try.ntmps17
  go_wp2_with (first
    | (go_at_call 9; refine hdn.mono ?_; rintro e w' ⟨rfl, rfl⟩)
    | fail)
  refine (lbegin h hd).mono ?_
  rintro e w1 ⟨rfl, h1, hc1⟩
  clear hdn
  by_cases ha : S.armed = 1
  · have e1 : begE S = 92 := by unfold begE; rw [if_pos ha]
    have e2 : synS S = begS S := by unfold synS; rw [if_pos ha]
    rw [e1]
    have E1 := Lib.hid e1
    have E2 := Lib.hid e2
    clear e1 e2
    go_wp2_with fail
    go_ret
    exact ⟨by rw [E1.out]; rfl, by rw [E2.out]; exact h1, hc1⟩
  · have e1 : begE S = 0 := by unfold begE; rw [if_neg ha]
    obtain ⟨q1, q2, q3, q4⟩ := begS_same S
    have e2 : synS S = { begS S with safe := (begS S).bs.length } := by unfold synS; rw [if_neg ha, q2]
    rw [e1]
    have E1 := Lib.hid e1
    have E2 := Lib.hid e2
    have hst := h1.setSafe (begS S).bs.length (Nat.le_refl _)
    have hch : Chg (fun k => k = d) w' (w1.setCell ⟨d, 3, none⟩ (.int .i64 ((begS S).bs.length : Nat))) := hc1.trans (Chg.setCell (T := fun k => k = d) rfl) fun k _ h => h
    obtain ⟨c0, c1, c2, c3, c4, c5, fz, own, -, -, hi, -, -, -, -, -⟩ := id h1
    have f3 := fz 3 (by omega)
    clear fz h h1 e1 e2 hc1 q1 q2 q3 q4 hd
    generalize begS S = S1 at *
    obtain ⟨A, c, hv⟩ := own_len own
    rw [hv] at c2
    clear own hv
    go_wp2_with fail
    go_ret
    exact ⟨by rw [E1.out]; rfl, by rw [E2.out]; exact hst, hch⟩
theorem DskAt.appended {w2 : World} {v' : Value} {xs : List Nat} (h : DskAt w base d S) (hg : w.grownBy w2 S.v.ownBlock) (hown : w2.ownsRow base 5 1 v' (S.bs.length + xs.length) (bcells S.bs ++ bcells xs)) (hat : v'.ownBlock = S.v.ownBlock ∨ v'.ownBlock = some w.heap.size) (hu : U8 xs) (hl : S.bs.length + xs.length ≤ 1000000) :
    DskAt (w2.setCell ⟨d, 2, none⟩ v') base d { S with v := v', bs := S.bs ++ xs } := by
  have hne : some d ≠ S.v.ownBlock := fun e => h.ne e.symm
  have hne2 : v'.ownBlock ≠ some d := by
    rcases hat with e | e
    · rw [e]; exact h.ne
    · rw [e]; intro e'; injection e' with e'; have := h.hi; omega
  have k : ∀ j, w2.cell? ⟨d, j, none⟩ = w.cell? ⟨d, j, none⟩ := fun j => hg.cell_far ⟨d, j, none⟩ h.hi hne
  refine ⟨?_, ?_, World.cell?_setCell_same _ _ _ ((k 2).trans h.c2), ?_, ?_, ?_, fun j hj => ?_, ?_, hne2, h.lo, ?_, ?_, ?_, ?_, h.arm, h.lif⟩
  · rw [World.cell?_setCell_other _ _ _ _ (ne_addr (by decide)), k]; exact h.c0
  · rw [World.cell?_setCell_other _ _ _ _ (ne_addr (by decide)), k]; exact h.c1
  · rw [World.cell?_setCell_other _ _ _ _ (ne_addr (by decide)), k]; exact h.c3
  · rw [World.cell?_setCell_other _ _ _ _ (ne_addr (by decide)), k]; exact h.c4
  · rw [World.cell?_setCell_other _ _ _ _ (ne_addr (by decide)), k]; exact h.c5
  · rw [World.frozen?_setCell, hg.frozen_far ⟨d, j, none⟩ h.hi hne]; exact h.fz j hj
  · have e : bcells (S.bs ++ xs) = bcells S.bs ++ bcells xs := List.map_append
    have e2 : (S.bs ++ xs).length = S.bs.length + xs.length := List.length_append
    show World.ownsRow _ base 5 1 v' (S.bs ++ xs).length (bcells (S.bs ++ xs))
    rw [e, e2]
    exact (Chg.setCell (T := fun k => k = d) rfl).own hown (fun g hg e => hne2 (by rw [hg, e]))
  · have := hg.size; have := h.hi; simp; omega
  · intro x hx
    rcases List.mem_append.1 hx with hx | hx
    · exact h.u8 x hx
    · exact hu x hx
  · have := h.sf; show S.safe ≤ (S.bs ++ xs).length; rw [List.length_append]; omega
  · show (S.bs ++ xs).length ≤ _; rw [List.length_append]; exact hl
theorem info5 : (Try.prog.info? 5).map (fun i => (i.zero, i.size, i.bytes)) = some (some (.int .u8 0), 1, 1) := by kernel_rfl
theorem Byts.news {B : Nat} {a : Addr} {xs : List Nat} (h : Byts w B (some a) xs) : ∀ j u, (bcells xs)[j]? = some u → w.cell? (a.add j) = some u := by
  intro j u hj
  rcases h with rfl | ⟨b, off, hA, _, hc⟩
  · simp [bcells] at hj
  · injection hA with hA
    subst hA
    have hlt : j < xs.length := by
      rcases Nat.lt_or_ge j xs.length with h | h
      · exact h
      · rw [List.getElem?_eq_none (by simpa [bcells] using h)] at hj; cases hj
    rw [Go.WideShapes.add_plain, hc j hlt]
    have : (bcells xs)[j]? = some (.int .u8 (atb xs j : Nat)) := by simp [bcells, atb, hlt]
    rw [this] at hj
    exact hj
theorem bcells_one {xs : List Nat} : ∀ u ∈ bcells xs, u.oneCell' = true := fun u hu => by
  obtain ⟨x, _, rfl⟩ := List.mem_map.1 hu
  rfl
def appS (S : Dk) (v' : Value) (xs : List Nat) : Dk := { begS S with v := v', bs := S.bs ++ xs }
set_option maxRecDepth 100000 in
set_option maxHeartbeats 2000000 in
theorem lAppend (h : DskAt w base d S) (hd : S.down = false) (a : Addr) (c B : Nat) (xs : List Nat) (hx : Byts w B (some a) xs) (hu : U8 xs) (hB : B ≤ w.heap.size) (hBd : ∀ b off, some a = some (⟨b, off, none⟩ : Addr) → b ≠ d) (hl : S.bs.length + xs.length ≤ 1000000) :
    Calls Try.prog 20 #[.pointer (some ⟨d, 0, none⟩), .slice (some a) xs.length c] w fun e w' => e = .returned (.int .i64 (begE S)) ∧ Chg (DkT d S) w w' ∧ (S.armed = 1 → DskAt w' base d (begS S)) ∧
      (S.armed ≠ 1 → ∃ v', (v'.ownBlock = S.v.ownBlock ∨ ∃ g, v'.ownBlock = some g ∧ w.heap.size ≤ g) ∧ DskAt w' base d (appS S v' xs)) := by
  have hdn := ldown h
  rw [hd] at hdn
  go_enter Try.func20, Try.ntmps20
  go_wp2_with (first
    | (go_at_call 9; refine hdn.mono ?_; rintro e w' ⟨rfl, rfl⟩)
    | fail)
  refine (lbegin h hd).mono ?_
  rintro e w1 ⟨rfl, h1, hc1⟩
  clear hdn
  by_cases ha : S.armed = 1
  · have e1 : begE S = 92 := by unfold begE; rw [if_pos ha]
    rw [e1]
    have E1 := Lib.hid e1
    clear e1
    go_wp2_with fail
    go_ret
    exact ⟨by rw [E1.out]; rfl, hc1.mono fun k _ hk => .inl hk, fun _ => h1, fun hh => absurd ha hh⟩
  · have e1 : begE S = 0 := by unfold begE; rw [if_neg ha]
    obtain ⟨q1, q2, q3, q4⟩ := begS_same S
    rw [e1]
    have E1 := Lib.hid e1
    obtain ⟨i0, hi, hz0, hz2, hz3⟩ := info_parts info5
    have hx1 : Byts w1 w1.heap.size (some a) xs := by
      rcases hx with h0 | ⟨b, off, hA, hb, hc⟩
      · exact .inl h0
      · exact .inr ⟨b, off, hA, by have := hc1.size; omega, fun j hj => (hc1.cell (p := ⟨b, off + j, none⟩) (show b < _ by omega) (hBd b off hA)).trans (hc j hj)⟩
    have hmk : ∀ (v' : Value) (w2 : World), w1.grownBy w2 (begS S).v.ownBlock → w2.ownsRow base 5 1 v' ((begS S).bs.length + xs.length) (bcells (begS S).bs ++ bcells xs) → (v'.ownBlock = (begS S).v.ownBlock ∨ v'.ownBlock = some w1.heap.size) → DskAt (w2.setCell ⟨d, 2, none⟩ v') base d (appS S v' xs) ∧ Chg (DkT d S) w' (w2.setCell ⟨d, 2, none⟩ v') ∧ (v'.ownBlock = S.v.ownBlock ∨ ∃ g, v'.ownBlock = some g ∧ w'.heap.size ≤ g) := by
      intro v' w2 hg hown hat
      have hd2 := h1.appended hg hown hat hu (by rw [q2]; exact hl)
      refine ⟨by unfold appS; rw [← q2]; exact hd2, ?_, ?_⟩
      · refine ((hc1.mono fun k _ hk => .inl hk).trans (Chg.of_grown (T := DkT d S) hg fun g hg' => .inr (by rw [← q1]; exact hg')) fun k _ h => h).trans (Chg.setCell (T := DkT d S) (.inl rfl)) fun k _ h => h
      · rcases hat with e | e
        · exact .inl (by rw [e, q1])
        · exact .inr ⟨_, e, hc1.size⟩
    have HMK := Lib.hid hmk
    have hl1 : (begS S).bs.length + xs.length ≤ 1000000 := by rw [q2]; exact hl
    obtain ⟨c0, c1, c2, c3, c4, c5, fz, own, hnd, hlo, hhi, -, -, -, -, -⟩ := id h1
    replace hnd := fun e => hnd (Eq.symm e)
    have f2 := fz 2 (by omega)
    clear fz h h1 e1 q1 q2 q3 q4 hd hmk hx
    generalize begS S = S1 at *
    go_wp2_with (first
      | (at_builtin; go_loud (refine wpList_append_own_at _ ?_ (.tmp 17) (.tmp 18) 24 ?_ base 5 i0 (.int .u8 0) 1 1 Try.underlying24 hi hz0 hz2 hz3 ?_ ?_ S1.v S1.bs.length (bcells S1.bs) ?_ own a xs.length c (bcells xs) ?_ ?_ hx1.news bcells_one ?_ ?_ ?_ ?_; (solve | (rfl)); (solve | (rfl)); (solve | (rfl)); (solve | (decide)); (solve | (rfl)); (solve | (rfl)); (solve | (simp [bcells])); (solve | (unfold maxLen; omega)); (solve | (omega)); (solve | (omega)); (intro v' w2 hown hgrow hnil hat; have hfin := HMK.out _ _ hgrow hown hat; have g2 := (hgrow.frozen_far ⟨d, 2, none⟩ hhi hnd).trans f2; have g3 := (hgrow.cell_far ⟨d, 2, none⟩ hhi hnd).trans c2; obtain ⟨A', c', rfl⟩ := own_len hown)))
      | fail)
    go_ret
    exact ⟨by rw [E1.out]; rfl, hfin.2.1, fun hh => absurd hh ha, fun _ => ⟨_, hfin.2.2, hfin.1⟩⟩
end
end Go.Proofs.Ytikfeoghmpoigaa
