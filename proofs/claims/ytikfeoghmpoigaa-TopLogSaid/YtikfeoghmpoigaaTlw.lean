/- TopLog: the words of the statement's own loop. -/
import Derived.Test.YtikfeoghmpoigaaLgs
namespace Go.Proofs.Ytikfeoghmpoigaa
open Go.RowKit
structure Blw where
  e : List Nat
  at_ : Nat
  again : Nat
  lost : Bool
  reopen : Bool
  keep : Int
  rest : Int
def blwAt (xs : List Blw) (j : Nat) : Blw := xs.getD j ⟨[], 0, 0, false, false, 0, 0⟩
/-- The seven cells of a Blow, from ⟨b, o⟩ on; its Entry lies below B. -/
def BlwC (w : World) (b o B : Nat) (x : Blw) (A : Option Addr) (c : Nat) : Prop :=
  w.cell? ⟨b, o, none⟩ = some (.slice A x.e.length c) ∧ w.cell? ⟨b, o + 1, none⟩ = some (.int .u8 (x.at_ : Nat)) ∧ w.cell? ⟨b, o + 2, none⟩ = some (.int .u8 (x.again : Nat)) ∧ w.cell? ⟨b, o + 3, none⟩ = some (.bool x.lost) ∧ w.cell? ⟨b, o + 4, none⟩ = some (.bool x.reopen) ∧
    w.cell? ⟨b, o + 5, none⟩ = some (.int .i64 x.keep) ∧ w.cell? ⟨b, o + 6, none⟩ = some (.int .i64 x.rest) ∧ (A = none → c = 0) ∧ Byts w B A x.e ∧ U8 x.e ∧ x.at_ < 256 ∧ x.again < 256
def Scr (w : World) (B : Nat) (A : Option Addr) (xs : List Blw) : Prop :=
  xs = [] ∨ ∃ b off, A = some ⟨b, off, none⟩ ∧ b < B ∧ ∀ j, j < xs.length → ∃ Ae ce, BlwC w b (off + j * 7) B (blwAt xs j) Ae ce
section
variable {w w' : World} {B : Nat} {A : Option Addr} {xs : List Blw}
theorem BlwC.keep {b o c : Nat} {x : Blw} (h : BlwC w b o B x A c) (hb : b < B) (hk : ∀ p : Addr, p.block < B → w'.cell? p = w.cell? p) : BlwC w' b o B x A c := by
  obtain ⟨h0, h1, h2, h3, h4, h5, h6, h7, h8, h9⟩ := h
  exact ⟨(hk _ hb).trans h0, (hk _ hb).trans h1, (hk _ hb).trans h2, (hk _ hb).trans h3, (hk _ hb).trans h4, (hk _ hb).trans h5, (hk _ hb).trans h6, h7, h8.keep hk, h9⟩
theorem Scr.at_ (h : Scr w B A xs) {k : Nat} (hk : k < xs.length) : ∃ b off, A = some ⟨b, off, none⟩ ∧ b < B ∧ ∀ j, j < xs.length → ∃ Ae ce, BlwC w b (off + j * 7) B (blwAt xs j) Ae ce := by
  rcases h with rfl | h
  · simp at hk
  · exact h
end
section
variable {w w' : World} {base d l : Nat} {S S' : Dk} {f : Bool} {ev ev' kv : Value} {es ks : List (List Nat)} {N N' : Nat → Prop}
/-- A block that the machine does not own stays so. -/
theorem mt_fresh {g : Nat} (h : ¬ MT d l S ev g) (hg : g < w.heap.size) (hS : Fresh w S.v S'.v) (hE : Fresh w ev ev') : ¬ MT d l S' ev' g := fun hh => by
  rcases hh with hh | hh | hh | hh
  · exact h (.inl hh)
  · exact h (.inr (.inl hh))
  · rcases hS with e | ⟨q, e, hq⟩
    · exact h (.inr (.inr (.inl (by rw [← e]; exact hh))))
    · rw [e] at hh; injection hh with hh; omega
  · rcases hE with e | ⟨q, e, hq⟩
    · exact h (.inr (.inr (.inr (by rw [← e]; exact hh))))
    · rw [e] at hh; injection hh with hh; omega
theorem Fresh.refl (w : World) (v : Value) : Fresh w v v := .inl rfl
/-- The row of the entries that the statement keeps: no block of the machine. -/
structure Kp (w : World) (W d l : Nat) (S : Dk) (ev : Value) (N : Nat → Prop) (kv : Value) (es : List (List Nat)) : Prop where
  en : Ents w W (fun b => W ≤ b) kv es
  nk : ∀ g, kv.ownBlock = some g → N g
  mt : ∀ g, kv.ownBlock = some g → ¬ MT d l S ev g
theorem Kp.step (h : Kp w base d l S ev N kv ks) (hc : Chg (MT d l S ev) w w') (hge : ∀ b, MT d l S ev b → base ≤ b) (hN : ∀ b, N b → N' b) (hS : Fresh w S.v S'.v) (hE : Fresh w ev ev') : Kp w' base d l S' ev' N' kv ks :=
  ⟨h.en.step hc (fun b _ hb => hge b hb) h.mt (fun _ _ hb => hb), fun g hg => hN g (h.nk g hg), fun g hg => mt_fresh (h.mt g hg) (h.en.lt g hg).2 hS hE⟩
theorem Kp.below (h : Kp w base d l S ev N kv ks) (hb : Below w.heap.size w w') : Kp w' base d l S ev N kv ks :=
  ⟨h.en.step (Chg.of_below (T := fun _ => False) hb) (fun _ _ h => h.elim) (fun _ _ h => h) (fun _ _ h => h), h.nk, h.mt⟩
/-- Behind a write into the kept row alone the machine is as it was. -/
theorem Mach.kept {kv' : Value} (M : Mach w base d l S f ev es N) (hk : ∀ g, kv.ownBlock = some g → N g ∧ ¬ MT d l S ev g) (hg : w.grownBy w' kv.ownBlock) (hat : kv'.ownBlock = kv.ownBlock ∨ kv'.ownBlock = some w.heap.size) (hlt : ∀ g, kv'.ownBlock = some g → g < w'.heap.size) :
    Mach w' base d l S f ev es (fun b => N b ∨ kv'.ownBlock = some b) ∧ (∀ g, kv'.ownBlock = some g → ¬ MT d l S ev g) := by
  have hc : Chg (fun b => kv.ownBlock = some b) w w' := Chg.of_grown hg fun g hg => hg
  refine ⟨⟨M.dk.chg hc (fun h => (hk d h).2 (.inl rfl)) (fun g hg h => (hk g h).2 (.inr (.inr (.inl hg)))), M.lg.step hc (fun h => (hk l h).2 (.inr (.inl rfl))),
    M.en.step hc (fun b _ hb => (hk b hb).1) (fun g hg h => (hk g h).2 (.inr (.inr (.inr hg)))) ?_, .inl M.nd, .inl M.nl, fun g hg => .inl (M.nS g hg), fun g hg => .inl (M.nE g hg), ?_, M.ld, M.sl, M.el, M.ed, M.se⟩, ?_⟩
  · intro b hb hh
    rcases hh with hh | hh
    · exact hh
    · rcases hat with e | e
      · exact (hk b (by rw [← e]; exact hh)).1
      · rw [e] at hh; injection hh with hh; omega
  · intro b hb
    rcases hb with hb | hb
    · exact Nat.lt_of_lt_of_le (M.nlt b hb) hc.size
    · exact hlt b hb
  · intro g hg
    rcases hat with e | e
    · exact (hk g (by rw [← e]; exact hg)).2
    · rw [e] at hg
      injection hg with hg
      subst hg
      intro hh
      rcases hh with hh | hh | hh | hh
      · have := M.dk.hi; omega
      · have := M.lg.hi; omega
      · have := (M.dk.own.lt _ hh).2; omega
      · have := (M.en.lt _ hh).2; omega
theorem lPutDown {v : Value} {a life : Nat} (M : Mach w base d l ⟨v, flat es, (flat es).length, a, false, life⟩ false ev es N) (ha : a = 1 ∨ a = 2) (A : Option Addr) (c : Nat) (e : List Nat) (he : BytsN w (MT d l ⟨v, flat es, (flat es).length, a, false, life⟩ ev) A e) (hA : A = none → c = 0) (hu : U8 e) (hle : e.length ≤ 300)
    (hes : es.length ≤ 100) (hfl : (flat es).length ≤ 100000) :
    Calls Try.prog 8 #[.pointer (some ⟨l, 0, none⟩), .slice A e.length c] w fun en w' => en = .returned (.int .i64 92) ∧ Chg (MT d l ⟨v, flat es, (flat es).length, a, false, life⟩ ev) w w' ∧ ∃ (v' : Value) (tail : List Nat) (N' : Nat → Prop), Fresh w v v' ∧ (tail = [] ∨ tail = enc e) ∧ (∀ b, N b → N' b) ∧
      Mach w' base d l ⟨v', flat es ++ tail, (flat es).length, 0, true, life⟩ true ev es N' := by
  refine (lPut M rfl A c e he hA hu (by omega) (by show (flat es).length + e.length + 7 ≤ _; omega) (by omega)).mono fun en w' hp => ?_
  obtain ⟨hc, hp⟩ := hp
  rcases ha with rfl | rfl
  · rw [if_pos rfl] at hp
    obtain ⟨rfl, N', hN, hM⟩ := hp
    exact ⟨rfl, hc, v, [], N', .inl rfl, .inl rfl, hN, by rw [List.append_nil]; exact hM⟩
  · rw [if_neg (show ¬ (2 : Nat) = 1 by decide)] at hp
    obtain ⟨v', hv, hp⟩ := hp
    rw [if_pos rfl] at hp
    obtain ⟨rfl, N', hN, hM⟩ := hp
    exact ⟨rfl, hc, v', enc e, N', hv, .inr rfl, hN, hM⟩
theorem lPutOk {v : Value} {a life : Nat} (M : Mach w base d l ⟨v, flat es, (flat es).length, a, false, life⟩ false ev es N) (ha : ¬ (a = 1 ∨ a = 2)) (A : Option Addr) (c : Nat) (e : List Nat) (he : BytsN w (MT d l ⟨v, flat es, (flat es).length, a, false, life⟩ ev) A e) (hA : A = none → c = 0) (hu : U8 e) (hle : e.length ≤ 300)
    (hes : es.length ≤ 100) (hfl : (flat es).length ≤ 100000) :
    Calls Try.prog 8 #[.pointer (some ⟨l, 0, none⟩), .slice A e.length c] w fun en w' => en = .returned (.int .i64 0) ∧ Chg (MT d l ⟨v, flat es, (flat es).length, a, false, life⟩ ev) w w' ∧ ∃ (v' ev' : Value) (N' : Nat → Prop), Fresh w v v' ∧ Fresh w ev ev' ∧ (∀ b, N b → N' b) ∧
      Mach w' base d l ⟨v', flat (es ++ [e]), (flat (es ++ [e])).length, a - 2, false, life⟩ false ev' (es ++ [e]) N' := by
  refine (lPut M rfl A c e he hA hu (by omega) (by show (flat es).length + e.length + 7 ≤ _; omega) (by omega)).mono fun en w' hp => ?_
  obtain ⟨hc, hp⟩ := hp
  rw [if_neg (show ¬ a = 1 by omega)] at hp
  obtain ⟨v', hv, hp⟩ := hp
  rw [if_neg (show ¬ a = 2 by omega)] at hp
  obtain ⟨rfl, ev', N', hev, hN, hM⟩ := hp
  exact ⟨rfl, hc, v', ev', N', hv, hev, hN, by rw [flat_app]; exact hM⟩
end
/-- A Blow in a box of its own. -/
structure BoxF (w : World) (B0 : Nat) (x : Blw) (A : Option Addr) (c : Nat) : Prop where
  c0 : w.cell? ⟨B0, 0, none⟩ = some (.slice A x.e.length c)
  c1 : w.cell? ⟨B0, 1, none⟩ = some (.int .u8 (x.at_ : Nat))
  c2 : w.cell? ⟨B0, 2, none⟩ = some (.int .u8 (x.again : Nat))
  c3 : w.cell? ⟨B0, 3, none⟩ = some (.bool x.lost)
  c4 : w.cell? ⟨B0, 4, none⟩ = some (.bool x.reopen)
  c5 : w.cell? ⟨B0, 5, none⟩ = some (.int .i64 x.keep)
  c6 : w.cell? ⟨B0, 6, none⟩ = some (.int .i64 x.rest)
  hi : B0 < w.heap.size
theorem BoxF.chg {w w' : World} {B0 c : Nat} {x : Blw} {A : Option Addr} {T : Nat → Prop} (h : BoxF w B0 x A c) (hc : Chg T w w') (hT : ¬ T B0) : BoxF w' B0 x A c :=
  ⟨(hc.cell (p := ⟨B0, 0, none⟩) h.hi hT).trans h.c0, (hc.cell (p := ⟨B0, 1, none⟩) h.hi hT).trans h.c1, (hc.cell (p := ⟨B0, 2, none⟩) h.hi hT).trans h.c2, (hc.cell (p := ⟨B0, 3, none⟩) h.hi hT).trans h.c3,
   (hc.cell (p := ⟨B0, 4, none⟩) h.hi hT).trans h.c4, (hc.cell (p := ⟨B0, 5, none⟩) h.hi hT).trans h.c5, (hc.cell (p := ⟨B0, 6, none⟩) h.hi hT).trans h.c6, Nat.lt_of_lt_of_le h.hi hc.size⟩
/-- Entries of at most 300 bytes. -/
def Small (es : List (List Nat)) : Prop := ∀ e ∈ es, U8 e ∧ e.length ≤ 300
theorem Small.u8s {es : List (List Nat)} (h : Small es) : U8s es := fun e he => ⟨(h e he).1, by have := (h e he).2; omega⟩
theorem Small.snoc {es : List (List Nat)} {e : List Nat} (h : Small es) (hu : U8 e) (hl : e.length ≤ 300) : Small (es ++ [e]) := fun x hx => by
  rcases List.mem_append.1 hx with hx | hx
  · exact h x hx
  · simp at hx; subst hx; exact ⟨hu, hl⟩
theorem Small.len : ∀ {es : List (List Nat)}, Small es → (flat es).length ≤ es.length * 307
  | [], _ => by simp [flat]
  | e :: es, h => by
    have h1 := Small.len (es := es) (fun x hx => h x (by simp [hx]))
    have h2 := (h e (by simp)).2
    have h3 : flat (e :: es) = enc e ++ flat es := by simp [flat]
    rw [h3, List.length_append, enc_length, List.length_cons]
    omega
/-- What holds at the head of the statement's loop. -/
def TlRel (w0 : World) (k : Nat) (l : Nat) (kv : Value) (wr : World) : Prop :=
  ∃ (v ev : Value) (es : List (List Nat)) (life : Nat) (N : Nat → Prop), Mach wr w0.heap.size w0.heap.size l ⟨v, flat es, (flat es).length, 0, false, life⟩ false ev es N ∧ Kp wr w0.heap.size w0.heap.size l ⟨v, flat es, (flat es).length, 0, false, life⟩ ev N kv es ∧ Small es ∧ es.length ≤ k ∧ life ≤ 2 * k ∧ Below w0.heap.size w0 wr
end Go.Proofs.Ytikfeoghmpoigaa
