/- TopLog: what stands in a round of the statement's loop. -/
import Derived.Test.YtikfeoghmpoigaaTlw
namespace Go.Proofs.Ytikfeoghmpoigaa
open Go.RowKit
structure St (w0 w : World) (W l : Nat) (S : Dk) (f : Bool) (ev kv : Value) (es ks : List (List Nat)) (N : Nat → Prop) (x : Blw) (A : Option Addr) (c B0 : Nat) : Prop where
  M : Mach w W W l S f ev es N
  K : Kp w W W l S ev N kv ks
  B : BoxF w B0 x A c
  nb : ¬ MT W l S ev B0
  kb : kv.ownBlock ≠ some B0
  bl : Below W w0 w
  Wl : W ≤ w.heap.size
  by_ : Byts w W A x.e
section
variable {w0 w w' : World} {W l l' : Nat} {S S' : Dk} {f f' : Bool} {ev ev' kv : Value} {es es' ks : List (List Nat)} {N N' : Nat → Prop} {x : Blw} {A : Option Addr} {c B0 : Nat}
theorem St.step (h : St w0 w W l S f ev kv es ks N x A c B0) (hc : Chg (MT W l S ev) w w') (M' : Mach w' W W l S' f' ev' es' N') (hN : ∀ b, N b → N' b) (hS : Fresh w S.v S'.v) (hE : Fresh w ev ev') : St w0 w' W l S' f' ev' kv es' ks N' x A c B0 := by
  have hbe := hc.belowN h.Wl h.M.mt_ge
  exact ⟨M', h.K.step hc h.M.mt_ge hN hS hE, h.B.chg hc h.nb, mt_fresh h.nb h.B.hi hS hE, h.kb, h.bl.trans hbe, Nat.le_trans h.Wl hc.size, h.by_.below hbe⟩
theorem St.below (h : St w0 w W l S f ev kv es ks N x A c B0) (hb : Below w.heap.size w w') : St w0 w' W l S f ev kv es ks N x A c B0 :=
  ⟨h.M.below hb, h.K.below hb, h.B.chg (Chg.of_below (T := fun _ => False) hb) (fun h => h), h.nb, h.kb, h.bl.trans (hb.mono h.Wl), Nat.le_trans h.Wl hb.size, h.by_.below (hb.mono h.Wl)⟩
theorem St.drew (h : St w0 w W l S f ev kv es ks N x A c B0) (hd : Drew w w') : St w0 w' W l S f ev kv es ks N x A c B0 := h.below (hd.below _)
/-- A log that was opened anew. -/
theorem St.anew (h : St w0 w W l S f ev kv es ks N x A c B0) (hc : Chg (fun k => k = W) w w') (M' : Mach w' W W l' S' f' ev' es' N') (hN : ∀ b, N b → N' b) (hS : S'.v.ownBlock = S.v.ownBlock) (hl : w.heap.size ≤ l') (hE : ∀ g, ev'.ownBlock = some g → w.heap.size ≤ g) : St w0 w' W l' S' f' ev' kv es' ks N' x A c B0 := by
  have hbe := hc.belowN h.Wl (fun b hb => by omega)
  have key : ∀ g, g < w.heap.size → ¬ MT W l S ev g → ¬ MT W l' S' ev' g := fun g hg hn hh => by
    rcases hh with hh | hh | hh | hh
    · exact hn (.inl hh)
    · omega
    · exact hn (.inr (.inr (.inl (by rw [← hS]; exact hh))))
    · have := hE g hh; omega
  exact ⟨M', ⟨h.K.en.step hc (fun b _ hb => by omega) (fun g hg hh => h.K.mt g hg (.inl hh)) (fun _ _ hb => hb), fun g hg => hN g (h.K.nk g hg), fun g hg => key g (h.K.en.lt g hg).2 (h.K.mt g hg)⟩, h.B.chg hc (fun hh => h.nb (.inl hh)), key B0 h.B.hi h.nb, h.kb, h.bl.trans hbe, Nat.le_trans h.Wl hc.size, h.by_.below hbe⟩
theorem St.bytsM (h : St w0 w W l S f ev kv es ks N x A c B0) : BytsN w (MT W l S ev) A x.e := by
  rcases h.by_ with h0 | ⟨b, off, hA, hb, hc⟩
  · exact .inl h0
  · exact .inr ⟨b, off, hA, Nat.lt_of_lt_of_le hb h.Wl, fun hh => by have := h.M.mt_ge b hh; omega, hc⟩
/-- One more entry is kept. -/
theorem St.keep (h : St w0 w W l S f ev kv es ks N x A c B0) (hA : A = none → c = 0) : ∃ zs, w.ownsRow W 24 1 kv ks.length zs ∧ ∀ (cs : Array Value) (t : TypeId) (w5 : World) (kv5 : Value), w5.ownsRow W 24 1 kv5 (ks.length + 1) (zs ++ [.slice A x.e.length c]) → (w.alloc (.cells cs t)).grownBy w5 kv.ownBlock →
    (kv5.ownBlock = kv.ownBlock ∨ kv5.ownBlock = some (w.alloc (.cells cs t)).heap.size) → ∃ N', St w0 w5 W l S f ev kv5 es (ks ++ [x.e]) N' x A c B0 := by
  obtain ⟨zs, hoz, hez⟩ := h.K.en
  refine ⟨zs, hoz, fun cs t w5 kv5 ho5 hg5 hat5 => ?_⟩
  have hb4 : Below w.heap.size w (w.alloc (.cells cs t)) := (Below.refl _ _).alloc (Nat.le_refl _) _
  have h4 := h.below hb4
  have hz4 : (w.alloc (.cells cs t)).heap.size = w.heap.size + 1 := by simp
  have hc5 : Chg (fun b => kv.ownBlock = some b) (w.alloc (.cells cs t)) w5 := Chg.of_grown hg5 fun g hg => hg
  have hkl := h.K.en.lt
  obtain ⟨M5, hmt5⟩ := h4.M.kept (fun g hg => ⟨h.K.nk g hg, h.K.mt g hg⟩) hg5 hat5 fun g hg => (ho5.lt g hg).2
  have hbe := hc5.belowN h4.Wl fun b hb => (hkl b hb).1
  have hez4 := hez.step (N' := fun b => W ≤ b) (Chg.of_below (T := fun _ => False) hb4) (fun _ _ h => h.elim) (fun _ _ h => h)
  have hbn : BytsN (w.alloc (.cells cs t)) (fun b => W ≤ b) A x.e := by
    rcases h4.by_ with h0 | ⟨b, off, hA, hb, hc⟩
    · exact .inl h0
    · exact .inr ⟨b, off, hA, Nat.lt_of_lt_of_le hb h4.Wl, (by omega), hc⟩
  have hez5 := (hez4.snoc hbn hA).step (N' := fun b => W ≤ b) hc5 (fun b _ hb => (hkl b hb).1) (fun _ _ h => h)
  refine ⟨_, M5, ⟨⟨_, by rw [List.length_append]; exact ho5, hez5⟩, fun g hg => .inr hg, hmt5⟩, h4.B.chg hc5 h.kb, h.nb, ?_, h4.bl.trans hbe, Nat.le_trans h4.Wl hc5.size, h4.by_.below hbe⟩
  intro hh
  rcases hat5 with e | e
  · exact h.kb (by rw [← e]; exact hh)
  · rw [e] at hh; injection hh with hh; have := h.B.hi; omega
theorem St.rel {v : Value} {life k : Nat} (h : St w0 w w0.heap.size l ⟨v, flat es, (flat es).length, 0, false, life⟩ false ev kv es es N x A c B0) (hs : Small es) (hk : es.length ≤ k) (hl : life ≤ 2 * k) : TlRel w0 k l kv w := ⟨v, ev, es, life, N, h.M, h.K, hs, hk, hl, h.bl⟩
end
end Go.Proofs.Ytikfeoghmpoigaa
