/- TopLog: words for a log in memory. -/
import Derived.Test.YtikfeoghmpoigaaFst
namespace Go.Proofs.Ytikfeoghmpoigaa
open Go.RowKit
/-- Entry j of a list of entries. -/
def ate (es : List (List Nat)) (j : Nat) : List Nat := es.getD j []
theorem ate_app {es fs : List (List Nat)} {j : Nat} (h : j < es.length) : ate (es ++ fs) j = ate es j := by simp [ate, List.getD_eq_getElem?_getD, List.getElem?_append_left h]
theorem ate_last {es : List (List Nat)} {e : List Nat} : ate (es ++ [e]) es.length = e := by simp [ate, List.getD_eq_getElem?_getD]
theorem ate_mem {es : List (List Nat)} {j : Nat} (h : j < es.length) : ate es j ∈ es := by simp [ate, h]
/-- Bytes that lie in a block that is not in N. -/
def BytsN (w : World) (N : Nat → Prop) (A : Option Addr) (xs : List Nat) : Prop :=
  xs = [] ∨ ∃ b off, A = some ⟨b, off, none⟩ ∧ b < w.heap.size ∧ ¬ N b ∧ ∀ j, j < xs.length → w.cell? ⟨b, off + j, none⟩ = some (.int .u8 (atb xs j : Nat))
def EntsZ (w : World) (N : Nat → Prop) (zs : List Value) (es : List (List Nat)) : Prop :=
  zs.length = es.length ∧ ∀ j, j < es.length → ∃ A c, zs[j]? = some (.slice A (ate es j).length c) ∧ (A = none → c = 0) ∧ BytsN w N A (ate es j)
def Ents (w : World) (base : Nat) (N : Nat → Prop) (v : Value) (es : List (List Nat)) : Prop :=
  ∃ zs, w.ownsRow base 24 1 v es.length zs ∧ EntsZ w N zs es
section
variable {w w' : World} {T N N' : Nat → Prop} {A : Option Addr} {xs : List Nat} {zs : List Value} {es : List (List Nat)} {base : Nat} {v : Value}
theorem BytsN.byts (h : BytsN w N A xs) : Byts w w.heap.size A xs := by
  rcases h with h | ⟨b, off, hA, hb, _, hc⟩
  · exact .inl h
  · exact .inr ⟨b, off, hA, hb, hc⟩
theorem BytsN.step (h : BytsN w N A xs) (hc : Chg T w w') (hT : ∀ b, b < w.heap.size → T b → N b) (hN : ∀ b, b < w.heap.size → N' b → N b) : BytsN w' N' A xs := by
  rcases h with h | ⟨b, off, hA, hb, hn, hcc⟩
  · exact .inl h
  · exact .inr ⟨b, off, hA, Nat.lt_of_lt_of_le hb hc.size, fun hh => hn (hN b hb hh), fun j hj => (hc.cell (p := ⟨b, off + j, none⟩) hb fun hh => hn (hT b hb hh)).trans (hcc j hj)⟩
theorem EntsZ.step (h : EntsZ w N zs es) (hc : Chg T w w') (hT : ∀ b, b < w.heap.size → T b → N b) (hN : ∀ b, b < w.heap.size → N' b → N b) : EntsZ w' N' zs es :=
  ⟨h.1, fun j hj => by obtain ⟨A, c, h1, h2, h3⟩ := h.2 j hj; exact ⟨A, c, h1, h2, h3.step hc hT hN⟩⟩
theorem EntsZ.snoc {A : Option Addr} {c : Nat} {e : List Nat} (h : EntsZ w N zs es) (he : BytsN w N A e) (hn : A = none → c = 0) : EntsZ w N (zs ++ [.slice A e.length c]) (es ++ [e]) := by
  refine ⟨by simp [h.1], fun j hj => ?_⟩
  rcases Nat.lt_or_ge j es.length with hlt | hge
  · obtain ⟨A', c', h1, h2, h3⟩ := h.2 j hlt
    rw [ate_app hlt]
    exact ⟨A', c', by rw [List.getElem?_append_left (by rw [h.1]; exact hlt)]; exact h1, h2, h3⟩
  · obtain rfl : j = es.length := by simp at hj; omega
    rw [ate_last]
    exact ⟨A, c, by rw [List.getElem?_append_right (by rw [h.1]; exact Nat.le_refl _)]; simp [h.1], hn, he⟩
theorem Ents.step (h : Ents w base N v es) (hc : Chg T w w') (hT : ∀ b, b < w.heap.size → T b → N b) (hr : ∀ g, v.ownBlock = some g → ¬ T g) (hN : ∀ b, b < w.heap.size → N' b → N b) : Ents w' base N' v es := by
  obtain ⟨zs, h1, h2⟩ := h
  exact ⟨zs, hc.own h1 hr, h2.step hc hT hN⟩
theorem Ents.nil : Ents w base N (.slice none 0 0) [] := ⟨[], World.ownsRow_nil _ _ _ _, rfl, fun _ hj => absurd hj (Nat.not_lt_zero _)⟩
theorem Ents.lt (h : Ents w base N v es) : ∀ g, v.ownBlock = some g → base ≤ g ∧ g < w.heap.size := by
  obtain ⟨zs, h1, h2⟩ := h
  exact h1.lt
end
theorem info24 : (Try.prog.info? 24).map (fun i => (i.zero, i.size, i.bytes)) = some (some (.slice none 0 0), 1, 24) := by kernel_rfl
/-- The four cells of a log. -/
structure LogAt (w : World) (base d l : Nat) (life : Nat) (failed : Bool) (ev : Value) : Prop where
  c0 : w.cell? ⟨l, 0, none⟩ = some (.pointer (some ⟨d, 0, none⟩))
  c1 : w.cell? ⟨l, 1, none⟩ = some (.int .i64 life)
  c2 : w.cell? ⟨l, 2, none⟩ = some (.bool failed)
  c3 : w.cell? ⟨l, 3, none⟩ = some ev
  fz : ∀ j, j < 4 → w.frozen? ⟨l, j, none⟩ = false
  lo : base ≤ l
  hi : l < w.heap.size
section
variable {w w' : World} {base d l life : Nat} {failed : Bool} {ev : Value} {T : Nat → Prop}
theorem LogAt.step (h : LogAt w base d l life failed ev) (hc : Chg T w w') (hT : ¬ T l) : LogAt w' base d l life failed ev :=
  ⟨(hc.cell (p := ⟨l, 0, none⟩) h.hi hT).trans h.c0, (hc.cell (p := ⟨l, 1, none⟩) h.hi hT).trans h.c1, (hc.cell (p := ⟨l, 2, none⟩) h.hi hT).trans h.c2, (hc.cell (p := ⟨l, 3, none⟩) h.hi hT).trans h.c3,
   fun j hj => (hc.frozen (p := ⟨l, j, none⟩) h.hi hT).trans (h.fz j hj), h.lo, Nat.lt_of_lt_of_le h.hi hc.size⟩
theorem LogAt.setEv (h : LogAt w base d l life failed ev) (v : Value) : LogAt (w.setCell ⟨l, 3, none⟩ v) base d l life failed v :=
  ⟨by rw [World.cell?_setCell_other _ _ _ _ (ne_addr (by decide))]; exact h.c0, by rw [World.cell?_setCell_other _ _ _ _ (ne_addr (by decide))]; exact h.c1, by rw [World.cell?_setCell_other _ _ _ _ (ne_addr (by decide))]; exact h.c2,
   World.cell?_setCell_same _ _ _ h.c3, fun j hj => by rw [World.frozen?_setCell]; exact h.fz j hj, h.lo, by simpa using h.hi⟩
theorem LogAt.setFailed (h : LogAt w base d l life failed ev) (b : Bool) : LogAt (w.setCell ⟨l, 2, none⟩ (.bool b)) base d l life b ev :=
  ⟨by rw [World.cell?_setCell_other _ _ _ _ (ne_addr (by decide))]; exact h.c0, by rw [World.cell?_setCell_other _ _ _ _ (ne_addr (by decide))]; exact h.c1, World.cell?_setCell_same _ _ _ h.c2,
   by rw [World.cell?_setCell_other _ _ _ _ (ne_addr (by decide))]; exact h.c3, fun j hj => by rw [World.frozen?_setCell]; exact h.fz j hj, h.lo, by simpa using h.hi⟩
end
/-- A disk, a log on it and its entries. N: the blocks in which something may be written. -/
structure Mach (w : World) (base d l : Nat) (S : Dk) (failed : Bool) (ev : Value) (es : List (List Nat)) (N : Nat → Prop) : Prop where
  dk : DskAt w base d S
  lg : LogAt w base d l S.life failed ev
  en : Ents w base N ev es
  nd : N d
  nl : N l
  nS : ∀ g, S.v.ownBlock = some g → N g
  nE : ∀ g, ev.ownBlock = some g → N g
  nlt : ∀ b, N b → b < w.heap.size
  ld : l ≠ d
  sl : S.v.ownBlock ≠ some l
  el : ev.ownBlock ≠ some l
  ed : ev.ownBlock ≠ some d
  se : ∀ g, S.v.ownBlock = some g → ev.ownBlock ≠ some g
/-- The blocks that a call on a log may write in. -/
def MT (d l : Nat) (S : Dk) (ev : Value) (b : Nat) : Prop := b = d ∨ b = l ∨ S.v.ownBlock = some b ∨ ev.ownBlock = some b
/-- All entries' encodings, one behind the other. -/
def flat (es : List (List Nat)) : List Nat := es.flatMap enc
theorem flat_app (es : List (List Nat)) (e : List Nat) : flat (es ++ [e]) = flat es ++ enc e := by simp [flat]
def U8s (es : List (List Nat)) : Prop := ∀ e ∈ es, U8 e ∧ e.length ≤ 2000
theorem u8_flat {es : List (List Nat)} (h : U8s es) : U8 (flat es) := fun x hx => by
  obtain ⟨e, he, hx⟩ := List.mem_flatMap.1 hx
  exact u8_enc (h e he).1 x hx
theorem flat_take_succ {es : List (List Nat)} {k : Nat} (h : k < es.length) : flat (es.take (k + 1)) = flat (es.take k) ++ enc (ate es k) := by
  rw [List.take_succ_eq_append_getElem h, flat_app]
  simp [ate, h]
theorem flat_split {es : List (List Nat)} {k : Nat} (h : k < es.length) : flat es = flat (es.take k) ++ (enc (ate es k) ++ flat (es.drop (k + 1))) := by
  conv => lhs; rw [← List.take_append_drop (k + 1) es]
  unfold flat
  rw [List.flatMap_append, ← List.append_assoc]
  congr 1
  exact flat_take_succ h
end Go.Proofs.Ytikfeoghmpoigaa
