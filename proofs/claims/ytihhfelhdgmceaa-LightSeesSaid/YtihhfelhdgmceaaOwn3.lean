/- Tables that a call builds itself: an own row of rows, held in a box. -/
import Derived.Test.YtihhfelhdgmceaaLeg1
import Derived.Test.YtihhfelhdgmceaaPlain
namespace Go.Proofs.Ytihhfelhdgmceaa
open Go.RowKit
/-- The slice address A reads as the ints ys, in a block that is there and is not the block 'own'. -/
def IntsN (w : World) (lo : Nat) (own : Option Nat) (A : Option Addr) (ys : List Int) : Prop :=
  ys = [] ∨ ∃ b off, A = some ⟨b, off, none⟩ ∧ lo ≤ b ∧ b < w.heap.size ∧ some b ≠ own ∧ ∀ j, j < ys.length → w.cell? ⟨b, off + j, none⟩ = some (.int .i64 (at0 ys j))
/-- The values vs are slices that read as the rows R. -/
def RowsAt (w : World) (lo : Nat) (own : Option Nat) (vs : List Value) (R : List (List Int)) : Prop :=
  vs.length = R.length ∧ ∀ j, j < R.length → ∃ (A : Option Addr) (c : Nat), vs[j]? = some (.slice A (at1 R j).length c) ∧ IntsN w lo own A (at1 R j)
theorem IntsN.keep {w w' : World} {lo : Nat} {own own' : Option Nat} {A : Option Addr} {ys : List Int} (h : IntsN w lo own A ys) (hg : w.grownBy w' own) (ho : own' = own ∨ ∃ g, own' = some g ∧ (own = some g ∨ w.heap.size ≤ g)) : IntsN w' lo own' A ys := by
  rcases h with h | ⟨b, off, hA, hlo, hb, hn, hc⟩
  · exact .inl h
  · refine .inr ⟨b, off, hA, hlo, Nat.lt_of_lt_of_le hb hg.size, ?_, fun j hj => (World.cell?_of_block (hg.block b hb hn)).trans (hc j hj)⟩
    rcases ho with rfl | ⟨g, rfl, h1 | h1⟩
    · exact hn
    · rw [← h1]; exact hn
    · intro e
      injection e with e
      omega
theorem RowsAt.nil (w : World) (lo : Nat) (own : Option Nat) : RowsAt w lo own [] [] := ⟨rfl, fun j hj => by simp at hj⟩
theorem RowsAt.keep {w w' : World} {lo : Nat} {own own' : Option Nat} {vs : List Value} {R : List (List Int)} (h : RowsAt w lo own vs R) (hg : w.grownBy w' own) (ho : own' = own ∨ ∃ g, own' = some g ∧ (own = some g ∨ w.heap.size ≤ g)) : RowsAt w' lo own' vs R :=
  ⟨h.1, fun j hj => by obtain ⟨A, c, h1, h2⟩ := h.2 j hj; exact ⟨A, c, h1, h2.keep hg ho⟩⟩
theorem RowsAt.push {w : World} {lo : Nat} {own : Option Nat} {vs : List Value} {R : List (List Int)} (h : RowsAt w lo own vs R) {A : Option Addr} {c : Nat} {ys : List Int} (hI : IntsN w lo own A ys) : RowsAt w lo own (vs ++ [.slice A ys.length c]) (R ++ [ys]) := by
  refine ⟨by simp [h.1], fun j hj => ?_⟩
  by_cases e : j = R.length
  · subst e
    refine ⟨A, c, ?_, ?_⟩
    · rw [← h.1]; simp [at1, h.1]
    · simpa [at1] using hI
  · have hj' : j < R.length := by simp at hj; omega
    obtain ⟨B, d, h1, h2⟩ := h.2 j hj'
    have e1 : at1 (R ++ [ys]) j = at1 R j := by simp [at1, List.getElem?_append_left hj']
    rw [e1]
    exact ⟨B, d, by rw [List.getElem?_append_left (by rw [h.1]; exact hj')]; exact h1, h2⟩
theorem IntsN.ints {w : World} {lo : Nat} {own : Option Nat} {A : Option Addr} {ys : List Int} (h : IntsN w lo own A ys) : Ints w w.heap.size A ys := by
  rcases h with h | ⟨b, off, hA, _, hb, _, hc⟩
  · exact .inl h
  · exact .inr ⟨b, off, hA, hb, hc⟩
theorem IntsN.of {w : World} {lo : Nat} {own : Option Nat} {A : Option Addr} {ys : List Int} {B : Nat} (h : Ints w B A ys) (hB : B ≤ w.heap.size) (hf : ∀ a, A = some a → lo ≤ a.block ∧ some a.block ≠ own) : IntsN w lo own A ys := by
  rcases h with h | ⟨b, off, hA, hb, hc⟩
  · exact .inl h
  · exact .inr ⟨b, off, hA, (hf _ hA).1, by omega, (hf _ hA).2, hc⟩
/-- The rows of an own row, handed out. -/
theorem owns_rows {w : World} {base : Nat} {e : TypeId} {v : Value} {k : Nat} {vs : List Value} {R : List (List Int)} (h : w.ownsRow base e 1 v k vs) {lo : Nat} (hR : RowsAt w lo v.ownBlock vs R) :
    ∃ (A : Option Addr) (c : Nat), v = .slice A R.length c ∧ Rows2 w w.heap.size A R := by
  have hk : k = R.length := by have := h.1; rw [hR.1] at this; omega
  rcases Nat.eq_zero_or_pos k with h0 | h0
  · have hR0 : R = [] := List.eq_nil_of_length_eq_zero (by omega)
    subst hR0
    rcases h.2 with ⟨rfl, _⟩ | ⟨g, cap, cur, rfl, _⟩
    · exact ⟨none, 0, rfl, .inl rfl⟩
    · exact ⟨_, cap, by rw [hk], .inl rfl⟩
  · obtain ⟨g, cap, rfl, _, hg⟩ := h.form h0
    refine ⟨_, cap, by rw [hk], .inr ?_⟩
    refine ⟨g, 0, fun j => if hj : j < R.length then (hR.2 j hj).choose else none, fun j => if hj : j < R.length then (hR.2 j hj).choose_spec.choose else 0, rfl, hg, fun j hj => ?_⟩
    have hs := (hR.2 j hj).choose_spec.choose_spec
    simp only [hj, dif_pos]
    refine ⟨?_, hs.2.ints⟩
    have := h.cellAt j (by omega)
    rw [Nat.zero_add, this]
    exact hs.1
/-- The slice address A reads as the ints ys, in a block from lw on and below bs that is not nb. -/
def IntsB (w : World) (lw bs nb : Nat) (A : Option Addr) (ys : List Int) : Prop :=
  ys = [] ∨ ∃ b off, A = some ⟨b, off, none⟩ ∧ lw ≤ b ∧ b < bs ∧ b ≠ nb ∧ ∀ j, j < ys.length → w.cell? ⟨b, off + j, none⟩ = some (.int .i64 (at0 ys j))
theorem IntsB.keep {w w' : World} {lw bs nb : Nat} {A : Option Addr} {ys : List Int} (h : IntsB w lw bs nb A ys) (hk : ∀ b i, b < bs → b ≠ nb → w'.cell? ⟨b, i, none⟩ = w.cell? ⟨b, i, none⟩) : IntsB w' lw bs nb A ys := by
  rcases h with h | ⟨b, off, hA, hlw, hb, hn, hc⟩
  · exact .inl h
  · exact .inr ⟨b, off, hA, hlw, hb, hn, fun j hj => (hk b _ hb hn).trans (hc j hj)⟩
theorem IntsB.ints {w : World} {lw bs nb : Nat} {A : Option Addr} {ys : List Int} (h : IntsB w lw bs nb A ys) (hs : bs ≤ w.heap.size) : Ints w w.heap.size A ys := by
  rcases h with h | ⟨b, off, hA, _, hb, _, hc⟩
  · exact .inl h
  · exact .inr ⟨b, off, hA, by omega, hc⟩
theorem IntsB.of {w X : World} {lw lo nb bs : Nat} {own : Option Nat} {A : Option Addr} {ys : List Int} (h : IntsN w lo own A ys) (hX : Below w.heap.size w X) (hn : nb < lo ∨ w.heap.size ≤ nb) (hs : w.heap.size ≤ bs) (hl : lw ≤ lo) : IntsB X lw bs nb A ys := by
  rcases h with h | ⟨b, off, hA, hlo, hb, _, hc⟩
  · exact .inl h
  · exact .inr ⟨b, off, hA, by omega, by omega, by omega, fun j hj => (hX.cell hb).trans (hc j hj)⟩
/-- What a call that builds a table keeps: a box with the table's three slices, of which the third is an own row of rows. -/
structure Built (w : World) (lw bs nb : Nat) (A0 A1 : Option Addr) (c0 c1 : Nat) (xs0 xs1 : List Int) (v : Value) (vs : List Value) (R : List (List Int)) : Prop where
  q0 : w.cell? ⟨nb, 0, none⟩ = some (.slice A0 xs0.length c0)
  q1 : w.cell? ⟨nb, 1, none⟩ = some (.slice A1 xs1.length c1)
  q2 : w.cell? ⟨nb, 2, none⟩ = some v
  z2 : w.frozen? ⟨nb, 2, none⟩ = false
  lt : nb < bs
  sz : bs ≤ w.heap.size
  own : w.ownsRow bs 22 1 v R.length vs
  rows : RowsAt w bs v.ownBlock vs R
  o : IntsB w lw bs nb A0 xs0
  e : IntsB w lw bs nb A1 xs1
theorem grown_of_below {w w' : World} (h : Below w.heap.size w w') (own : Option Nat) : w.grownBy w' own := ⟨h.os, h.tape, h.output, h.size, fun k hk _ => h.block k hk⟩
section
variable {w w' wB w6 : World} {lw bs nb : Nat} {A0 A1 : Option Addr} {c0 c1 : Nat} {xs0 xs1 : List Int} {v : Value} {vs : List Value} {R : List (List Int)}
theorem Built.below (h : Built w lw bs nb A0 A1 c0 c1 xs0 xs1 v vs R) (hb : Below w.heap.size w w') : Built w' lw bs nb A0 A1 c0 c1 xs0 xs1 v vs R := by
  have hl := h.lt
  have hs := h.sz
  exact ⟨(hb.cell (by simp only; omega)).trans h.q0, (hb.cell (by simp only; omega)).trans h.q1, (hb.cell (by simp only; omega)).trans h.q2, (hb.frozen (by simp only; omega)).trans h.z2, hl, Nat.le_trans hs hb.size, owns_keep h.own hb, h.rows.keep (grown_of_below hb _) (.inl rfl),
    h.o.keep fun b i hbb _ => hb.cell (by simp only; omega), h.e.keep fun b i hbb _ => hb.cell (by simp only; omega)⟩
/-- What stands behind the append, before the box is written. -/
theorem Built.mid (h : Built w lw bs nb A0 A1 c0 c1 xs0 xs1 v vs R) {x : Value} {t : TypeId} (hn : NewOf w #[x] t wB) (hg : wB.grownBy w6 v.ownBlock) :
    w.grownBy w6 v.ownBlock ∧ (∀ b i, b < bs → w6.cell? ⟨b, i, none⟩ = w.cell? ⟨b, i, none⟩) ∧ (∀ b i, b < bs → w6.frozen? ⟨b, i, none⟩ = w.frozen? ⟨b, i, none⟩) := by
  have hs := h.sz
  have hgv : ∀ k, v.ownBlock = some k → bs ≤ k := fun k hk => (h.own.lt k hk).1
  have hwB : w.grownBy wB v.ownBlock := grown_of_below (new_below hn (Below.refl _ _) (Nat.le_refl _)) _
  have hsB := new_size hn
  have hw6 : w.grownBy w6 v.ownBlock := ⟨hg.os.trans hwB.os, hg.tape.trans hwB.tape, hg.output.trans hwB.output, Nat.le_trans hwB.size hg.size, fun k hk hk' => (hg.block k (by omega) hk').trans (hwB.block k hk hk')⟩
  exact ⟨hw6, fun b i hb => World.cell?_of_block (hw6.block b (by omega) (fun e => by have := hgv b e.symm; omega)), fun b i hb => World.frozen?_of_block (hw6.block b (by omega) (fun e => by have := hgv b e.symm; omega))⟩
/-- One more row: what 'out.R = append(out.R, row)' leaves. -/
theorem Built.more (h : Built w lw bs nb A0 A1 c0 c1 xs0 xs1 v vs R) {A : Option Addr} {c : Nat} {ys : List Int} (hI : IntsN w bs v.ownBlock A ys)
    {x : Value} {t : TypeId} (hn : NewOf w #[x] t wB) (hx : x = .slice A ys.length c) {g cap : Nat} (hown : w6.ownsRow bs 22 1 (.slice (some ⟨g, 0, none⟩) (R.length + 1) cap) (R.length + 1) (vs ++ [x]))
    (hg : wB.grownBy w6 v.ownBlock) (hat : v.ownBlock = some g ∨ g = w.heap.size + 1) {n : Nat} (hnb : n ≤ nb) {a : World} (hb : Below n a w) :
    Built (w6.setCell ⟨nb, 2, none⟩ (.slice (some ⟨g, 0, none⟩) (R.length + 1) cap)) lw bs nb A0 A1 c0 c1 xs0 xs1 (.slice (some ⟨g, 0, none⟩) (R.length + 1) cap) (vs ++ [x]) (R ++ [ys]) ∧
    Below n a (w6.setCell ⟨nb, 2, none⟩ (.slice (some ⟨g, 0, none⟩) (R.length + 1) cap)) := by
  obtain ⟨hw6, hcell, hfz⟩ := h.mid hn hg
  have hl := h.lt
  have hs := h.sz
  have hgv : ∀ k, v.ownBlock = some k → bs ≤ k := fun k hk => (h.own.lt k hk).1
  have hgn : bs ≤ g := by
    rcases hat with h1 | h1
    · exact hgv g h1
    · omega
  have hrow : RowsAt w6 bs (some g) (vs ++ [x]) (R ++ [ys]) := by
    subst hx
    exact (h.rows.push hI).keep hw6 (.inr ⟨g, rfl, hat.imp id (fun h1 => by omega)⟩)
  generalize hvv : Value.slice (some ⟨g, 0, none⟩) (R.length + 1) cap = v' at *
  have hob : v'.ownBlock = some g := by rw [← hvv]; rfl
  have hset : w6.grownBy (w6.setCell ⟨nb, 2, none⟩ v') (some nb) := ⟨rfl, rfl, rfl, by simp, fun k _ hk => Below.heap_setCell _ _ _ _ (fun e => hk (by simp [e]))⟩
  have hlb : Below n a w6 := hb.trans ⟨hw6.os, hw6.tape, hw6.output, hw6.size, fun k hk => hw6.block k (by omega) (fun e => by have := hgv k e.symm; omega)⟩
  have hkeep : ∀ b i, b < bs → b ≠ nb → (w6.setCell ⟨nb, 2, none⟩ v').cell? ⟨b, i, none⟩ = w.cell? ⟨b, i, none⟩ := fun b i hb' hne => (World.cell?_setCell_other _ _ _ _ (by intro e; injection e with e; omega)).trans (hcell b i hb')
  refine ⟨⟨?_, ?_, ?_, ?_, hl, ?_, ?_, ?_, h.o.keep hkeep, h.e.keep hkeep⟩, hlb.setCell hnb _⟩
  · rw [World.cell?_setCell_other _ _ _ _ (by intro e; injection e with _ e; cases e), hcell _ _ hl]; exact h.q0
  · rw [World.cell?_setCell_other _ _ _ _ (by intro e; injection e with _ e; cases e), hcell _ _ hl]; exact h.q1
  · exact World.cell?_setCell_same _ _ _ ((hcell _ _ hl).trans h.q2)
  · have := (hfz nb 2 hl).trans h.z2
    simpa [go_sem] using this
  · have := hw6.size; simp; omega
  · rw [List.length_append]; exact hown.kept hset (.inr (by rw [hob]; intro e; injection e with e; omega))
  · rw [hob]
    refine ⟨hrow.1, fun j hj => ?_⟩
    obtain ⟨A', c', h1, h2⟩ := hrow.2 j hj
    refine ⟨A', c', h1, ?_⟩
    rcases h2 with h2 | ⟨b, off, hA, hlo, hb', hn', hc⟩
    · exact .inl h2
    · exact .inr ⟨b, off, hA, hlo, by simpa using hb', hn', fun i hi => (World.cell?_setCell_other _ _ _ _ (by intro e; injection e with e; omega)).trans (hc i hi)⟩
/-- A store far below leaves all as it was. -/
theorem Built.far (h : Built w lw bs nb A0 A1 c0 c1 xs0 xs1 v vs R) {m j : Nat} {u : Value} (hm : m < lw) (hl : lw ≤ nb) : Built (w.setCell ⟨m, j, none⟩ u) lw bs nb A0 A1 c0 c1 xs0 xs1 v vs R := by
  have hb := h.lt
  have hk : ∀ b i, lw ≤ b → (w.setCell ⟨m, j, none⟩ u).cell? ⟨b, i, none⟩ = w.cell? ⟨b, i, none⟩ := fun b i hb => World.cell?_setCell_other _ _ _ _ (by intro e; injection e with e; omega)
  have hI : ∀ {A ys}, IntsB w lw bs nb A ys → IntsB (w.setCell ⟨m, j, none⟩ u) lw bs nb A ys := by
    intro A ys h
    rcases h with h | ⟨b, off, hA, hlw, hb', hn, hc⟩
    · exact .inl h
    · exact .inr ⟨b, off, hA, hlw, hb', hn, fun i hi => (hk b _ hlw).trans (hc i hi)⟩
  have hz := h.z2
  have hg : w.grownBy (w.setCell ⟨m, j, none⟩ u) (some m) := ⟨rfl, rfl, rfl, by simp, fun k _ hk => Below.heap_setCell _ _ _ _ (fun e => hk (by simp [e]))⟩
  refine ⟨(hk nb 0 hl).trans h.q0, (hk nb 1 hl).trans h.q1, (hk nb 2 hl).trans h.q2, by simpa [go_sem] using hz, h.lt, by simpa using h.sz, h.own.kept hg ?_, ⟨h.rows.1, fun i hi => ?_⟩, hI h.o, hI h.e⟩
  · cases hv : v.ownBlock with
    | none => exact .inl rfl
    | some g => exact .inr (fun e => by injection e with e; have := (h.own.lt g hv).1; omega)
  · obtain ⟨A', c', h1, h2⟩ := h.rows.2 i hi
    refine ⟨A', c', h1, ?_⟩
    rcases h2 with h2 | ⟨b, off, hA, hlo, hb', hn', hc⟩
    · exact .inl h2
    · exact .inr ⟨b, off, hA, hlo, by simpa using hb', hn', fun i hi => (hk b _ (by omega)).trans (hc i hi)⟩
/-- The box as it is made, its three slices given at once. -/
theorem Built.new {X : World} {A0 A1 : Option Addr} {c0 c1 : Nat} {xs0 xs1 : List Int} (ho : IntsB X lw X.heap.size X.heap.size A0 xs0) (he : IntsB X lw X.heap.size X.heap.size A1 xs1) :
    Built (X.alloc (.cells #[.slice A0 xs0.length c0, .slice A1 xs1.length c1, .slice none 0 0] 25)) lw (X.heap.size + 1) X.heap.size A0 A1 c0 c1 xs0 xs1 (.slice none 0 0) [] [] := by
  have hb : Below X.heap.size X (X.alloc (.cells #[.slice A0 xs0.length c0, .slice A1 xs1.length c1, .slice none 0 0] 25)) := (Below.refl _ _).alloc (Nat.le_refl _) _
  have hk : ∀ {A ys}, IntsB X lw X.heap.size X.heap.size A ys → IntsB (X.alloc (.cells #[.slice A0 xs0.length c0, .slice A1 xs1.length c1, .slice none 0 0] 25)) lw (X.heap.size + 1) X.heap.size A ys := by
    intro A ys h
    rcases h with h | ⟨b, off, hA, hlw, hb', hn, hc⟩
    · exact .inl h
    · exact .inr ⟨b, off, hA, hlw, by omega, hn, fun j hj => (hb.cell hb').trans (hc j hj)⟩
  exact ⟨by simp [go_sem], by simp [go_sem], by simp [go_sem], by simp [go_sem], Nat.lt_succ_self _, by simp, World.ownsRow_nil _ _ _ _, RowsAt.nil _ _ _, hk ho, hk he⟩
theorem set3 {w : World} {n : Nat} {a b c x y z : Value} (h0 : w.cell? ⟨n, 0, none⟩ = some x) (h1 : w.cell? ⟨n, 1, none⟩ = some y) (h2 : w.cell? ⟨n, 2, none⟩ = some z) :
    (((w.setCell ⟨n, 0, none⟩ a).setCell ⟨n, 1, none⟩ b).setCell ⟨n, 2, none⟩ c).cell? ⟨n, 0, none⟩ = some a ∧ (((w.setCell ⟨n, 0, none⟩ a).setCell ⟨n, 1, none⟩ b).setCell ⟨n, 2, none⟩ c).cell? ⟨n, 1, none⟩ = some b ∧
    (((w.setCell ⟨n, 0, none⟩ a).setCell ⟨n, 1, none⟩ b).setCell ⟨n, 2, none⟩ c).cell? ⟨n, 2, none⟩ = some c := by
  refine ⟨?_, ?_, ?_⟩
  · rw [World.cell?_setCell_other _ _ _ _ (by intro e; injection e with _ e; cases e), World.cell?_setCell_other _ _ _ _ (by intro e; injection e with _ e; cases e), World.cell?_setCell_same _ _ _ h0]
  · rw [World.cell?_setCell_other _ _ _ _ (by intro e; injection e with _ e; cases e)]
    exact World.cell?_setCell_same _ _ _ ((World.cell?_setCell_other _ _ _ _ (by intro e; injection e with _ e; cases e)).trans h1)
  · exact World.cell?_setCell_same _ _ _ ((World.cell?_setCell_other _ _ _ _ (by intro e; injection e with _ e; cases e)).trans ((World.cell?_setCell_other _ _ _ _ (by intro e; injection e with _ e; cases e)).trans h2))
end
end Go.Proofs.Ytihhfelhdgmceaa
