/- TopEdicts: one thing more behind an own row. -/
import Derived.Test.YtdmmcdbojmalfaaGreatEdN
import Derived.Deep.AppendLies
import Derived.Deep.RegionLawGrows
namespace Go.Proofs.YtdmmcdbojmalfaaGreat
open Go.RowKit Go.Sort
theorem info120 : (Tryz.prog.info? 120).map (fun i => (i.zero, i.size, i.bytes)) = some (some (.agg #[.int .i64 0, .int .i64 0, .int .i64 0, .int .i64 0, .int .i64 0, .int .i64 0, .int .i64 0, .int .i64 0, .slice none 0 0, .int .i64 0]), 10, 96) := by kernel_rfl
theorem info77 : (Tryz.prog.info? 77).map (fun i => (i.zero, i.size, i.bytes)) = some (some (.agg #[.int .i64 0, .int .i64 0, .int .i64 0, .int .i64 0, .int .i64 0, .int .i64 0, .int .i64 0, .int .i64 0, .slice none 0 0]), 9, 88) := by kernel_rfl
theorem info108 : (Tryz.prog.info? 108).map (fun i => (i.zero, i.size, i.bytes)) = some (some (.agg #[.int .i64 0, .int .i64 0]), 2, 16) := by kernel_rfl
/-- What is there behind an append of one thing. -/
structure Pushed (base e K : Nat) (w0 : World) (v : Value) (n : Nat) (zs : List Value) (A : Option Addr) (c : Nat) (w' : World) : Prop where
  own : w'.ownsRow base e K (.slice A (n + 1) c) (n + 1) zs
  below : Below base w0 w'
  far : ∀ p : Addr, p.block < w0.heap.size → v.ownBlock ≠ some p.block → w'.cell? p = w0.cell? p ∧ w'.frozen? p = w0.frozen? p
  at_ : v.ownBlock = (Value.slice A (n + 1) c).ownBlock ∨ ∃ g, (Value.slice A (n + 1) c).ownBlock = some g ∧ w0.heap.size ≤ g
  size : w0.heap.size ≤ w'.heap.size
theorem wp_push {o : Oper} {a : Act} {K' : Act → World → Prop} {Q : Exit → Act → World → Prop} {w0 : World} {cs : Array Value} {ty : TypeId} (s x : Operand) (t : TypeId)
    (ho : o.op = .call { callee := .builtin .append, args := #[s, x], argTypes := #[t, t] })
    (base e K bytes : Nat) {z : Value} (ht : Tryz.prog.underlying t = some (.slice e)) (hi : (Tryz.prog.info? e).map (fun i => (i.zero, i.size, i.bytes)) = some (some z, K, bytes)) (hzs : z.cells.size = K) (hK : 0 < K) (hbt : bytes ≤ 1000)
    (v : Value) (n : Nat) (zs : List Value) (hs : a.eval s = v) (hown : w0.ownsRow base e K v n zs) (H : Nat) (hx : a.eval x = .slice (some ⟨H, 0, none⟩) 1 1) (hH : w0.heap.size = H) (hcs : cs.size = K) (h1 : ∀ u ∈ cs.toList, u.oneCell' = true)
    (hn : n ≤ 1000000) (hbase : base ≤ w0.heap.size)
    (h : ∀ A c w', Pushed base e K w0 v n (zs ++ cs.toList) A c w' → K' (a.put o.dst (.slice A (n + 1) c)) w') : o.wp Tryz.prog a (w0.alloc (.cells cs ty)) K' Q := by
  obtain ⟨i0, hi0, hz0, hz2, hz3⟩ := info_parts hi
  subst hH
  have hba : Below w0.heap.size w0 (w0.alloc (.cells cs ty)) := (Below.refl _ _).alloc (Nat.le_refl _) _
  have hsz : (w0.alloc (.cells cs ty)).heap.size = w0.heap.size + 1 := by simp
  have hbb : (n + 1) * bytes ≤ 140737488355328 := Nat.le_trans (Nat.mul_le_mul (show n + 1 ≤ 1000001 by omega) hbt) (by decide)
  refine wp_append_lies _ s x t ho base e i0 z K bytes ht hi0 hz0 hz2 hz3 hzs hK v n zs hs (hown.alloc _) ⟨w0.heap.size, 0, none⟩ 1 1 cs.toList hx (by simp [hcs]) (new_cells (t := ty) (.inl rfl)) h1 (by decide) (by unfold maxLen; omega) hbb (by omega) _ rfl ?_
  intro g cap w' h2 h3 h4 h5
  have hg := h3.size
  refine h _ _ w' ⟨h2, app_below (t := ty) (.inl rfl) ((Below.refl _ _)) hbase hown h3, fun p hp hne => ?_, ?_, by omega⟩
  · have hlt : p.block < (w0.alloc (.cells cs ty)).heap.size := by omega
    have h6 := h3.cell_far p hlt (fun e => hne e.symm)
    have hfz : w'.frozen? p = (w0.alloc (.cells cs ty)).frozen? p := by
      exact World.frozen?_of_block (h3.block p.block hlt (fun e => hne e.symm))
    exact ⟨h6.trans (hba.cell hp), hfz.trans (World.frozen?_of_block (hba.block p.block hp))⟩
  · rcases h4 with h4 | h4
    · exact .inl h4
    · exact .inr ⟨g, rfl, by rw [h4]; omega⟩
theorem wpList_push {ops : Array Oper} {rest : List Oper} {o : Oper} {a : Act} {Q : Exit → Act → World → Prop} {w0 : World} {cs : Array Value} {ty : TypeId} (hgd : o.guard = none) (s x : Operand) (t : TypeId)
    (ho : o.op = .call { callee := .builtin .append, args := #[s, x], argTypes := #[t, t] })
    (base e K bytes : Nat) {z : Value} (ht : Tryz.prog.underlying t = some (.slice e)) (hi : (Tryz.prog.info? e).map (fun i => (i.zero, i.size, i.bytes)) = some (some z, K, bytes)) (hzs : z.cells.size = K) (hK : 0 < K) (hbt : bytes ≤ 1000)
    (v : Value) (n : Nat) (zs : List Value) (hs : a.eval s = v) (hown : w0.ownsRow base e K v n zs) (H : Nat) (hx : a.eval x = .slice (some ⟨H, 0, none⟩) 1 1) (hH : w0.heap.size = H) (hcs : cs.size = K) (h1 : ∀ u ∈ cs.toList, u.oneCell' = true)
    (hn : n ≤ 1000000) (hbase : base ≤ w0.heap.size)
    (h : ∀ A c w', Pushed base e K w0 v n (zs ++ cs.toList) A c w' → wpList Tryz.prog ops Q rest (a.put o.dst (.slice A (n + 1) c)) w') : wpList Tryz.prog ops Q (o :: rest) a (w0.alloc (.cells cs ty)) :=
  wpList_plain hgd fun _ hK2 => wp_push s x t ho base e K bytes ht hi hzs hK hbt v n zs hs hown H hx hH hcs h1 hn hbase fun A c w' hp => hK2 _ _ (h A c w' hp)
theorem step_push {ops : Array Oper} {o : Oper} {a : Act} {K' : Act → World → Prop} {Q : Exit → Act → World → Prop} {E : Prop} {w0 : World} {cs : Array Value} {ty : TypeId} (hgd : o.guard = none) (s x : Operand) (t : TypeId)
    (ho : o.op = .call { callee := .builtin .append, args := #[s, x], argTypes := #[t, t] })
    (base e K bytes : Nat) {z : Value} (ht : Tryz.prog.underlying t = some (.slice e)) (hi : (Tryz.prog.info? e).map (fun i => (i.zero, i.size, i.bytes)) = some (some z, K, bytes)) (hzs : z.cells.size = K) (hK : 0 < K) (hbt : bytes ≤ 1000)
    (v : Value) (n : Nat) (zs : List Value) (hs : a.eval s = v) (hown : w0.ownsRow base e K v n zs) (H : Nat) (hx : a.eval x = .slice (some ⟨H, 0, none⟩) 1 1) (hH : w0.heap.size = H) (hcs : cs.size = K) (h1 : ∀ u ∈ cs.toList, u.oneCell' = true)
    (hn : n ≤ 1000000) (hbase : base ≤ w0.heap.size)
    (h : ∀ A c w', Pushed base e K w0 v n (zs ++ cs.toList) A c w' → K' (a.put o.dst (.slice A (n + 1) c)) w') : if Region.wanted o (yielded ops a.tmps) = true then Oper.wp Tryz.prog o a (w0.alloc (.cells cs ty)) K' Q else E := by
  have hw : Region.wanted o (yielded ops a.tmps) = true := by simp [Region.wanted, hgd]
  rw [if_pos hw]
  exact wp_push s x t ho base e K bytes ht hi hzs hK hbt v n zs hs hown H hx hH hcs h1 hn hbase h
/-! The order of a row. -/
instance : Inhabited Mee := ⟨⟨⟨0, 0, 0, 0, 0, 0, 0, 0⟩, 0⟩⟩
def MLt (x y : Mee) : Prop := x.far < y.far ∨ (x.far = y.far ∧ (x.s.rank < y.s.rank ∨ (x.s.rank = y.s.rank ∧ x.s.num < y.s.num)))
theorem cmpM_lt (x y : Mee) : cmpM x y < 0 ↔ MLt x y := by
  unfold cmpM or3 cmpI MLt
  generalize x.far = a; generalize y.far = b; generalize x.s.rank = c; generalize y.s.rank = d; generalize x.s.num = e; generalize y.s.num = f
  repeat' split
  all_goals omega
theorem ltM (x y : Mee) : ltOf cmpM x y = true ↔ MLt x y := by
  unfold ltOf
  rw [decide_eq_true_iff]
  exact cmpM_lt x y
theorem swoM : SWO (ltOf cmpM) where
  irrefl x := by
    rw [← Bool.not_eq_true, ltM]
    unfold MLt
    omega
  trans x y z h1 h2 := by
    rw [ltM] at *
    unfold MLt at *
    omega
  ntrans x y z h1 h2 := by
    rw [← Bool.not_eq_true, ltM] at *
    unfold MLt at *
    omega
end Go.Proofs.YtdmmcdbojmalfaaGreat
