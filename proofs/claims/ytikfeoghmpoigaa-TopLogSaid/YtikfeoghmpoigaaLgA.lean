/- TopLog: how the statement's argument comes in. -/
import Derived.Test.YtikfeoghmpoigaaFrame
import Derived.Test.YtikfeoghmpoigaaTlw
import Derived.Deep.Slices
import Derived.Deep.Fields
import Derived.ChangeSame
namespace Go.Proofs.Ytikfeoghmpoigaa
open Go.ChangeShapes Go.WideShapes Go.ChangeAt Go.RowKit Go.Joins Go.Deep
section
variable {H : Type} {enc : TypeId × Value → H} {P : Program} {w : World} {base : Nat} {spare : Nat → Bool} {held : Bool}
theorem open_slice_fields {t e : TypeId} {fs : Array Field} {fuel : Nat} {cs : List Value} {x : DataW H × List MemPlace} (ht : P.underlying t = some (.slice e)) (he : P.underlying e = some (.struct fs))
    (hone : oneCellFields P fs = true) (hC : P.cellsOf e = fs.size) (h : DataW.trod enc P w base spare held fuel t cs = some x) :
    (cs = [.slice none 0 0] ∧ x = (.nil, [])) ∨
    ∃ (a : Addr) (len cap m : Nat) (D : Nat → DataW H) (Pl : Nat → List MemPlace), cs = [.slice (some a) len cap] ∧ base ≤ a.block ∧ len ≤ cap ∧ cap ≤ maxLen ∧ m = (if spare a.block then cap else len) ∧
      x = (.slice ((List.range len).map D) ((List.range (m - len)).map fun j => D (len + j)), MemPlace.row a (m * fs.size) ++ (List.range m).flatMap Pl) ∧
      ∀ i, i < m → ∃ (ys : List (DataW H × List MemPlace)) (n : Nat), D i = .agg (ys.map (·.1)) ∧ Pl i = ys.flatMap (·.2) ∧ ys.length = fs.size ∧
        ∀ (j : Nat) (f : Field), fs[j]? = some f → ∃ (v : Value) (y : DataW H × List MemPlace), w.cell? (a.add (i * fs.size + j)) = some v ∧ ys[j]? = some y ∧ DataW.trod enc P w base spare held n f.type [v] = some y := by
  rcases open_slice ht h with h0 | ⟨a, len, cap, m, n, D, Pl, hcs, hb, hl, hm, hmm, hx, hi⟩
  · exact .inl h0
  · refine .inr ⟨a, len, cap, m, D, Pl, hcs, hb, hl, hm, hmm, by rw [hC] at hx; exact hx, fun i him => ?_⟩
    obtain ⟨cs', hc, ht'⟩ := hi i him
    rw [hC] at hc
    obtain ⟨ys, n', hn', hy, hlen, hyl, hf⟩ := DataW.trod_struct he ht'
    obtain ⟨_, hcl, hat⟩ := World.cells?_some hc
    simp only [Prod.mk.injEq] at hy
    refine ⟨ys, n', hy.1, hy.2, hyl, fun j f hj => ?_⟩
    obtain ⟨ho, hk⟩ := hone_of hone j f hj
    have hjl : j < fs.size := (Array.getElem?_eq_some_iff.1 hj).1
    have hcell := hat j hjl
    have hv : cs'[j]? = some (cs'[j]'(by omega)) := List.getElem?_eq_getElem (by omega)
    have h1 := hf j f hj
    rw [ho, hk] at h1
    have hone' : (cs'.drop j).take 1 = [cs'[j]'(by omega)] := by
      rw [List.drop_eq_getElem_cons (by omega)]
      rfl
    rw [hone'] at h1
    have hys : ys[j]? = some (ys[j]'(by omega)) := List.getElem?_eq_getElem (by omega)
    refine ⟨_, _, ?_, hys, h1.trans hys⟩
    rw [← Go.Deep.add_add, hcell, hv]
end
theorem cells5 : Try.prog.cellsOf 5 = 1 := by kernel_rfl
theorem cells26 : Try.prog.cellsOf 26 = 7 := by kernel_rfl
section
variable {H : Type} {enc : TypeId × Value → H} {W : World} {base b0 : Nat} {held : Bool} {r : Reach} {v : Value} {d : DataW H} {p : List MemPlace}
/-- A slice of bytes. -/
theorem slice_bytes {n : Nat} {y : DataW H × List MemPlace} (h : DataW.trod enc Try.prog W base (fun _ => true) held n 24 [v] = some y) :
    ∃ (A : Option Addr) (c : Nat) (xs : List Nat), v = .slice A xs.length c ∧ Byts W W.heap.size A xs ∧ U8 xs ∧ (A = none → c = 0) ∧ xs.length ≤ 9223372036854775807 := by
  rcases open_ints Try.underlying24 Try.underlying5 cells5 h with ⟨hcs, _⟩ | ⟨a, len, cap, zs, hcs, _, hl, hm, hz, _, hc, hw⟩
  · injection hcs with hcs
    exact ⟨none, 0, [], hcs, .inl rfl, fun x hx => (by cases hx), fun _ => rfl, by simp⟩
  · injection hcs with hcs
    simp only [if_true] at hz
    unfold maxLen at hm
    have hlen : ((zs.take len).map Int.toNat).length = len := by rw [List.length_map, List.length_take]; omega
    have hat : ∀ j, j < len → ((atb ((zs.take len).map Int.toNat) j : Nat) : Int) = zs.getD j 0 := fun j hj => by
      have hjz : j < zs.length := by omega
      have h0 := (bounds_u8 (hw _ (List.getElem_mem hjz))).1
      simp [atb, List.getD_eq_getElem?_getD, hj, hjz]
      omega
    refine ⟨some a, cap, (zs.take len).map Int.toNat, by rw [hlen]; exact hcs, ?_, fun x hx => ?_, by (intro e; cases e), by omega⟩
    · by_cases h0 : len = 0
      · exact .inl (List.eq_nil_of_length_eq_zero (by omega))
      · have hc0 := hc 0 (by omega)
        obtain ⟨b, off, spot⟩ := a
        have hspot : spot = none := by simpa [Addr.add] using World.cell?_spot hc0
        subst hspot
        refine .inr ⟨b, off, rfl, World.block_lt_of_cell? W ⟨b, off, none⟩ (by simpa [Addr.add] using hc0), fun j hj => ?_⟩
        rw [hlen] at hj
        have := hc j (by omega)
        rw [Go.WideShapes.add_plain] at this
        rw [this, hat j hj]
    · obtain ⟨z, hz', rfl⟩ := List.mem_map.1 hx
      have := bounds_u8 (hw z (List.mem_of_mem_take hz'))
      omega
set_option maxRecDepth 100000 in
theorem log_arg (hv : Value.okWide Try.prog W r b0 22 v) (h : DataW.Trod enc Try.prog W base (fun _ => true) held 22 v d p) :
    ∃ (A : Option Addr) (c : Nat) (xs : List Blw), v = .slice A xs.length c ∧ Scr W W.heap.size A xs ∧ xs.length ≤ 9223372036854775807 ∧ ∀ j, j < xs.length → (blwAt xs j).e.length ≤ 9223372036854775807 := by
  obtain ⟨a0, len0, cap0, rfl⟩ := okWide_slice Try.underlying22 hv
  obtain ⟨fuel, hf⟩ := h
  rcases open_slice_fields Try.underlying22 Try.underlying26 (by kernel_rfl) cells26 hf with ⟨hcs, _⟩ | ⟨a, len, cap, m, D, Pl, hcs, _, hl, hm, hmm, _, hx⟩
  · injection hcs with hcs
    injection hcs with e0 e1 e2
    subst e0 e1 e2
    exact ⟨none, 0, [], rfl, .inl rfl, by simp, fun j hj => absurd hj (Nat.not_lt_zero _)⟩
  · injection hcs with hcs
    injection hcs with e0 e1 e2
    subst e0 e1 e2
    simp only [if_true] at hmm
    subst hmm
    unfold maxLen at hm
    have key : ∀ i, i < len0 → ∃ (x : Blw) (A : Option Addr) (c : Nat), W.cell? (a.add (i * 7 + 0)) = some (.slice A x.e.length c) ∧ W.cell? (a.add (i * 7 + 1)) = some (.int .u8 (x.at_ : Nat)) ∧ W.cell? (a.add (i * 7 + 2)) = some (.int .u8 (x.again : Nat)) ∧ W.cell? (a.add (i * 7 + 3)) = some (.bool x.lost) ∧ W.cell? (a.add (i * 7 + 4)) = some (.bool x.reopen) ∧
        W.cell? (a.add (i * 7 + 5)) = some (.int .i64 x.keep) ∧ W.cell? (a.add (i * 7 + 6)) = some (.int .i64 x.rest) ∧ (A = none → c = 0) ∧ Byts W W.heap.size A x.e ∧ U8 x.e ∧ x.at_ < 256 ∧ x.again < 256 ∧ x.e.length ≤ 9223372036854775807 := by
      intro i hi
      obtain ⟨ys, n', _, _, _, hf⟩ := hx i (by omega)
      obtain ⟨v0, y0, c0, _, t0⟩ := hf 0 _ rfl
      obtain ⟨v1, y1, c1, _, t1⟩ := hf 1 _ rfl
      obtain ⟨v2, y2, c2, _, t2⟩ := hf 2 _ rfl
      obtain ⟨v3, y3, c3, _, t3⟩ := hf 3 _ rfl
      obtain ⟨v4, y4, c4, _, t4⟩ := hf 4 _ rfl
      obtain ⟨v5, y5, c5, _, t5⟩ := hf 5 _ rfl
      obtain ⟨v6, y6, c6, _, t6⟩ := hf 6 _ rfl
      obtain ⟨A, c, e, rfl, hby, hu, hA, hle⟩ := slice_bytes t0
      obtain ⟨n1, q1, _, w1⟩ := DataW.trod_int Try.underlying5 t1
      obtain ⟨n2, q2, _, w2⟩ := DataW.trod_int Try.underlying5 t2
      obtain ⟨b3, q3, _⟩ := DataW.trod_bool Try.underlying4 t3
      obtain ⟨b4, q4, _⟩ := DataW.trod_bool Try.underlying4 t4
      obtain ⟨n5, q5, _, _⟩ := DataW.trod_int Try.underlying3 t5
      obtain ⟨n6, q6, _, _⟩ := DataW.trod_int Try.underlying3 t6
      simp at q1 q2 q3 q4 q5 q6
      subst q1 q2 q3 q4 q5 q6
      have hb1 := bounds_u8 w1
      have hb2 := bounds_u8 w2
      obtain ⟨m1, rfl⟩ := Int.eq_ofNat_of_zero_le hb1.1
      obtain ⟨m2, rfl⟩ := Int.eq_ofNat_of_zero_le hb2.1
      exact ⟨⟨e, m1, m2, b3, b4, n5, n6⟩, A, c, c0, c1, c2, c3, c4, c5, c6, hA, hby, hu, by simp only; omega, by simp only; omega, hle⟩
    have ex : ∃ F : Nat → Blw, ∀ i, i < len0 → ∃ (A : Option Addr) (c : Nat), W.cell? (a.add (i * 7 + 0)) = some (.slice A (F i).e.length c) ∧ W.cell? (a.add (i * 7 + 1)) = some (.int .u8 ((F i).at_ : Nat)) ∧ W.cell? (a.add (i * 7 + 2)) = some (.int .u8 ((F i).again : Nat)) ∧ W.cell? (a.add (i * 7 + 3)) = some (.bool (F i).lost) ∧ W.cell? (a.add (i * 7 + 4)) = some (.bool (F i).reopen) ∧
        W.cell? (a.add (i * 7 + 5)) = some (.int .i64 (F i).keep) ∧ W.cell? (a.add (i * 7 + 6)) = some (.int .i64 (F i).rest) ∧ (A = none → c = 0) ∧ Byts W W.heap.size A (F i).e ∧ U8 (F i).e ∧ (F i).at_ < 256 ∧ (F i).again < 256 ∧ (F i).e.length ≤ 9223372036854775807 :=
      ⟨fun i => if h : i < len0 then Classical.choose (key i h) else ⟨[], 0, 0, false, false, 0, 0⟩, fun i h => by
        simp only [h, dif_pos]
        exact Classical.choose_spec (key i h)⟩
    obtain ⟨F, hF⟩ := ex
    have hat : ∀ j, j < len0 → blwAt ((List.range len0).map F) j = F j := fun j hj => by simp [blwAt, hj]
    refine ⟨some a, m, (List.range len0).map F, by simp, ?_, by simp; omega, fun j hj => ?_⟩
    · by_cases h0 : len0 = 0
      · exact .inl (by subst h0; rfl)
      · obtain ⟨A0, c0, hc0, _⟩ := hF 0 (by omega)
        obtain ⟨b, off, spot⟩ := a
        have hspot : spot = none := by simpa [Addr.add] using World.cell?_spot hc0
        subst hspot
        refine .inr ⟨b, off, rfl, World.block_lt_of_cell? W ⟨b, off + (0 * 7 + 0), none⟩ (by simpa [Addr.add] using hc0), fun j hj => ?_⟩
        have hj : j < len0 := by simpa using hj
        rw [hat j hj]
        obtain ⟨A, c, q0, q1, q2, q3, q4, q5, q6, hA, hby, hu, h1, h2, _⟩ := hF j hj
        rw [Go.WideShapes.add_plain, ← Nat.add_assoc] at q0 q1 q2 q3 q4 q5 q6
        exact ⟨A, c, q0, q1, q2, q3, q4, q5, q6, hA, hby, hu, h1, h2⟩
    · have hj : j < len0 := by simpa using hj
      rw [hat j hj]
      obtain ⟨A, c, _, _, _, _, _, _, _, _, _, _, _, _, h3⟩ := hF j hj
      exact h3
end
end Go.Proofs.Ytikfeoghmpoigaa
