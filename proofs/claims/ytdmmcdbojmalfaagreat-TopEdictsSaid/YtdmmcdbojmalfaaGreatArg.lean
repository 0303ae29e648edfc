/- How the arguments of the road chapter's statements come in: roads, stretches, ways, pairs of places, posts, walls, warnings. -/
import Derived.Test.YtdmmcdbojmalfaaGreatBase
import Derived.Test.YtdmmcdbojmalfaaGreatRoad
import Derived.Deep.Slices
import Derived.Deep.Fields
import Derived.ChangeSame
namespace Go.Proofs.YtdmmcdbojmalfaaGreat
open Go.ChangeShapes Go.WideShapes Go.ChangeAt Go.RowKit Go.Joins Go.Deep
section
variable {H : Type} {enc : TypeId × Value → H} {P : Program} {w : World} {base : Nat} {spare : Nat → Bool} {held : Bool}
theorem open_slice_fields {t e : TypeId} {fs : Array Field} {fuel : Nat} {cs : List Value} {x : DataW H × List MemPlace} (ht : P.underlying t = some (.slice e)) (he : P.underlying e = some (.struct fs))
    (hone : oneCellFields P fs = true) (hC : P.cellsOf e = fs.size) (h : DataW.trod enc P w base spare held fuel t cs = some x) :
    (cs = [.slice none 0 0] ∧ x = (.nil, [])) ∨
    ∃ (a : Addr) (len cap m : Nat) (D : Nat → DataW H) (Pl : Nat → List MemPlace), cs = [.slice (some a) len cap] ∧ base ≤ a.block ∧ len ≤ cap ∧ cap ≤ maxLen ∧ m = (if spare a.block then cap else len) ∧
      x = (.slice ((List.range len).map D) ((List.range (m - len)).map fun j => D (len + j)), MemPlace.row a (m * fs.size) ++ (List.range m).flatMap Pl) ∧
      ∀ i, i < m → ∃ (ys : List (DataW H × List MemPlace)) (n : Nat), D i = .agg (ys.map (·.1)) ∧ Pl i = ys.flatMap (·.2) ∧ ys.length = fs.size ∧
        ∀ (j : Nat) (f : Field), fs[j]? = some f → ∃ (v : Value) (y : DataW H × List MemPlace), w.cell? (a.add (i * fs.size + j)) = some v ∧ ys[j]? = some y ∧ DataW.trod enc P w base spare held n f.type [v] = some y := by
  rcases open_slice ht h with h0 | ⟨a, len, cap, m, n, D, Pl, hcs, hb, hl, hm, hmm, hx, hi⟩
  · exact .inl h0
  · refine .inr ⟨a, len, cap, m, D, Pl, hcs, hb, hl, hm, hmm, by rw [hC] at hx; exact hx, fun i him => ?_⟩
    obtain ⟨cs', hc, ht'⟩ := hi i him
    rw [hC] at hc
    obtain ⟨ys, n', hn', hy, hlen, hyl, hf⟩ := DataW.trod_struct he ht'
    obtain ⟨_, hcl, hat⟩ := World.cells?_some hc
    simp only [Prod.mk.injEq] at hy
    refine ⟨ys, n', hy.1, hy.2, hyl, fun j f hj => ?_⟩
    obtain ⟨ho, hk⟩ := hone_of hone j f hj
    have hjl : j < fs.size := (Array.getElem?_eq_some_iff.1 hj).1
    have hcell := hat j hjl
    have hv : cs'[j]? = some (cs'[j]'(by omega)) := List.getElem?_eq_getElem (by omega)
    have h1 := hf j f hj
    rw [ho, hk] at h1
    have hone' : (cs'.drop j).take 1 = [cs'[j]'(by omega)] := by
      rw [List.drop_eq_getElem_cons (by omega)]
      rfl
    rw [hone'] at h1
    have hys : ys[j]? = some (ys[j]'(by omega)) := List.getElem?_eq_getElem (by omega)
    refine ⟨_, _, ?_, hys, h1.trans hys⟩
    rw [← Go.Deep.add_add, hcell, hv]
end
section
variable {H : Type} {enc : TypeId × Value → H} {P : Program} {W : World} {base : Nat} {held : Bool}
/-- A slice of structs of k ints. -/
theorem slice_intK {t e : TypeId} {fs : Array Field} {k : Nat} {v : Value} {n : Nat} {y : DataW H × List MemPlace} (ht : P.underlying t = some (.slice e)) (he : P.underlying e = some (.struct fs)) (hk : fs.size = k) (hk0 : 0 < k)
    (hi : ∀ (j : Nat) (f : Field), fs[j]? = some f → P.underlying f.type = some (.int .i64)) (hone : oneCellFields P fs = true) (hC : P.cellsOf e = k)
    (h : DataW.trod enc P W base (fun _ => true) held n t [v] = some y) :
    ∃ (A : Option Addr) (c len : Nat) (F : Nat → Nat → Int), v = .slice A len c ∧ len ≤ 9223372036854775807 ∧
      (len = 0 ∨ ∃ b off, A = some ⟨b, off, none⟩ ∧ b < W.heap.size ∧ ∀ i, i < len → ∀ j, j < k → W.cell? ⟨b, off + (i * k + j), none⟩ = some (.int .i64 (F i j))) ∧
      ∀ i j, i < len → j < k → (Lit.int .i64 (F i j)).wf = true := by
  subst hk
  rcases open_slice_fields ht he hone hC h with ⟨hcs, _⟩ | ⟨a, len, cap, m, D, Pl, hcs, _, hl, hm, hmm, _, hx⟩
  · injection hcs with hcs
    exact ⟨none, 0, 0, fun _ _ => 0, hcs, by omega, .inl rfl, fun i j hi => by omega⟩
  · injection hcs with hcs
    simp only [if_true] at hmm
    subst hmm
    unfold maxLen at hm
    have key : ∀ i j, i < m → j < fs.size → ∃ q : Int, W.cell? (a.add (i * fs.size + j)) = some (.int .i64 q) ∧ (Lit.int .i64 q).wf = true := by
      intro i j him hj
      obtain ⟨ys, n', _, _, _, hf⟩ := hx i him
      have hfj : fs[j]? = some (fs[j]'hj) := Array.getElem?_eq_getElem hj
      obtain ⟨v0, y0, c0, _, t0⟩ := hf j _ hfj
      obtain ⟨p, hp, _, wp⟩ := DataW.trod_int (hi j _ hfj) t0
      simp at hp
      subst hp
      exact ⟨p, c0, wp⟩
    have ex : ∃ F : Nat → Nat → Int, ∀ i j, i < m → j < fs.size → W.cell? (a.add (i * fs.size + j)) = some (.int .i64 (F i j)) ∧ (Lit.int .i64 (F i j)).wf = true :=
      ⟨fun i j => if hij : i < m ∧ j < fs.size then Classical.choose (key i j hij.1 hij.2) else 0, fun i j h1 h2 => by
        have hij : i < m ∧ j < fs.size := ⟨h1, h2⟩
        simp only [hij, dif_pos, and_self]
        exact Classical.choose_spec (key i j h1 h2)⟩
    obtain ⟨F, hF⟩ := ex
    refine ⟨some a, m, len, F, hcs, by omega, ?_, fun i j h1 h2 => (hF i j (by omega) h2).2⟩
    by_cases hz : len = 0
    · exact .inl hz
    · have hc0 := (hF 0 0 (by omega) hk0).1
      obtain ⟨b, off, spot⟩ := a
      have hspot : spot = none := by simpa [Addr.add] using World.cell?_spot hc0
      subst hspot
      refine .inr ⟨b, off, rfl, World.block_lt_of_cell? W ⟨b, off + (0 * fs.size + 0), none⟩ (by simpa [Addr.add] using hc0), fun i h1 j h2 => ?_⟩
      have := (hF i j (by omega) h2).1
      rwa [Go.WideShapes.add_plain] at this
end
structure Pst where
  num : Int
  chain : Int
  dir : Int
  side : Int
def psAt (xs : List Pst) (j : Nat) : Pst := xs.getD j ⟨0, 0, 0, 0⟩
/-- The slice address A reads as the posts xs, in blocks below B. -/
def Posts (w : World) (B : Nat) (A : Option Addr) (xs : List Pst) : Prop :=
  xs = [] ∨ ∃ b off, A = some ⟨b, off, none⟩ ∧ b < B ∧ ∀ j, j < xs.length → w.cell? ⟨b, off + j * 4, none⟩ = some (.int .i64 (psAt xs j).num) ∧ w.cell? ⟨b, off + j * 4 + 1, none⟩ = some (.int .i64 (psAt xs j).chain) ∧ w.cell? ⟨b, off + j * 4 + 2, none⟩ = some (.int .i64 (psAt xs j).dir) ∧ w.cell? ⟨b, off + j * 4 + 3, none⟩ = some (.int .i64 (psAt xs j).side)
section
variable {w w' : World} {B B' : Nat} {A : Option Addr} {xs : List Pst}
theorem Posts.keep (h : Posts w B A xs) (hk : ∀ p : Addr, p.block < B → w'.cell? p = w.cell? p) : Posts w' B A xs := by
  rcases h with h | ⟨b, off, hA, hb, hc⟩
  · exact .inl h
  · exact .inr ⟨b, off, hA, hb, fun j hj => ⟨(hk _ hb).trans (hc j hj).1, (hk _ hb).trans (hc j hj).2.1, (hk _ hb).trans (hc j hj).2.2.1, (hk _ hb).trans (hc j hj).2.2.2⟩⟩
theorem Posts.below (h : Posts w B A xs) (hb : Below B w w') : Posts w' B A xs := h.keep fun _ hp => hb.cell hp
theorem Posts.at_ (h : Posts w B A xs) {k : Nat} (hk : k < xs.length) : ∃ b off, A = some ⟨b, off, none⟩ ∧ b < B ∧ ∀ j, j < xs.length → w.cell? ⟨b, off + j * 4, none⟩ = some (.int .i64 (psAt xs j).num) ∧ w.cell? ⟨b, off + j * 4 + 1, none⟩ = some (.int .i64 (psAt xs j).chain) ∧ w.cell? ⟨b, off + j * 4 + 2, none⟩ = some (.int .i64 (psAt xs j).dir) ∧ w.cell? ⟨b, off + j * 4 + 3, none⟩ = some (.int .i64 (psAt xs j).side) := by
  rcases h with rfl | h
  · simp at hk
  · exact h
end
structure Wal where
  side : Int
  fr : Int
  to : Int
def wlAt (xs : List Wal) (j : Nat) : Wal := xs.getD j ⟨0, 0, 0⟩
/-- The slice address A reads as the walls xs, in blocks below B. -/
def Walls (w : World) (B : Nat) (A : Option Addr) (xs : List Wal) : Prop :=
  xs = [] ∨ ∃ b off, A = some ⟨b, off, none⟩ ∧ b < B ∧ ∀ j, j < xs.length → w.cell? ⟨b, off + j * 3, none⟩ = some (.int .i64 (wlAt xs j).side) ∧ w.cell? ⟨b, off + j * 3 + 1, none⟩ = some (.int .i64 (wlAt xs j).fr) ∧ w.cell? ⟨b, off + j * 3 + 2, none⟩ = some (.int .i64 (wlAt xs j).to)
section
variable {w w' : World} {B B' : Nat} {A : Option Addr} {xs : List Wal}
theorem Walls.keep (h : Walls w B A xs) (hk : ∀ p : Addr, p.block < B → w'.cell? p = w.cell? p) : Walls w' B A xs := by
  rcases h with h | ⟨b, off, hA, hb, hc⟩
  · exact .inl h
  · exact .inr ⟨b, off, hA, hb, fun j hj => ⟨(hk _ hb).trans (hc j hj).1, (hk _ hb).trans (hc j hj).2.1, (hk _ hb).trans (hc j hj).2.2⟩⟩
theorem Walls.below (h : Walls w B A xs) (hb : Below B w w') : Walls w' B A xs := h.keep fun _ hp => hb.cell hp
theorem Walls.at_ (h : Walls w B A xs) {k : Nat} (hk : k < xs.length) : ∃ b off, A = some ⟨b, off, none⟩ ∧ b < B ∧ ∀ j, j < xs.length → w.cell? ⟨b, off + j * 3, none⟩ = some (.int .i64 (wlAt xs j).side) ∧ w.cell? ⟨b, off + j * 3 + 1, none⟩ = some (.int .i64 (wlAt xs j).fr) ∧ w.cell? ⟨b, off + j * 3 + 2, none⟩ = some (.int .i64 (wlAt xs j).to) := by
  rcases h with rfl | h
  · simp at hk
  · exact h
end
theorem cells59 : Tryz.prog.cellsOf 59 = 2 := by kernel_rfl
section
variable {H : Type} {enc : TypeId × Value → H} {W : World} {base b0 : Nat} {held : Bool} {r : Reach} {v : Value} {d : DataW H} {p : List MemPlace}
set_option maxRecDepth 100000 in
theorem slice_spans {n : Nat} {y : DataW H × List MemPlace} (h : DataW.trod enc Tryz.prog W base (fun _ => true) held n 55 [v] = some y) :
    ∃ (A : Option Addr) (c : Nat) (xs : List (Int × Int)), v = .slice A xs.length c ∧ Pairs W W.heap.size A xs ∧ xs.length ≤ 9223372036854775807 ∧ ∀ j, j < xs.length → (Lit.int .i64 (atp xs j).1).wf = true ∧ (Lit.int .i64 (atp xs j).2).wf = true := by
  obtain ⟨A, c, len, F, rfl, hl, hc, hw⟩ := slice_intK (k := 2) Tryz.underlying55 Tryz.underlying59 (by simp) (by omega) (fun j f hf => by
    have hj : j < 2 := by have := (Array.getElem?_eq_some_iff.1 hf).1; simpa using this
    obtain rfl | rfl : j = 0 ∨ j = 1 := by omega
    all_goals (simp at hf; subst hf; exact Tryz.underlying3)) (by kernel_rfl) cells59 h
  have hat : ∀ j, j < len → atp ((List.range len).map fun i => (F i 0, F i 1)) j = (F j 0, F j 1) := fun j hj => by simp [atp, hj]
  refine ⟨A, c, (List.range len).map fun i => (F i 0, F i 1), by simp, ?_, by simpa using hl, fun j hj => ?_⟩
  · rcases hc with h0 | ⟨b, off, hA, hb, hc⟩
    · exact .inl (by subst h0; rfl)
    · refine .inr ⟨b, off, hA, hb, fun j hj => ?_⟩
      have hj : j < len := by simpa using hj
      exact ⟨by have := hc j hj 0 (by omega); rw [hat j hj]; simpa using this, by have := hc j hj 1 (by omega); rw [hat j hj]; rwa [← Nat.add_assoc] at this⟩
  · have hj : j < len := by simpa using hj
    rw [hat j hj]
    exact ⟨hw j 0 hj (by omega), hw j 1 hj (by omega)⟩
set_option maxRecDepth 100000 in
theorem spans_arg (hv : Value.okWide Tryz.prog W r b0 55 v) (h : DataW.Trod enc Tryz.prog W base (fun _ => true) held 55 v d p) :
    ∃ (A : Option Addr) (c : Nat) (xs : List (Int × Int)), v = .slice A xs.length c ∧ Pairs W W.heap.size A xs ∧ xs.length ≤ 9223372036854775807 ∧ ∀ j, j < xs.length → (Lit.int .i64 (atp xs j).1).wf = true ∧ (Lit.int .i64 (atp xs j).2).wf = true := by
  obtain ⟨a0, len, cap, rfl⟩ := okWide_slice Tryz.underlying55 hv
  obtain ⟨fuel, hf⟩ := h
  exact slice_spans hf
end
theorem cells53 : Tryz.prog.cellsOf 53 = 4 := by kernel_rfl
section
variable {H : Type} {enc : TypeId × Value → H} {W : World} {base b0 : Nat} {held : Bool} {r : Reach} {v : Value} {d : DataW H} {p : List MemPlace}
set_option maxRecDepth 100000 in
theorem slice_chgs {n : Nat} {y : DataW H × List MemPlace} (h : DataW.trod enc Tryz.prog W base (fun _ => true) held n 22 [v] = some y) :
    ∃ (A : Option Addr) (c : Nat) (xs : List Chg), v = .slice A xs.length c ∧ Chs W W.heap.size A xs ∧ xs.length ≤ 9223372036854775807 ∧ ∀ j, j < xs.length → (Lit.int .i64 (chAt xs j).day).wf = true ∧ (Lit.int .i64 (chAt xs j).fr).wf = true ∧ (Lit.int .i64 (chAt xs j).to).wf = true ∧ (Lit.int .i64 (chAt xs j).new).wf = true := by
  obtain ⟨A, c, len, F, rfl, hl, hc, hw⟩ := slice_intK (k := 4) Tryz.underlying22 Tryz.underlying53 (by simp) (by omega) (fun j f hf => by
    have hj : j < 4 := by have := (Array.getElem?_eq_some_iff.1 hf).1; simpa using this
    obtain rfl | rfl | rfl | rfl : j = 0 ∨ j = 1 ∨ j = 2 ∨ j = 3 := by omega
    all_goals (simp at hf; subst hf; exact Tryz.underlying3)) (by kernel_rfl) cells53 h
  have hat : ∀ j, j < len → chAt ((List.range len).map fun i => (⟨F i 0, F i 1, F i 2, F i 3⟩ : Chg)) j = (⟨F j 0, F j 1, F j 2, F j 3⟩ : Chg) := fun j hj => by simp [chAt, hj]
  refine ⟨A, c, (List.range len).map fun i => (⟨F i 0, F i 1, F i 2, F i 3⟩ : Chg), by simp, ?_, by simpa using hl, fun j hj => ?_⟩
  · rcases hc with h0 | ⟨b, off, hA, hb, hc⟩
    · exact .inl (by subst h0; rfl)
    · refine .inr ⟨b, off, hA, hb, fun j hj => ?_⟩
      have hj : j < len := by simpa using hj
      exact ⟨by have := hc j hj 0 (by omega); rw [hat j hj]; simpa using this, by have := hc j hj 1 (by omega); rw [hat j hj]; rwa [← Nat.add_assoc] at this, by have := hc j hj 2 (by omega); rw [hat j hj]; rwa [← Nat.add_assoc] at this, by have := hc j hj 3 (by omega); rw [hat j hj]; rwa [← Nat.add_assoc] at this⟩
  · have hj : j < len := by simpa using hj
    rw [hat j hj]
    exact ⟨hw j 0 hj (by omega), hw j 1 hj (by omega), hw j 2 hj (by omega), hw j 3 hj (by omega)⟩
set_option maxRecDepth 100000 in
theorem chgs_arg (hv : Value.okWide Tryz.prog W r b0 22 v) (h : DataW.Trod enc Tryz.prog W base (fun _ => true) held 22 v d p) :
    ∃ (A : Option Addr) (c : Nat) (xs : List Chg), v = .slice A xs.length c ∧ Chs W W.heap.size A xs ∧ xs.length ≤ 9223372036854775807 ∧ ∀ j, j < xs.length → (Lit.int .i64 (chAt xs j).day).wf = true ∧ (Lit.int .i64 (chAt xs j).fr).wf = true ∧ (Lit.int .i64 (chAt xs j).to).wf = true ∧ (Lit.int .i64 (chAt xs j).new).wf = true := by
  obtain ⟨a0, len, cap, rfl⟩ := okWide_slice Tryz.underlying22 hv
  obtain ⟨fuel, hf⟩ := h
  exact slice_chgs hf
end
section
variable {H : Type} {enc : TypeId × Value → H} {W : World} {base b0 : Nat} {held : Bool} {r : Reach} {v : Value} {d : DataW H} {p : List MemPlace}
end
section
variable {H : Type} {enc : TypeId × Value → H} {W : World} {base b0 : Nat} {held : Bool} {r : Reach} {v : Value} {d : DataW H} {p : List MemPlace}
end
theorem cellsA59 : Tryz.prog.cellsOf 59 = 2 := by kernel_rfl
section
variable {H : Type} {enc : TypeId × Value → H} {W : World} {base b0 : Nat} {sp : Nat → Bool} {held : Bool} {r : Reach} {v : Value} {d : DataW H} {p : List MemPlace}
set_option maxRecDepth 100000 in
theorem span_arg (hv : Value.okWide Tryz.prog W r b0 59 v) (h : DataW.Trod enc Tryz.prog W base sp held 59 v d p) :
    ∃ a b : Int, v = .agg #[.int .i64 a, .int .i64 b] ∧ (Lit.int .i64 a).wf = true ∧ (Lit.int .i64 b).wf = true := by
  obtain ⟨v0, v1, y0, y1, n, rfl, rfl, rfl, h0, h1⟩ := open_agg2 Tryz.underlying59 (by kernel_rfl) cellsA59 hv h
  obtain ⟨x0, e0, _, w0⟩ := DataW.trod_int Tryz.underlying3 h0
  obtain ⟨x1, e1, _, w1⟩ := DataW.trod_int Tryz.underlying3 h1
  simp at e0 e1
  exact ⟨x0, x1, by rw [e0, e1], w0, w1⟩
end
section
variable {H : Type} {enc : TypeId × Value → H} {W : World} {base b0 : Nat} {sp : Nat → Bool} {held : Bool} {r : Reach} {v : Value} {d : DataW H} {p : List MemPlace}
end
section
variable {H : Type} {enc : TypeId × Value → H} {W : World} {base b0 : Nat} {sp : Nat → Bool} {held : Bool} {r : Reach} {v : Value} {d : DataW H} {p : List MemPlace}
end
section
variable {H : Type} {enc : TypeId × Value → H} {W : World} {base b0 : Nat} {sp : Nat → Bool} {held : Bool} {r : Reach} {v : Value} {d : DataW H} {p : List MemPlace}
end
section
variable {H : Type} {enc : TypeId × Value → H} {W : World} {base b0 : Nat} {sp : Nat → Bool} {held : Bool} {r : Reach} {v : Value} {d : DataW H} {p : List MemPlace}
end
theorem cells24 : Tryz.prog.cellsOf 24 = 3 := by kernel_rfl
section
variable {H : Type} {enc : TypeId × Value → H} {W : World} {base b0 : Nat} {held : Bool} {r : Reach} {v : Value} {d : DataW H} {p : List MemPlace}
set_option maxRecDepth 100000 in
theorem road_arg (hv : Value.okWide Tryz.prog W r b0 24 v) (h : DataW.Trod enc Tryz.prog W base (fun _ => true) held 24 v d p) :
    ∃ (num L : Int) (A : Option Addr) (c : Nat) (cs : List Chg), v = .agg #[.int .i64 num, .int .i64 L, .slice A cs.length c] ∧ Chs W W.heap.size A cs ∧ cs.length ≤ 9223372036854775807 := by
  obtain ⟨v0, v1, v2, y0, y1, y2, n, rfl, rfl, rfl, h0, h1, h2⟩ := open_agg3 Tryz.underlying24 (by kernel_rfl) cells24 hv h
  obtain ⟨x0, e0, _, _⟩ := DataW.trod_int Tryz.underlying3 h0
  obtain ⟨x1, e1, _, _⟩ := DataW.trod_int Tryz.underlying3 h1
  obtain ⟨A, c, xs, rfl, hP, hn, _⟩ := slice_chgs h2
  simp at e0 e1
  exact ⟨x0, x1, A, c, xs, by rw [e0, e1], hP, hn⟩
end
end Go.Proofs.YtdmmcdbojmalfaaGreat
