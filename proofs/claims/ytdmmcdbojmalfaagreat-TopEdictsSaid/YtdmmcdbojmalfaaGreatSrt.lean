/- Contracts of slices.Clone and slices.SortFunc at stretches, with the closure of union. -/
import Derived.Test.YtdmmcdbojmalfaaGreatBase
import Derived.Test.YtdmmcdbojmalfaaGreatShelf
import Derived.Deep.DeepCutAuto
namespace Go.Proofs.YtdmmcdbojmalfaaGreat
open Go.RowKit Go.Sort
/-- The ends of a stretch are small. -/
def SmS (p : Int × Int) : Prop := (-1000000000 ≤ p.1 ∧ p.1 ≤ 1000000000) ∧ (-1000000000 ≤ p.2 ∧ p.2 ≤ 1000000000)
abbrev Sp := {p : Int × Int // SmS p}
instance : Inhabited Sp := ⟨⟨(0, 0), ⟨⟨by decide, by decide⟩, ⟨by decide, by decide⟩⟩⟩⟩
def encS (x : Sp) : List Value := [.int .i64 x.1.1, .int .i64 x.1.2]
def cmpS (x y : Sp) : Int := x.1.1 - y.1.1
theorem info59 : (Tryz.prog.info? 59).map (fun i => (i.zero, i.size, i.bytes)) = some (some (.agg #[.int .i64 0, .int .i64 0]), 2, 16) := by kernel_rfl
set_option maxHeartbeats 1000000 in
/-- The closure: a.From - b.From, in whatever world. -/
theorem closure80 (x y : Sp) (W : World) : Calls Tryz.prog 74 #[.agg #[.int .i64 x.1.1, .int .i64 x.1.2], .agg #[.int .i64 y.1.1, .int .i64 y.1.2]] W fun e w' => e = .returned (.int .i64 (cmpS x y)) ∧ ∃ q os', w' = Sort.grow (W.drewN q) os' := by
  obtain ⟨⟨x1, x2⟩, ⟨a1, a2⟩, _⟩ := x
  obtain ⟨⟨y1, y2⟩, ⟨b1, b2⟩, _⟩ := y
  simp only at a1 a2 b1 b2
  show Calls Tryz.prog 74 #[.agg #[.int .i64 x1, .int .i64 x2], .agg #[.int .i64 y1, .int .i64 y2]] W fun e w' => e = .returned (.int .i64 (x1 - y1)) ∧ ∃ q os', w' = Sort.grow (W.drewN q) os'
  go_enter Tryz.func74, Tryz.ntmps74
  go_wp2
  go_ret
  exact ⟨rfl, 0, _, by rw [Sort.alloc_eq_grow, Sort.alloc_eq_grow, Sort.grow_grow]; rfl⟩
theorem cmpLays80 (blk off size : Nat) (w : World) : CmpLays Tryz.prog 74 #[] encS 2 cmpS blk off size w :=
  fun _ _ _ _ x y => closure80 x y _
theorem ltS (x y : Sp) : ltOf cmpS x y = decide (x.1.1 < y.1.1) := by
  unfold ltOf cmpS
  by_cases h : x.1.1 < y.1.1
  · simp [h]; omega
  · simp [h]; omega
theorem swoS : SWO (ltOf cmpS) where
  irrefl x := by rw [ltS]; simp
  trans x y z h1 h2 := by rw [ltS] at *; simp at *; omega
  ntrans x y z h1 h2 := by rw [ltS] at *; simp at *; omega
theorem grown_sorted {w : World} {g n : Nat} {os : Array Obj} (d : Array Value) : w.grownBy (Sort.grow (Sort.putRow id (Sort.ahead w n) g 0 d) os) (some g) := by
  refine ⟨rfl, rfl, rfl, by simp [Sort.grow, Sort.putRow, Sort.mapBlock, Sort.ahead], fun k hk hne => ?_⟩
  rw [Sort.heap_grow_old _ _ (by simpa [Sort.putRow, Sort.mapBlock, Sort.ahead] using hk)]
  have : g ≠ k := fun e => hne (by rw [e])
  simp [Sort.putRow, Sort.mapBlock, Sort.ahead, Array.getElem?_modify, this]
/-- The stretches ascend by their beginnings. -/
def AscF (ys : List (Int × Int)) : Prop := ∀ i j, i < j → j < ys.length → (atp ys i).1 ≤ (atp ys j).1
theorem sub_list : ∀ (xs : List (Int × Int)), (∀ p ∈ xs, SmS p) → ∃ zs : List Sp, zs.map (·.1) = xs
  | [], _ => ⟨[], rfl⟩
  | p :: ps, h => by
    obtain ⟨zs, hz⟩ := sub_list ps fun q hq => h q (List.mem_cons_of_mem _ hq)
    exact ⟨⟨p, h p (List.mem_cons_self ..)⟩ :: zs, by simp [hz]⟩
/-- The cells g of a row of spans that may be written. -/
def RowP (w : World) (g : Nat) (xs : List (Int × Int)) : Prop := ∀ j, j < xs.length → (w.cell? ⟨g, j * 2, none⟩ = some (.int .i64 (atp xs j).1) ∧ w.cell? ⟨g, j * 2 + 1, none⟩ = some (.int .i64 (atp xs j).2)) ∧ w.frozen? ⟨g, j * 2, none⟩ = false ∧ w.frozen? ⟨g, j * 2 + 1, none⟩ = false
theorem atp_map (zs : List Sp) (j : Nat) (h : j < zs.length) : atp (zs.map (·.1)) j = (zs.toArray[j]!).1 := by
  simp [atp, h]
theorem holds_of_rowP {w : World} {g : Nat} {zs : List Sp} (h : RowP w g (zs.map (·.1))) : Sort.HoldsK encS 2 w g 0 zs.toArray := by
  intro t ht
  have ht : t < zs.length * 2 := by simpa using ht
  have h1 := h (t / 2) (by simp; omega)
  rw [atp_map _ _ (by omega)] at h1
  rw [Sort.get_flatK _ _ _ _ (by simpa using ht)]
  have e2 : t % 2 = 0 ∨ t % 2 = 1 := by omega
  rcases e2 with e2 | e2
  · have e3 : t / 2 * 2 = t := by omega
    rw [e3] at h1
    rw [e2, Nat.zero_add]
    exact ⟨h1.1.1, h1.2.1⟩
  · have e3 : t / 2 * 2 + 1 = t := by omega
    rw [e3] at h1
    rw [e2, Nat.zero_add]
    exact ⟨h1.1.2, h1.2.2⟩
theorem rowP_of_holds {w : World} {g : Nat} {zs : List Sp} (h : Sort.HoldsK encS 2 w g 0 zs.toArray) : RowP w g (zs.map (·.1)) := by
  intro j hj
  have hj : j < zs.length := by simpa using hj
  have h0 := h.cell (i := j) (c := 0) (by simpa using hj) (by omega)
  have h1 := h.cell (i := j) (c := 1) (by simpa using hj) (by omega)
  rw [atp_map _ _ hj]
  simp only [Nat.zero_add, Nat.add_zero] at h0 h1
  exact ⟨⟨h0.1, h1.1⟩, h0.2, h1.2⟩
set_option maxRecDepth 100000 in
/-- slices.SortFunc of union's closure: the row holds a permutation of its stretches that ascends by their beginnings. -/
theorem lSort (g cap : Nat) (xs : List (Int × Int)) (w : World) (h : RowP w g xs) (hg : g < w.heap.size) (hx : ∀ p ∈ xs, SmS p) (hn : xs.length ≤ 20000000) :
    Calls Tryz.prog 73 #[.slice (some ⟨g, 0, none⟩) xs.length cap, .func (.func 74) #[] #[]] w fun e w' => e = .returned (.tuple #[]) ∧ ∃ ys, ys.Perm xs ∧ AscF ys ∧ RowP w' g ys ∧ w.grownBy w' (some g) := by
  obtain ⟨zs, rfl⟩ := sub_list xs hx
  have hH := holds_of_rowP h
  have eg : ∀ args w, (callFunc 74 args).run Tryz.prog w = .ok (.enter 74 args) w := enters_of Tryz.func74 (by kernel_rfl) rfl
  have hcon := AnyQ.slices_SortFunc Tryz.sortSp 2 Tryz.isAgg59 Tryz.sizeOf59 encS (fun _ => rfl) (fun x v hv => by simp [encS] at hv; rcases hv with rfl | rfl <;> rfl) cmpS swoS 74 #[] g 0 cap zs.toArray w eg (cmpLays80 g 0 zs.toArray.size w) hH hg (by simp at hn ⊢; omega)
  have hlen : (zs.map (·.1)).length = zs.toArray.size := by simp
  rw [hlen]
  refine Calls.mono hcon ?_
  rintro e w' ⟨he, d', n, os, ⟨hs, _, hp⟩, ho, rfl⟩
  refine ⟨he, d'.toList.map (·.1), ?_, ?_, ?_, ?_⟩
  · have h1 : d'.extract 0 zs.toArray.size = d' := by rw [← hs]; simp
    have h2 : zs.toArray.extract 0 zs.toArray.size = zs.toArray := by simp
    rw [h1, h2] at hp
    exact hp.map _
  · intro i j hij hj
    have hj : j < d'.size := by simpa using hj
    have := ho i j (Nat.zero_le _) hij (by omega)
    rw [ltS] at this
    rw [atp_map _ _ (by simpa using (show i < d'.size by omega)), atp_map _ _ (by simpa using hj)]
    simp at this ⊢
    omega
  · apply rowP_of_holds
    exact holdsK_sortWorldK_c encS 2 w g 0 zs.toArray _ _ _ hH hg (by simpa using hs)
  · exact grown_sorted _
theorem lSort0 (A : Option Addr) (cap : Nat) (w : World) : Calls Tryz.prog 73 #[.slice A 0 cap, .func (.func 74) #[] #[]] w fun e w' => e = .returned (.tuple #[]) ∧ w' = w :=
  AnyF.slices_SortFunc_none Tryz.sortSp A cap _ w
end Go.Proofs.YtdmmcdbojmalfaaGreat
