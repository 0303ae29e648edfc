/- TopEdicts: rows that are sorted; mustStrip's clone and sort. -/
import Derived.Test.YtdmmcdbojmalfaaGreatEdI
import Derived.Test.YtdmmcdbojmalfaaGreatShelf
import Derived.Test.YtdmmcdbojmalfaaGreatSrt
import Derived.Maps.AppendAt
import Derived.Outline
namespace Go.Proofs.YtdmmcdbojmalfaaGreat
open Go.RowKit Go.Sort
/-- A row whose cells may be written. -/
def RowW {α : Type} (w : World) (g K : Nat) (enc : α → List Value) (xs : List α) : Prop :=
  ∀ j (hj : j < xs.length) (i : Nat) (v : Value), (enc xs[j])[i]? = some v → w.cell? ⟨g, j * K + i, none⟩ = some v ∧ w.frozen? ⟨g, j * K + i, none⟩ = false
section
variable {α : Type} {enc : α → List Value} {K : Nat} {w w' : World} {g : Nat} {xs : List α}
theorem RowW.rows (h : RowW w g K enc xs) (hg : g < w.heap.size) : RowsK w w.heap.size (some ⟨g, 0, none⟩) K enc xs :=
  .inr ⟨g, 0, rfl, hg, fun j hj i v hv => by rw [Nat.zero_add]; exact (h j hj i v hv).1⟩
theorem own_rowW (hK : ∀ x, (enc x).length = K) {base e n cap : Nat} (h : w.ownsRow base e K (.slice (some ⟨g, 0, none⟩) n cap) n (xs.flatMap enc)) (hl : xs.length = n) : RowW w g K enc xs := by
  intro j hj i v hv
  have e1 := flat_get hK xs j hj i v hv
  have hlt : j * K + i < n * K := by
    have h2 : j * K + i < (xs.flatMap enc).length := by
      rcases Nat.lt_or_ge (j * K + i) (xs.flatMap enc).length with h3 | h3
      · exact h3
      · rw [List.getElem?_eq_none h3] at e1; cases e1
    rw [flat_len hK, hl] at h2
    exact h2
  exact ⟨by rw [h.cellAt _ hlt]; exact e1, h.frozenAt _⟩
theorem div_mod_lt {t n K : Nat} (h : t < n * K) : t / K < n ∧ t % K < K ∧ t / K * K + t % K = t := by
  have hK : 0 < K := by
    rcases Nat.eq_zero_or_pos K with h0 | h0
    · rw [h0] at h; simp at h
    · exact h0
  exact ⟨Nat.div_lt_of_lt_mul (by rw [Nat.mul_comm]; exact h), Nat.mod_lt _ hK, by rw [Nat.mul_comm]; exact Nat.div_add_mod t K⟩
theorem holds_of_rowW [Inhabited α] (hK : ∀ x, (enc x).length = K) (h : RowW w g K enc xs) : Sort.HoldsK enc K w g 0 xs.toArray := by
  intro t ht
  have ht : t < xs.length * K := by simpa using ht
  obtain ⟨h1, h2, h3⟩ := div_mod_lt ht
  rw [Sort.get_flatK _ _ _ _ (by simpa using ht)]
  have e1 : (xs.toArray[t / K]! : α) = xs[t / K] := by simp [h1]
  rw [e1]
  have h4 := h (t / K) h1 (t % K) ((enc xs[t / K])[t % K]!) (by rw [List.getElem?_eq_getElem (by rw [hK]; exact h2)]; congr 1; simp [hK, h2])
  rw [h3] at h4
  rw [Nat.zero_add]
  exact h4
theorem rowW_of_holds [Inhabited α] (hK : ∀ x, (enc x).length = K) (h : Sort.HoldsK enc K w g 0 xs.toArray) : RowW w g K enc xs := by
  intro j hj i v hv
  have hi : i < K := by
    rcases Nat.lt_or_ge i K with h1 | h1
    · exact h1
    · rw [List.getElem?_eq_none (by rw [hK]; exact h1)] at hv; cases hv
  have h1 := h.cell (i := j) (c := i) (by simpa using hj) hi
  simp only [Nat.zero_add] at h1
  have e1 : (xs.toArray[j]! : α) = xs[j] := by simp [hj]
  rw [e1] at h1
  have e2 : (enc xs[j])[i]! = v := by
    rw [List.getElem?_eq_getElem (by rw [hK]; exact hi)] at hv
    injection hv with hv
    rw [← hv]
    simp [hK, hi]
  rw [e2] at h1
  exact h1
end
theorem sub_of {α : Type} {p : α → Prop} : ∀ (xs : List α), (∀ x ∈ xs, p x) → ∃ zs : List {x : α // p x}, zs.map (·.1) = xs
  | [], _ => ⟨[], rfl⟩
  | x :: xs, h => by
    obtain ⟨zs, hz⟩ := sub_of xs fun y hy => h y (List.mem_cons_of_mem _ hy)
    exact ⟨⟨x, h x (List.mem_cons_self ..)⟩ :: zs, by simp [hz]⟩
theorem rowW_sub {α : Type} {p : α → Prop} {enc : α → List Value} {K g : Nat} {w : World} {zs : List {x : α // p x}} : RowW w g K enc (zs.map (·.1)) ↔ RowW w g K (fun z : {x : α // p x} => enc z.1) zs := by
  constructor
  · intro h j hj i v hv
    exact h j (by simpa using hj) i v (by simpa using hv)
  · intro h j hj i v hv
    exact h j (by simpa using hj) i v (by simpa using hv)
/-- The number of an edict is small. -/
def SmE (x : Edc) : Prop := -1000000000 ≤ x.num ∧ x.num ≤ 1000000000
abbrev Edz := {x : Edc // SmE x}
instance : Inhabited Edz := ⟨⟨⟨0, 0, 0, 0, 0, 0, 0, 0⟩, ⟨by decide, by decide⟩⟩⟩
def cmpE (x y : Edz) : Int := x.1.num - y.1.num
set_option maxHeartbeats 1000000 in
theorem closure49 (x y : Edz) (W : World) : Calls Tryz.prog 49 #[.agg (encE x.1).toArray, .agg (encE y.1).toArray] W fun e w' => e = .returned (.int .i64 (cmpE x y)) ∧ ∃ q os', w' = Sort.grow (W.drewN q) os' := by
  obtain ⟨⟨x1, x2, x3, x4, x5, x6, x7, x8⟩, a1, a2⟩ := x
  obtain ⟨⟨y1, y2, y3, y4, y5, y6, y7, y8⟩, b1, b2⟩ := y
  simp only at a1 a2 b1 b2
  show Calls Tryz.prog 49 #[.agg #[.int .i64 x1, .int .i64 x2, .int .i64 x3, .int .i64 x4, .int .i64 x5, .int .i64 x6, .int .i64 x7, .int .i64 x8], .agg #[.int .i64 y1, .int .i64 y2, .int .i64 y3, .int .i64 y4, .int .i64 y5, .int .i64 y6, .int .i64 y7, .int .i64 y8]] W fun e w' => e = .returned (.int .i64 (x1 - y1)) ∧ ∃ q os', w' = Sort.grow (W.drewN q) os'
  go_enter Tryz.func49, Tryz.ntmps49
  go_wp2
  go_ret
  exact ⟨rfl, 0, _, by rw [Sort.alloc_eq_grow, Sort.alloc_eq_grow, Sort.grow_grow]; rfl⟩
theorem ltE (x y : Edz) : ltOf cmpE x y = decide (x.1.num < y.1.num) := by
  unfold ltOf cmpE
  by_cases h : x.1.num < y.1.num
  · simp [h]; omega
  · simp [h]; omega
theorem swoE : SWO (ltOf cmpE) where
  irrefl x := by rw [ltE]; simp
  trans x y z h1 h2 := by rw [ltE] at *; simp at *; omega
  ntrans x y z h1 h2 := by rw [ltE] at *; simp at *; omega
set_option maxRecDepth 100000 in
/-- slices.SortFunc of edicts by their numbers. -/
theorem lSortE (g cap : Nat) (xs : List Edc) (w : World) (h : RowW w g 8 encE xs) (hg : g < w.heap.size) (hx : ∀ x ∈ xs, SmE x) (hn : xs.length ≤ 1000) :
    Calls Tryz.prog 48 #[.slice (some ⟨g, 0, none⟩) xs.length cap, .func (.func 49) #[] #[]] w fun e w' => e = .returned (.tuple #[]) ∧ ∃ ys, ys.Perm xs ∧ (ys.Pairwise fun a b => a.num ≤ b.num) ∧ RowW w' g 8 encE ys ∧ w.grownBy w' (some g) := by
  obtain ⟨zs, rfl⟩ := sub_of xs hx
  have hK : ∀ z : Edz, (encE z.1).length = 8 := fun _ => rfl
  have hH := holds_of_rowW hK (rowW_sub.1 h)
  have eg : ∀ args w, (callFunc 49 args).run Tryz.prog w = .ok (.enter 49 args) w := enters_of Tryz.func49 (by kernel_rfl) rfl
  have hcon := AnyQ.slices_SortFunc Tryz.sortEd 8 Tryz.isAgg65 Tryz.sizeOf65 (fun z : Edz => encE z.1) hK (fun x v hv => by simp [encE] at hv; rcases hv with rfl | rfl | rfl | rfl | rfl | rfl | rfl | rfl <;> rfl) cmpE swoE 49 #[] g 0 cap zs.toArray w eg (fun _ _ _ _ x y => closure49 x y _) hH hg (by simp at hn ⊢; omega)
  have hlen : (zs.map (·.1)).length = zs.toArray.size := by simp
  rw [hlen]
  refine Calls.mono hcon ?_
  rintro e w' ⟨he, d', n, os, ⟨hs, _, hp⟩, ho, rfl⟩
  refine ⟨he, d'.toList.map (·.1), ?_, ?_, ?_, ?_⟩
  · have h1 : d'.extract 0 zs.toArray.size = d' := by rw [← hs]; simp
    have h2 : zs.toArray.extract 0 zs.toArray.size = zs.toArray := by simp
    rw [h1, h2] at hp
    exact hp.map _
  · rw [List.pairwise_iff_getElem]
    intro i j hi hj hij
    have hj : j < d'.size := by simpa using hj
    have := ho i j (Nat.zero_le _) hij (by omega)
    rw [ltE] at this
    simp [show i < d'.size by omega, hj] at this ⊢
    exact this
  · exact rowW_sub.2 (rowW_of_holds hK (holdsK_sortWorldK_c (fun z : Edz => encE z.1) 8 w g 0 zs.toArray _ _ _ hH hg (by simpa using hs)))
  · exact grown_sorted _
theorem lSortE0 (A : Option Addr) (cap : Nat) (w : World) : Calls Tryz.prog 48 #[.slice A 0 cap, .func (.func 49) #[] #[]] w fun e w' => e = .returned (.tuple #[]) ∧ w' = w :=
  AnyF.slices_SortFunc_none Tryz.sortEd A cap _ w
theorem info65 : (Tryz.prog.info? 65).map (fun i => (i.zero, i.size, i.bytes)) = some (some (.agg #[.int .i64 0, .int .i64 0, .int .i64 0, .int .i64 0, .int .i64 0, .int .i64 0, .int .i64 0, .int .i64 0]), 8, 64) := by kernel_rfl
theorem rows_news {α : Type} {enc : α → List Value} {K : Nat} (hK : ∀ x, (enc x).length = K) {w : World} {B : Nat} {a : Addr} {xs : List α} (h : RowsK w B (some a) K enc xs) : ∀ j u, (xs.flatMap enc)[j]? = some u → w.cell? (a.add j) = some u := by
  intro j u hj
  rcases h with rfl | ⟨b, off, hA, _, hc⟩
  · simp at hj
  · injection hA with hA
    subst hA
    have hlt : j < xs.length * K := by
      have h2 : j < (xs.flatMap enc).length := by
        rcases Nat.lt_or_ge j (xs.flatMap enc).length with h3 | h3
        · exact h3
        · rw [List.getElem?_eq_none h3] at hj; cases hj
      rwa [flat_len hK] at h2
    obtain ⟨h1, h2, h3⟩ := div_mod_lt hlt
    have h4 : j % K < (enc (xs[j / K]'h1)).length := by rw [hK]; exact h2
    have h5 := flat_get hK xs (j / K) h1 (j % K) _ (List.getElem?_eq_getElem h4)
    rw [h3, hj] at h5
    injection h5 with h5
    rw [Go.WideShapes.add_plain, h5]
    have h6 := hc (j / K) h1 (j % K) _ (List.getElem?_eq_getElem h4)
    rw [Nat.add_assoc, h3] at h6
    exact h6
theorem encE_one {xs : List Edc} : ∀ u ∈ xs.flatMap encE, u.oneCell' = true := fun u hu => by
  obtain ⟨x, _, hu⟩ := List.mem_flatMap.1 hu
  simp [encE] at hu
  rcases hu with rfl | rfl | rfl | rfl | rfl | rfl | rfl | rfl <;> rfl
set_option maxRecDepth 100000 in
set_option maxHeartbeats 2000000 in
theorem lCloneE {w : World} (A : Option Addr) (c B : Nat) (xs : List Edc) (h : RowsK w B A 8 encE xs) (hB : B ≤ w.heap.size) (hl : xs.length ≤ 1000) :
    Calls Tryz.prog 47 #[.slice A xs.length c] w fun e w' => ∃ v', e = .returned v' ∧ w'.ownsRow w.heap.size 65 8 v' xs.length (xs.flatMap encE) ∧ Below w.heap.size w w' := by
  have q26 : ∀ (w : World) (a : Option Addr) (n c n' c' : Nat), (binOp .eql 26 (.slice a n c) (.slice none n' c')).run Tryz.prog w = .ok (.bool a.isNone) w := fun w a n c n' c' => Lib.run_eql_slice_nil w _ _ a n c n' c' Tryz.underlying26
  cases A with
  | none =>
    obtain rfl : xs = [] := by
      rcases h with h | ⟨_, _, h, _⟩
      · exact h
      · cases h
    go_enter Tryz.func47, Tryz.ntmps47
    go_wp2_with fail
    go_ret
    exact ⟨_, rfl, World.ownsRow_nil _ _ _ _, Below.refl _ _⟩
  | some a =>
    obtain ⟨i0, hi, hz0, hz2, hz3⟩ := info_parts info65
    have hba := (Below.refl w.heap.size w).alloc (Nat.le_refl _) (.cells #[] 65)
    have hown : (w.alloc (.cells #[] 65)).ownsRow w.heap.size 65 8 (.slice (some ⟨w.heap.size, 0, none⟩) 0 0) 0 (([] : List Edc).flatMap encE) := World.ownsRow_lit (base := w.heap.size) (e := 65) (size := 8) w #[] 0 (Nat.le_refl _) (by decide) rfl
    have hx := h.below (hba.mono hB)
    go_enter Tryz.func47, Tryz.ntmps47
    go_wp2_with (first
      | (at_builtin; go_loud (refine wpList_append_own_at _ ?_ (.tmp 5) (.tmp 6) 26 ?_ w.heap.size 65 i0 (.agg #[.int .i64 0, .int .i64 0, .int .i64 0, .int .i64 0, .int .i64 0, .int .i64 0, .int .i64 0, .int .i64 0]) 8 64 Tryz.underlying26 hi hz0 hz2 hz3 ?_ ?_ (.slice (some ⟨w.heap.size, 0, none⟩) 0 0) 0 (([] : List Edc).flatMap encE) ?_ hown a xs.length c (xs.flatMap encE) ?_ ?_ (rows_news encE_len hx) encE_one ?_ ?_ ?_ ?_; (solve | (rfl)); (solve | (rfl)); (solve | (rfl)); (solve | (decide)); (solve | (rfl)); (solve | (rfl)); (solve | (rw [flat_len encE_len])); (solve | (unfold maxLen; omega)); (solve | (omega)); (solve | (simp; done)); (intro v' w2 hown2 hgrow hnil hat)))
      | fail)
    go_ret
    exact ⟨v', rfl, by simpa using hown2, hba.grown hgrow (by simp) (by intro k hk; simp [Value.ownBlock] at hk; omega)⟩
end Go.Proofs.YtdmmcdbojmalfaaGreat
