/- How arrays of ints and of places come in. -/
import Derived.Test.YtihhfelhdgmceaaFrame
namespace Go.Proofs.Ytihhfelhdgmceaa
open Go.ChangeShapes Go.WideShapes Go.ChangeAt Go.RowKit Go.Joins Go.Deep
section
variable {H : Type} {enc : TypeId × Value → H} {P : Program} {W : World} {base b0 : Nat} {sp : Nat → Bool} {held : Bool} {r : Reach} {t e : TypeId} {v : Value} {d : DataW H} {p : List MemPlace}
theorem okWide_arr {n : Nat} (ht : P.underlying t = some (.array n e)) (h : Value.okWide P W r b0 t v) : ∃ cs, v = .agg cs ∧ cs.size = P.cellsOf t := by
  simp only [Value.okWide, ht] at h
  obtain ⟨cs, h1, h2, _⟩ := h
  exact ⟨cs, h1, h2⟩
theorem chunks1 {k : IntKind} {f : Nat → List Value → Prop} (hf : ∀ i l, f i l → ∃ n, l = [.int k n] ∧ (Lit.int k n).wf = true) : ∀ (n : Nat) (cs : List Value) (o : Nat), cs.length = n → (∀ i, i < n → f (o + i) ((cs.drop i).take 1)) →
    ∃ zs : List Int, cs = zs.map (Value.int k) ∧ zs.length = n ∧ ∀ z ∈ zs, (Lit.int k z).wf = true
  | 0, cs, _, hl, _ => by
    obtain rfl : cs = [] := by simpa using hl
    exact ⟨[], rfl, rfl, by simp⟩
  | n + 1, cs, o, hl, h => by
    match cs, hl with
    | c :: cs, hl =>
      obtain ⟨a, ha, hw⟩ := hf _ _ (h 0 (by omega))
      simp only [List.drop_zero, List.take_succ_cons, List.take_zero] at ha
      injection ha with ha
      obtain ⟨zs, hz, hzl, hzw⟩ := chunks1 hf n cs (o + 1) (by simpa using hl) (fun i hi => by
        have := h (i + 1) (by omega)
        rw [List.drop_succ_cons] at this
        rwa [show o + 1 + i = o + (i + 1) from by omega])
      exact ⟨a :: zs, by rw [hz, ha]; rfl, by simp [hzl], by simpa using ⟨hw, hzw⟩⟩
theorem int_array {n : Nat} {k : IntKind} (ht : P.underlying t = some (.array n e)) (he : P.underlying e = some (.int k)) (hc : P.cellsOf e = 1) (hC : P.cellsOf t = n)
    (hv : Value.okWide P W r b0 t v) (h : DataW.Trod enc P W base sp held t v d p) : ∃ zs : List Int, v = .agg (zs.map (Value.int k)).toArray ∧ zs.length = n ∧ ∀ z ∈ zs, (Lit.int k z).wf = true := by
  obtain ⟨cs, rfl, hsz⟩ := okWide_arr ht hv
  obtain ⟨fuel, hf⟩ := h
  obtain ⟨xs, m, _, _, _, hlen, hx⟩ := DataW.trod_array ht hf
  obtain ⟨l⟩ := cs
  simp only [Value.cells] at hx
  have hl : l.length = n := by simpa [hC] using hsz
  obtain ⟨zs, hz, hzl, hzw⟩ := chunks1 (k := k) (f := fun i l => ∃ y, DataW.trod enc P W base sp held m e l = some y) (fun i l ⟨y, hy⟩ => by
      obtain ⟨n', h1, _, h3⟩ := DataW.trod_int he hy
      exact ⟨n', h1, h3⟩) n l 0 hl (fun i hi => by
      have := hx i hi
      rw [hc, Nat.mul_one] at this
      exact ⟨xs[i]'(by omega), by rw [this]; simp⟩)
  exact ⟨zs, by rw [hz], hzl, hzw⟩
theorem chunks2 {f : Nat → List Value → Prop} (hf : ∀ i l, f i l → ∃ a b, l = [.int .i64 a, .int .i64 b] ∧ (Lit.int .i64 a).wf = true ∧ (Lit.int .i64 b).wf = true) : ∀ (n : Nat) (cs : List Value) (o : Nat), cs.length = n * 2 → (∀ i, i < n → f (o + i) ((cs.drop (i * 2)).take 2)) →
    ∃ zs : List (Int × Int), cs = zs.flatMap (fun q => [Value.int .i64 q.1, Value.int .i64 q.2]) ∧ zs.length = n ∧ ∀ z ∈ zs, (Lit.int .i64 z.1).wf = true ∧ (Lit.int .i64 z.2).wf = true
  | 0, cs, _, hl, _ => by
    obtain rfl : cs = [] := by simpa using hl
    exact ⟨[], rfl, rfl, by simp⟩
  | n + 1, cs, o, hl, h => by
    match cs, hl with
    | [], hl => simp at hl
    | [_], hl => simp at hl; omega
    | c :: c' :: cs, hl =>
      obtain ⟨a, b, ha, hw⟩ := hf _ _ (h 0 (by omega))
      simp only [Nat.zero_mul, List.drop_zero, List.take_succ_cons, List.take_zero] at ha
      injection ha with ha hb
      injection hb with hb
      obtain ⟨zs, hz, hzl, hzw⟩ := chunks2 hf n cs (o + 1) (by simp at hl; omega) (fun i hi => by
        have := h (i + 1) (by omega)
        rw [show (i + 1) * 2 = i * 2 + 1 + 1 from by omega, List.drop_succ_cons, List.drop_succ_cons] at this
        rwa [show o + 1 + i = o + (i + 1) from by omega])
      exact ⟨(a, b) :: zs, by rw [hz, ha, hb]; rfl, by simp [hzl], fun z hm => by
        rcases List.mem_cons.1 hm with rfl | hm
        · exact hw
        · exact hzw z hm⟩
/-- A struct of two ints. -/
theorem two_cells {f0 f1 : Field} {n : Nat} {cs : List Value} {y : DataW H × List MemPlace} (ht : P.underlying t = some (.struct #[f0, f1])) (h0 : P.underlying f0.type = some (.int .i64)) (h1 : P.underlying f1.type = some (.int .i64))
    (c0 : P.cellsOf f0.type = 1) (c1 : P.cellsOf f1.type = 1) (o0 : f0.offset = 0) (o1 : f1.offset = 1) (hC : P.cellsOf t = 2)
    (h : DataW.trod enc P W base sp held n t cs = some y) : ∃ a b, cs = [.int .i64 a, .int .i64 b] ∧ (Lit.int .i64 a).wf = true ∧ (Lit.int .i64 b).wf = true := by
  obtain ⟨xs, m, _, _, hcl, hlen, hx⟩ := DataW.trod_struct ht h
  rw [hC] at hcl
  match cs, hcl with
  | [x0, x1], _ =>
    have e0 := hx 0 f0 rfl
    have e1 := hx 1 f1 rfl
    rw [c0, o0] at e0
    rw [c1, o1] at e1
    rw [List.getElem?_eq_getElem (by rw [hlen]; simp)] at e0 e1
    obtain ⟨a, ha, _, wa⟩ := DataW.trod_int h0 e0
    obtain ⟨b, hb, _, wb⟩ := DataW.trod_int h1 e1
    simp at ha hb
    exact ⟨a, b, by rw [ha, hb], wa, wb⟩
end
theorem cells5 : Try.prog.cellsOf 5 = 1 := by kernel_rfl
theorem cells36 : Try.prog.cellsOf 36 = 1 := by kernel_rfl
theorem cells47 : Try.prog.cellsOf 47 = 2 := by kernel_rfl
section
variable {H : Type} {enc : TypeId × Value → H} {W : World} {base b0 : Nat} {sp : Nat → Bool} {held : Bool} {r : Reach} {v : Value} {d : DataW H} {p : List MemPlace}
set_option maxRecDepth 100000 in
theorem xy_array {t : TypeId} {n : Nat} (ht : Try.prog.underlying t = some (.array n 47)) (hC : Try.prog.cellsOf t = n * 2)
    (hv : Value.okWide Try.prog W r b0 t v) (h : DataW.Trod enc Try.prog W base sp held t v d p) :
    ∃ zs : List (Int × Int), v = .agg (zs.flatMap fun q => [Value.int .i64 q.1, Value.int .i64 q.2]).toArray ∧ zs.length = n ∧ ∀ z ∈ zs, (Lit.int .i64 z.1).wf = true ∧ (Lit.int .i64 z.2).wf = true := by
  obtain ⟨cs, rfl, hsz⟩ := okWide_arr ht hv
  obtain ⟨fuel, hf⟩ := h
  obtain ⟨xs, m, _, _, _, hlen, hx⟩ := DataW.trod_array ht hf
  obtain ⟨l⟩ := cs
  simp only [Value.cells] at hx
  have hl : l.length = n * 2 := by simpa [hC] using hsz
  obtain ⟨zs, hz, hzl, hzw⟩ := chunks2 (f := fun i l => ∃ y, DataW.trod enc Try.prog W base sp held m 47 l = some y) (fun i l ⟨y, hy⟩ => two_cells Try.underlying47 Try.underlying3 Try.underlying3 cells3 cells3 rfl rfl cells47 hy) n l 0 hl (fun i hi => by
      have := hx i hi
      rw [cells47] at this
      exact ⟨xs[i]'(by omega), by rw [this]; simp⟩)
  exact ⟨zs, by rw [hz], hzl, hzw⟩
set_option maxRecDepth 100000 in
theorem u8s (hv : Value.okWide Try.prog W r b0 33 v) (h : DataW.Trod enc Try.prog W base sp held 33 v d p) : ∃ m n : Nat, v = .agg #[.int .u8 m, .int .u8 n] ∧ m < 256 ∧ n < 256 := by
  obtain ⟨zs, rfl, hl, hw⟩ := int_array Try.underlying33 Try.underlying5 cells5 (by kernel_rfl) hv h
  match zs, hl with
  | [a, b], _ =>
    have wa := bounds_u8 (hw a (by simp))
    have wb := bounds_u8 (hw b (by simp))
    obtain ⟨m, rfl⟩ := Int.eq_ofNat_of_zero_le wa.1
    obtain ⟨n, rfl⟩ := Int.eq_ofNat_of_zero_le wb.1
    exact ⟨m, n, rfl, by omega, by omega⟩
set_option maxRecDepth 100000 in
theorem u32s (hv : Value.okWide Try.prog W r b0 37 v) (h : DataW.Trod enc Try.prog W base sp held 37 v d p) : ∃ m n : Nat, v = .agg #[.int .u32 m, .int .u32 n] ∧ m < 4294967296 ∧ n < 4294967296 := by
  obtain ⟨zs, rfl, hl, hw⟩ := int_array Try.underlying37 Try.underlying36 cells36 (by kernel_rfl) hv h
  match zs, hl with
  | [a, b], _ =>
    have wa := bounds_u32 (hw a (by simp))
    have wb := bounds_u32 (hw b (by simp))
    obtain ⟨m, rfl⟩ := Int.eq_ofNat_of_zero_le wa.1
    obtain ⟨n, rfl⟩ := Int.eq_ofNat_of_zero_le wb.1
    exact ⟨m, n, rfl, by omega, by omega⟩
end
end Go.Proofs.Ytihhfelhdgmceaa
