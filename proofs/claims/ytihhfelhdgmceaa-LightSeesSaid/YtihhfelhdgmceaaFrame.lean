/- The frame that the statements of this seat share: from the walk of a law ('it returns true and leaves what was there') to its row; and how tables and slices of ints are opened. -/
import Derived.Test.YtihhfelhdgmceaaPlain
import Derived.OpenShut
import Derived.Deep.Matrix
import Derived.Lib.SmallJoins
namespace Go.Proofs.Ytihhfelhdgmceaa
open Go.ChangeShapes Go.WideShapes Go.ChangeAt Go.RowKit Go.Joins Go.Deep
theorem own : ownKnob Try.prog.godebug = none := by kernel_rfl
theorem laidTry : laidOutB Try.prog = true := by kernel_rfl
section
variable {H : Type} {enc : TypeId × Value → H} {P : Program}
theorem trodAll_stays (hl : laidOutB P = true) {W W' : World} {sp : Nat → Bool} : ∀ (ts : List TypeId) (vs : List Value) (ds : List (DataW H)) (ps : List MemPlace),
    (∀ t ∈ ts, P.readableRec t = true ∧ t < P.types.size) → DataW.TrodAll enc P W 0 (fun _ => true) true ts vs ds ps → (∀ p ∈ ps, W.sameAt W' p) → (∀ p ∈ ps, sp p.block = true) → DataW.TrodAll enc P W' 0 sp true ts vs ds ps
  | [], vs, ds, ps, _, h, _, _ => by
    cases vs <;> cases ds <;> simp_all [DataW.TrodAll]
  | t :: ts, vs, ds, ps, hr, h, hs, hp => by
    cases vs with
    | nil => cases ds <;> simp [DataW.TrodAll] at h
    | cons v vs =>
      cases ds with
      | nil => simp [DataW.TrodAll] at h
      | cons d ds =>
        obtain ⟨p, q, h1, h2, rfl⟩ := h
        exact ⟨p, q, WideElems.Trod_stays hl (hr t (by simp)).1 (hr t (by simp)).2 h1 (fun x hx => hs x (by simp [hx])) (fun x hx => hp x (by simp [hx])),
          trodAll_stays hl ts vs ds q (fun u hu => hr u (by simp [hu])) h2 (fun x hx => hs x (by simp [hx])) (fun x hx => hp x (by simp [hx])), rfl⟩
theorem trodAll_length {W : World} {base : Nat} {sp : Nat → Bool} {held : Bool} : ∀ (ts : List TypeId) (vs : List Value) (ds : List (DataW H)) (ps : List MemPlace), DataW.TrodAll enc P W base sp held ts vs ds ps → ds.length = ts.length
  | [], vs, ds, ps, h => by cases vs <;> cases ds <;> simp_all [DataW.TrodAll]
  | t :: ts, vs, ds, ps, h => by
    cases vs with
    | nil => cases ds <;> simp [DataW.TrodAll] at h
    | cons v vs =>
      cases ds with
      | nil => simp [DataW.TrodAll] at h
      | cons d ds =>
        obtain ⟨p, q, _, h2, _⟩ := h
        simp [trodAll_length ts vs ds q h2]
/-- 'post' behind a call of which 'Below' is known and whose results are plain. -/
theorem post_of_below {f : Func} {s : ChangeSpec} {apart fresh handsOn again : Bool} {W W' : World} {args : Array Value} {v : Value} {ds gs : List (DataW H)} {before pa pv : List MemPlace}
    (hW : DataW.Whole enc P f.params.toList s.vars apart W args.toList ds gs before)
    (hres : ∀ (b : Nat) (sp : Nat → Bool) (hd : Bool), DataW.TrodAll enc P W' b sp hd f.resultTypes.toList (v.resultList f.resultTypes.size) (s.fn H (ds ++ gs)).results [])
    (hargs : ∀ sp : Nat → Bool, (∀ p ∈ before, sp p.block = true) → DataW.TrodAll enc P W' 0 sp true f.params.toList args.toList (s.fn H (ds ++ gs)).args pa)
    (hvars : ∀ sp : Nat → Bool, (∀ p ∈ before, sp p.block = true) → DataW.TrodVars enc P W' sp s.vars (s.fn H (ds ++ gs)).vars pv)
    (hps : before = pa ++ pv) (hb : Below W.heap.size W W')
    (hok : ∀ (j : Nat) (t : TypeId) (r : Value), f.resultTypes[j]? = some t → (v.resultList f.resultTypes.size)[j]? = some r → Value.okWide P W' .any 0 t r) :
    s.post enc P f apart fresh handsOn again W args v W' := by
  have hlt : ∀ p ∈ before, p.block < W.heap.size := fun p hp => hW.lt p hp
  have hold : ∀ p ∈ before, (fun b => decide (b < W.heap.size)) p.block = true := fun p hp => by simpa using hlt p hp
  refine ⟨ds, gs, before, [], pa, pv, hW, hres _ _ _, hargs _ hold, hvars _ hold, World.keptBut_mono (fun p hp => ⟨hp, ?_⟩) (hb.frame (· ∈ before)), fun _ => ?_⟩
  · rw [hps, List.mem_append] at hp
    exact Or.inr hp
  · obtain ⟨_, _, _, _, _, hz, hn⟩ := hW
    refine ⟨hok, _, _, ([] ++ pa) ++ pv, ⟨[] ++ pa, pv, trodAll_append (hargs _ (fun _ _ => rfl)) (hres _ _ _), hvars _ (fun _ _ => rfl), rfl, ?_, ?_⟩, ?_⟩
    · intro b off hp
      have hin : MemPlace.cell b off ∈ before := by rw [hps]; simpa using hp
      rw [hb.frozen (hlt _ hin)]
      exact hz b off hin
    · intro ha
      have := hn ha
      rw [hps] at this
      simpa using this
    · intro p hp _
      rw [hps]
      simpa using hp
end
set_option maxRecDepth 100000 in
/-- The contract of a law, out of its walk. -/
theorem law_contract {H : Type} {enc : TypeId × Value → H} {F : FuncId} {fn : Func} {s : ChangeSpec} {apart fresh handsOn again : Bool} (hv : s.vars = []) (hr : fn.resultTypes = #[4])
    (hp : ∀ t ∈ fn.params.toList, Try.prog.readableRec t = true ∧ t < Try.prog.types.size)
    (hs : ∀ ds : List (DataW H), ds.length = fn.params.toList.length → s.fn H ds = { results := [.lit (.bool true)], args := ds })
    (W : World) (_base : Nat) (args : Array Value) (ds gs : List (DataW H)) (before : List MemPlace)
    (hW : DataW.Whole enc Try.prog fn.params.toList s.vars apart W args.toList ds gs before)
    (walk : ∀ p, DataW.TrodAll enc Try.prog W 0 (fun _ => true) true fn.params.toList args.toList ds p → Calls Try.prog F args W fun e W' => e = .returned (.bool true) ∧ Below W.heap.size W W') :
    Calls Try.prog F args W fun e W' => ∃ v, e = .returned v ∧ s.post enc Try.prog fn apart fresh handsOn again W args v W' := by
  have hW' := hW
  obtain ⟨p, q, hA, hV, rfl, hfz, hnd⟩ := hW
  rw [hv] at hV
  obtain ⟨rfl, rfl⟩ := trodVars_none hV
  have hlen := trodAll_length _ _ _ _ hA
  refine (walk p hA).mono fun e W' ⟨he, hg⟩ => ?_
  subst he
  have hfn : s.fn H (ds ++ []) = { results := [.lit (.bool true)], args := ds } := by rw [List.append_nil]; exact hs ds hlen
  refine ⟨_, rfl, post_of_below (pa := p) (pv := []) hW' ?_ ?_ ?_ rfl hg ?_⟩
  · intro b sp hd
    rw [hfn, hr]
    exact trodAll_mk1 (shut_bool Try.underlying4 _)
  · intro sp hsp
    rw [hfn]
    exact trodAll_stays laidTry _ _ _ _ hp hA (fun x hx => hg.same (hW'.lt x (by simpa using hx))) (fun x hx => hsp x (by simpa using hx))
  · intro sp _
    rw [hfn, hv]
    simp [DataW.TrodVars]
  · exact ok_one hr rfl (okWide_bool_mk Try.underlying4 _)
/-! ### Arguments -/
theorem cells3 : Try.prog.cellsOf 3 = 1 := by kernel_rfl
theorem cells22 : Try.prog.cellsOf 22 = 1 := by kernel_rfl
theorem cells25 : Try.prog.cellsOf 25 = 3 := by kernel_rfl
section
variable {H : Type} {enc : TypeId × Value → H} {W : World} {base : Nat} {sp : Nat → Bool} {held : Bool}
theorem at0_take {zs : List Int} {n j : Nat} (h : j < n) : at0 (zs.take n) j = zs.getD j 0 := by
  simp [at0, h]
theorem slice_ints {v : Value} {n : Nat} {y : DataW H × List MemPlace} (h : DataW.trod enc Try.prog W base (fun _ => true) held n 22 [v] = some y) :
    ∃ (A : Option Addr) (c : Nat) (xs : List Int), v = .slice A xs.length c ∧ Ints W W.heap.size A xs ∧ xs.length ≤ 9223372036854775807 ∧ ∀ x ∈ xs, (Lit.int .i64 x).wf = true := by
  rcases open_ints Try.underlying22 Try.underlying3 cells3 h with ⟨hcs, _⟩ | ⟨a, len, cap, zs, hcs, _, hl, hm, hz, _, hc, hw⟩
  · injection hcs with hcs
    exact ⟨none, 0, [], hcs, .inl rfl, by simp, by simp⟩
  · injection hcs with hcs
    simp only [if_true] at hz
    have hlen : (zs.take len).length = len := by rw [List.length_take]; omega
    unfold maxLen at hm
    refine ⟨some a, cap, zs.take len, by rw [hlen]; exact hcs, ?_, by omega, fun x hx => hw x (List.mem_of_mem_take hx)⟩
    by_cases h0 : len = 0
    · left; subst h0; simp
    · obtain ⟨b, off, rfl, hcc⟩ := ints_at hc (by omega)
      exact .inr ⟨b, off, rfl, World.block_lt_of_cell? W _ (hcc 0 (by omega)), fun j hj => by rw [at0_take (by omega)]; exact hcc j (by omega)⟩
theorem slice_rows {v : Value} {n : Nat} {y : DataW H × List MemPlace} (h : DataW.trod enc Try.prog W base (fun _ => true) held n 23 [v] = some y) :
    ∃ (A : Option Addr) (c : Nat) (R : List (List Int)), v = .slice A R.length c ∧ Rows2 W W.heap.size A R ∧ R.length ≤ 9223372036854775807 ∧ ∀ j, j < R.length → (at1 R j).length ≤ 9223372036854775807 := by
  rcases open_int_rows Try.underlying23 Try.underlying22 Try.underlying3 cells22 cells3 h with ⟨hcs, _⟩ | ⟨a, len, cap, A, L, C, Z, hcs, _, hl, hm, _, hc⟩
  · injection hcs with hcs
    exact ⟨none, 0, [], hcs, .inl rfl, by simp, by simp⟩
  · injection hcs with hcs
    unfold maxLen at hm
    have hat : ∀ j, j < len → at1 ((List.range len).map fun r => (Z r).take (L r)) j = (Z j).take (L j) := fun j hj => by simp [at1, hj]
    have hll : ∀ j, j < len → ((Z j).take (L j)).length = L j := fun j hj => by
      obtain ⟨_, h1, _, h2, _⟩ := hc j (by omega)
      rw [List.length_take]; omega
    refine ⟨some a, cap, (List.range len).map fun r => (Z r).take (L r), by simpa using hcs, ?_, by simp; omega, fun j hj => ?_⟩
    · by_cases h0 : len = 0
      · left; subst h0; simp
      · have hc0 := (hc 0 (by omega)).1
        obtain ⟨b, off, spot⟩ := a
        have hspot : spot = none := by simpa [Addr.add] using World.cell?_spot hc0
        subst hspot
        refine .inr ⟨b, off, A, C, rfl, World.block_lt_of_cell? W ⟨b, off, none⟩ (by simpa [Addr.add] using hc0), fun j hj => ?_⟩
        simp only [List.length_map, List.length_range] at hj
        obtain ⟨h1, h2, h3, h4, h5, h6, h7⟩ := hc j (by omega)
        rw [hat j hj, hll j hj]
        refine ⟨by rw [← Go.WideShapes.add_plain]; exact h1, ?_⟩
        by_cases hL : L j = 0
        · left; rw [hL]; simp
        · cases hA : A j with
          | none => have := h6 hA; omega
          | some a' =>
            obtain ⟨_, h8⟩ := h7 a' hA
            obtain ⟨b', off', rfl, hcc⟩ := ints_at (zs := Z j) (fun i hi => h8 i (by omega)) (by omega)
            refine .inr ⟨b', off', rfl, World.block_lt_of_cell? W _ (hcc 0 (by omega)), fun i hi => ?_⟩
            rw [hll j hj] at hi
            rw [at0_take hi]
            exact hcc i (by omega)
    · simp only [List.length_map, List.length_range] at hj
      obtain ⟨_, h1, h2, h3, _⟩ := hc j (by omega)
      rw [hat j hj, hll j hj]
      unfold maxLen at h2
      omega
/-- The lengths of a table's lists fit an int. -/
def Fits (t : Tb) : Prop := t.obs.length ≤ 9223372036854775807 ∧ t.ent.length ≤ 9223372036854775807 ∧ t.r.length ≤ 9223372036854775807 ∧ ∀ j, j < t.r.length → (at1 t.r j).length ≤ 9223372036854775807
set_option maxRecDepth 100000 in
theorem table_arg {b0 : Nat} {v : Value} {d : DataW H} {p : List MemPlace} (hv : Value.okWide Try.prog W .any b0 25 v) (h : DataW.Trod enc Try.prog W base (fun _ => true) held 25 v d p) :
    ∃ (A0 A1 A2 : Option Addr) (c0 c1 c2 : Nat) (t : Tb), v = .agg #[.slice A0 t.obs.length c0, .slice A1 t.ent.length c1, .slice A2 t.r.length c2] ∧ Tab W W.heap.size A0 A1 A2 t ∧ Fits t := by
  obtain ⟨v0, v1, v2, y0, y1, y2, n, rfl, rfl, rfl, h0, h1, h2⟩ := open_agg3 Try.underlying25 (by kernel_rfl) cells25 hv h
  obtain ⟨A0, c0, xs, rfl, i0, l0, _⟩ := slice_ints h0
  obtain ⟨A1, c1, ys, rfl, i1, l1, _⟩ := slice_ints h1
  obtain ⟨A2, c2, R, rfl, i2, l2, l3⟩ := slice_rows h2
  have hf : Fits ⟨xs, ys, R⟩ := by
    unfold Fits
    exact And.intro l0 (And.intro l1 (And.intro l2 l3))
  exact ⟨A0, A1, A2, c0, c1, c2, ⟨xs, ys, R⟩, rfl, ⟨i0, i1, i2⟩, hf⟩
end
end Go.Proofs.Ytihhfelhdgmceaa
