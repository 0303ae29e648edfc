/- RoadSets: within, appends of whole lists. -/
import Derived.Test.YtpcpkoaigjbdhaaStP
import Derived.Laws.AppendOwnNone
import Derived.Maps.AppendAt
import Derived.Test.YtpcpkoaigjbdhaaArg
namespace Go.Proofs.Ytpcpkoaigjbdhaa
open Go.RowKit
theorem inL_false {xs : List (Int × Int)} {c : Int} (h : ∀ j, j < xs.length → ¬ ((atp xs j).1 ≤ c ∧ c < (atp xs j).2)) : inL xs c = false := by
  refine Bool.eq_false_iff.2 fun hh => ?_
  obtain ⟨p, hp, h1⟩ := inL_iff.1 hh
  obtain ⟨j, hj, rfl⟩ := List.getElem_of_mem hp
  have := h j hj
  simp only [atp, List.getD_eq_getElem?_getD, List.getElem?_eq_getElem hj, Option.getD_some] at this
  exact this h1
theorem inL_true {xs : List (Int × Int)} {c : Int} {j : Nat} (hj : j < xs.length) (h : (atp xs j).1 ≤ c ∧ c < (atp xs j).2) : inL xs c = true :=
  inL_iff.2 ⟨_, atp_mem hj, h⟩
theorem spans_nil {H : Type} {enc : TypeId × Value → H} {W : World} {base : Nat} {held : Bool} {A : Option Addr} {n c : Nat} {d : DataW H} {p : List MemPlace} (h : DataW.Trod enc Try.prog W base (fun _ => true) held 36 (.slice A n c) d p) : A = none → c = 0 := by
  obtain ⟨fuel, hf⟩ := h
  rcases Go.Deep.open_slice Try.underlying36 hf with ⟨hcs, _⟩ | ⟨a, len, cap, m, n', D, Pl, hcs, _, hl, _⟩
  · injection hcs with hcs
    injection hcs with _ h1 h2
    exact fun _ => h2
  · injection hcs with hcs
    injection hcs with h0 h1 h2
    intro e
    rw [e] at h0
    cases h0
theorem pcells_one_cell : ∀ {ps : List (Int × Int)}, ∀ u ∈ pcells ps, u.oneCell' = true
  | p :: ps, u, h => by
    simp only [pcells, List.mem_cons] at h
    rcases h with rfl | rfl | h
    · rfl
    · rfl
    · exact pcells_one_cell u h
theorem Pairs.news {w : World} {B : Nat} {a : Addr} {xs : List (Int × Int)} (h : Pairs w B (some a) xs) : ∀ j u, (pcells xs)[j]? = some u → w.cell? (a.add j) = some u := by
  intro j u hj
  rcases h with rfl | ⟨b, off, hA, _, hc⟩
  · simp [pcells] at hj
  · injection hA with hA
    subst hA
    have hlt : j < (pcells xs).length := by
      rcases Nat.lt_or_ge j (pcells xs).length with h | h
      · exact h
      · rw [List.getElem?_eq_none h] at hj; cases hj
    rw [pcells_length] at hlt
    have hk : j / 2 < xs.length := by omega
    obtain ⟨c1, c2⟩ := hc (j / 2) hk
    obtain ⟨p1, p2⟩ := pcells_at xs (j / 2) hk
    rcases Nat.mod_two_eq_zero_or_one j with e | e
    · have e1 : j = j / 2 * 2 := by omega
      rw [← e1] at c1 p1
      rw [hj] at p1
      rw [p1, ← c1, Go.WideShapes.add_plain]
    · have e1 : j = j / 2 * 2 + 1 := by omega
      rw [← e1] at p2
      have e2 : off + j / 2 * 2 + 1 = off + j := by omega
      rw [e2] at c2
      rw [hj] at p2
      rw [p2, ← c2, Go.WideShapes.add_plain]
/-- 'append(s, xs...)' of a whole list of stretches, nil or not, to a row that the call owns. -/
theorem wpList_append_spans {ops : Array Oper} {rest : List Oper} {o : Oper} {a : Act} {w : World} {Q : Exit → Act → World → Prop} (hgd : o.guard = none) (s x : Operand)
    (ho : o.op = .call { callee := .builtin .append, args := #[s, x], argTypes := #[36, 36] })
    (base : Nat) (v : Value) (n : Nat) (Lo : List (Int × Int)) (hs : a.eval s = v) (hown : w.ownsRow base 26 2 v n (pcells Lo))
    (A : Option Addr) (c B : Nat) (xs : List (Int × Int)) (hP : Pairs w B A xs) (hnil : A = none → c = 0) (hx : a.eval x = .slice A xs.length c)
    (h63 : n + xs.length ≤ 1000000) (hbase : base ≤ w.heap.size)
    (h : ∀ v' w', w'.ownsRow base 26 2 v' (n + xs.length) (pcells (Lo ++ xs)) → w.grownBy w' v.ownBlock → wpList Try.prog ops Q rest (a.put o.dst v') w') : wpList Try.prog ops Q (o :: rest) a w := by
  obtain ⟨i0, hi, hz0, hz2, hz3⟩ := info_parts info26
  cases A with
  | none =>
    obtain rfl := hnil rfl
    obtain rfl : xs = [] := by
      rcases hP with h | ⟨_, _, h, _⟩
      · exact h
      · cases h
    refine wpList_append_own_none hgd s x 36 ho base 26 i0 2 Try.underlying36 hi v n (pcells Lo) hs hown hx ?_
    refine h v w (by simpa using hown) ⟨rfl, rfl, rfl, Nat.le_refl _, fun _ _ _ => rfl⟩
  | some ad =>
    refine wpList_append_own_at w hgd s x 36 ho base 26 i0 (.agg #[.int .i64 0, .int .i64 0]) 2 16 Try.underlying36 hi hz0 hz2 hz3 rfl (by decide) v n (pcells Lo) hs hown ad xs.length c (pcells xs) hx (pcells_length xs) hP.news pcells_one_cell (by unfold maxLen; omega) (by omega) hbase ?_
    intro v' w' h1 h2 _ _
    exact h v' w' (by rw [pcells_append]; exact h1) h2
end Go.Proofs.Ytpcpkoaigjbdhaa

