/- TopEdicts, plain: edicts and what must hold, sorted lists, pieces. -/
import Derived.Test.YtdmmcdbojmalfaaGreatNrm
import Derived.Test.YtdmmcdbojmalfaaGreatEdW
namespace Go.Proofs.YtdmmcdbojmalfaaGreat
open Go.RowKit
/-- The edict speaks of this topic and direction at this hour. -/
def actB (topic dir hour : Int) (e : Edc) : Bool := decide (e.topic = topic) && decide (e.dir = dir) && decide (e.st ≤ hour) && decide (hour < e.en)
/-- What an edict makes of what held on metre m. -/
def oneV (topic dir hour m : Int) (v : Int) (e : Edc) : Int := if actB topic dir hour e = true ∧ e.fr ≤ m ∧ m < e.til then e.val else v
/-- What must hold on metre m, by edicts in the order of their numbers. -/
def mustV (topic dir hour m : Int) (es : List Edc) : Int := es.foldl (oneV topic dir hour m) 0
def AscN (es : List Edc) : Prop := es.Pairwise fun a b => a.num < b.num
theorem asc_unique : ∀ {a b : List Edc}, AscN a → AscN b → a.Perm b → a = b
  | [], b, _, _, h => (List.Perm.nil_eq h)
  | x :: xs, [], _, _, h => (List.Perm.eq_nil h)
  | x :: xs, y :: ys, ha, hb, h => by
    have e : x = y := by
      have hx : x ∈ y :: ys := h.mem_iff.1 (by simp)
      have hy : y ∈ x :: xs := h.mem_iff.2 (by simp)
      rcases List.mem_cons.1 hx with h1 | h1
      · exact h1
      · rcases List.mem_cons.1 hy with h2 | h2
        · exact h2.symm
        · have := (List.pairwise_cons.1 ha).1 y h2
          have := (List.pairwise_cons.1 hb).1 x h1
          omega
    subst e
    rw [asc_unique (List.pairwise_cons.1 ha).2 (List.pairwise_cons.1 hb).2 ((List.perm_cons x).1 h)]
/-- The pieces of an edict on stretches, numbered from n + 1 on. -/
def pcs (e : Edc) : Nat → List (Int × Int) → List Edc
  | _, [] => []
  | n, p :: ps => { e with num := ((n + 1 : Nat) : Int), fr := p.1, til := p.2 } :: pcs e (n + 1) ps
def mvd (K : Edc → List (Int × Int)) : Nat → List Edc → List Edc
  | _, [] => []
  | n, e :: es => pcs e n (K e) ++ mvd K (n + (K e).length) es
theorem pcs_length (e : Edc) : ∀ n ks, (pcs e n ks).length = ks.length
  | _, [] => rfl
  | n, p :: ps => by simp [pcs, pcs_length e (n + 1) ps]
theorem pcs_mem {e : Edc} : ∀ {n ks x}, x ∈ pcs e n ks → ∃ p ∈ ks, ∃ i : Nat, n < i ∧ i ≤ n + ks.length ∧ x = { e with num := (i : Int), fr := p.1, til := p.2 }
  | n, p :: ps, x, h => by
    rcases List.mem_cons.1 h with rfl | h
    · exact ⟨p, by simp, n + 1, by omega, by simp, rfl⟩
    · obtain ⟨q, hq, i, h1, h2, rfl⟩ := pcs_mem h
      exact ⟨q, by simp [hq], i, by omega, by simp; omega, rfl⟩
theorem pcs_asc (e : Edc) : ∀ n ks, AscN (pcs e n ks)
  | _, [] => List.Pairwise.nil
  | n, p :: ps => by
    refine List.pairwise_cons.2 ⟨fun x hx => ?_, pcs_asc e (n + 1) ps⟩
    obtain ⟨q, _, i, h1, _, rfl⟩ := pcs_mem hx
    simp only
    omega
theorem mvd_mem {K : Edc → List (Int × Int)} : ∀ {n es x}, x ∈ mvd K n es → ∃ e ∈ es, ∃ p ∈ K e, ∃ i : Nat, n < i ∧ i ≤ n + (mvd K n es).length ∧ x = { e with num := (i : Int), fr := p.1, til := p.2 }
  | n, e :: es, x, h => by
    rcases List.mem_append.1 h with h | h
    · obtain ⟨p, hp, i, h1, h2, rfl⟩ := pcs_mem h
      exact ⟨e, by simp, p, hp, i, h1, by simp only [mvd, List.length_append, pcs_length]; omega, rfl⟩
    · obtain ⟨e', he, p, hp, i, h1, h2, rfl⟩ := mvd_mem h
      exact ⟨e', by simp [he], p, hp, i, by omega, by simp only [mvd, List.length_append, pcs_length]; omega, rfl⟩
theorem mvd_asc (K : Edc → List (Int × Int)) : ∀ n es, AscN (mvd K n es)
  | _, [] => List.Pairwise.nil
  | n, e :: es => by
    refine List.pairwise_append.2 ⟨pcs_asc _ _ _, mvd_asc K _ es, fun x hx y hy => ?_⟩
    obtain ⟨_, _, i, _, h2, rfl⟩ := pcs_mem hx
    obtain ⟨_, _, _, _, j, h3, _, rfl⟩ := mvd_mem hy
    simp only
    omega
theorem mvd_snoc (K : Edc → List (Int × Int)) : ∀ n es e, mvd K n (es ++ [e]) = mvd K n es ++ pcs e (n + (mvd K n es).length) (K e)
  | n, [], e => by simp [mvd]
  | n, a :: es, e => by
    simp only [List.cons_append, mvd, mvd_snoc K _ es e, List.append_assoc, List.length_append, pcs_length]
    rw [Nat.add_assoc]
theorem pcs_snoc (e : Edc) : ∀ n ks p, pcs e n (ks ++ [p]) = pcs e n ks ++ [{ e with num := ((n + ks.length + 1 : Nat) : Int), fr := p.1, til := p.2 }]
  | n, [], p => by simp [pcs]
  | n, q :: ks, p => by
    simp only [List.cons_append, pcs, pcs_snoc e (n + 1) ks p, List.length_cons]
    rw [show n + 1 + ks.length + 1 = n + (ks.length + 1) + 1 by omega]
open Classical in
theorem pcs_fold (topic dir hour m : Int) (e : Edc) : ∀ n ks v, (pcs e n ks).foldl (oneV topic dir hour m) v = if actB topic dir hour e = true ∧ InS ks m then e.val else v
  | _, [], v => by simp [pcs, inS_nil]
  | n, p :: ps, v => by
    simp only [pcs, List.foldl_cons, pcs_fold topic dir hour m e (n + 1) ps]
    have ha : ∀ a b c, actB topic dir hour { e with num := a, fr := b, til := c } = actB topic dir hour e := fun _ _ _ => rfl
    have ho : oneV topic dir hour m v { e with num := ((n + 1 : Nat) : Int), fr := p.1, til := p.2 } = if actB topic dir hour e = true ∧ p.1 ≤ m ∧ m < p.2 then e.val else v := rfl
    rw [ho, inS_cons]
    by_cases h1 : actB topic dir hour e = true
    · by_cases h2 : InS ps m
      · simp [h1, h2]
      · by_cases h3 : p.1 ≤ m ∧ m < p.2
        · simp [h1, h2, h3]
        · simp [h1, h2, h3]
    · simp [h1]
/-- What the pieces ask of a metre that came from x is what the edicts ask of x. -/
theorem mvd_fold {K : Edc → List (Int × Int)} (topic dir hour m x : Int) : ∀ n es v, (∀ e ∈ es, InS (K e) m ↔ e.fr ≤ x ∧ x < e.til) → (mvd K n es).foldl (oneV topic dir hour m) v = es.foldl (oneV topic dir hour x) v
  | _, [], _, _ => rfl
  | n, e :: es, v, h => by
    classical
    simp only [mvd, List.foldl_append, List.foldl_cons, pcs_fold]
    rw [mvd_fold topic dir hour m x _ es _ fun e' he => h e' (by simp [he])]
    congr 1
    unfold oneV
    by_cases h1 : actB topic dir hour e = true ∧ InS (K e) m
    · rw [if_pos h1, if_pos ⟨h1.1, (h e (by simp)).1 h1.2⟩]
    · rw [if_neg h1, if_neg fun hh => h1 ⟨hh.1, (h e (by simp)).2 hh.2⟩]
theorem mvd_none {K : Edc → List (Int × Int)} (topic dir hour m : Int) : ∀ n es v, (∀ e ∈ es, ¬ InS (K e) m) → (mvd K n es).foldl (oneV topic dir hour m) v = v
  | _, [], _, _ => rfl
  | n, e :: es, v, h => by
    classical
    simp only [mvd, List.foldl_append, pcs_fold]
    rw [if_neg fun hh => h e (by simp) hh.2]
    exact mvd_none topic dir hour m _ es v fun e' he => h e' (by simp [he])
end Go.Proofs.YtdmmcdbojmalfaaGreat
