/- Plain law of TopCarried: steps of a road as maps of metres and of places, forth and back. -/
import Derived.Test.YtdmmcdbojmalfaaGreatStP
import Derived.Test.YtdmmcdbojmalfaaGreatOrd
namespace Go.Proofs.YtdmmcdbojmalfaaGreat
open Go.RowKit
/-- Where a metre goes. -/
def gF (m : Mov) (c : Int) : Option Int := if c < m.a then some c else if m.b ≤ c then some (c + m.grow) else none
def runL (g : Mov → Int → Option Int) : List Mov → Int → Option Int
  | [], c => some c
  | m :: ms, c => (g m c).bind (runL g ms)
theorem runL_append (g : Mov → Int → Option Int) : ∀ (a b : List Mov) (c : Int), runL g (a ++ b) c = (runL g a c).bind (runL g b)
  | [], b, c => rfl
  | m :: a, b, c => by
    simp only [List.cons_append, runL]
    cases h : g m c with
    | none => rfl
    | some d => simp only [Option.bind_some, runL_append g a b d]
theorem take_snoc {ms : List Mov} {k : Nat} (hk : k < ms.length) : ms.take (k + 1) = ms.take k ++ [mvAt ms k] := by
  rw [List.take_succ_eq_append_getElem hk]
  congr 2
  simp [mvAt, hk]
theorem carry_run {ms : List Mov} {c : Int} : ∀ k, k ≤ ms.length → carryTo ms c k = runL placeF (ms.take k) c
  | 0, _ => rfl
  | k + 1, hk => by
    rw [take_snoc (by omega), runL_append, ← carry_run k (by omega)]
    simp only [carryTo, runL]
    congr 1
    funext d
    cases placeF (mvAt ms k) d <;> rfl
theorem pt_inS {m : Mov} (hm : m.a ≤ m.b) {s : Int × Int} {c : Int} : InS (ptTo m s 2) c ↔ ∃ d, (s.1 ≤ d ∧ d < s.2) ∧ gF m d = some c := by
  rw [pt_two, inS_append]
  have e : ∀ d, gF m d = some c ↔ (d < m.a ∧ d = c) ∨ (m.b ≤ d ∧ d + m.grow = c) := by
    intro d
    unfold gF
    by_cases h1 : d < m.a
    · rw [if_pos h1]
      simp only [Option.some.injEq]
      constructor
      · intro h; exact .inl ⟨h1, h⟩
      · rintro (h | h)
        · exact h.2
        · omega
    · rw [if_neg h1]
      by_cases h2 : m.b ≤ d
      · rw [if_pos h2]
        simp only [Option.some.injEq]
        constructor
        · intro h; exact .inr ⟨h2, h⟩
        · rintro (h | h)
          · omega
          · exact h.2
      · rw [if_neg h2]
        simp only [reduceCtorEq, false_iff]
        omega
  constructor
  · rintro (h | h)
    · by_cases h1 : s.1 < min s.2 m.a
      · rw [if_pos h1, inS_one] at h
        exact ⟨c, ⟨h.1, by have := h.2; simp only at this; omega⟩, (e c).2 (.inl ⟨by have := h.2; simp only at this; omega, rfl⟩)⟩
      · rw [if_neg h1] at h; exact absurd h inS_nil
    · by_cases h1 : max s.1 m.b + m.grow < s.2 + m.grow
      · rw [if_pos h1, inS_one] at h
        obtain ⟨h2, h3⟩ := h
        simp only at h2 h3
        exact ⟨c - m.grow, ⟨by omega, by omega⟩, (e _).2 (.inr ⟨by omega, by omega⟩)⟩
      · rw [if_neg h1] at h; exact absurd h inS_nil
  · rintro ⟨d, ⟨d1, d2⟩, h⟩
    rcases (e d).1 h with ⟨h1, rfl⟩ | ⟨h1, h2⟩
    · have h3 : s.1 < min s.2 m.a := by omega
      rw [if_pos h3]
      exact .inl (inS_one.2 ⟨d1, by simp only; omega⟩)
    · have h3 : max s.1 m.b + m.grow < s.2 + m.grow := by omega
      rw [if_pos h3]
      exact .inr (inS_one.2 ⟨by simp only; omega, by simp only; omega⟩)
theorem str_inS {m : Mov} (hm : m.a ≤ m.b) {xs : List (Int × Int)} {c : Int} : ∀ k, k ≤ xs.length → (InS (strTo m xs k) c ↔ ∃ d, (∃ j, j < k ∧ (atp xs j).1 ≤ d ∧ d < (atp xs j).2) ∧ gF m d = some c)
  | 0, _ => ⟨fun h => absurd h inS_nil, fun ⟨_, ⟨_, h, _⟩, _⟩ => absurd h (Nat.not_lt_zero _)⟩
  | k + 1, hk => by
    simp only [strTo]
    rw [inS_append, str_inS hm k (by omega), pt_inS hm]
    constructor
    · rintro (⟨d, ⟨j, h1, h2⟩, h3⟩ | ⟨d, h2, h3⟩)
      · exact ⟨d, ⟨j, by omega, h2⟩, h3⟩
      · exact ⟨d, ⟨k, by omega, h2⟩, h3⟩
    · rintro ⟨d, ⟨j, h1, h2⟩, h3⟩
      by_cases e : j = k
      · subst e; exact .inr ⟨d, h2, h3⟩
      · exact .inl ⟨d, ⟨j, by omega, h2⟩, h3⟩
theorem inS_at {xs : List (Int × Int)} {d : Int} : InS xs d ↔ ∃ j, j < xs.length ∧ (atp xs j).1 ≤ d ∧ d < (atp xs j).2 := by
  constructor
  · rintro ⟨p, hp, h⟩
    obtain ⟨j, hj, rfl⟩ := List.getElem_of_mem hp
    exact ⟨j, hj, by simpa [atp, hj] using h⟩
  · rintro ⟨j, hj, h⟩
    exact ⟨_, atp_mem hj, h⟩
theorem keep_inS {ms : List Mov} (hm : ∀ j, j < ms.length → MvOk (mvAt ms j)) {l : List (Int × Int)} : ∀ k, k ≤ ms.length → ∀ c, (InS (keepTo ms l k) c ↔ ∃ d, InS l d ∧ runL gF (ms.take k) d = some c)
  | 0, _, c => by simp [keepTo, runL]
  | k + 1, hk, c => by
    simp only [keepTo]
    rw [str_inS (hm k (by omega)).1.2.1 _ (Nat.le_refl _), take_snoc (by omega)]
    constructor
    · rintro ⟨d, h1, h2⟩
      obtain ⟨x, hx, hr⟩ := (keep_inS hm k (by omega) d).1 (inS_at.2 h1)
      exact ⟨x, hx, by rw [runL_append, hr]; simp [runL, h2]⟩
    · rintro ⟨x, hx, hr⟩
      rw [runL_append] at hr
      cases h : runL gF (ms.take k) x with
      | none => rw [h] at hr; cases hr
      | some d =>
        rw [h] at hr
        refine ⟨d, inS_at.1 ((keep_inS hm k (by omega) d).2 ⟨x, hx, h⟩), ?_⟩
        cases h3 : gF (mvAt ms k) d with
        | none => simp [runL, h3] at hr
        | some e => simpa [runL, h3] using hr
theorem keep_all {ms : List Mov} (hm : ∀ j, j < ms.length → MvOk (mvAt ms j)) {l : List (Int × Int)} (c : Int) : InS (keepTo ms l ms.length) c ↔ ∃ d, InS l d ∧ runL gF ms d = some c := by
  rw [keep_inS hm _ (Nat.le_refl _), List.take_length]
theorem ups_add (cs : List Chg) (f k : Nat) : ∀ l, ups cs f (k + l) = ups cs f k ++ ups cs (f + k) l
  | 0 => by simp [ups]
  | l + 1 => by
    rw [← Nat.add_assoc, ups_succ, ups_succ, ups_add cs f k l, List.append_assoc, Nat.add_assoc]
theorem downs_add (cs : List Chg) (f k : Nat) : ∀ l, downs cs f (k + l) = downs cs f k ++ downs cs (f - k) l
  | 0 => by simp [downs]
  | l + 1 => by
    rw [← Nat.add_assoc, downs_succ, downs_succ, downs_add cs f k l, List.append_assoc, show f - k - 1 - l = f - 1 - (k + l) by omega]
/-- By way of a version between. -/
theorem moves_comp (cs : List Chg) {u v w : Nat} (h : (u ≤ v ∧ v ≤ w) ∨ (w ≤ v ∧ v ≤ u)) : movesF cs u w = movesF cs u v ++ movesF cs v w := by
  rcases h with ⟨h1, h2⟩ | ⟨h1, h2⟩
  · unfold movesF
    rw [show u - w = 0 by omega, show u - v = 0 by omega, show v - w = 0 by omega, show w - u = (v - u) + (w - v) by omega, ups_add, show u + (v - u) = v by omega]
    simp [downs]
  · unfold movesF
    rw [show w - u = 0 by omega, show v - u = 0 by omega, show w - v = 0 by omega, show u - w = (u - v) + (v - w) by omega, downs_add, show u - (u - v) = v by omega]
    simp [ups]
theorem g_inv {cs : List Chg} {k : Nat} (h1 : (chAt cs k).fr ≤ (chAt cs k).to) (h2 : 0 ≤ (chAt cs k).new) (c d : Int) : gF (upM cs k) c = some d ↔ gF (downM cs k) d = some c := by
  unfold gF upM downM
  simp only
  by_cases a1 : c < (chAt cs k).fr
  · rw [if_pos a1]
    by_cases a2 : d < (chAt cs k).fr
    · rw [if_pos a2]; simp only [Option.some.injEq]; omega
    · rw [if_neg a2]
      by_cases a3 : (chAt cs k).fr + (chAt cs k).new ≤ d
      · rw [if_pos a3]; simp only [Option.some.injEq]; omega
      · rw [if_neg a3]; simp only [Option.some.injEq, reduceCtorEq, iff_false]; omega
  · rw [if_neg a1]
    by_cases a4 : (chAt cs k).to ≤ c
    · rw [if_pos a4]
      by_cases a2 : d < (chAt cs k).fr
      · rw [if_pos a2]; simp only [Option.some.injEq]; omega
      · rw [if_neg a2]
        by_cases a3 : (chAt cs k).fr + (chAt cs k).new ≤ d
        · rw [if_pos a3]; simp only [Option.some.injEq]; omega
        · rw [if_neg a3]; simp only [Option.some.injEq, reduceCtorEq, iff_false]; omega
    · rw [if_neg a4]
      by_cases a2 : d < (chAt cs k).fr
      · rw [if_pos a2]; simp only [Option.some.injEq, reduceCtorEq, false_iff]; omega
      · rw [if_neg a2]
        by_cases a3 : (chAt cs k).fr + (chAt cs k).new ≤ d
        · rw [if_pos a3]; simp only [Option.some.injEq, reduceCtorEq, false_iff]; omega
        · rw [if_neg a3]; simp
theorem run_one (g : Mov → Int → Option Int) (m : Mov) (c : Int) : runL g [m] c = g m c := by
  simp only [runL]
  cases g m c <;> rfl
theorem bind_iff {o : Option Int} {f : Int → Option Int} {d : Int} : o.bind f = some d ↔ ∃ x, o = some x ∧ f x = some d := by
  cases o with
  | none => simp
  | some y => simp
theorem ups_inv {num L : Int} {cs : List Chg} (h : RoadOk num L cs) (u : Nat) : ∀ n, u + n ≤ cs.length → ∀ c d, runL gF (ups cs u n) c = some d ↔ runL gF (downs cs (u + n) n) d = some c
  | 0, _, c, d => by simp [ups, downs, runL]; exact eq_comm
  | n + 1, hn, c, d => by
    have ih := ups_inv h u n (by omega)
    obtain ⟨⟨b1, b2⟩, b3, b4, b5⟩ := ch_bd h (k := u + n) (by omega)
    have e : downs cs (u + (n + 1)) (n + 1) = [downM cs (u + n)] ++ downs cs (u + n) n := by
      rw [show n + 1 = 1 + n by omega, downs_add, show u + (1 + n) - 1 = u + n by omega]
      simp [downs]
      rw [show u + (1 + n) - 1 = u + n by omega]
    rw [ups_succ, runL_append, e, runL_append, bind_iff, bind_iff]
    constructor
    · rintro ⟨x, h1, h2⟩
      rw [run_one] at h2
      exact ⟨x, by rw [run_one]; exact (g_inv b2 b4 x d).1 h2, (ih c x).1 h1⟩
    · rintro ⟨x, h1, h2⟩
      rw [run_one] at h1
      exact ⟨x, (ih c x).2 h2, by rw [run_one]; exact (g_inv b2 b4 x d).2 h1⟩
theorem moves_inv {num L : Int} {cs : List Chg} (h : RoadOk num L cs) {u w : Nat} (hu : u ≤ cs.length) (hw : w ≤ cs.length) (c d : Int) : runL gF (movesF cs u w) c = some d ↔ runL gF (movesF cs w u) d = some c := by
  rcases Nat.le_total u w with hh | hh
  · have := ups_inv h u (w - u) (by omega) c d
    rw [show u + (w - u) = w by omega] at this
    unfold movesF
    rw [show u - w = 0 by omega]
    simpa [downs, ups] using this
  · have := ups_inv h w (u - w) (by omega) d c
    rw [show w + (u - w) = u by omega] at this
    unfold movesF
    rw [show w - u = 0 by omega]
    simpa [downs, ups] using this.symm
theorem moves_stay {g : Mov → Int → Option Int} {cs : List Chg} {P : Nat → Int → Prop} (hup : ∀ k, k < cs.length → ∀ c d, P k c → g (upM cs k) c = some d → P (k + 1) d) (hdn : ∀ k, k < cs.length → ∀ c d, P (k + 1) c → g (downM cs k) c = some d → P k d)
    {u w : Nat} (hu : u ≤ cs.length) (hw : w ≤ cs.length) {c d : Int} (hc : P u c) (hr : runL g (movesF cs u w) c = some d) : P w d := by
  have k1 : ∀ n, u + n ≤ cs.length → ∀ d, runL g (ups cs u n) c = some d → P (u + n) d := by
    intro n
    induction n with
    | zero => intro _ d h; simp [ups, runL] at h; subst h; exact hc
    | succ n ih =>
      intro hn d h
      rw [ups_succ, runL_append, bind_iff] at h
      obtain ⟨x, h1, h2⟩ := h
      rw [run_one] at h2
      exact hup (u + n) (by omega) x d (ih (by omega) x h1) h2
  have k2 : ∀ n, n ≤ u → ∀ d, runL g (downs cs u n) c = some d → P (u - n) d := by
    intro n
    induction n with
    | zero => intro _ d h; simp [downs, runL] at h; subst h; exact hc
    | succ n ih =>
      intro hn d h
      rw [downs_succ, runL_append, bind_iff] at h
      obtain ⟨x, h1, h2⟩ := h
      rw [run_one] at h2
      have := ih (by omega) x h1
      rw [show u - n = (u - 1 - n) + 1 by omega] at this
      have := hdn (u - 1 - n) (by omega) x d this h2
      rwa [show u - (n + 1) = u - 1 - n by omega]
  rcases Nat.le_total u w with hh | hh
  · unfold movesF at hr
    rw [show u - w = 0 by omega] at hr
    have := k1 (w - u) (by omega) d (by simpa [downs] using hr)
    rwa [show u + (w - u) = w by omega] at this
  · unfold movesF at hr
    rw [show w - u = 0 by omega] at hr
    have := k2 (u - w) (by omega) d (by simpa [ups] using hr)
    rwa [show u - (u - w) = w by omega] at this
theorem met_in {num L : Int} {cs : List Chg} (h : RoadOk num L cs) {u w : Nat} (hu : u ≤ cs.length) (hw : w ≤ cs.length) {c d : Int} (hc : 0 ≤ c ∧ c < lenAt L cs u) (hr : runL gF (movesF cs u w) c = some d) : 0 ≤ d ∧ d < lenAt L cs w := by
  refine moves_stay (P := fun k c => 0 ≤ c ∧ c < lenAt L cs k) (fun k hk c d hP hg => ?_) (fun k hk c d hP hg => ?_) hu hw hc hr
  · obtain ⟨_, ⟨d2, d3, d4⟩, ⟨d5, d6⟩, d7⟩ := h.2.2.2 k hk
    simp only [lenAt]
    unfold gF upM at hg
    simp only at hg
    split at hg
    · injection hg with hg; omega
    · split at hg
      · injection hg with hg; omega
      · cases hg
  · obtain ⟨_, ⟨d2, d3, d4⟩, ⟨d5, d6⟩, d7⟩ := h.2.2.2 k hk
    simp only [lenAt] at hP
    unfold gF downM at hg
    simp only at hg
    split at hg
    · injection hg with hg; omega
    · split at hg
      · injection hg with hg; omega
      · cases hg
theorem place_in {num L : Int} {cs : List Chg} (h : RoadOk num L cs) {u w : Nat} (hu : u ≤ cs.length) (hw : w ≤ cs.length) {c d : Int} (hc : 0 ≤ c ∧ c ≤ lenAt L cs u) (hr : runL placeF (movesF cs u w) c = some d) : 0 ≤ d ∧ d ≤ lenAt L cs w := by
  refine moves_stay (P := fun k c => 0 ≤ c ∧ c ≤ lenAt L cs k) (fun k hk c d hP hg => ?_) (fun k hk c d hP hg => ?_) hu hw hc hr
  · obtain ⟨_, ⟨d2, d3, d4⟩, ⟨d5, d6⟩, d7⟩ := h.2.2.2 k hk
    simp only [lenAt]
    unfold placeF upM at hg
    simp only at hg
    split at hg
    · injection hg with hg; omega
    · split at hg
      · injection hg with hg; omega
      · cases hg
  · obtain ⟨_, ⟨d2, d3, d4⟩, ⟨d5, d6⟩, d7⟩ := h.2.2.2 k hk
    simp only [lenAt] at hP
    unfold placeF downM at hg
    simp only at hg
    split at hg
    · injection hg with hg; omega
    · split at hg
      · injection hg with hg; omega
      · cases hg
/-- The one list of the metres of any full list. -/
theorem norm_of {xs : List (Int × Int)} (hf : Full xs) : ∃ us, Norm us ∧ ∀ c, InS us c ↔ InS xs c := by
  obtain ⟨ys, hp, ho⟩ := asc_exists xs
  obtain ⟨n1, n2⟩ := join_norm ho fun p hp' => hf p (hp.mem_iff.1 hp')
  exact ⟨_, n1, fun c => by rw [n2 c, inS_perm hp c]⟩
/-- One step adds at most one stretch. -/
theorem step_len {m : Mov} (hm : m.a ≤ m.b) {us vs : List (Int × Int)} (hv : Norm vs) (h : ∀ c, InS vs c ↔ ∃ d, InS us d ∧ gF m d = some c) : vs.length ≤ us.length + 1 := by
  have h1 := nodup_len (l := vs.map Prod.fst) (m := us.map (fun p => if p.1 < m.a then p.1 else p.1 + m.grow) ++ [m.b + m.grow]) (norm_starts hv) fun x hx => by
    obtain ⟨p, hp, rfl⟩ := List.mem_map.1 hx
    obtain ⟨d, ⟨q, hq, q1, q2⟩, hd⟩ := (h p.1).1 ⟨p, hp, Int.le_refl _, hv.1 p hp⟩
    have hnb := fun hh => norm_before hv hp ((h (p.1 - 1)).2 hh)
    unfold gF at hd
    by_cases e : q.1 = d
    · refine List.mem_append_left _ (List.mem_map.2 ⟨q, hq, ?_⟩)
      split at hd
      · injection hd with hd; rw [if_pos (by omega)]; omega
      · split at hd
        · injection hd with hd; rw [if_neg (by omega)]; omega
        · cases hd
    · refine List.mem_append_right _ (List.mem_singleton.2 ?_)
      have hin : InS us (d - 1) := ⟨q, hq, by omega, by omega⟩
      split at hd
      · injection hd with hd
        exact absurd ⟨d - 1, hin, by unfold gF; rw [if_pos (by omega)]; congr 1; omega⟩ hnb
      · split at hd
        · injection hd with hd
          by_cases e2 : m.b ≤ d - 1
          · refine absurd ⟨d - 1, hin, ?_⟩ hnb
            unfold gF
            rw [if_neg (by omega), if_pos e2]
            congr 1
            omega
          · omega
        · cases hd
  simpa using h1
theorem keep_pieces {ms : List Mov} (hm : ∀ j, j < ms.length → MvOk (mvAt ms j)) {l : List (Int × Int)} (hl : Norm l) (hK : InK 10000000 l) : ∀ k, k ≤ ms.length → ∃ us, Norm us ∧ (∀ c, InS us c ↔ InS (keepTo ms l k) c) ∧ us.length ≤ l.length + k
  | 0, _ => ⟨l, hl, fun _ => Iff.rfl, Nat.le_refl _⟩
  | k + 1, hk => by
    obtain ⟨us, n1, n2, n3⟩ := keep_pieces hm hl hK k (by omega)
    obtain ⟨a, _, _⟩ := keep_inv hm hl.1 hK (k + 1) hk
    obtain ⟨vs, m1, m2⟩ := norm_of a
    refine ⟨vs, m1, m2, ?_⟩
    have := step_len (m := mvAt ms k) (hm k (by omega)).1.2.1 (us := us) m1 fun c => by
      rw [m2 c]
      simp only [keepTo]
      rw [str_inS (hm k (by omega)).1.2.1 _ (Nat.le_refl _)]
      constructor
      · rintro ⟨d, h1, h2⟩; exact ⟨d, (n2 d).2 (inS_at.2 h1), h2⟩
      · rintro ⟨d, h1, h2⟩; exact ⟨d, inS_at.1 ((n2 d).1 h1), h2⟩
    omega
theorem keep_count {ms : List Mov} (hm : ∀ j, j < ms.length → MvOk (mvAt ms j)) {l us : List (Int × Int)} (hl : Norm l) (hK : InK 10000000 l) (hu : Norm us) (h : ∀ c, InS us c ↔ InS (keepTo ms l ms.length) c) : us.length ≤ l.length + ms.length := by
  obtain ⟨vs, n1, n2, n3⟩ := keep_pieces hm hl hK _ (Nat.le_refl _)
  rw [norm_unique hu n1 fun c => by rw [h c, n2 c]]
  exact n3
/-- Carried stretches have no more metres. -/
theorem met_run {ms : List Mov} (hm : ∀ j, j < ms.length → MvOk (mvAt ms j)) {x y : List (Int × Int)} (hx : Full x) (hK : InK 10000000 x) (hy : Norm y) (h : ∀ c, InS y c ↔ ∃ d, InS x d ∧ runL gF ms d = some c) : met y ≤ met x := by
  obtain ⟨a, _, b⟩ := keep_inv hm hx hK _ (Nat.le_refl _)
  have := met_norm hy a fun c => by rw [h c, keep_all hm]
  omega
end Go.Proofs.YtdmmcdbojmalfaaGreat
