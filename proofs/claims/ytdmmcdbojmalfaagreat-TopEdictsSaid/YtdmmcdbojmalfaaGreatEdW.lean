/- TopEdicts: rows of values in memory, and the small functions of package rule. -/
import Derived.Test.YtdmmcdbojmalfaaGreatBase
import Derived.Test.YtdmmcdbojmalfaaGreatLen
namespace Go.Proofs.YtdmmcdbojmalfaaGreat
open Go.RowKit
structure Edc where
  num : Int
  topic : Int
  val : Int
  dir : Int
  fr : Int
  til : Int
  st : Int
  en : Int
/-- The slice address A reads as the things xs, K cells each, in blocks below B. -/
def RowsK {α : Type} (w : World) (B : Nat) (A : Option Addr) (K : Nat) (enc : α → List Value) (xs : List α) : Prop :=
  xs = [] ∨ ∃ b off, A = some ⟨b, off, none⟩ ∧ b < B ∧ ∀ j (hj : j < xs.length) (i : Nat) (v : Value), (enc xs[j])[i]? = some v → w.cell? ⟨b, off + j * K + i, none⟩ = some v
section
variable {α : Type} {w w' : World} {B B' K : Nat} {A : Option Addr} {enc : α → List Value} {xs : List α}
theorem RowsK.keep (h : RowsK w B A K enc xs) (hk : ∀ p : Addr, p.block < B → w'.cell? p = w.cell? p) : RowsK w' B A K enc xs := by
  rcases h with h | ⟨b, off, hA, hb, hc⟩
  · exact .inl h
  · exact .inr ⟨b, off, hA, hb, fun j hj i v hv => (hk _ hb).trans (hc j hj i v hv)⟩
theorem RowsK.more (h : RowsK w B A K enc xs) (hB : B ≤ B') : RowsK w B' A K enc xs := by
  rcases h with h | ⟨b, off, hA, hb, hc⟩
  · exact .inl h
  · exact .inr ⟨b, off, hA, by omega, hc⟩
theorem RowsK.below (h : RowsK w B A K enc xs) (hb : Below B w w') : RowsK w' B A K enc xs := h.keep fun _ hp => hb.cell hp
theorem RowsK.at_ (h : RowsK w B A K enc xs) {k : Nat} (hk : k < xs.length) : ∃ b off, A = some ⟨b, off, none⟩ ∧ b < B ∧ ∀ j (hj : j < xs.length) (i : Nat) (v : Value), (enc xs[j])[i]? = some v → w.cell? ⟨b, off + j * K + i, none⟩ = some v := by
  rcases h with rfl | h
  · simp at hk
  · exact h
theorem rows_nil : RowsK w B A K enc ([] : List α) := .inl rfl
end
theorem flat_get {α : Type} {enc : α → List Value} {K : Nat} (hK : ∀ x, (enc x).length = K) : ∀ (xs : List α) (j : Nat) (hj : j < xs.length) (i : Nat) (v : Value), (enc xs[j])[i]? = some v → (xs.flatMap enc)[j * K + i]? = some v
  | x :: xs, 0, _, i, v, h => by
    have hi : i < (enc x).length := by
      rcases Nat.lt_or_ge i (enc x).length with h1 | h1
      · exact h1
      · rw [List.getElem_cons_zero, List.getElem?_eq_none h1] at h; cases h
    rw [List.flatMap_cons, Nat.zero_mul, Nat.zero_add, List.getElem?_append_left hi]
    exact h
  | x :: xs, j + 1, hj, i, v, h => by
    have := flat_get hK xs j (by simpa using hj) i v (by simpa using h)
    have hm : (j + 1) * K = j * K + K := Nat.succ_mul j K
    rw [List.flatMap_cons, List.getElem?_append_right (by rw [hK, hm]; omega), hK]
    rw [show (j + 1) * K + i - K = j * K + i by omega]
    exact this
theorem flat_len {α : Type} {enc : α → List Value} {K : Nat} (hK : ∀ x, (enc x).length = K) : ∀ xs : List α, (xs.flatMap enc).length = xs.length * K
  | [] => by simp
  | x :: xs => by rw [List.flatMap_cons, List.length_append, hK, flat_len hK xs, List.length_cons, Nat.succ_mul]; omega
/-- A row that the call made, as things. -/
theorem own_rows {α : Type} {enc : α → List Value} {K : Nat} (hK : ∀ x, (enc x).length = K) {w : World} {base e n : Nat} {v : Value} {xs : List α} (h : w.ownsRow base e K v n (xs.flatMap enc)) (hK0 : 0 < K) :
    xs.length = n ∧ ∃ (A : Option Addr) (c : Nat), v = .slice A n c ∧ RowsK w w.heap.size A K enc xs := by
  have hl : xs.length = n := by have h1 := h.1; rw [flat_len hK] at h1; exact Nat.eq_of_mul_eq_mul_right hK0 h1
  refine ⟨hl, ?_⟩
  rcases Nat.eq_zero_or_pos n with h0 | h0
  · rcases h.2 with ⟨rfl, hn⟩ | ⟨g, cap, cur, rfl, _⟩
    · exact ⟨none, 0, by rw [h0], .inl (List.eq_nil_of_length_eq_zero (by omega))⟩
    · exact ⟨_, cap, rfl, .inl (List.eq_nil_of_length_eq_zero (by omega))⟩
  · obtain ⟨g, cap, rfl, _, hg⟩ := h.form h0
    refine ⟨_, cap, rfl, .inr ⟨g, 0, rfl, hg, fun j hj i u hu => ?_⟩⟩
    have e1 := flat_get hK xs j hj i u hu
    have hlt : j * K + i < n * K := by
      have h2 : j * K + i < (xs.flatMap enc).length := by
        rcases Nat.lt_or_ge (j * K + i) (xs.flatMap enc).length with h3 | h3
        · exact h3
        · rw [List.getElem?_eq_none h3] at e1; cases e1
      rw [flat_len hK, hl] at h2
      exact h2
    rw [Nat.zero_add, h.cellAt _ hlt]
    exact e1
theorem flat_one {α : Type} {enc : α → List Value} (xs : List α) (x : α) : (xs ++ [x]).flatMap enc = xs.flatMap enc ++ enc x := by simp
/-- rule.within -/
def hrsB (a b : Int) : Bool := decide (0 ≤ a) && decide (a < b) && decide (b ≤ 10000001)
set_option maxRecDepth 100000 in
theorem rwithin (a b c : Int) (w : World) : Calls Tryz.prog 20 #[.int .i64 a, .int .i64 b, .int .i64 c] w fun e w' => e = .returned (.bool (inB a b c)) ∧ w = w' := by
  by_cases h1 : a ≤ b
  · by_cases h2 : b ≤ c
    · rw [inB_t h1 h2]
      go_enter Tryz.func20, Tryz.ntmps20
      go_wp2
      go_ret
      exact ⟨rfl, rfl⟩
    · rw [inB_f (fun h => h2 h.2)]
      go_enter Tryz.func20, Tryz.ntmps20
      go_wp2
      go_ret
      exact ⟨rfl, rfl⟩
  · rw [inB_f (fun h => h1 h.1)]
    go_enter Tryz.func20, Tryz.ntmps20
    go_wp2
    go_ret
    exact ⟨rfl, rfl⟩
theorem lwithT {a b c : Int} (h : a ≤ b ∧ b ≤ c) (w : World) : Calls Tryz.prog 20 #[.int .i64 a, .int .i64 b, .int .i64 c] w fun e w' => e = .returned (.bool true) ∧ w = w' := by
  have := rwithin a b c w
  rwa [inB_t h.1 h.2] at this
theorem lwithF {a b c : Int} (h : ¬ (a ≤ b ∧ b ≤ c)) (w : World) : Calls Tryz.prog 20 #[.int .i64 a, .int .i64 b, .int .i64 c] w fun e w' => e = .returned (.bool false) ∧ w = w' := by
  have := rwithin a b c w
  rwa [inB_f h] at this
set_option maxRecDepth 100000 in
theorem ldirection (d : Int) (w : World) : Calls Tryz.prog 44 #[.int .i64 d] w fun e w' => e = .returned (.bool (dirB d)) ∧ w = w' := by
  by_cases h1 : d = 1
  · subst h1
    go_enter Tryz.func44, Tryz.ntmps44
    go_wp2
    go_ret
    exact ⟨rfl, rfl⟩
  · by_cases h2 : d = -1
    · subst h2
      go_enter Tryz.func44, Tryz.ntmps44
      go_wp2
      go_ret
      exact ⟨rfl, rfl⟩
    · have e : dirB d = false := by unfold dirB; rw [decide_eq_false h1, decide_eq_false h2]; rfl
      rw [e]
      have h1' : (d == 1) = false := by simp [h1]
      have h2' : (d == -1) = false := by simp [h2]
      clear h1 h2 e
      go_enter Tryz.func44, Tryz.ntmps44
      go_wp2
      go_ret
      exact ⟨rfl, rfl⟩
set_option maxRecDepth 100000 in
theorem lhours (a b : Int) (w : World) : Calls Tryz.prog 45 #[.int .i64 a, .int .i64 b] w fun e w' => e = .returned (.bool (hrsB a b)) ∧ w = w' := by
  unfold hrsB
  by_cases h1 : 0 ≤ a
  · by_cases h2 : a < b
    · by_cases h3 : b ≤ 10000001
      · rw [decide_eq_true h1, decide_eq_true h2, decide_eq_true h3]
        go_enter Tryz.func45, Tryz.ntmps45
        go_wp2
        go_ret
        exact ⟨rfl, rfl⟩
      · rw [decide_eq_true h1, decide_eq_true h2, decide_eq_false h3]
        go_enter Tryz.func45, Tryz.ntmps45
        go_wp2
        go_ret
        exact ⟨rfl, rfl⟩
    · rw [decide_eq_true h1, decide_eq_false h2]
      go_enter Tryz.func45, Tryz.ntmps45
      go_wp2
      go_ret
      exact ⟨rfl, rfl⟩
  · rw [decide_eq_false h1]
    go_enter Tryz.func45, Tryz.ntmps45
    go_wp2
    go_ret
    exact ⟨rfl, rfl⟩
end Go.Proofs.YtdmmcdbojmalfaaGreat
/- TopEdicts: which lines and edicts are valid. -/
namespace Go.Proofs.YtdmmcdbojmalfaaGreat
open Go.RowKit
def VLine (L : Int) (J : List Int) : Prop := (1 ≤ L ∧ L ≤ 100000) ∧ J.length ≤ 50 ∧ ∀ k, k < J.length → (1 ≤ at0 J k ∧ at0 J k ≤ L - 1) ∧ (0 < k → at0 J (k - 1) < at0 J k)
/-- A test whose answer is whether p. -/
def Tells (p : Prop) (w : World) (e : Ending) (w' : World) : Prop := ∃ b : Bool, e = .returned (.bool b) ∧ (b = true ↔ p) ∧ Below w.heap.size w w'
theorem tells_t {p : Prop} {w w' : World} (hp : p) (hb : Below w.heap.size w w') : Tells p w (.returned (.bool true)) w' := ⟨true, rfl, ⟨fun _ => hp, fun _ => rfl⟩, hb⟩
theorem tells_f {p : Prop} {w w' : World} (hp : ¬ p) (hb : Below w.heap.size w w') : Tells p w (.returned (.bool false)) w' := ⟨false, rfl, ⟨fun h => (by cases h), fun h => absurd h hp⟩, hb⟩
set_option maxRecDepth 100000 in
set_option maxHeartbeats 2000000 in
theorem lVLine (A : Option Addr) (c B : Nat) (L : Int) (J : List Int) (w : World) (h : Ints w B A J) (hB : B ≤ w.heap.size) (hn : J.length ≤ 9223372036854775807) :
    Calls Tryz.prog 7 #[.agg #[.int .i64 L, .slice A J.length c]] w (Tells (VLine L J) w) := by
  have hb : Below w.heap.size w (w.alloc (.cells #[.int .i64 L, .slice A J.length c] 32)) := (Below.refl _ _).alloc (Nat.le_refl _) _
  have hJ := (h.more hB).below hb
  have q0 : (w.alloc (.cells #[.int .i64 L, .slice A J.length c] 32)).cell? ⟨w.heap.size, 0, none⟩ = some (.int .i64 L) := by simp [go_sem]
  have q1 : (w.alloc (.cells #[.int .i64 L, .slice A J.length c] 32)).cell? ⟨w.heap.size, 1, none⟩ = some (.slice A J.length c) := by simp [go_sem]
  obtain ⟨W, hW⟩ : ∃ W, w.heap.size = W := ⟨_, rfl⟩
  rw [hW] at q0 q1 hb hJ
  have HB : Hid (Below W w (w.alloc (.cells #[.int .i64 L, .slice A J.length c] 32))) := Lib.hid hb
  clear h hB hb
  go_enter Tryz.func7, Tryz.ntmps7
  by_cases h1 : 1 ≤ L ∧ L ≤ 100000
  rotate_left
  · go_wp2_with (first
      | (go_at_call 20; refine (lwithF h1 _).mono ?_; rintro e w' ⟨rfl, rfl⟩)
      | fail)
    go_ret
    exact tells_f (fun hh => h1 hh.1) (by rw [hW]; exact HB.out)
  by_cases h2 : J.length ≤ 50
  rotate_left
  · have h2' : (50 : Int) < (J.length : Int) := by omega
    go_wp2_with (first
      | (go_at_call 20; refine (lwithT h1 _).mono ?_; rintro e w' ⟨rfl, rfl⟩)
      | fail)
    go_ret
    exact tells_f (fun hh => h2 hh.2.1) (by rw [hW]; exact HB.out)
  have h2' : ¬ (50 : Int) < (J.length : Int) := by omega
  go_wp2_with (first
    | (go_at_call 20; refine (lwithT h1 _).mono ?_; rintro e w' ⟨rfl, rfl⟩)
    | fail)
  generalize hw1 : w.alloc (.cells #[.int .i64 L, .slice A J.length c] 32) = w1 at *
  clear hw1
  go_loopw [18] (fun i wr => ∃ k : Nat, k ≤ J.length ∧ i = .int .i64 k ∧ wr = w1 ∧ Hid (∀ j, j < k → (1 ≤ at0 J j ∧ at0 J j ≤ L - 1) ∧ (0 < j → at0 J (j - 1) < at0 J j))) (fun i _ => J.length - (intOf i).toNat)
  case atStart => exact ⟨0, Nat.zero_le _, rfl, rfl, hid_none⟩
  case round =>
    obtain ⟨k, hk, rfl, rfl, HS⟩ := hrel
    by_cases hlt : k < J.length
    · obtain ⟨b, o, rfl, hbl, hcc⟩ := hJ.at_ hlt
      have y1 := hcc k hlt
      by_cases a1 : 1 ≤ at0 J k ∧ at0 J k ≤ L - 1
      rotate_left
      · have HN : Hid (¬ VLine L J) := Lib.hid fun hh => a1 (hh.2.2 k hlt).1
        clear hcc
        go_wp2_with (first
          | (go_at_call 20; refine (lwithF a1 _).mono ?_; rintro e w' ⟨rfl, rfl⟩)
          | fail)
        go_ret
        exact tells_f HN.out (by rw [hW]; exact HB.out)
      cases k with
      | zero =>
        have HS2 := hid_more HS (show (1 ≤ at0 J 0 ∧ at0 J 0 ≤ L - 1) ∧ (0 < 0 → at0 J (0 - 1) < at0 J 0) from ⟨a1, fun hh => absurd hh (Nat.lt_irrefl _)⟩)
        simp only [Nat.add_zero] at y1
        clear hcc
        go_wp2_with (first
          | (go_at_call 20; refine (lwithT a1 _).mono ?_; rintro e w' ⟨rfl, rfl⟩)
          | fail)
        exact ⟨⟨1, by omega, by first | rfl | go_num, by first | rfl | trivial, HS2⟩, by simp [intOf]; omega⟩
      | succ m =>
        have y0 := hcc m (by omega)
        have hm0 : (0 : Int) < (m : Int) + 1 := by omega
        have hm1 : (m : Int) < (J.length : Int) := by omega
        have hm2 : m < J.length := by omega
        clear hcc
        by_cases a2 : at0 J m < at0 J (m + 1)
        · have HS2 := hid_more HS (show (1 ≤ at0 J (m + 1) ∧ at0 J (m + 1) ≤ L - 1) ∧ (0 < m + 1 → at0 J (m + 1 - 1) < at0 J (m + 1)) from ⟨a1, fun _ => a2⟩)
          go_wp2_with (first
            | (go_at_call 20; refine (lwithT a1 _).mono ?_; rintro e w' ⟨rfl, rfl⟩)
            | fail)
          exact ⟨⟨m + 1 + 1, by omega, by go_num, by first | rfl | trivial, HS2⟩, by simp [intOf]; omega⟩
        · have HN : Hid (¬ VLine L J) := Lib.hid fun hh => a2 ((hh.2.2 (m + 1) hlt).2 (by omega))
          go_wp2_with (first
            | (go_at_call 20; refine (lwithT a1 _).mono ?_; rintro e w' ⟨rfl, rfl⟩)
            | fail)
          go_ret
          exact tells_f HN.out (by rw [hW]; exact HB.out)
    · obtain rfl : k = J.length := by omega
      have HV : Hid (VLine L J) := Lib.hid ⟨h1, h2, HS.out⟩
      go_wp2_with fail
      go_ret
      exact tells_t HV.out (by rw [hW]; exact HB.out)
end Go.Proofs.YtdmmcdbojmalfaaGreat
/- TopEdicts: validEdict. -/
namespace Go.Proofs.YtdmmcdbojmalfaaGreat
open Go.RowKit
def encE (x : Edc) : List Value := [.int .i64 x.num, .int .i64 x.topic, .int .i64 x.val, .int .i64 x.dir, .int .i64 x.fr, .int .i64 x.til, .int .i64 x.st, .int .i64 x.en]
theorem encE_len (x : Edc) : (encE x).length = 8 := rfl
def aggE (x : Edc) : Value := .agg #[.int .i64 x.num, .int .i64 x.topic, .int .i64 x.val, .int .i64 x.dir, .int .i64 x.fr, .int .i64 x.til, .int .i64 x.st, .int .i64 x.en]
def VEd (L : Int) (x : Edc) : Prop := inB 1 x.num 1000000000 = true ∧ dirB x.dir = true ∧ ¬ x.fr < 0 ∧ x.fr < x.til ∧ ¬ L < x.til ∧ hrsB x.st x.en = true ∧ ((x.topic = 1 ∧ inB 10 x.val 200 = true) ∨ (x.topic = 2 ∧ x.val = 1))
set_option maxRecDepth 100000 in
set_option maxHeartbeats 4000000 in
theorem lVEd (L : Int) (Jv : Value) (x : Edc) (w : World) :
    Calls Tryz.prog 21 #[.agg #[.int .i64 L, Jv], .agg #[.int .i64 x.num, .int .i64 x.topic, .int .i64 x.val, .int .i64 x.dir, .int .i64 x.fr, .int .i64 x.til, .int .i64 x.st, .int .i64 x.en]] w (Tells (VEd L x) w) := by
  have hb : Below w.heap.size w ((w.alloc (.cells #[.int .i64 L, Jv] 32)).alloc (.cells #[.int .i64 x.num, .int .i64 x.topic, .int .i64 x.val, .int .i64 x.dir, .int .i64 x.fr, .int .i64 x.til, .int .i64 x.st, .int .i64 x.en] 65)) := ((Below.refl _ _).alloc (Nat.le_refl _) _).alloc (by simp) _
  have HB := Lib.hid hb
  clear hb
  go_enter Tryz.func21, Tryz.ntmps21
  by_cases a1 : inB 1 x.num 1000000000 = true
  rotate_left
  · have a1' : inB 1 x.num 1000000000 = false := by simpa using a1
    have HN : Hid (¬ VEd L x) := Lib.hid fun h => a1 h.1
    clear a1
    go_wp2_with (first
      | (go_at_call 20; refine (rwithin _ _ _ _).mono ?_; rintro e w' ⟨rfl, rfl⟩)
      | (go_at_call 44; refine (ldirection _ _).mono ?_; rintro e w' ⟨rfl, rfl⟩)
      | (go_at_call 45; refine (lhours _ _ _).mono ?_; rintro e w' ⟨rfl, rfl⟩)
      | fail)
    go_ret
    exact tells_f HN.out HB.out
  by_cases a2 : dirB x.dir = true
  rotate_left
  · have a2' : dirB x.dir = false := by simpa using a2
    have HN : Hid (¬ VEd L x) := Lib.hid fun h => a2 h.2.1
    clear a2
    go_wp2_with (first
      | (go_at_call 20; refine (rwithin _ _ _ _).mono ?_; rintro e w' ⟨rfl, rfl⟩)
      | (go_at_call 44; refine (ldirection _ _).mono ?_; rintro e w' ⟨rfl, rfl⟩)
      | (go_at_call 45; refine (lhours _ _ _).mono ?_; rintro e w' ⟨rfl, rfl⟩)
      | fail)
    go_ret
    exact tells_f HN.out HB.out
  by_cases a3 : ¬ x.fr < 0
  rotate_left
  · have HN : Hid (¬ VEd L x) := Lib.hid fun h => a3 h.2.2.1
    go_wp2_with (first
      | (go_at_call 20; refine (rwithin _ _ _ _).mono ?_; rintro e w' ⟨rfl, rfl⟩)
      | (go_at_call 44; refine (ldirection _ _).mono ?_; rintro e w' ⟨rfl, rfl⟩)
      | (go_at_call 45; refine (lhours _ _ _).mono ?_; rintro e w' ⟨rfl, rfl⟩)
      | fail)
    go_ret
    exact tells_f HN.out HB.out
  by_cases a4 : x.fr < x.til
  rotate_left
  · have HN : Hid (¬ VEd L x) := Lib.hid fun h => a4 h.2.2.2.1
    go_wp2_with (first
      | (go_at_call 20; refine (rwithin _ _ _ _).mono ?_; rintro e w' ⟨rfl, rfl⟩)
      | (go_at_call 44; refine (ldirection _ _).mono ?_; rintro e w' ⟨rfl, rfl⟩)
      | (go_at_call 45; refine (lhours _ _ _).mono ?_; rintro e w' ⟨rfl, rfl⟩)
      | fail)
    go_ret
    exact tells_f HN.out HB.out
  by_cases a5 : ¬ L < x.til
  rotate_left
  · have HN : Hid (¬ VEd L x) := Lib.hid fun h => a5 h.2.2.2.2.1
    go_wp2_with (first
      | (go_at_call 20; refine (rwithin _ _ _ _).mono ?_; rintro e w' ⟨rfl, rfl⟩)
      | (go_at_call 44; refine (ldirection _ _).mono ?_; rintro e w' ⟨rfl, rfl⟩)
      | (go_at_call 45; refine (lhours _ _ _).mono ?_; rintro e w' ⟨rfl, rfl⟩)
      | fail)
    go_ret
    exact tells_f HN.out HB.out
  by_cases a6 : hrsB x.st x.en = true
  rotate_left
  · have a6' : hrsB x.st x.en = false := by simpa using a6
    have HN : Hid (¬ VEd L x) := Lib.hid fun h => a6 h.2.2.2.2.2.1
    clear a6
    go_wp2_with (first
      | (go_at_call 20; refine (rwithin _ _ _ _).mono ?_; rintro e w' ⟨rfl, rfl⟩)
      | (go_at_call 44; refine (ldirection _ _).mono ?_; rintro e w' ⟨rfl, rfl⟩)
      | (go_at_call 45; refine (lhours _ _ _).mono ?_; rintro e w' ⟨rfl, rfl⟩)
      | fail)
    go_ret
    exact tells_f HN.out HB.out
  by_cases b1 : x.topic = 1
  · have e1 : (x.topic == 1) = true := by simp [b1]
    have e2 : (x.topic == 2) = false := by simp [b1]
    have n2 : Hid (¬ x.topic = 2) := Lib.hid (by rw [b1]; decide)
    have HB1 := Lib.hid b1
    clear b1
    by_cases b2 : inB 10 x.val 200 = true
    · have HV : Hid (VEd L x) := Lib.hid ⟨a1, a2, a3, a4, a5, a6, .inl ⟨HB1.out, b2⟩⟩
      go_wp2_with (first
        | (go_at_call 20; refine (rwithin _ _ _ _).mono ?_; rintro e w' ⟨rfl, rfl⟩)
        | (go_at_call 44; refine (ldirection _ _).mono ?_; rintro e w' ⟨rfl, rfl⟩)
        | (go_at_call 45; refine (lhours _ _ _).mono ?_; rintro e w' ⟨rfl, rfl⟩)
        | fail)
      go_ret
      exact tells_t HV.out HB.out
    · have b2' : inB 10 x.val 200 = false := by simpa using b2
      have HN : Hid (¬ VEd L x) := Lib.hid fun h => by
        rcases h.2.2.2.2.2.2 with h | h
        · exact b2 h.2
        · exact n2.out h.1
      clear b2
      go_wp2_with (first
        | (go_at_call 20; refine (rwithin _ _ _ _).mono ?_; rintro e w' ⟨rfl, rfl⟩)
        | (go_at_call 44; refine (ldirection _ _).mono ?_; rintro e w' ⟨rfl, rfl⟩)
        | (go_at_call 45; refine (lhours _ _ _).mono ?_; rintro e w' ⟨rfl, rfl⟩)
        | fail)
      go_ret
      exact tells_f HN.out HB.out
  · have e1 : (x.topic == 1) = false := by simp [b1]
    have n1 := Lib.hid b1
    clear b1
    by_cases b3 : x.topic = 2
    · have e2 : (x.topic == 2) = true := by simp [b3]
      have HB1 := Lib.hid b3
      clear b3
      by_cases b4 : x.val = 1
      · have e3 : (x.val == 1) = true := by simp [b4]
        have HV : Hid (VEd L x) := Lib.hid ⟨a1, a2, a3, a4, a5, a6, .inr ⟨HB1.out, b4⟩⟩
        clear b4
        go_wp2_with (first
          | (go_at_call 20; refine (rwithin _ _ _ _).mono ?_; rintro e w' ⟨rfl, rfl⟩)
          | (go_at_call 44; refine (ldirection _ _).mono ?_; rintro e w' ⟨rfl, rfl⟩)
          | (go_at_call 45; refine (lhours _ _ _).mono ?_; rintro e w' ⟨rfl, rfl⟩)
          | fail)
        go_ret
        exact tells_t HV.out HB.out
      · have e3 : (x.val == 1) = false := by simp [b4]
        have HN : Hid (¬ VEd L x) := Lib.hid fun h => by
          rcases h.2.2.2.2.2.2 with h | h
          · exact n1.out h.1
          · exact b4 h.2
        clear b4
        go_wp2_with (first
          | (go_at_call 20; refine (rwithin _ _ _ _).mono ?_; rintro e w' ⟨rfl, rfl⟩)
          | (go_at_call 44; refine (ldirection _ _).mono ?_; rintro e w' ⟨rfl, rfl⟩)
          | (go_at_call 45; refine (lhours _ _ _).mono ?_; rintro e w' ⟨rfl, rfl⟩)
          | fail)
        go_ret
        exact tells_f HN.out HB.out
    · have e2 : (x.topic == 2) = false := by simp [b3]
      have HN : Hid (¬ VEd L x) := Lib.hid fun h => by
        rcases h.2.2.2.2.2.2 with h | h
        · exact n1.out h.1
        · exact b3 h.1
      clear b3
      go_wp2_with (first
        | (go_at_call 20; refine (rwithin _ _ _ _).mono ?_; rintro e w' ⟨rfl, rfl⟩)
        | (go_at_call 44; refine (ldirection _ _).mono ?_; rintro e w' ⟨rfl, rfl⟩)
        | (go_at_call 45; refine (lhours _ _ _).mono ?_; rintro e w' ⟨rfl, rfl⟩)
        | fail)
      go_ret
      exact tells_f HN.out HB.out
end Go.Proofs.YtdmmcdbojmalfaaGreat
