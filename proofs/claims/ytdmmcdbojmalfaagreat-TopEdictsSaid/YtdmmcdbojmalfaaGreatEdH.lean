/- TopEdicts: distances, metres, posts, what is asked. -/
import Derived.Test.YtdmmcdbojmalfaaGreatEdG
namespace Go.Proofs.YtdmmcdbojmalfaaGreat
open Go.RowKit
/-- rule.distance -/
def disF (L dir c : Int) : Int := if dir = 1 then c else L - c
def metF (L dir k : Int) : Int := if dir = 1 then k else L - 1 - k
set_option maxRecDepth 100000 in
theorem ldist (L : Int) (Jv : Value) (dir c : Int) (w : World) (h1 : -1000000 ≤ L ∧ L ≤ 1000000) (h2 : -1000000 ≤ c ∧ c ≤ 1000000) : Calls Tryz.prog 29 #[.agg #[.int .i64 L, Jv], .int .i64 dir, .int .i64 c] w fun e w' => e = .returned (.int .i64 (disF L dir c)) ∧ w' = w.alloc (.cells #[.int .i64 L, Jv] 32) := by
  unfold disF
  by_cases hd : dir = 1
  · subst hd
    rw [if_pos rfl]
    go_enter Tryz.func29, Tryz.ntmps29
    go_wp2
    go_ret
    exact ⟨rfl, rfl⟩
  · have e1 : (dir == 1) = false := by simp [hd]
    rw [if_neg hd]
    clear hd
    go_enter Tryz.func29, Tryz.ntmps29
    go_wp2
    go_ret
    exact ⟨rfl, rfl⟩
set_option maxRecDepth 100000 in
theorem lmetre (L : Int) (Jv : Value) (dir c : Int) (w : World) (h1 : -1000000 ≤ L ∧ L ≤ 1000000) (h2 : -1000000 ≤ c ∧ c ≤ 1000000) : Calls Tryz.prog 31 #[.agg #[.int .i64 L, Jv], .int .i64 dir, .int .i64 c] w fun e w' => e = .returned (.int .i64 (metF L dir c)) ∧ w' = w.alloc (.cells #[.int .i64 L, Jv] 32) := by
  unfold metF
  by_cases hd : dir = 1
  · subst hd
    rw [if_pos rfl]
    go_enter Tryz.func31, Tryz.ntmps31
    go_wp2
    go_ret
    exact ⟨rfl, rfl⟩
  · have e1 : (dir == 1) = false := by simp [hd]
    rw [if_neg hd]
    clear hd
    go_enter Tryz.func31, Tryz.ntmps31
    go_wp2
    go_ret
    exact ⟨rfl, rfl⟩
theorem at0_mem {xs : List Int} {j : Nat} (h : j < xs.length) : at0 xs j ∈ xs := by simp [at0, h]
set_option maxRecDepth 100000 in
set_option maxHeartbeats 1000000 in
theorem lIndex (A : Option Addr) (c B : Nat) (J : List Int) (z : Int) (w : World) (h : Ints w B A J) (hn : J.length ≤ 9223372036854775807) :
    Calls Tryz.prog 50 #[.slice A J.length c, .int .i64 z] w fun e w' => (∃ i : Int, e = .returned (.int .i64 i) ∧ (0 ≤ i ↔ z ∈ J)) ∧ w' = w := by
  go_enter Tryz.func50, Tryz.ntmps50
  go_wp2_with fail
  obtain ⟨w1, rfl⟩ : ∃ w1 : World, w1 = w := ⟨_, rfl⟩
  go_loopw [8] (fun i wr => ∃ k : Nat, k ≤ J.length ∧ i = .int .i64 k ∧ wr = w1 ∧ Hid (∀ j, j < k → at0 J j ≠ z)) (fun i _ => J.length - (intOf i).toNat)
  case atStart => exact ⟨0, Nat.zero_le _, rfl, rfl, hid_none⟩
  case round =>
    obtain ⟨k, hk, rfl, rfl, HS⟩ := hrel
    by_cases hlt : k < J.length
    · obtain ⟨b, o, rfl, hbl, hcc⟩ := h.at_ hlt
      have y1 := hcc k hlt
      clear hcc
      by_cases hz : z = at0 J k
      · have e1 : (z == at0 J k) = true := by simp [hz]
        have HM : Hid (z ∈ J) := Lib.hid (by rw [hz]; exact at0_mem hlt)
        clear hz
        go_wp2_with fail
        go_ret
        exact ⟨⟨_, rfl, ⟨fun _ => HM.out, fun _ => by omega⟩⟩, rfl⟩
      · have e1 : (z == at0 J k) = false := by simp [hz]
        have HS2 := hid_more HS (show at0 J k ≠ z from fun e => hz e.symm)
        clear hz
        go_wp2_with fail
        exact ⟨⟨k + 1, by omega, by go_num, by first | rfl | trivial, HS2⟩, by simp [intOf]; omega⟩
    · obtain rfl : k = J.length := by omega
      have HM : Hid (¬ z ∈ J) := Lib.hid fun hz => by
        obtain ⟨j, hj, e⟩ := List.getElem_of_mem hz
        exact HS.out j hj (by rw [← e]; simp [at0, hj])
      go_wp2_with fail
      go_ret
      exact ⟨⟨_, rfl, ⟨fun h => absurd h (by decide), fun h => absurd h HM.out⟩⟩, rfl⟩
set_option maxRecDepth 100000 in
theorem lContains (A : Option Addr) (c B : Nat) (J : List Int) (z : Int) (w : World) (h : Ints w B A J) (hn : J.length ≤ 9223372036854775807) :
    Calls Tryz.prog 30 #[.slice A J.length c, .int .i64 z] w fun e w' => e = .returned (.bool (decide (z ∈ J))) ∧ w' = w := by
  have hi := lIndex A c B J z w h hn
  go_enter Tryz.func30, Tryz.ntmps30
  go_wp2_with fail
  refine hi.mono ?_
  rintro e w' ⟨⟨i, rfl, hiff⟩, rfl⟩
  by_cases hz : z ∈ J
  · have h0 := hiff.2 hz
    have HD := Lib.hid (decide_eq_true hz)
    clear hi hiff hz
    go_wp2_with fail
    go_ret
    exact ⟨by rw [HD.out]; rfl, rfl⟩
  · have h0 : ¬ 0 ≤ i := fun hh => hz (hiff.1 hh)
    have HD := Lib.hid (decide_eq_false hz)
    clear hi hiff hz
    go_wp2_with fail
    go_ret
    exact ⟨by rw [HD.out]; exact ret_bool (decide_eq_false (by omega)), rfl⟩
/-- rule.post -/
def postK (topic v : Int) : Int := if topic = 1 then (if v = 0 then 2 else 1) else (if v = 0 then 4 else 3)
def postV (topic v : Int) : Int := if topic = 1 then v else 0
def postG (num topic v chain dir hour : Int) : Sgn := ⟨num, postK topic v, postV topic v, chain, dir, topic, hour, hour + 1⟩
def aggS (s : Sgn) : Value := .agg #[.int .i64 s.num, .int .i64 s.kind, .int .i64 s.val, .int .i64 s.chain, .int .i64 s.dir, .int .i64 s.rank, .int .i64 s.up, .int .i64 s.down, .slice none 0 0]
theorem results_cell {fn : Func} {p : Tmp} {ty : TypeId} (h : fn.results = #[.cell p ty]) (tmps : Array Value) (P : Program) (w : World) :
    (results fn tmps).run P w = ((asAddr (tmps.getD p undef)).run P w).andThen fun a w₁ => (loadVar ty a).run P w₁ := by
  simp only [results, h]
  simp [Sem.run_bind, Result.andThen]
set_option maxRecDepth 100000 in
set_option maxHeartbeats 2000000 in
theorem lpost (num topic v chain dir hour : Int) (w : World) (ht : topic = 1 ∨ topic = 2) (hh : 0 ≤ hour ∧ hour ≤ 10000000) :
    Calls Tryz.prog 32 #[.int .i64 num, .int .i64 topic, .int .i64 v, .int .i64 chain, .int .i64 dir, .int .i64 hour] w fun e w' => e = .returned (aggS (postG num topic v chain dir hour)) ∧ Below w.heap.size w w' := by
  unfold postG aggS postK postV
  have h1 : hour + 1 ≤ 10000001 := by omega
  rcases ht with rfl | rfl
  · by_cases hv : v = 0
    · subst hv
      show Calls Tryz.prog 32 _ w fun e w' => e = .returned (.agg #[.int .i64 num, .int .i64 2, .int .i64 0, .int .i64 chain, .int .i64 dir, .int .i64 1, .int .i64 hour, .int .i64 (hour + 1), .slice none 0 0]) ∧ Below w.heap.size w w'
      go_enter Tryz.func32, Tryz.ntmps32
      go_wp2
      exact bodyPost_ret (v := .agg #[.int .i64 num, .int .i64 2, .int .i64 0, .int .i64 chain, .int .i64 dir, .int .i64 1, .int .i64 hour, .int .i64 (hour + 1), .slice none 0 0]) (by rw [results_cell (by rfl)]; simp [go_sem]) rfl ⟨rfl, ((Below.refl _ _).alloc (Nat.le_refl _) _).alloc (by simp) _⟩
    · have e1 : (v != 0) = true := by simp [hv]
      have e2 : (v == 0) = false := by simp [hv]
      rw [if_pos rfl, if_neg hv, if_pos rfl]
      clear hv
      go_enter Tryz.func32, Tryz.ntmps32
      go_wp2
      exact bodyPost_ret (v := .agg #[.int .i64 num, .int .i64 1, .int .i64 v, .int .i64 chain, .int .i64 dir, .int .i64 1, .int .i64 hour, .int .i64 (hour + 1), .slice none 0 0]) (by rw [results_cell (by rfl)]; simp [go_sem]) rfl ⟨rfl, ((Below.refl _ _).alloc (Nat.le_refl _) _).alloc (by simp) _⟩
  · rw [if_neg (show ¬ (2 : Int) = 1 by decide), if_neg (show ¬ (2 : Int) = 1 by decide)]
    by_cases hv : v = 0
    · subst hv
      rw [if_pos rfl]
      go_enter Tryz.func32, Tryz.ntmps32
      go_wp2
      exact bodyPost_ret (v := .agg #[.int .i64 num, .int .i64 4, .int .i64 0, .int .i64 chain, .int .i64 dir, .int .i64 2, .int .i64 hour, .int .i64 (hour + 1), .slice none 0 0]) (by rw [results_cell (by rfl)]; simp [go_sem]) rfl ⟨rfl, ((Below.refl _ _).alloc (Nat.le_refl _) _).alloc (by simp) _⟩
    · have e1 : (v != 0) = true := by simp [hv]
      have e2 : (v == 0) = false := by simp [hv]
      rw [if_neg hv]
      clear hv
      go_enter Tryz.func32, Tryz.ntmps32
      go_wp2
      exact bodyPost_ret (v := .agg #[.int .i64 num, .int .i64 3, .int .i64 0, .int .i64 chain, .int .i64 dir, .int .i64 2, .int .i64 hour, .int .i64 (hour + 1), .slice none 0 0]) (by rw [results_cell (by rfl)]; simp [go_sem]) rfl ⟨rfl, ((Below.refl _ _).alloc (Nat.le_refl _) _).alloc (by simp) _⟩
end Go.Proofs.YtdmmcdbojmalfaaGreat
