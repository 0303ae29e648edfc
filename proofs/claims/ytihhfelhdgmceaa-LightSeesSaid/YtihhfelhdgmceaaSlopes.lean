/- Contracts of within, slopes (both texts). -/
import Derived.Test.YtihhfelhdgmceaaPlain
namespace Go.Proofs.Ytihhfelhdgmceaa
open Go.RowKit
theorem lwithin (lo n hi : Int) (w : World) : Calls Try.prog 58 #[.int .i64 lo, .int .i64 n, .int .i64 hi] w fun e w' => e = .returned (.bool (inB lo n hi)) ∧ w = w' := by
  unfold inB
  by_cases h1 : lo ≤ n <;> by_cases h2 : n ≤ hi
  all_goals
    go_enter Try.func58, Try.ntmps58
    go_wp2
    go_ret
    exact ⟨by simp [h1, h2], rfl⟩
theorem rwithin (lo n hi : Int) (w : World) : Calls Try.prog 56 #[.int .i64 n, .int .i64 lo, .int .i64 hi] w fun e w' => e = .returned (.bool (inB lo n hi)) ∧ w = w' := by
  unfold inB
  by_cases h1 : lo ≤ n <;> by_cases h2 : n ≤ hi
  all_goals
    go_enter Try.func56, Try.ntmps56
    go_wp2
    go_ret
    exact ⟨by simp [h1, h2], rfl⟩

theorem lslopes (A : Option Addr) (c B : Nat) (xs : List Int) (w : World) (h : Ints w B A xs) (hn : xs.length ≤ 100000) :
    Calls Try.prog 61 #[.slice A xs.length c] w fun e w' => e = .returned (.bool (slopesB xs)) ∧ w = w' := by
  by_cases h26 : 2 ≤ xs.length ∧ xs.length ≤ 6
  · obtain ⟨h2, h6⟩ := h26
    obtain ⟨b, off, rfl, hb, hc⟩ := h.at_ (k := 0) (by omega)
    have HC := Lib.hid hc
    clear h hc
    go_enter Try.func61, Try.ntmps61
    go_wp2
    go_loop [15] (fun i => ∃ k : Nat, k ≤ xs.length ∧ i = .int .i64 k ∧ Hid (∀ j, j < k → slopeAt xs j)) (fun i => xs.length - (intOf i).toNat)
    case atStart => exact ⟨0, Nat.zero_le _, rfl, fun j hj => absurd hj (by omega)⟩
    case round =>
      obtain ⟨k, hk, rfl, ha⟩ := hrel
      by_cases hlt : k < xs.length
      · have hck := HC.out k hlt
        have hstep : slopeAt xs k → Hid (∀ j, j < k + 1 → slopeAt xs j) := fun hs j hj => by
          by_cases e : j = k
          · rw [e]; exact hs
          · exact ha.out j (by omega)
        have HS := Lib.hid hstep
        clear hstep
        by_cases hin : 1 ≤ at0 xs k ∧ at0 xs k ≤ 1000000
        · have hi := inB_t hin.1 hin.2
          obtain ⟨i1, i2⟩ := hin
          by_cases hk0 : 0 < k
          · have hck1 := HC.out (k - 1) (by omega)
            by_cases s4 : at0 xs (k - 1) < at0 xs k
            · go_wp2_with (go_at_call 58; refine (lwithin _ _ _ _).mono ?_; rintro e w' ⟨rfl, rfl⟩)
              exact ⟨⟨k + 1, by omega, by go_num, HS.out ⟨i1, i2, fun _ => s4⟩⟩, by simp [intOf]; omega⟩
            · go_wp2_with (go_at_call 58; refine (lwithin _ _ _ _).mono ?_; rintro e w' ⟨rfl, rfl⟩)
              go_ret
              exact ⟨ret_bool (slopesB_bad hlt fun hs => by have := hs.2.2 hk0; omega).symm, rfl⟩
          · go_wp2_with (go_at_call 58; refine (lwithin _ _ _ _).mono ?_; rintro e w' ⟨rfl, rfl⟩)
            exact ⟨⟨k + 1, by omega, by go_num, HS.out ⟨i1, i2, fun h => absurd h hk0⟩⟩, by simp [intOf]; omega⟩
        · have hi := inB_f hin
          go_wp2_with (go_at_call 58; refine (lwithin _ _ _ _).mono ?_; rintro e w' ⟨rfl, rfl⟩)
          go_ret
          exact ⟨ret_bool (slopesB_bad hlt fun hs => hin ⟨hs.1, hs.2.1⟩).symm, rfl⟩
      · go_wp2
        go_ret
        exact ⟨ret_bool (slopesB_t ⟨h2, h6, fun j hj => ha.out j (by omega)⟩).symm, rfl⟩
  · have hf := Lib.hid (slopesB_f fun hs => h26 ⟨hs.1, hs.2.1⟩ : slopesB xs = false)
    by_cases h2 : xs.length < 2
    · go_enter Try.func61, Try.ntmps61
      go_wp2
      go_ret
      exact ⟨ret_bool hf.out.symm, rfl⟩
    · have h6 : 6 < xs.length := by omega
      go_enter Try.func61, Try.ntmps61
      go_wp2
      go_ret
      exact ⟨ret_bool hf.out.symm, rfl⟩

theorem rslopes (A : Option Addr) (c B : Nat) (xs : List Int) (w : World) (h : Ints w B A xs) (hn : xs.length ≤ 100000) :
    Calls Try.prog 55 #[.slice A xs.length c] w fun e w' => e = .returned (.bool (slopesB xs)) ∧ Drew w w' := by
  go_enter Try.func55, Try.ntmps55
  go_wp2
  go_loopw [3] (fun i wr => ∃ k : Nat, k ≤ xs.length ∧ i = .int .i64 k ∧ Hid (∀ j, j < k → slopeAt xs j) ∧ Drew w wr) (fun i _ => xs.length - (intOf i).toNat)
  case atStart => exact ⟨0, Nat.zero_le _, rfl, fun j hj => absurd hj (by omega), Drew.refl _⟩
  case round =>
    obtain ⟨k, hk, rfl, ha, hd⟩ := hrel
    by_cases hlt : k < xs.length
    · obtain ⟨b, off, rfl, hb, hc⟩ := (hd.ints h).at_ hlt
      have hck := hc k hlt
      have hstep : slopeAt xs k → Hid (∀ j, j < k + 1 → slopeAt xs j) := fun hs j hj => by
        by_cases e : j = k
        · rw [e]; exact hs
        · exact ha.out j (by omega)
      have HS := Lib.hid hstep
      have HC := Lib.hid hc
      clear hstep h hc
      by_cases hin : 1 ≤ at0 xs k ∧ at0 xs k ≤ 1000000
      · have hi := inB_t hin.1 hin.2
        obtain ⟨i1, i2⟩ := hin
        by_cases hk0 : 0 < k
        · have hck1 := HC.out (k - 1) (by omega)
          by_cases s4 : at0 xs (k - 1) < at0 xs k
          · go_wp2_with fail
            go_quiet ((go_at_call 56; exact quiet_same (rwithin _ _ _ _)))
            go_wp2
            exact ⟨⟨k + 1, by omega, by go_num, HS.out ⟨i1, i2, fun _ => s4⟩, (hd.drewN nq)⟩, by simp [intOf]; omega⟩
          · go_wp2_with fail
            go_quiet ((go_at_call 56; exact quiet_same (rwithin _ _ _ _)))
            go_wp2
            go_ret
            exact ⟨ret_bool (slopesB_bad hlt fun hs => by have := hs.2.2 hk0; omega).symm, hd.drewN nq⟩
        · have hd0 : decide ((0 : Int) < k) = false := by simp; omega
          go_wp2_with fail
          go_quiet ((go_at_call 56; exact quiet_same (rwithin _ _ _ _)))
          go_wp2
          exact ⟨⟨k + 1, by omega, by go_num, HS.out ⟨i1, i2, fun h => absurd h hk0⟩, (hd.drewN nq)⟩, by simp [intOf]; omega⟩
      · have hi := inB_f hin
        go_wp2_with fail
        go_quiet ((go_at_call 56; exact quiet_same (rwithin _ _ _ _)))
        go_wp2
        go_ret
        exact ⟨ret_bool (slopesB_bad hlt fun hs => hin ⟨hs.1, hs.2.1⟩).symm, hd.drewN nq⟩
    · by_cases h2 : 2 ≤ xs.length
      · by_cases h6 : xs.length ≤ 6
        · go_wp2
          go_ret
          exact ⟨ret_bool (by rw [slopesB_t ⟨h2, h6, fun j hj => ha.out j (by omega)⟩]; simp; omega), hd⟩
        · go_wp2
          go_ret
          exact ⟨ret_bool (by rw [slopesB_f fun hs => h6 hs.2.1]; simp; omega), hd⟩
      · go_wp2
        go_ret
        exact ⟨ret_bool (slopesB_f fun hs => h2 hs.1).symm, hd⟩
end Go.Proofs.Ytihhfelhdgmceaa
