/- Contracts of aged, ageable and Aged (both texts). -/
import Derived.Test.YtihhfelhdgmceaaSlopes
namespace Go.Proofs.Ytihhfelhdgmceaa
open Go.RowKit
def agedF (keep : Int) : Nat → Int → Int
  | 0, r => r
  | n + 1, r => agedF keep n (r * keep / 1000)
theorem agedF_bd (keep : Int) (h0 : 0 ≤ keep) (h1 : keep ≤ 1000) (n : Nat) : ∀ r, 0 ≤ r → 0 ≤ agedF keep n r ∧ agedF keep n r ≤ r := by
  induction n with
  | zero => intro r a; exact ⟨a, Int.le_refl _⟩
  | succ n ih =>
    intro r a
    have h2 : 0 ≤ r * keep := Int.mul_nonneg a h0
    have h3 : r * keep ≤ r * 1000 := Int.mul_le_mul_of_nonneg_left h1 a
    have := ih (r * keep / 1000) (by omega)
    simp only [agedF]
    omega
theorem mul_bd {r keep : Int} (a : 0 ≤ r) (h0 : 0 ≤ keep) (h1 : keep ≤ 1000) : 0 ≤ r * keep ∧ r * keep ≤ r * 1000 :=
  ⟨Int.mul_nonneg a h0, Int.mul_le_mul_of_nonneg_left h1 a⟩
theorem agedF_succ (keep : Int) (n : Nat) : ∀ r, agedF keep (n + 1) r = agedF keep n r * keep / 1000 := by
  induction n with
  | zero => intro r; rfl
  | succ n ih => intro r; rw [agedF, ih, ← agedF]
theorem laged (r keep y : Int) (w : World) (a : 0 ≤ r) (b : r ≤ 100000) (h0 : 0 ≤ keep) (h1 : keep ≤ 1000) (y0 : 0 ≤ y) (y1 : y ≤ 300) :
    Calls Try.prog 60 #[.int .i64 r, .int .i64 keep, .int .i64 y] w fun e w' => e = .returned (.int .i64 (agedF keep y.toNat r)) ∧ w = w' := by
  obtain ⟨n, rfl⟩ := Int.eq_ofNat_of_zero_le y0
  rw [Int.toNat_natCast]
  go_enter Try.func60, Try.ntmps60
  go_wp2
  go_loop [0, 8] (fun v i => ∃ k : Nat, k ≤ n ∧ i = .int .i64 k ∧ v = .int .i64 (agedF keep k r)) (fun _ i => n - (intOf i).toNat)
  case atStart => exact ⟨0, Nat.zero_le _, rfl, rfl⟩
  case round =>
    obtain ⟨k, hk, rfl, rfl⟩ := hrel
    obtain ⟨g0, g1⟩ := agedF_bd keep h0 h1 k r a
    have gs := Lib.hid (agedF_succ keep k r)
    obtain ⟨m0, m1⟩ := mul_bd g0 h0 h1
    by_cases hlt : k < n
    · go_wp2
      go_round
      case rel => exact ⟨k + 1, by omega, by go_num, by rw [gs.out]⟩
      case measure => simp [intOf]; omega
    · obtain rfl : k = n := by omega
      go_wp2
      go_ret
      exact ⟨rfl, rfl⟩
/-- The years and the part kept are right. -/
def ageOk (keep years : Int) : Prop := (0 ≤ keep ∧ keep ≤ 1000) ∧ (0 ≤ years ∧ years ≤ 300)
instance (a b : Int) : Decidable (ageOk a b) := inferInstanceAs (Decidable (_ ∧ _))
def ageB (keep years : Int) : Bool := inB 0 keep 1000 && inB 0 years 300
theorem ageB_iff {k y : Int} : ageB k y = true ↔ ageOk k y := by simp [ageB, ageOk, inB]
theorem lageable (k y : Int) (w : World) : Calls Try.prog 59 #[.int .i64 k, .int .i64 y] w fun e w' => e = .returned (.bool (ageB k y)) ∧ w = w' := by
  unfold ageB
  cases h1 : inB 0 k 1000 <;> cases h2 : inB 0 y 300
  all_goals
    go_enter Try.func59, Try.ntmps59
    go_wp2_with (go_at_call 58; refine (lwithin _ _ _ _).mono ?_; rintro e w' ⟨rfl, rfl⟩)
    go_ret
    exact ⟨rfl, rfl⟩
def AgedRes (r k y : Int) (w : World) (e : Ending) (w' : World) : Prop :=
  (0 ≤ r ∧ r ≤ 100000 ∧ ageOk k y → e = .returned (.tuple #[.int .i64 (agedF k y.toNat r), .int .i64 0])) ∧
  (¬ (0 ≤ r ∧ r ≤ 100000 ∧ ageOk k y) → e = .returned (.tuple #[.int .i64 0, .int .i64 2])) ∧ w = w'
theorem lAged (r k y : Int) (w : World) : Calls Try.prog 24 #[.int .i64 r, .int .i64 k, .int .i64 y] w (AgedRes r k y w) := by
  by_cases hr : 0 ≤ r ∧ r ≤ 100000
  · have e1 := inB_t hr.1 hr.2
    by_cases ha : ageOk k y
    · have e2 := ageB_iff.2 ha
      obtain ⟨⟨k0, k1⟩, y0, y1⟩ := id ha
      go_enter Try.func24, Try.ntmps24
      go_wp2_with (first | (go_at_call 58; refine (lwithin _ _ _ _).mono ?_; rintro e w' ⟨rfl, rfl⟩) | (go_at_call 59; refine (lageable _ _ _).mono ?_; rintro e w' ⟨rfl, rfl⟩) | (go_at_call 60; refine (laged _ _ _ _ hr.1 hr.2 k0 k1 y0 y1).mono ?_; rintro e w' ⟨rfl, rfl⟩))
      go_ret2
      exact ⟨fun _ => rfl, fun h => absurd ⟨hr.1, hr.2, ha⟩ h, rfl⟩
    · have e2 : ageB k y = false := by cases h : ageB k y with | false => rfl | true => exact absurd (ageB_iff.1 h) ha
      go_enter Try.func24, Try.ntmps24
      go_wp2_with (first | (go_at_call 58; refine (lwithin _ _ _ _).mono ?_; rintro e w' ⟨rfl, rfl⟩) | (go_at_call 59; refine (lageable _ _ _).mono ?_; rintro e w' ⟨rfl, rfl⟩))
      go_ret2
      exact ⟨fun h => absurd h.2.2 ha, fun _ => rfl, rfl⟩
  · have e1 := inB_f hr
    go_enter Try.func24, Try.ntmps24
    go_wp2_with (go_at_call 58; refine (lwithin _ _ _ _).mono ?_; rintro e w' ⟨rfl, rfl⟩)
    go_ret2
    exact ⟨fun h => absurd ⟨h.1, h.2.1⟩ hr, fun _ => rfl, rfl⟩
theorem rAged (r k y : Int) (w : World) : Calls Try.prog 25 #[.int .i64 r, .int .i64 k, .int .i64 y] w (AgedRes r k y w) := by
  by_cases hr : 0 ≤ r ∧ r ≤ 100000
  · have e1 := inB_t hr.1 hr.2
    by_cases hk : 0 ≤ k ∧ k ≤ 1000
    · have e2 := inB_t hk.1 hk.2
      by_cases hy : 0 ≤ y ∧ y ≤ 300
      · have e3 := inB_t hy.1 hy.2
        obtain ⟨k0, k1⟩ := id hk
        obtain ⟨r0, r1⟩ := id hr
        obtain ⟨n, rfl⟩ := Int.eq_ofNat_of_zero_le hy.1
        go_enter Try.func25, Try.ntmps25
        go_wp2_with (go_at_call 56; refine (rwithin _ _ _ _).mono ?_; rintro e w' ⟨rfl, rfl⟩)
        go_loop [0, 8] (fun v i => ∃ j : Nat, j ≤ n ∧ i = .int .i64 j ∧ v = .int .i64 (agedF k j r)) (fun _ i => n - (intOf i).toNat)
        case atStart => exact ⟨0, Nat.zero_le _, rfl, rfl⟩
        case round =>
          obtain ⟨j, hj, rfl, rfl⟩ := hrel
          obtain ⟨g0, g1⟩ := agedF_bd k k0 k1 j r r0
          have gs := Lib.hid (agedF_succ k j r)
          obtain ⟨m0, m1⟩ := mul_bd g0 k0 k1
          by_cases hlt : j < n
          · go_wp2
            go_round
            case rel => exact ⟨j + 1, by omega, by go_num, by rw [gs.out]⟩
            case measure => simp [intOf]; omega
          · obtain rfl : j = n := by omega
            go_wp2
            go_ret2
            exact ⟨fun _ => rfl, fun h => absurd ⟨hr.1, hr.2, hk, hy⟩ h, rfl⟩
      · have e3 := inB_f hy
        go_enter Try.func25, Try.ntmps25
        go_wp2_with (go_at_call 56; refine (rwithin _ _ _ _).mono ?_; rintro e w' ⟨rfl, rfl⟩)
        go_ret2
        exact ⟨fun h => absurd h.2.2.2 hy, fun _ => rfl, rfl⟩
    · have e2 := inB_f hk
      go_enter Try.func25, Try.ntmps25
      go_wp2_with (go_at_call 56; refine (rwithin _ _ _ _).mono ?_; rintro e w' ⟨rfl, rfl⟩)
      go_ret2
      exact ⟨fun h => absurd h.2.2.1 hk, fun _ => rfl, rfl⟩
  · have e1 := inB_f hr
    go_enter Try.func25, Try.ntmps25
    go_wp2_with (go_at_call 56; refine (rwithin _ _ _ _).mono ?_; rintro e w' ⟨rfl, rfl⟩)
    go_ret2
    exact ⟨fun h => absurd ⟨h.1, h.2.1⟩ hr, fun _ => rfl, rfl⟩
end Go.Proofs.Ytihhfelhdgmceaa
