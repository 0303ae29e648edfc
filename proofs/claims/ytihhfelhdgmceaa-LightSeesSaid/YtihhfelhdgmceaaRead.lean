/- Contracts of Reading (both texts). -/
import Derived.Test.YtihhfelhdgmceaaVt
namespace Go.Proofs.Ytihhfelhdgmceaa
open Go.RowKit
/-- Element j of a list of spans. -/
def atp (xs : List (Int × Int)) (j : Nat) : Int × Int := xs.getD j (0, 0)
/-- The slice address A reads as the spans (readings, measures) xs, in blocks below B. -/
def Pairs (w : World) (B : Nat) (A : Option Addr) (xs : List (Int × Int)) : Prop :=
  xs = [] ∨ ∃ b off, A = some ⟨b, off, none⟩ ∧ b < B ∧ ∀ j, j < xs.length → w.cell? ⟨b, off + j * 2, none⟩ = some (.int .i64 (atp xs j).1) ∧ w.cell? ⟨b, off + j * 2 + 1, none⟩ = some (.int .i64 (atp xs j).2)
section
variable {w w' : World} {B B' : Nat} {A : Option Addr} {xs : List (Int × Int)}
theorem Pairs.keep (h : Pairs w B A xs) (hk : ∀ p : Addr, p.block < B → w'.cell? p = w.cell? p) : Pairs w' B A xs := by
  rcases h with h | ⟨b, off, hA, hb, hc⟩
  · exact .inl h
  · exact .inr ⟨b, off, hA, hb, fun j hj => ⟨(hk _ hb).trans (hc j hj).1, (hk _ hb).trans (hc j hj).2⟩⟩
theorem Pairs.more (h : Pairs w B A xs) (hB : B ≤ B') : Pairs w B' A xs := by
  rcases h with h | ⟨b, off, hA, hb, hc⟩
  · exact .inl h
  · exact .inr ⟨b, off, hA, by omega, hc⟩
theorem Pairs.below (h : Pairs w B A xs) (hb : Below B w w') : Pairs w' B A xs := h.keep fun _ hp => hb.cell hp
theorem Pairs.at_ (h : Pairs w B A xs) {k : Nat} (hk : k < xs.length) : ∃ b off, A = some ⟨b, off, none⟩ ∧ b < B ∧
    ∀ j, j < xs.length → w.cell? ⟨b, off + j * 2, none⟩ = some (.int .i64 (atp xs j).1) ∧ w.cell? ⟨b, off + j * 2 + 1, none⟩ = some (.int .i64 (atp xs j).2) := by
  rcases h with rfl | h
  · simp at hk
  · exact h
end
/-- The end of the spans ahead of number k; the beginning is at 1. -/
def endTo (xs : List (Int × Int)) : Nat → Int
  | 0 => 1
  | k + 1 => (atp xs k).2
def sumTo (xs : List (Int × Int)) : Nat → Int
  | 0 => 0
  | k + 1 => sumTo xs k + ((atp xs k).2 - (atp xs k).1)
def spanAt (xs : List (Int × Int)) (k : Nat) : Prop := endTo xs k ≤ (atp xs k).1 ∧ (atp xs k).1 < (atp xs k).2 ∧ (atp xs k).2 ≤ 401
def ReadRes (xs : List (Int × Int)) (speed : Int) (w : World) (e : Ending) (w' : World) : Prop :=
  ((1 ≤ speed ∧ speed ≤ 300) ∧ (∀ k, k < xs.length → spanAt xs k) → e = .returned (.tuple #[.int .i64 (sumTo xs xs.length * 3600 / speed), .int .i64 0])) ∧
  (¬ ((1 ≤ speed ∧ speed ≤ 300) ∧ (∀ k, k < xs.length → spanAt xs k)) → e = .returned (.tuple #[.int .i64 0, .int .i64 2])) ∧ Below w.heap.size w w'
theorem sum_bd {xs : List (Int × Int)} : ∀ k, (∀ j, j < k → spanAt xs j) → 0 ≤ sumTo xs k ∧ sumTo xs k ≤ endTo xs k - 1 ∧ 1 ≤ endTo xs k ∧ endTo xs k ≤ 401
  | 0, _ => by simp [sumTo, endTo]
  | k + 1, h => by
    have := sum_bd k fun j hj => h j (by omega)
    have hk := h k (by omega)
    unfold spanAt at hk
    simp only [sumTo]
    show _ ∧ _ ≤ (atp xs k).2 - 1 ∧ 1 ≤ (atp xs k).2 ∧ (atp xs k).2 ≤ 401
    omega
theorem lReading (A : Option Addr) (c B : Nat) (xs : List (Int × Int)) (speed : Int) (w : World) (h : Pairs w B A xs) (hB : B ≤ w.heap.size) (hn : xs.length ≤ 1000) :
    Calls Try.prog 29 #[.slice A xs.length c, .int .i64 speed] w (ReadRes xs speed w) := by
  by_cases hs : 1 ≤ speed ∧ speed ≤ 300
  · have hi := inB_t hs.1 hs.2
    have HS := Lib.hid hs
    have hs1 := hs.1
    have hs2 := hs.2
    go_enter Try.func29, Try.ntmps29
    go_wp2_with (go_at_call 58; refine (lwithin _ _ _ _).mono ?_; rintro e w' ⟨rfl, rfl⟩)
    go_loopw [6, 7, 15] (fun m en i wr => ∃ k : Nat, k ≤ xs.length ∧ i = .int .i64 k ∧ m = .int .i64 (sumTo xs k) ∧ en = .int .i64 (endTo xs k) ∧ Hid (∀ j, j < k → spanAt xs j) ∧ Below w.heap.size w wr) (fun _ _ i _ => xs.length - (intOf i).toNat)
    case atStart => exact ⟨0, Nat.zero_le _, rfl, rfl, rfl, hid_none, Below.refl _ _⟩
    case round =>
      obtain ⟨k, hk, rfl, rfl, rfl, ha, hb⟩ := hrel
      obtain ⟨b0, b1, b2, b3⟩ := sum_bd k ha.out
      by_cases hlt : k < xs.length
      · obtain ⟨b, off, rfl, hbb, hc⟩ := (h.below (hb.mono hB)).at_ hlt
        obtain ⟨u0, u1⟩ := hc k hlt
        clear hc
        by_cases g1 : endTo xs k ≤ (atp xs k).1
        · by_cases g2 : (atp xs k).1 < (atp xs k).2
          · by_cases g3 : (atp xs k).2 ≤ 401
            · have HK : Hid (spanAt xs k) := ⟨g1, g2, g3⟩
              go_wp2
              exact ⟨⟨k + 1, by omega, by go_num, rfl, rfl, hid_more ha HK.out, hb.alloc hb.size _⟩, by simp [intOf]; omega⟩
            · go_wp2
              go_ret2
              exact ⟨fun hh => absurd (hh.2 k hlt).2.2 (by omega), fun _ => rfl, hb.alloc hb.size _⟩
          · go_wp2
            go_ret2
            exact ⟨fun hh => absurd (hh.2 k hlt).2.1 (by omega), fun _ => rfl, hb.alloc hb.size _⟩
        · go_wp2
          go_ret2
          exact ⟨fun hh => absurd (hh.2 k hlt).1 (by omega), fun _ => rfl, hb.alloc hb.size _⟩
      · obtain rfl : k = xs.length := by omega
        go_wp2
        go_ret2
        exact ⟨fun _ => rfl, fun hh => absurd ⟨HS.out, fun j hj => ha.out j hj⟩ hh, hb⟩
  · have hi := inB_f hs
    go_enter Try.func29, Try.ntmps29
    go_wp2_with (go_at_call 58; refine (lwithin _ _ _ _).mono ?_; rintro e w' ⟨rfl, rfl⟩)
    go_ret2
    exact ⟨fun hh => absurd hh.1 hs, fun _ => rfl, Below.refl _ _⟩
theorem rReading (A : Option Addr) (c B : Nat) (xs : List (Int × Int)) (speed : Int) (w : World) (h : Pairs w B A xs) (hB : B ≤ w.heap.size) (hn : xs.length ≤ 1000) :
    Calls Try.prog 30 #[.slice A xs.length c, .int .i64 speed] w (ReadRes xs speed w) := by
  by_cases hs : 1 ≤ speed ∧ speed ≤ 300
  · have hi := inB_t hs.1 hs.2
    have HS := Lib.hid hs
    have hs1 := hs.1
    have hs2 := hs.2
    go_enter Try.func30, Try.ntmps30
    go_wp2_with (go_at_call 56; refine (rwithin _ _ _ _).mono ?_; rintro e w' ⟨rfl, rfl⟩)
    go_loopw [6, 7, 8] (fun m en i wr => ∃ k : Nat, k ≤ xs.length ∧ i = .int .i64 k ∧ m = .int .i64 (sumTo xs k) ∧ en = .int .i64 (endTo xs k) ∧ Hid (∀ j, j < k → spanAt xs j) ∧ Below w.heap.size w wr) (fun _ _ i _ => xs.length - (intOf i).toNat)
    case atStart => exact ⟨0, Nat.zero_le _, rfl, rfl, rfl, hid_none, Below.refl _ _⟩
    case round =>
      obtain ⟨k, hk, rfl, rfl, rfl, ha, hb⟩ := hrel
      obtain ⟨b0, b1, b2, b3⟩ := sum_bd k ha.out
      by_cases hlt : k < xs.length
      · obtain ⟨b, off, rfl, hbb, hc⟩ := (h.below (hb.mono hB)).at_ hlt
        obtain ⟨u0, u1⟩ := hc k hlt
        clear hc
        by_cases g1 : endTo xs k ≤ (atp xs k).1
        · by_cases g2 : (atp xs k).1 < (atp xs k).2
          · by_cases g3 : (atp xs k).2 ≤ 401
            · have HK : Hid (spanAt xs k) := ⟨g1, g2, g3⟩
              go_wp2
              exact ⟨⟨k + 1, by omega, by go_num, rfl, rfl, hid_more ha HK.out, hb.alloc hb.size _⟩, by simp [intOf]; omega⟩
            · go_wp2
              go_ret2
              exact ⟨fun hh => absurd (hh.2 k hlt).2.2 (by omega), fun _ => rfl, hb.alloc hb.size _⟩
          · go_wp2
            go_ret2
            exact ⟨fun hh => absurd (hh.2 k hlt).2.1 (by omega), fun _ => rfl, hb.alloc hb.size _⟩
        · go_wp2
          go_ret2
          exact ⟨fun hh => absurd (hh.2 k hlt).1 (by omega), fun _ => rfl, hb.alloc hb.size _⟩
      · obtain rfl : k = xs.length := by omega
        go_wp2
        go_ret2
        exact ⟨fun _ => rfl, fun hh => absurd ⟨HS.out, fun j hj => ha.out j hj⟩ hh, hb⟩
  · have hi := inB_f hs
    go_enter Try.func30, Try.ntmps30
    go_wp2_with (go_at_call 56; refine (rwithin _ _ _ _).mono ?_; rintro e w' ⟨rfl, rfl⟩)
    go_ret2
    exact ⟨fun hh => absurd hh.1 hs, fun _ => rfl, Below.refl _ _⟩
end Go.Proofs.Ytihhfelhdgmceaa
