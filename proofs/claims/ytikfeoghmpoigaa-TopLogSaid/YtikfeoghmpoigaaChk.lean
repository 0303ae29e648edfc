/- TopLog: bytes, and the contract of checksum. -/
import Derived.Test.YtikfeoghmpoigaaBase
import Derived.Laws.Closers25b
import Derived.Laws.BitsLemmas
namespace Go.Proofs.Ytikfeoghmpoigaa
open Go.RowKit
def atb (xs : List Nat) (j : Nat) : Nat := xs.getD j 0
/-- A slice of bytes that lies below B. -/
def Byts (w : World) (B : Nat) (A : Option Addr) (xs : List Nat) : Prop :=
  xs = [] ∨ ∃ b off, A = some ⟨b, off, none⟩ ∧ b < B ∧ ∀ j, j < xs.length → w.cell? ⟨b, off + j, none⟩ = some (.int .u8 (atb xs j : Nat))
def U8 (xs : List Nat) : Prop := ∀ x ∈ xs, x < 256
section
variable {w w' : World} {B B' : Nat} {A : Option Addr} {xs : List Nat}
theorem Byts.keep (h : Byts w B A xs) (hk : ∀ p : Addr, p.block < B → w'.cell? p = w.cell? p) : Byts w' B A xs := by
  rcases h with h | ⟨b, off, hA, hb, hc⟩
  · exact .inl h
  · exact .inr ⟨b, off, hA, hb, fun j hj => (hk ⟨b, off + j, none⟩ hb).trans (hc j hj)⟩
theorem Byts.more (h : Byts w B A xs) (hB : B ≤ B') : Byts w B' A xs := by
  rcases h with h | ⟨b, off, hA, hb, hc⟩
  · exact .inl h
  · exact .inr ⟨b, off, hA, by omega, hc⟩
theorem Byts.below (h : Byts w B A xs) (hb : Below B w w') : Byts w' B A xs := h.keep fun _ hp => hb.cell hp
theorem Byts.at_ (h : Byts w B A xs) {k : Nat} (hk : k < xs.length) : ∃ b off, A = some ⟨b, off, none⟩ ∧ b < B ∧ ∀ j, j < xs.length → w.cell? ⟨b, off + j, none⟩ = some (.int .u8 (atb xs j : Nat)) := by
  rcases h with rfl | h
  · simp at hk
  · exact h
end
theorem atb_mem {xs : List Nat} {j : Nat} (h : j < xs.length) : atb xs j ∈ xs := by simp [atb, h]
def crcBit (d : Int) : Int := if bits BinOp.and IntKind.u32 d 1 = 1 then bits BinOp.xor IntKind.u32 (d / 2) 3988292384 else d / 2
def crcIt (d : Int) : Nat → Int
  | 0 => d
  | j + 1 => crcBit (crcIt d j)
def crcTo (xs : List Nat) : Nat → Int
  | 0 => 4294967295
  | k + 1 => crcIt (bits BinOp.xor IntKind.u32 (crcTo xs k) (atb xs k : Nat)) 8
def crcF (xs : List Nat) : Int := bits BinOp.xor IntKind.u32 IntKind.u32.max (crcTo xs xs.length)
theorem crcF_bd (xs : List Nat) : 0 ≤ crcF xs ∧ crcF xs ≤ 4294967295 := ⟨bits_lo_u32 _ _ _, bits_hi_u32 _ _ _⟩
set_option maxRecDepth 100000 in
set_option maxHeartbeats 2000000 in
theorem lcheck (A : Option Addr) (cp B : Nat) (xs : List Nat) (w : World) (h : Byts w B A xs) (hu : U8 xs) (hn : xs.length ≤ 9223372036854775807) :
    Calls Try.prog 25 #[.slice A xs.length cp] w fun e w' => e = .returned (.int .u32 (crcF xs)) ∧ w' = w := by
  go_enter Try.func25, Try.ntmps25
  go_wp2_with fail
  obtain ⟨w2, rfl⟩ : ∃ w2 : World, w2 = w := ⟨_, rfl⟩
  go_loopw [3, 5, 6, 9] (fun cv xv ov i wr => ∃ k : Nat, k ≤ xs.length ∧ i = .int .i64 k ∧ cv = .int .u32 (crcTo xs k) ∧ wr = w2) (fun _ _ _ i _ => xs.length - (intOf i).toNat)
  case atStart => exact ⟨0, Nat.zero_le _, rfl, rfl, rfl⟩
  case round =>
    obtain ⟨k, hk, rfl, rfl, rfl⟩ := hrel
    by_cases hlt : k < xs.length
    · obtain ⟨b, o, hA, hb, hcc⟩ := h.at_ hlt
      subst hA
      have y1 := hcc k hlt
      clear hcc
      have hx := hu _ (atb_mem hlt)
      have HNX : Hid (crcTo xs (k + 1) = crcIt (bits BinOp.xor IntKind.u32 (crcTo xs k) (atb xs k : Nat)) 8) := Lib.hid rfl
      generalize crcTo xs k = c at *
      generalize atb xs k = x at *
      go_wp2_with fail
      obtain ⟨w3, rfl⟩ : ∃ w3 : World, w3 = wr := ⟨_, rfl⟩
      generalize bits BinOp.xor IntKind.u32 c x = d0 at *
      go_loopw [3, 6, 17] (fun cv ov i wr => ∃ j : Nat, j ≤ 8 ∧ i = .int .i64 j ∧ cv = .int .u32 (crcIt d0 j) ∧ wr = w3) (fun _ _ i _ => 8 - (intOf i).toNat)
      case atStart => exact ⟨0, Nat.zero_le _, rfl, rfl, rfl⟩
      case round =>
        obtain ⟨j, hj, rfl, rfl, rfl⟩ := hrel
        by_cases hlt2 : j < 8
        · have HJ : Hid (crcIt d0 (j + 1) = crcBit (crcIt d0 j)) := Lib.hid rfl
          generalize crcIt d0 j = d at *
          by_cases hbit : bits BinOp.and IntKind.u32 d 1 = 1
          · have hbit2 : (bits BinOp.and IntKind.u32 d 1 == 1) = true := by simp [hbit]
            have HJ2 : Hid (crcIt d0 (j + 1) = bits BinOp.xor IntKind.u32 (d / 2) 3988292384) := Lib.hid (by rw [HJ.out]; unfold crcBit; rw [if_pos hbit])
            go_wp2_with fail
            exact ⟨⟨j + 1, by omega, by go_num, by rw [HJ2.out], by first | rfl | trivial⟩, by simp [intOf]; omega⟩
          · have hbit2 : (bits BinOp.and IntKind.u32 d 1 == 1) = false := by simp [hbit]
            have HJ2 : Hid (crcIt d0 (j + 1) = d / 2) := Lib.hid (by rw [HJ.out]; unfold crcBit; rw [if_neg hbit])
            go_wp2_with fail
            exact ⟨⟨j + 1, by omega, by go_num, by rw [HJ2.out], by first | rfl | trivial⟩, by simp [intOf]; omega⟩
        · obtain rfl : j = 8 := by omega
          have hny : ¬ ((8 : Int) < 8) := by omega
          go_wp2_with fail
          exact ⟨⟨k + 1, by omega, by go_num, by rw [HNX.out], by first | rfl | trivial⟩, by simp [intOf]; omega⟩
    · obtain rfl : k = xs.length := by omega
      go_wp2
      go_ret
      exact ⟨rfl, rfl⟩
/-- The number of the first k bytes, the most significant one first. -/
def numTo (xs : List Nat) : Nat → Nat
  | 0 => 0
  | k + 1 => numTo xs k * 256 + atb xs k
theorem numTo_lt {xs : List Nat} (hu : U8 xs) : ∀ k, k ≤ xs.length → numTo xs k < 256 ^ k
  | 0, _ => by simp [numTo]
  | k + 1, hk => by
    have := numTo_lt hu k (by omega)
    have := hu _ (atb_mem (show k < xs.length by omega))
    simp only [numTo, Nat.pow_succ]
    omega
set_option maxRecDepth 10000 in
theorem join64 {c x : Nat} (hc : c < 16777216) (hx : x < 256) : bits BinOp.or IntKind.u64 ((c : Int) * 256) (x : Int) = ((c * 256 + x : Nat) : Int) := by
  rw [bits_join .u64 40 (by decide) (fun n h0 h1 => by simp [IntKind.wrap, IntKind.bits, IntKind.signed]; omega) 8 _ _ (by omega) (by omega) (by omega) (by omega) (by omega) (by omega)]
  push_cast
  rfl
set_option maxRecDepth 100000 in
set_option maxHeartbeats 2000000 in
theorem lread (A : Option Addr) (cp B : Nat) (xs : List Nat) (w : World) (h : Byts w B A xs) (hu : U8 xs) (hn : xs.length = 4) :
    Calls Try.prog 24 #[.slice A 4 cp] w fun e w' => e = .returned (.int .u64 (numTo xs 4 : Nat)) ∧ w' = w := by
  go_enter Try.func24, Try.ntmps24
  go_wp2_with fail
  obtain ⟨w2, rfl⟩ : ∃ w2 : World, w2 = w := ⟨_, rfl⟩
  go_loopw [2, 4, 7] (fun cv xv i wr => ∃ k : Nat, k ≤ 4 ∧ i = .int .i64 k ∧ cv = .int .u64 (numTo xs k : Nat) ∧ wr = w2) (fun _ _ i _ => 4 - (intOf i).toNat)
  case atStart => exact ⟨0, Nat.zero_le _, rfl, rfl, rfl⟩
  case round =>
    obtain ⟨k, hk, rfl, rfl, rfl⟩ := hrel
    have hlim := numTo_lt hu k (by omega)
    by_cases hlt : k < 4
    · obtain ⟨b, o, hA, hb, hcc⟩ := h.at_ (k := k) (by omega)
      subst hA
      have y1 := hcc k (by omega)
      clear hcc
      have hx := hu _ (atb_mem (show k < xs.length by omega))
      have HNX : Hid (numTo xs (k + 1) = numTo xs k * 256 + atb xs k) := Lib.hid rfl
      have hlim2 : numTo xs k < 16777216 := by
        have : 256 ^ k ≤ 256 ^ 3 := Nat.pow_le_pow_right (by decide) (by omega)
        omega
      clear hlim
      generalize numTo xs k = c at *
      generalize atb xs k = x at *
      have HJO := Lib.hid (join64 hlim2 hx)
      go_wp2_with fail
      exact ⟨⟨k + 1, by omega, by go_num, by rw [HNX.out, HJO.out], by first | rfl | trivial⟩, by simp [intOf]; omega⟩
    · obtain rfl : k = 4 := by omega
      have hny : ¬ ((4 : Int) < 4) := by omega
      go_wp2
      go_ret
      exact ⟨rfl, rfl⟩
end Go.Proofs.Ytikfeoghmpoigaa
