/- Contracts of total (62) and Metres (63). -/
import Derived.Test.YtpcpkoaigjbdhaaKep
namespace Go.Proofs.Ytpcpkoaigjbdhaa
open Go.RowKit
theorem met_bd {us : List (Int × Int)} (h : Full us) : ∀ k, k ≤ us.length → 0 ≤ met (us.take k) ∧ met (us.take k) ≤ met us := by
  intro k hk
  have e : met us = met (us.take k) + met (us.drop k) := by rw [← met_append, List.take_append_drop]
  have h1 := met_ge (l := us.take k) fun p hp => h p (List.mem_of_mem_take hp)
  have h2 := met_ge (l := us.drop k) fun p hp => h p (List.mem_of_mem_drop hp)
  omega
set_option maxRecDepth 100000 in
set_option maxHeartbeats 2000000 in
theorem ltotal (A : Option Addr) (c B : Nat) (us : List (Int × Int)) (w : World) (h : Pairs w B A us) (hB : B ≤ w.heap.size) (hf : Full us) (hm : met us ≤ 100000000) (hK : InK 10000000000 us) (hn : us.length ≤ 10000000) :
    Calls Try.prog 16 #[.slice A us.length c] w fun e w' => e = .returned (.int .i64 (met us)) ∧ Below w.heap.size w w' := by
  have HBD := Lib.hid (met_bd hf)
  have HF := Lib.hid hf
  have HK := Lib.hid hK
  have HM := Lib.hid hm
  clear hf hK
  obtain ⟨w2, rfl⟩ : ∃ w2 : World, w2 = w := ⟨_, rfl⟩
  go_enter Try.func16, Try.ntmps16
  go_wp2_with fail
  go_loopw [2, 7] (fun nv i wr => ∃ (k : Nat) (m : Int), k ≤ us.length ∧ i = .int .i64 k ∧ nv = .int .i64 m ∧ Hid (m = met (us.take k)) ∧ Below w2.heap.size w2 wr) (fun _ i _ => us.length - (intOf i).toNat)
  case atStart => exact ⟨0, 0, Nat.zero_le _, rfl, rfl, Lib.hid rfl, Below.refl _ _⟩
  case round =>
    obtain ⟨k, m, hk, rfl, rfl, hmk, hb⟩ := hrel
    have hbs := hb.size
    have hb0 := HBD.out k hk
    rw [← hmk.out] at hb0
    obtain ⟨b0, b1⟩ := hb0
    by_cases hlt : k < us.length
    · obtain ⟨b, o, rfl, hbl, hc⟩ := (h.below (hb.mono hB)).at_ hlt
      obtain ⟨y1, y2⟩ := hc k hlt
      clear hc
      have hfk := HF.out _ (atp_mem hlt)
      obtain ⟨⟨i0, i1⟩, i2, i3⟩ := HK.out _ (atp_mem hlt)
      have hnx := HBD.out (k + 1) hlt
      have hst := met_take us k hlt
      rw [hst, ← hmk.out] at hnx
      obtain ⟨b2, b3⟩ := hnx
      have HST : Hid (m + ((atp us k).2 - (atp us k).1) = met (us.take (k + 1))) := Lib.hid (by rw [hst, ← hmk.out])
      clear hst
      have hbw : b < wr.heap.size := by omega
      have hba := hb.alloc hbs (.cells #[.int .i64 (atp us k).1, .int .i64 (atp us k).2] 26)
      go_wp2_with fail
      exact ⟨⟨k + 1, _, by omega, by go_num, rfl, HST, hba⟩, by simp [intOf]; omega⟩
    · obtain rfl : k = us.length := by omega
      go_wp2
      go_ret
      exact ⟨by rw [hmk.out, List.take_length]; rfl, hb⟩
end Go.Proofs.Ytpcpkoaigjbdhaa

