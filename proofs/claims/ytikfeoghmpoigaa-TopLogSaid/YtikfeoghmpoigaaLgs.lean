/- TopLog: logs. -/
import Derived.Test.YtikfeoghmpoigaaRev
namespace Go.Proofs.Ytikfeoghmpoigaa
open Go.RowKit
theorem Mach.mt_ge {w : World} {base d l : Nat} {S : Dk} {f : Bool} {ev : Value} {es : List (List Nat)} {N : Nat → Prop} (M : Mach w base d l S f ev es N) : ∀ b, MT d l S ev b → base ≤ b := fun b hb => by
  rcases hb with hb | hb | hb | hb
  · rw [hb]; exact M.dk.lo
  · rw [hb]; exact M.lg.lo
  · exact (M.dk.own.lt b hb).1
  · exact (M.en.lt b hb).1
theorem Mach.mtN {w : World} {base d l : Nat} {S : Dk} {f : Bool} {ev : Value} {es : List (List Nat)} {N : Nat → Prop} (M : Mach w base d l S f ev es N) : ∀ b, MT d l S ev b → N b := fun b hb => by
  rcases hb with hb | hb | hb | hb
  · rw [hb]; exact M.nd
  · rw [hb]; exact M.nl
  · exact M.nS b hb
  · exact M.nE b hb
theorem Chg.belowN {T : Nat → Prop} {w w' : World} {B : Nat} (h : Chg T w w') (hB : B ≤ w.heap.size) (hT : ∀ b, T b → B ≤ b) : Below B w w' := h.below hB fun k hk hh => by have := hT k hh; omega
set_option maxRecDepth 100000 in
set_option maxHeartbeats 4000000 in
theorem lLogs {w : World} : Calls Try.prog 4 #[] w fun en w' => en = .returned (.bool true) ∧ Below w.heap.size w w' := by
  generalize hW : w.heap.size = W
  have hnd := lNewDisk (w := w)
  rw [hW] at hnd
  go_enter Try.func4, Try.ntmps4
  go_wp2_with fail
  refine hnd.mono ?_
  rintro en w1 ⟨rfl, hd1, hb1⟩
  have hop := lOpenOk (es := []) (rest := []) (N0 := fun b => b = W) hd1 rfl rfl torn_nil (by intro e he; cases he) (by decide) rfl (fun b hb => by rw [hb]; exact hd1.hi) rfl (by intro g hg; cases hg)
  have HB1 := Lib.hid hb1
  have hs1 : W ≤ w1.heap.size := by have := hd1.hi; omega
  clear hnd hd1 hb1 hW
  go_wp2_with fail
  refine hop.mono ?_
  rintro en w2 ⟨hc2, l, ev, v2, N, rfl, -, -, hM, -, -⟩
  have hb2 := hc2.belowN hs1 (fun b hb => by omega)
  have HB2 := Lib.hid (HB1.out.trans hb2)
  have hs2 : W ≤ w2.heap.size := Nat.le_trans hs1 hc2.size
  have hb3 : Below w2.heap.size w2 (w2.alloc (.cells #[.int .u8 7] 5)) := (Below.refl _ _).alloc (Nat.le_refl _) _
  have hM3 := hM.below hb3
  have he3 : BytsN (w2.alloc (.cells #[.int .u8 7] 5)) (MT W l ⟨v2, flat [], (flat []).length, 0, false, 0⟩ ev) (some ⟨w2.heap.size, 0, none⟩) [7] := by
    refine .inr ⟨w2.heap.size, 0, rfl, by simp, fun hh => by have := hM.nlt _ (hM.mtN _ hh); omega, fun j hj => ?_⟩
    obtain rfl : j = 0 := by simpa using hj
    simp [go_sem, atb]
  have hpt := lPut hM3 rfl (some ⟨w2.heap.size, 0, none⟩) 1 [7] he3 (by intro h; cases h) (by intro x hx; simp at hx; omega) (by decide) (by simp [flat]) (by decide)
  have hb23 := HB2.out.trans (hb3.mono hs2)
  have HB3 := Lib.hid hb23
  have hmt := hM3.mt_ge
  have HMT := Lib.hid hmt
  have hs3 : W ≤ (w2.alloc (.cells #[.int .u8 7] 5)).heap.size := by simp; omega
  clear hop hc2 hb2 hb3 hM hM3 he3 hb23 hmt
  go_wp2_with fail
  refine hpt.mono ?_
  rintro en w4 ⟨hc4, hpp⟩
  rw [if_neg (show ¬ (0 : Nat) = 1 by decide)] at hpp
  obtain ⟨v4, -, hpp⟩ := hpp
  rw [if_neg (show ¬ (0 : Nat) = 2 by decide)] at hpp
  obtain ⟨rfl, ev4, N4, -, -, hM4⟩ := hpp
  have HB4 := Lib.hid (HB3.out.trans (hc4.belowN hs3 HMT.out))
  have hs4 : W ≤ w4.heap.size := Nat.le_trans hs3 hc4.size
  have hM4' : Mach w4 W W l ⟨v4, flat [] ++ enc [7], (flat [] ++ enc [7]).length, 0, false, 0⟩ false ev4 ([] ++ [[7]]) N4 := hM4
  rw [← flat_app] at hM4'
  have hcr := lCrash hM4'.dk 0 (by show (0:Nat) ≤ 900; decide)
  clear hpt hc4 hM4 hM4' HMT
  go_wp2_with fail
  refine hcr.mono ?_
  rintro en w5 ⟨rfl, hc5, v5, -, hd5⟩
  have e5 : crashS ⟨v4, flat ([] ++ [[7]]), (flat ([] ++ [[7]])).length, 0, false, 0⟩ v5 0 = ⟨v5, flat ([] ++ [[7]]), (flat ([] ++ [[7]])).length, 0, false, 1⟩ := by
    have hk : kept ⟨v4, flat ([] ++ [[7]]), (flat ([] ++ [[7]])).length, 0, false, 0⟩ 0 = (flat ([] ++ [[7]])).length := by
      show (flat ([] ++ [[7]])).length + (min (max (0 : Int) 0) (((flat ([] ++ [[7]])).length : Int) - (flat ([] ++ [[7]])).length)).toNat = _
      omega
    show (⟨v5, (flat ([] ++ [[7]])).take (kept ⟨v4, flat ([] ++ [[7]]), (flat ([] ++ [[7]])).length, 0, false, 0⟩ 0), kept ⟨v4, flat ([] ++ [[7]]), (flat ([] ++ [[7]])).length, 0, false, 0⟩ 0, 0, false, 0 + 1⟩ : Dk) = _
    rw [hk, List.take_length]
  rw [e5] at hd5
  have HB5 := Lib.hid (HB4.out.trans (hc5.belowN hs4 (fun b hb => by omega)))
  have hs5 : W ≤ w5.heap.size := Nat.le_trans hs4 hc5.size
  have hop := lOpenOk (es := [] ++ [[7]]) (rest := []) (N0 := fun b => b = W ∨ v5.ownBlock = some b) hd5 rfl (List.append_nil _).symm torn_nil (by intro e he; simp at he; subst he; exact ⟨fun x hx => by simp at hx; omega, by decide⟩) (by decide) rfl
    (fun b hb => by rcases hb with hb | hb; rw [hb]; exact hd5.hi; exact (hd5.own.lt b hb).2) (.inl rfl) (fun g hg => .inr hg)
  clear hcr hc5 hd5 e5 hs4
  go_wp2_with fail
  refine hop.mono ?_
  rintro en w6 ⟨hc6, l6, ev6, v6, N6, rfl, -, -, hM6, -, -⟩
  have HB6 := Lib.hid (HB5.out.trans (hc6.belowN hs5 (fun b hb => by omega)))
  have hs6 : W ≤ w6.heap.size := Nat.le_trans hs5 hc6.size
  have hen := lEntries hM6.lg hM6.en (by intro e he; simp at he; subst he; exact ⟨fun x hx => by simp at hx; omega, by decide⟩) (by decide)
  clear hop hc6 hM6 hs5
  go_wp2_with fail
  refine hen.mono ?_
  rintro en w7 ⟨v7, N7, rfl, hen7, hb7⟩
  obtain ⟨A, c, hv7, hrd⟩ := hen7.rd
  rw [hv7]
  obtain ⟨b, A1, c1, rfl, y1, hby⟩ := hrd 0 (by decide)
  have hby' : Byts w7 w7.heap.size A1 [7] := hby
  obtain ⟨b1, o1, rfl, -, hcc⟩ := hby'.at_ (k := 0) (by decide)
  have y2 := hcc 0 (by decide)
  have y1' : w7.cell? ⟨b, 0, none⟩ = some (.slice (some ⟨b1, o1, none⟩) 1 c1) := y1
  have y2' : w7.cell? ⟨b1, o1, none⟩ = some (.int .u8 7) := y2
  have HB7 := Lib.hid (HB6.out.trans (hb7.mono hs6))
  clear y1 y2 hcc hby hby' hrd hv7 hen7 hb7 hen
  go_wp2_with fail
  go_ret
  exact ⟨rfl, HB7.out⟩
end Go.Proofs.Ytikfeoghmpoigaa
