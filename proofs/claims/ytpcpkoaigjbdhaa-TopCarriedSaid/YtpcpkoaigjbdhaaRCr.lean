/- Contracts of the reference's carry and Carry. -/
import Derived.Test.YtpcpkoaigjbdhaaRCy
import Derived.Deep.DeepCutAuto
namespace Go.Proofs.Ytpcpkoaigjbdhaa
open Go.RowKit
theorem mv_up (cs : List Chg) {f t k : Nat} (h : f ≤ t) (hk : k < t - f) : mvAt (movesF cs f t) k = upM cs (f + k) := by
  have hz : f - t = 0 := by omega
  simp [movesF, ups, downs, hz, mvAt, hk]
theorem mv_down (cs : List Chg) {f t k : Nat} (h : t ≤ f) (hk : k < f - t) : mvAt (movesF cs f t) k = downM cs (f - 1 - k) := by
  have hz : t - f = 0 := by omega
  simp [movesF, ups, downs, hz, mvAt, hk]
theorem part_up (cs : List Chg) (v : Nat) : (⟨(chAt cs v).fr, (chAt cs v).fr + ((chAt cs v).to - (chAt cs v).fr), (chAt cs v).new - ((chAt cs v).to - (chAt cs v).fr)⟩ : Mov) = upM cs v := by
  simp only [upM, Mov.mk.injEq, true_and, and_true]; omega
theorem part_down (cs : List Chg) (v : Nat) : (⟨(chAt cs v).fr, (chAt cs v).fr + (chAt cs v).new, ((chAt cs v).to - (chAt cs v).fr) - (chAt cs v).new⟩ : Mov) = downM cs v := by
  simp only [downM]
theorem ch_bd {num L : Int} {cs : List Chg} (h : RoadOk num L cs) {k : Nat} (hk : k < cs.length) : (0 ≤ (chAt cs k).fr ∧ (chAt cs k).fr ≤ (chAt cs k).to) ∧ (chAt cs k).to ≤ 10000000 ∧ 0 ≤ (chAt cs k).new ∧ (chAt cs k).new ≤ 10000000 := by
  obtain ⟨_, ⟨d2, d3, d4⟩, ⟨d5, d6⟩, d7⟩ := h.2.2.2 k hk
  have := lenAt_bd h.2.1.1 h.2.1.2 k (fun j hj => h.2.2.2 j (by omega))
  omega
theorem carry_any (num L : Int) (cs : List Chg) (c f t : Int) : ∃ v er : Int, CarryIs num L cs c f t v er ∧ ∀ v' er', CarryIs num L cs c f t v' er' → v' = v ∧ er' = er := by
  by_cases ho : RoadOk num L cs
  · by_cases hv : VersOk cs f t
    · by_cases hin : 0 ≤ c ∧ c ≤ lenAt L cs f.toNat
      · cases hr : carryTo (movesF cs f.toNat t.toNat) c (movesF cs f.toNat t.toNat).length with
        | some d => exact ⟨d, 0, ⟨fun h => absurd ho h, fun _ h => absurd hv h, fun _ _ h => absurd hin h, fun _ _ _ => ⟨fun d' hd => ⟨by (have := hr.symm.trans hd; cases this; rfl), rfl⟩, fun hd => by (have := hr.symm.trans hd; cases this)⟩⟩, fun v' er' h => (h.2.2.2 ho hv hin).1 d hr⟩
        | none => exact ⟨0, 62, ⟨fun h => absurd ho h, fun _ h => absurd hv h, fun _ _ h => absurd hin h, fun _ _ _ => ⟨fun d' hd => by (have := hr.symm.trans hd; cases this), fun _ => ⟨rfl, rfl⟩⟩⟩, fun v' er' h => (h.2.2.2 ho hv hin).2 hr⟩
      · exact ⟨0, 2, ⟨fun h => absurd ho h, fun _ h => absurd hv h, fun _ _ _ => ⟨rfl, rfl⟩, fun _ _ h => absurd h hin⟩, fun v' er' h => h.2.2.1 ho hv hin⟩
    · exact ⟨0, 61, ⟨fun h => absurd ho h, fun _ _ => ⟨rfl, rfl⟩, fun _ h => absurd h hv, fun _ h => absurd h hv⟩, fun v' er' h => h.2.1 ho hv⟩
  · exact ⟨0, 60, ⟨fun _ => ⟨rfl, rfl⟩, fun h => absurd h ho, fun h => absurd h ho, fun h => absurd h ho⟩, fun v' er' h => h.1 ho⟩
end Go.Proofs.Ytpcpkoaigjbdhaa

