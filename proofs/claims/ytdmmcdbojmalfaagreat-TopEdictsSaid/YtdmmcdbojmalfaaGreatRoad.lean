/- Roads: their changes in memory, which are valid, and the lengths of their versions. Plain. -/
import Derived.Test.YtdmmcdbojmalfaaGreatBase
namespace Go.Proofs.YtdmmcdbojmalfaaGreat
open Go.RowKit
structure Chg where
  day : Int
  fr : Int
  to : Int
  new : Int
def chAt (cs : List Chg) (j : Nat) : Chg := cs.getD j ⟨0, 0, 0, 0⟩
/-- The slice address A reads as the changes cs, in blocks below B. -/
def Chs (w : World) (B : Nat) (A : Option Addr) (cs : List Chg) : Prop :=
  cs = [] ∨ ∃ b off, A = some ⟨b, off, none⟩ ∧ b < B ∧ ∀ j, j < cs.length → w.cell? ⟨b, off + j * 4, none⟩ = some (.int .i64 (chAt cs j).day) ∧ w.cell? ⟨b, off + j * 4 + 1, none⟩ = some (.int .i64 (chAt cs j).fr) ∧
    w.cell? ⟨b, off + j * 4 + 2, none⟩ = some (.int .i64 (chAt cs j).to) ∧ w.cell? ⟨b, off + j * 4 + 3, none⟩ = some (.int .i64 (chAt cs j).new)
section
variable {w w' : World} {B B' : Nat} {A : Option Addr} {cs : List Chg}
theorem Chs.keep (h : Chs w B A cs) (hk : ∀ p : Addr, p.block < B → w'.cell? p = w.cell? p) : Chs w' B A cs := by
  rcases h with h | ⟨b, off, hA, hb, hc⟩
  · exact .inl h
  · exact .inr ⟨b, off, hA, hb, fun j hj => ⟨(hk _ hb).trans (hc j hj).1, (hk _ hb).trans (hc j hj).2.1, (hk _ hb).trans (hc j hj).2.2.1, (hk _ hb).trans (hc j hj).2.2.2⟩⟩
theorem Chs.more (h : Chs w B A cs) (hB : B ≤ B') : Chs w B' A cs := by
  rcases h with h | ⟨b, off, hA, hb, hc⟩
  · exact .inl h
  · exact .inr ⟨b, off, hA, by omega, hc⟩
theorem Chs.below (h : Chs w B A cs) (hb : Below B w w') : Chs w' B A cs := h.keep fun _ hp => hb.cell hp
theorem Chs.at_ (h : Chs w B A cs) {k : Nat} (hk : k < cs.length) : ∃ b off, A = some ⟨b, off, none⟩ ∧ b < B ∧
    w.cell? ⟨b, off + k * 4, none⟩ = some (.int .i64 (chAt cs k).day) ∧ w.cell? ⟨b, off + k * 4 + 1, none⟩ = some (.int .i64 (chAt cs k).fr) ∧
    w.cell? ⟨b, off + k * 4 + 2, none⟩ = some (.int .i64 (chAt cs k).to) ∧ w.cell? ⟨b, off + k * 4 + 3, none⟩ = some (.int .i64 (chAt cs k).new) := by
  rcases h with rfl | ⟨b, off, hA, hb, hc⟩
  · simp at hk
  · exact ⟨b, off, hA, hb, hc k hk⟩
end
/-- The length of version k. -/
def lenAt (L : Int) (cs : List Chg) : Nat → Int
  | 0 => L
  | k + 1 => lenAt L cs k + ((chAt cs k).new - ((chAt cs k).to - (chAt cs k).fr))
/-- The day of the change before number k. -/
def dayAt (cs : List Chg) : Nat → Int
  | 0 => 0
  | k + 1 => (chAt cs k).day
/-- Change number k is right. -/
def chOk (L : Int) (cs : List Chg) (k : Nat) : Prop :=
  (dayAt cs k ≤ (chAt cs k).day ∧ (chAt cs k).day ≤ 100000) ∧ (0 ≤ (chAt cs k).fr ∧ (chAt cs k).fr ≤ (chAt cs k).to ∧ (chAt cs k).to ≤ lenAt L cs k) ∧ (0 ≤ (chAt cs k).new ∧ (chAt cs k).new ≤ 10000000) ∧ lenAt L cs (k + 1) ≤ 10000000
def RoadOk (num L : Int) (cs : List Chg) : Prop := (1 ≤ num ∧ num ≤ 1000000) ∧ (0 ≤ L ∧ L ≤ 10000000) ∧ cs.length ≤ 40 ∧ ∀ k, k < cs.length → chOk L cs k
theorem lenAt_bd {L : Int} {cs : List Chg} (h0 : 0 ≤ L) (h1 : L ≤ 10000000) : ∀ k, (∀ j, j < k → chOk L cs j) → 0 ≤ lenAt L cs k ∧ lenAt L cs k ≤ 10000000
  | 0, _ => ⟨h0, h1⟩
  | k + 1, h => by
    obtain ⟨a, b⟩ := lenAt_bd h0 h1 k fun j hj => h j (by omega)
    obtain ⟨_, ⟨c1, c2, c3⟩, ⟨d1, _⟩, e⟩ := h k (by omega)
    refine ⟨?_, e⟩
    simp only [lenAt]
    omega
theorem dayAt_bd {L : Int} {cs : List Chg} : ∀ k, (∀ j, j < k → chOk L cs j) → 0 ≤ dayAt cs k ∧ dayAt cs k ≤ 100000
  | 0, _ => by simp [dayAt]
  | k + 1, h => by
    obtain ⟨a, b⟩ := dayAt_bd k fun j hj => h j (by omega)
    obtain ⟨⟨c1, c2⟩, _⟩ := h k (by omega)
    simp only [dayAt]
    omega
/-- The lengths of the versions 0 to k. -/
def lens (L : Int) (cs : List Chg) (k : Nat) : List Int := (List.range (k + 1)).map (lenAt L cs)
theorem lens_length (L : Int) (cs : List Chg) (k : Nat) : (lens L cs k).length = k + 1 := by simp [lens]
theorem lens_succ (L : Int) (cs : List Chg) (k : Nat) : lens L cs (k + 1) = lens L cs k ++ [lenAt L cs (k + 1)] := by simp [lens, List.range_succ]
theorem lens_at (L : Int) (cs : List Chg) {k j : Nat} (h : j ≤ k) : at0 (lens L cs k) j = lenAt L cs j := by simp [lens, at0, show j < k + 1 by omega]
end Go.Proofs.YtdmmcdbojmalfaaGreat
