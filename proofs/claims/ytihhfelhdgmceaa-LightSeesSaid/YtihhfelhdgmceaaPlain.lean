/- What the light chapter's functions compute, on plain lists of integers: no Go in sight. No statement of the seat is proved here. -/
import Derived.Test.YtihhfelhdgmceaaBase
namespace Go.Proofs.Ytihhfelhdgmceaa
open Go.RowKit

def inB (lo n hi : Int) : Bool := decide (lo ≤ n) && decide (n ≤ hi)
theorem inB_t {lo n hi : Int} (h1 : lo ≤ n) (h2 : n ≤ hi) : inB lo n hi = true := by simp [inB, h1, h2]
theorem inB_f {lo n hi : Int} (h : ¬ (lo ≤ n ∧ n ≤ hi)) : inB lo n hi = false := by
  cases hh : inB lo n hi with
  | false => rfl
  | true => exact absurd (by simpa [inB] using hh) h
theorem inB_iff {lo n hi : Int} : inB lo n hi = true ↔ lo ≤ n ∧ n ≤ hi := by simp [inB]

/-- Element i of a list of slopes is right. -/
def slopeAt (xs : List Int) (i : Nat) : Prop := 1 ≤ at0 xs i ∧ at0 xs i ≤ 1000000 ∧ (0 < i → at0 xs (i - 1) < at0 xs i)
def Slopes (xs : List Int) : Prop := 2 ≤ xs.length ∧ xs.length ≤ 6 ∧ ∀ i, i < xs.length → slopeAt xs i
open Classical in
noncomputable def slopesB (xs : List Int) : Bool := decide (Slopes xs)
theorem slopesB_t {xs : List Int} (h : Slopes xs) : slopesB xs = true := by simp [slopesB, h]
theorem slopesB_f {xs : List Int} (h : ¬ Slopes xs) : slopesB xs = false := by simp [slopesB, h]
theorem slopesB_bad {xs : List Int} {i : Nat} (hi : i < xs.length) (h : ¬ slopeAt xs i) : slopesB xs = false := slopesB_f fun hs => h (hs.2.2 i hi)

structure Tb where
  obs : List Int
  ent : List Int
  r : List (List Int)
def cf (t : Tb) (i k : Nat) : Int := at0 (at1 t.r i) k
def coefAt (t : Tb) (i k : Nat) : Prop := 0 ≤ cf t i k ∧ cf t i k ≤ 100000 ∧ (0 < k → cf t i k ≤ cf t i (k - 1)) ∧ (0 < i → cf t i k ≤ cf t (i - 1) k)
def rowAt (t : Tb) (i : Nat) : Prop := (at1 t.r i).length = t.ent.length ∧ ∀ k, k < t.ent.length → coefAt t i k
def TabOk (t : Tb) : Prop := Slopes t.obs ∧ Slopes t.ent ∧ t.r.length = t.obs.length ∧ ∀ i, i < t.r.length → rowAt t i
open Classical in
noncomputable def tabB (t : Tb) : Bool := decide (TabOk t)
theorem tabB_t {t : Tb} (h : TabOk t) : tabB t = true := by simp [tabB, h]
theorem tabB_f {t : Tb} (h : ¬ TabOk t) : tabB t = false := by simp [tabB, h]
theorem tabB_bad {t : Tb} {i : Nat} (hi : i < t.r.length) (h : ¬ rowAt t i) : tabB t = false := tabB_f fun hs => h (hs.2.2.2 i hi)
/-- No list of a table has more than 40 elements. -/
def Small (t : Tb) : Prop := t.obs.length ≤ 40 ∧ t.ent.length ≤ 40 ∧ t.r.length ≤ 40 ∧ ∀ i, i < t.r.length → (at1 t.r i).length ≤ 40

/-- Rows of rows. -/
def Rows2 (w : World) (B : Nat) (A : Option Addr) (R : List (List Int)) : Prop :=
  R = [] ∨ ∃ (b off : Nat) (As : Nat → Option Addr) (Cs : Nat → Nat), A = some ⟨b, off, none⟩ ∧ b < B ∧
    ∀ j, j < R.length → w.cell? ⟨b, off + j, none⟩ = some (.slice (As j) (at1 R j).length (Cs j)) ∧ Ints w B (As j) (at1 R j)
section
variable {w w' : World} {B B' : Nat} {A : Option Addr} {R : List (List Int)}
theorem Rows2.keep (h : Rows2 w B A R) (hk : ∀ p : Addr, p.block < B → w'.cell? p = w.cell? p) : Rows2 w' B A R := by
  rcases h with h | ⟨b, off, As, Cs, hA, hb, hc⟩
  · exact .inl h
  · exact .inr ⟨b, off, As, Cs, hA, hb, fun j hj => ⟨(hk _ hb).trans (hc j hj).1, (hc j hj).2.keep hk⟩⟩
theorem Rows2.more (h : Rows2 w B A R) (hB : B ≤ B') : Rows2 w B' A R := by
  rcases h with h | ⟨b, off, As, Cs, hA, hb, hc⟩
  · exact .inl h
  · exact .inr ⟨b, off, As, Cs, hA, by omega, fun j hj => ⟨(hc j hj).1, (hc j hj).2.more hB⟩⟩
end
theorem Rows2.form {w : World} {B : Nat} {A : Option Addr} {R : List (List Int)} (h : Rows2 w B A R) (hk : 0 < R.length) : ∃ b off, A = some ⟨b, off, none⟩ ∧ b < B ∧
    ∀ j, j < R.length → ∃ Aj Cj, w.cell? ⟨b, off + j, none⟩ = some (.slice Aj (at1 R j).length Cj) ∧ Ints w B Aj (at1 R j) := by
  rcases h with rfl | ⟨b, off, As, Cs, hA, hb, hc⟩
  · simp at hk
  · exact ⟨b, off, hA, hb, fun j hj => ⟨As j, Cs j, hc j hj⟩⟩
/-- A table in memory: the three slices of its fields. -/
structure Tab (w : World) (B : Nat) (A0 A1 A2 : Option Addr) (t : Tb) : Prop where
  o : Ints w B A0 t.obs
  e : Ints w B A1 t.ent
  r : Rows2 w B A2 t.r
section
variable {w w' : World} {B B' : Nat} {A0 A1 A2 : Option Addr} {t : Tb}
theorem Tab.keep (h : Tab w B A0 A1 A2 t) (hk : ∀ p : Addr, p.block < B → w'.cell? p = w.cell? p) : Tab w' B A0 A1 A2 t := ⟨h.o.keep hk, h.e.keep hk, h.r.keep hk⟩
theorem Tab.more (h : Tab w B A0 A1 A2 t) (hB : B ≤ B') : Tab w B' A0 A1 A2 t := ⟨h.o.more hB, h.e.more hB, h.r.more hB⟩
theorem Tab.below (h : Tab w B A0 A1 A2 t) (hb : Below B w w') : Tab w' B A0 A1 A2 t := h.keep fun _ hp => hb.cell hp
end
end Go.Proofs.Ytihhfelhdgmceaa
