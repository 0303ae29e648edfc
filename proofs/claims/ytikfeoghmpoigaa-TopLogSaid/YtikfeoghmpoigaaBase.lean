/- Words for memory that the walks of the road chapter share: slices that read as lists of ints, rows of rows, and how they are kept. No statement of the seat is proved here. -/
import Derived.Test.YtikfeoghmpoigaaRows
import Derived.WalkKit
import Derived.ProofKit
import Derived.Lib.Hide
import Derived.Deep.QuietTactic
import Derived.BigQuiet
namespace Go.Proofs.Ytikfeoghmpoigaa
open Go.RowKit
/-- Element j of a list of ints; 0 behind its end. -/
def at0 (xs : List Int) (j : Nat) : Int := xs.getD j 0
/-- Element j of a list of lists; the empty one behind its end. -/
def at1 (xs : List (List Int)) (j : Nat) : List Int := xs.getD j []

/-- The slice address A reads as the ints xs, in blocks below B. -/
def Ints (w : World) (B : Nat) (A : Option Addr) (xs : List Int) : Prop :=
  xs = [] ∨ ∃ b off, A = some ⟨b, off, none⟩ ∧ b < B ∧ ∀ j, j < xs.length → w.cell? ⟨b, off + j, none⟩ = some (.int .i64 (at0 xs j))

section
variable {w w' : World} {B B' : Nat} {A : Option Addr} {xs : List Int}
theorem Ints.keep (h : Ints w B A xs) (hk : ∀ p : Addr, p.block < B → w'.cell? p = w.cell? p) : Ints w' B A xs := by
  rcases h with h | ⟨b, off, hA, hb, hc⟩
  · exact .inl h
  · exact .inr ⟨b, off, hA, hb, fun j hj => (hk _ hb).trans (hc j hj)⟩
theorem Ints.more (h : Ints w B A xs) (hB : B ≤ B') : Ints w B' A xs := by
  rcases h with h | ⟨b, off, hA, hb, hc⟩
  · exact .inl h
  · exact .inr ⟨b, off, hA, by omega, hc⟩
theorem Ints.below (h : Ints w B A xs) (hb : Below B w w') : Ints w' B A xs := h.keep fun _ hp => hb.cell hp
theorem Ints.at_ (h : Ints w B A xs) {k : Nat} (hk : k < xs.length) : ∃ b off, A = some ⟨b, off, none⟩ ∧ b < B ∧ ∀ j, j < xs.length → w.cell? ⟨b, off + j, none⟩ = some (.int .i64 (at0 xs j)) := by
  rcases h with rfl | h
  · simp at hk
  · exact h
end
theorem bcell {W w1 : World} {B : Nat} (hb : Below B W w1) : (∀ b o, b < B → w1.cell? ⟨b, o, none⟩ = W.cell? ⟨b, o, none⟩) ∧ (∀ b o, b < B → w1.frozen? ⟨b, o, none⟩ = W.frozen? ⟨b, o, none⟩) :=
  ⟨fun b o h => hb.cell (p := ⟨b, o, none⟩) h, fun b o h => hb.frozen (p := ⟨b, o, none⟩) h⟩
theorem below_drewN {B : Nat} {a w : World} (h : Below B a w) (n : Nat) : Below B a (w.drewN n) := ⟨h.os, h.tape, h.output, h.size, h.block⟩
/-- The world after some draws. -/
def Drew (w w' : World) : Prop := ∃ q, w' = w.drewN q
section
variable {w w' : World} {B : Nat} {A : Option Addr} {xs : List Int}
theorem Drew.refl (w : World) : Drew w w := ⟨0, rfl⟩
theorem Drew.drewN (h : Drew w w') (n : Nat) : Drew w (w'.drewN n) := by obtain ⟨q, rfl⟩ := h; exact ⟨q + n, by simp⟩
theorem Drew.drew (h : Drew w w') : Drew w w'.drew := h.drewN 1
theorem Drew.trans {w2 : World} (h : Drew w w') (h2 : Drew w' w2) : Drew w w2 := by obtain ⟨q, rfl⟩ := h2; exact h.drewN q
theorem Drew.cell (h : Drew w w') (p : Addr) : w'.cell? p = w.cell? p := by obtain ⟨q, rfl⟩ := h; rfl
theorem Drew.frozen (h : Drew w w') (p : Addr) : w'.frozen? p = w.frozen? p := by obtain ⟨q, rfl⟩ := h; rfl
theorem Drew.heap (h : Drew w w') : w'.heap = w.heap := by obtain ⟨q, rfl⟩ := h; rfl
theorem Drew.below (h : Drew w w') (B : Nat) : Below B w w' := by obtain ⟨q, rfl⟩ := h; exact below_drewN (Below.refl _ _) q
theorem Drew.ints (h : Drew w w') (hi : Ints w B A xs) : Ints w' B A xs := hi.keep fun p _ => h.cell p
end
/-- A callee that only draws, met in a quiet region. -/
theorem quiet_drew {P : Program} {f : FuncId} {args : Array Value} {w : World} {n : Nat} {v : Value}
    (h : Calls P f args (w.drewN n) fun e w' => e = .returned v ∧ Drew (w.drewN n) w') : Calls P f args (w.drewN n) fun e w'' => e = .returned v ∧ ∃ m, w'' = w.drewN m :=
  h.mono fun _ _ ⟨he, m, hm⟩ => ⟨he, n + m, by rw [hm, World.drewN_drewN]⟩
theorem quiet_same {P : Program} {f : FuncId} {args : Array Value} {w : World} {n : Nat} {v : Value}
    (h : Calls P f args (w.drewN n) fun e w' => e = .returned v ∧ w.drewN n = w') : Calls P f args (w.drewN n) fun e w'' => e = .returned v ∧ ∃ m, w'' = w.drewN m :=
  h.mono fun _ _ ⟨he, hm⟩ => ⟨he, n, hm.symm⟩
theorem ret_int {k : IntKind} {a b : Int} (h : a = b) : Ending.returned (.int k a) = .returned (.int k b) := by rw [h]
theorem ret_bool {a b : Bool} (h : a = b) : Ending.returned (.bool a) = .returned (.bool b) := by rw [h]
def inB (lo n hi : Int) : Bool := decide (lo ≤ n) && decide (n ≤ hi)
theorem inB_t {lo n hi : Int} (h1 : lo ≤ n) (h2 : n ≤ hi) : inB lo n hi = true := by simp [inB, h1, h2]
theorem inB_f {lo n hi : Int} (h : ¬ (lo ≤ n ∧ n ≤ hi)) : inB lo n hi = false := by
  cases hh : inB lo n hi with
  | false => rfl
  | true => exact absurd (by simpa [inB] using hh) h
theorem inB_iff {lo n hi : Int} : inB lo n hi = true ↔ lo ≤ n ∧ n ≤ hi := by simp [inB]
theorem hid_more {p : Nat → Prop} {k : Nat} (h : Hid (∀ j, j < k → p j)) (hk : p k) : Hid (∀ j, j < k + 1 → p j) := fun j hj => by
  by_cases e : j = k
  · rw [e]; exact hk
  · exact h.out j (by omega)
theorem hid_none {p : Nat → Prop} : Hid (∀ j, j < 0 → p j) := fun j hj => absurd hj (by omega)
/-- Element j of a list of spans. -/
def atp (xs : List (Int × Int)) (j : Nat) : Int × Int := xs.getD j (0, 0)
/-- The slice address A reads as the spans (readings, measures) xs, in blocks below B. -/
def Pairs (w : World) (B : Nat) (A : Option Addr) (xs : List (Int × Int)) : Prop :=
  xs = [] ∨ ∃ b off, A = some ⟨b, off, none⟩ ∧ b < B ∧ ∀ j, j < xs.length → w.cell? ⟨b, off + j * 2, none⟩ = some (.int .i64 (atp xs j).1) ∧ w.cell? ⟨b, off + j * 2 + 1, none⟩ = some (.int .i64 (atp xs j).2)
section
variable {w w' : World} {B B' : Nat} {A : Option Addr} {xs : List (Int × Int)}
theorem Pairs.keep (h : Pairs w B A xs) (hk : ∀ p : Addr, p.block < B → w'.cell? p = w.cell? p) : Pairs w' B A xs := by
  rcases h with h | ⟨b, off, hA, hb, hc⟩
  · exact .inl h
  · exact .inr ⟨b, off, hA, hb, fun j hj => ⟨(hk _ hb).trans (hc j hj).1, (hk _ hb).trans (hc j hj).2⟩⟩
theorem Pairs.more (h : Pairs w B A xs) (hB : B ≤ B') : Pairs w B' A xs := by
  rcases h with h | ⟨b, off, hA, hb, hc⟩
  · exact .inl h
  · exact .inr ⟨b, off, hA, by omega, hc⟩
theorem Pairs.below (h : Pairs w B A xs) (hb : Below B w w') : Pairs w' B A xs := h.keep fun _ hp => hb.cell hp
theorem Pairs.at_ (h : Pairs w B A xs) {k : Nat} (hk : k < xs.length) : ∃ b off, A = some ⟨b, off, none⟩ ∧ b < B ∧
    ∀ j, j < xs.length → w.cell? ⟨b, off + j * 2, none⟩ = some (.int .i64 (atp xs j).1) ∧ w.cell? ⟨b, off + j * 2 + 1, none⟩ = some (.int .i64 (atp xs j).2) := by
  rcases h with rfl | h
  · simp at hk
  · exact h
end
end Go.Proofs.Ytikfeoghmpoigaa

