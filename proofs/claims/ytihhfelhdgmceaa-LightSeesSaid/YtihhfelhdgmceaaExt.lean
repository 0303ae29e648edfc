/- Regions that draw their order and hold calls that make memory but hand back plain values: one walk, in the class of the worlds that are as W below B. -/
import Derived.Test.YtihhfelhdgmceaaBase
namespace Go.Proofs.Ytihhfelhdgmceaa
open Go.RowKit
open Classical in
/-- Any world that is as w below B; w itself where x is none such. -/
noncomputable def ext (B : Nat) (w : World) (x : Option World) : World := match x with | none => w | some y => if Below B w y then y else w
theorem ext_below (B : Nat) (w : World) (x : Option World) : Below B w (ext B w x) := by
  cases x with
  | none => exact Below.refl _ _
  | some y =>
    unfold ext
    by_cases h : Below B w y
    · simp [h]
    · simpa [h] using Below.refl _ _
theorem ext_of {B : Nat} {w w' : World} (h : Below B w w') : ∃ x, w' = ext B w x := ⟨some w', by simp [ext, h]⟩
theorem ext_cell {B : Nat} {w : World} {b o : Nat} {v : Value} (hb : b < B) (h : w.cell? ⟨b, o, none⟩ = some v) (x : Option World) : (ext B w x).cell? ⟨b, o, none⟩ = some v :=
  ((ext_below B w x).cell (p := ⟨b, o, none⟩) hb).trans h
theorem ext_size (B : Nat) (w : World) (x : Option World) : w.heap.size ≤ (ext B w x).heap.size := (ext_below B w x).size
/-- A callee that makes memory, met in such a region. -/
theorem ext_call {P : Program} {f : FuncId} {args : Array Value} {w : World} {B : Nat} {x : Option World} {v : Value} (hB : B ≤ w.heap.size)
    (h : Calls P f args (ext B w x) fun e w' => e = .returned v ∧ Below (ext B w x).heap.size (ext B w x) w') : Calls P f args (ext B w x) fun e w'' => e = .returned v ∧ ∃ y, w'' = ext B w y :=
  h.mono fun _ _ ⟨he, hb⟩ => ⟨he, ext_of ((ext_below B w x).trans (hb.mono (Nat.le_trans hB (ext_size B w x))))⟩
theorem ext_call_same {P : Program} {f : FuncId} {args : Array Value} {w : World} {B : Nat} {x : Option World} {v : Value}
    (h : Calls P f args (ext B w x) fun e w' => e = .returned v ∧ ext B w x = w') : Calls P f args (ext B w x) fun e w'' => e = .returned v ∧ ∃ y, w'' = ext B w y :=
  h.mono fun _ _ ⟨he, hb⟩ => ⟨he, x, hb.symm⟩
theorem wp_region_ext {P : Program} {id : Nat} {Q : Exit → Act → World → Prop} {a : Act} {w : World} {l : List Oper} (B : Nat) (hm : P.follows .mixedOrders = true) (hB : Region.lexB .any l.toArray = true)
    (h : wpQuiet P l.toArray (fun w' => ∃ x, w' = ext B w x) (fun a' => ∀ w', (∃ x, w' = ext B w x) → Q .normal a' w') l a) : (Code.region id l.toArray true).wp P Q a w :=
  wp_region_quiet (C := fun w' => ∃ x, w' = ext B w x) hm hB (ext_of (w' := { w with drawn := w.drawn + 1 }) (Below.drew (Below.refl B w))) (by simpa using h)
end Go.Proofs.Ytihhfelhdgmceaa
