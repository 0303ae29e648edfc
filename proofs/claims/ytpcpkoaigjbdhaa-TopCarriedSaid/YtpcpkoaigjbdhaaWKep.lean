/- The walk of RoadKept. -/
import Derived.Test.YtpcpkoaigjbdhaaRKt
import Derived.Test.YtpcpkoaigjbdhaaGon
import Derived.Test.YtpcpkoaigjbdhaaWCar
namespace Go.Proofs.Ytpcpkoaigjbdhaa
open Go.RowKit
set_option maxRecDepth 100000 in
set_option maxHeartbeats 4000000 in
theorem lSameSpansL (A A' : Option Addr) (c c' B B' : Nat) (xs : List (Int × Int)) (w : World) (h : Pairs w B A xs) (h' : Pairs w B' A' xs) (hn : xs.length ≤ 10000000) :
    Calls Try.prog 11 #[.slice A xs.length c, .slice A' xs.length c'] w fun e w' => e = .returned (.bool true) ∧ Drew w w' := by
  go_enter Try.func11, Try.ntmps11
  go_wp2
  go_loopw [5] (fun i wr => ∃ k : Nat, k ≤ xs.length ∧ i = .int .i64 k ∧ Drew w wr) (fun i _ => xs.length - (intOf i).toNat)
  case atStart => exact ⟨0, Nat.zero_le _, rfl, Drew.refl _⟩
  case round =>
    obtain ⟨k, hk, rfl, hd⟩ := hrel
    by_cases hlt : k < xs.length
    · obtain ⟨b, o, rfl, _, hc⟩ := (h.keep fun p _ => hd.cell p).at_ hlt
      obtain ⟨x1, x2⟩ := hc k hlt
      obtain ⟨b', o', hA', _, hc'⟩ := (h'.keep fun p _ => hd.cell p).at_ hlt
      obtain ⟨y1, y2⟩ := hc' k hlt
      clear hc hc' h h'
      subst hA'
      go_wp2_with fail
      go_quiet (fail)
      go_wp2
      exact ⟨⟨k + 1, by omega, by go_num, hd.drewN nq⟩, by simp [intOf]; omega⟩
    · go_wp2
      go_ret
      exact ⟨rfl, hd⟩
theorem kept_bad {num L : Int} {cs : List Chg} {s : Int × Int} {f t : Int} (h : ¬ (RoadOk num L cs ∧ VersOk cs f t ∧ SpOk L cs s f.toNat)) : ∃ er : Int, ∀ (w w' : World) (e : Ending), KeptRes num L cs s f t w e w' → e = .returned (.tuple #[.slice none 0 0, .int .i64 er]) ∧ Below w.heap.size w w' := by
  by_cases ho : RoadOk num L cs
  · by_cases hv : VersOk cs f t
    · exact ⟨2, fun w w' e hh => ⟨hh.2.2.1 ho hv (fun hs => h ⟨ho, hv, hs⟩), hh.2.2.2.2⟩⟩
    · exact ⟨61, fun w w' e hh => ⟨hh.2.1 ho hv, hh.2.2.2.2⟩⟩
  · exact ⟨60, fun w w' e hh => ⟨hh.1 ho, hh.2.2.2.2⟩⟩
end Go.Proofs.Ytpcpkoaigjbdhaa

