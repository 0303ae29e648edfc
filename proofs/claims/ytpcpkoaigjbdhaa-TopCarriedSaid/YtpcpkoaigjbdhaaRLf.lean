/- Contract of the reference's left (72): what is left of stretches over a part that is replaced. -/
import Derived.Test.YtpcpkoaigjbdhaaStr
namespace Go.Proofs.Ytpcpkoaigjbdhaa
open Go.RowKit
def mvOf (fr old new : Int) : Mov := ⟨fr, fr + old, new - old⟩
theorem pt_ref (fr old new : Int) (s : Int × Int) : ptTo (mvOf fr old new) s 2 = (if s.1 < min s.2 fr then [(s.1, min s.2 fr)] else []) ++ (if max s.1 (fr + old) < s.2 then [(max s.1 (fr + old) + new - old, s.2 + new - old)] else []) := by
  simp only [ptTo, partOf, mvOf]
  have e1 : max s.1 (fr + old) + (new - old) = max s.1 (fr + old) + new - old := by omega
  have e2 : s.2 + (new - old) = s.2 + new - old := by omega
  have e3 : (max s.1 (fr + old) + (new - old) < s.2 + (new - old)) ↔ (max s.1 (fr + old) < s.2) := by omega
  by_cases h1 : s.1 < min s.2 fr <;> by_cases h2 : max s.1 (fr + old) < s.2 <;> simp [h1, h2, e1, e2]
end Go.Proofs.Ytpcpkoaigjbdhaa

