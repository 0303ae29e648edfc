/-
  No cell of these rows narrows 'for every input' (looked for: loops, veiled, ifaces, maps, wideKeys, modest, calm, conditions, laid).
  DERIVED. THE GIVEN ROWS OF THIS SEAT. 13 by the template 'for every input the law returns true; each argument reads behind the call as it read before'; 0 by the template 'total and deterministic' (their statements: YtoknkmlkeacgjaaTotals.lean).
  GIVEN WITH THE SEED: the statements are not yours to turn. If you find one false, say at which input.
  Laid BY PROGRAM, IN A SANDBOX (cutbox-rows.mjs): the forced cells as the released guide's own fill.sh prints them over the translation 2daec7095e885328… (all of the seat's roots in one cut). By AI agents, Wed Nov 11 2026. No macro, syntax, notation, axiom, sorry.
-/
import Derived.Test.YtoknkmlkeacgjaaChecked
import GoSem.Claim
import GoSem.ClaimJoined
import GoSem.ClaimMapViews
import Derived.JoinedTies
import Derived.KernelRfl
namespace Go.Proofs.Ytoknkmlkeacgjaa
/- THE CELL 'sum', in the pinned program and in every row, IS THE sha256 OF THE DUMP (.gsa) THAT YtoknkmlkeacgjaaProg.lean LOADS. Nothing in Lean hashes anything: it is a label: what it is worth is what the hold of that sum in a sandbox is worth. -/
noncomputable def Try.pinned : Pinned := { name := "ytoknkmlkeacgjaa", sum := "2daec7095e885328e90e63bf21c11f7ef98bade1d658fb428735f6b5fd0ede42", checked := Try.checked }
namespace Rows
def none {H : Type} : Left H := { results := [], args := [] }

/-- 'blazonlaw06.RoadCarries': WHATEVER THE INPUT: true; the input reads as it did. -/
def roadCarriesSpec : ChangeSpec := { name := "roadCarries", fn := fun _ => fun
  | [d1, d2, d3] => { results := [.lit (.bool true)], args := [d1, d2, d3] }
  | _ => none }
def roadCarriesRow : OpenClaim := { program := "ytoknkmlkeacgjaa", sum := "2daec7095e885328e90e63bf21c11f7ef98bade1d658fb428735f6b5fd0ede42", func := "blazon/blazonlaw06.RoadCarries", spec := "roadCarries", unfollowed := true, recurses := true, apart := false }
def RoadCarriesSaid : Prop := roadCarriesRow.holds Try.pinned (OpenSpec.ofChange roadCarriesSpec)

/-- ITS FALSE NEIGHBOUR: 'it returns false'. Refute it at one input. -/
def roadCarriesWrong : ChangeSpec := { name := "roadCarries", fn := fun _ => fun
  | [d1, d2, d3] => { results := [.lit (.bool false)], args := [d1, d2, d3] }
  | _ => none }
def RoadCarriesWrongFalsely : Prop := roadCarriesRow.holds Try.pinned (OpenSpec.ofChange roadCarriesWrong)

/-- 'blazonlaw06.RoadOrder': WHATEVER THE INPUT: true; the input reads as it did. -/
def roadOrderSpec : ChangeSpec := { name := "roadOrder", fn := fun _ => fun
  | [d1, d2, d3] => { results := [.lit (.bool true)], args := [d1, d2, d3] }
  | _ => none }
def roadOrderRow : OpenClaim := { program := "ytoknkmlkeacgjaa", sum := "2daec7095e885328e90e63bf21c11f7ef98bade1d658fb428735f6b5fd0ede42", func := "blazon/blazonlaw06.RoadOrder", spec := "roadOrder", unfollowed := true, recurses := true, apart := false }
def RoadOrderSaid : Prop := roadOrderRow.holds Try.pinned (OpenSpec.ofChange roadOrderSpec)

/-- ITS FALSE NEIGHBOUR: 'it returns false'. Refute it at one input. -/
def roadOrderWrong : ChangeSpec := { name := "roadOrder", fn := fun _ => fun
  | [d1, d2, d3] => { results := [.lit (.bool false)], args := [d1, d2, d3] }
  | _ => none }
def RoadOrderWrongFalsely : Prop := roadOrderRow.holds Try.pinned (OpenSpec.ofChange roadOrderWrong)

/-- 'blazonlaw06.RoadAhead': WHATEVER THE INPUT: true; the input reads as it did. -/
def roadAheadSpec : ChangeSpec := { name := "roadAhead", fn := fun _ => fun
  | [d1, d2, d3] => { results := [.lit (.bool true)], args := [d1, d2, d3] }
  | _ => none }
def roadAheadRow : OpenClaim := { program := "ytoknkmlkeacgjaa", sum := "2daec7095e885328e90e63bf21c11f7ef98bade1d658fb428735f6b5fd0ede42", func := "blazon/blazonlaw06.RoadAhead", spec := "roadAhead", unfollowed := true, recurses := true, apart := false }
def RoadAheadSaid : Prop := roadAheadRow.holds Try.pinned (OpenSpec.ofChange roadAheadSpec)

/-- ITS FALSE NEIGHBOUR: 'it returns false'. Refute it at one input. -/
def roadAheadWrong : ChangeSpec := { name := "roadAhead", fn := fun _ => fun
  | [d1, d2, d3] => { results := [.lit (.bool false)], args := [d1, d2, d3] }
  | _ => none }
def RoadAheadWrongFalsely : Prop := roadAheadRow.holds Try.pinned (OpenSpec.ofChange roadAheadWrong)

/-- 'blazonlaw06.RoadKept': WHATEVER THE INPUT: true; the input reads as it did. -/
def roadKeptSpec : ChangeSpec := { name := "roadKept", fn := fun _ => fun
  | [d1, d2, d3] => { results := [.lit (.bool true)], args := [d1, d2, d3] }
  | _ => none }
def roadKeptRow : OpenClaim := { program := "ytoknkmlkeacgjaa", sum := "2daec7095e885328e90e63bf21c11f7ef98bade1d658fb428735f6b5fd0ede42", func := "blazon/blazonlaw06.RoadKept", spec := "roadKept", unfollowed := true, recurses := true, apart := false }
def RoadKeptSaid : Prop := roadKeptRow.holds Try.pinned (OpenSpec.ofChange roadKeptSpec)

/-- ITS FALSE NEIGHBOUR: 'it returns false'. Refute it at one input. -/
def roadKeptWrong : ChangeSpec := { name := "roadKept", fn := fun _ => fun
  | [d1, d2, d3] => { results := [.lit (.bool false)], args := [d1, d2, d3] }
  | _ => none }
def RoadKeptWrongFalsely : Prop := roadKeptRow.holds Try.pinned (OpenSpec.ofChange roadKeptWrong)

/-- 'blazonlaw06.RoadSame': WHATEVER THE INPUT: true; the input reads as it did. -/
def roadSameSpec : ChangeSpec := { name := "roadSame", fn := fun _ => fun
  | [d1, d2] => { results := [.lit (.bool true)], args := [d1, d2] }
  | _ => none }
def roadSameRow : OpenClaim := { program := "ytoknkmlkeacgjaa", sum := "2daec7095e885328e90e63bf21c11f7ef98bade1d658fb428735f6b5fd0ede42", func := "blazon/blazonlaw06.RoadSame", spec := "roadSame", unfollowed := true, recurses := true, apart := false }
def RoadSameSaid : Prop := roadSameRow.holds Try.pinned (OpenSpec.ofChange roadSameSpec)

/-- ITS FALSE NEIGHBOUR: 'it returns false'. Refute it at one input. -/
def roadSameWrong : ChangeSpec := { name := "roadSame", fn := fun _ => fun
  | [d1, d2] => { results := [.lit (.bool false)], args := [d1, d2] }
  | _ => none }
def RoadSameWrongFalsely : Prop := roadSameRow.holds Try.pinned (OpenSpec.ofChange roadSameWrong)

/-- 'blazonlaw06.RoadWarns': WHATEVER THE INPUT: true; the input reads as it did. -/
def roadWarnsSpec : ChangeSpec := { name := "roadWarns", fn := fun _ => fun
  | [d1, d2, d3] => { results := [.lit (.bool true)], args := [d1, d2, d3] }
  | _ => none }
def roadWarnsRow : OpenClaim := { program := "ytoknkmlkeacgjaa", sum := "2daec7095e885328e90e63bf21c11f7ef98bade1d658fb428735f6b5fd0ede42", func := "blazon/blazonlaw06.RoadWarns", spec := "roadWarns", unfollowed := true, recurses := true, apart := false }
def RoadWarnsSaid : Prop := roadWarnsRow.holds Try.pinned (OpenSpec.ofChange roadWarnsSpec)

/-- ITS FALSE NEIGHBOUR: 'it returns false'. Refute it at one input. -/
def roadWarnsWrong : ChangeSpec := { name := "roadWarns", fn := fun _ => fun
  | [d1, d2, d3] => { results := [.lit (.bool false)], args := [d1, d2, d3] }
  | _ => none }
def RoadWarnsWrongFalsely : Prop := roadWarnsRow.holds Try.pinned (OpenSpec.ofChange roadWarnsWrong)

/-- 'blazonlaw06.RoadCrowds': WHATEVER THE INPUT: true; the input reads as it did. -/
def roadCrowdsSpec : ChangeSpec := { name := "roadCrowds", fn := fun _ => fun
  | [d1, d2] => { results := [.lit (.bool true)], args := [d1, d2] }
  | _ => none }
def roadCrowdsRow : OpenClaim := { program := "ytoknkmlkeacgjaa", sum := "2daec7095e885328e90e63bf21c11f7ef98bade1d658fb428735f6b5fd0ede42", func := "blazon/blazonlaw06.RoadCrowds", spec := "roadCrowds", unfollowed := true, recurses := true, apart := false }
def RoadCrowdsSaid : Prop := roadCrowdsRow.holds Try.pinned (OpenSpec.ofChange roadCrowdsSpec)

/-- ITS FALSE NEIGHBOUR: 'it returns false'. Refute it at one input. -/
def roadCrowdsWrong : ChangeSpec := { name := "roadCrowds", fn := fun _ => fun
  | [d1, d2] => { results := [.lit (.bool false)], args := [d1, d2] }
  | _ => none }
def RoadCrowdsWrongFalsely : Prop := roadCrowdsRow.holds Try.pinned (OpenSpec.ofChange roadCrowdsWrong)

/-- 'blazonlaw06.RoadSights': WHATEVER THE INPUT: true; the input reads as it did. -/
def roadSightsSpec : ChangeSpec := { name := "roadSights", fn := fun _ => fun
  | [d1, d2, d3] => { results := [.lit (.bool true)], args := [d1, d2, d3] }
  | _ => none }
def roadSightsRow : OpenClaim := { program := "ytoknkmlkeacgjaa", sum := "2daec7095e885328e90e63bf21c11f7ef98bade1d658fb428735f6b5fd0ede42", func := "blazon/blazonlaw06.RoadSights", spec := "roadSights", unfollowed := true, recurses := true, apart := false }
def RoadSightsSaid : Prop := roadSightsRow.holds Try.pinned (OpenSpec.ofChange roadSightsSpec)

/-- ITS FALSE NEIGHBOUR: 'it returns false'. Refute it at one input. -/
def roadSightsWrong : ChangeSpec := { name := "roadSights", fn := fun _ => fun
  | [d1, d2, d3] => { results := [.lit (.bool false)], args := [d1, d2, d3] }
  | _ => none }
def RoadSightsWrongFalsely : Prop := roadSightsRow.holds Try.pinned (OpenSpec.ofChange roadSightsWrong)

/-- 'blazonlaw06.RoadWalls': WHATEVER THE INPUT: true; the input reads as it did. -/
def roadWallsSpec : ChangeSpec := { name := "roadWalls", fn := fun _ => fun
  | [d1, d2, d3] => { results := [.lit (.bool true)], args := [d1, d2, d3] }
  | _ => none }
def roadWallsRow : OpenClaim := { program := "ytoknkmlkeacgjaa", sum := "2daec7095e885328e90e63bf21c11f7ef98bade1d658fb428735f6b5fd0ede42", func := "blazon/blazonlaw06.RoadWalls", spec := "roadWalls", unfollowed := true, recurses := true, apart := false }
def RoadWallsSaid : Prop := roadWallsRow.holds Try.pinned (OpenSpec.ofChange roadWallsSpec)

/-- ITS FALSE NEIGHBOUR: 'it returns false'. Refute it at one input. -/
def roadWallsWrong : ChangeSpec := { name := "roadWalls", fn := fun _ => fun
  | [d1, d2, d3] => { results := [.lit (.bool false)], args := [d1, d2, d3] }
  | _ => none }
def RoadWallsWrongFalsely : Prop := roadWallsRow.holds Try.pinned (OpenSpec.ofChange roadWallsWrong)

/-- 'blazonlaw06.RoadLengths': WHATEVER THE INPUT: true; the input reads as it did. -/
def roadLengthsSpec : ChangeSpec := { name := "roadLengths", fn := fun _ => fun
  | [d1, d2, d3] => { results := [.lit (.bool true)], args := [d1, d2, d3] }
  | _ => none }
def roadLengthsRow : OpenClaim := { program := "ytoknkmlkeacgjaa", sum := "2daec7095e885328e90e63bf21c11f7ef98bade1d658fb428735f6b5fd0ede42", func := "blazon/blazonlaw06.RoadLengths", spec := "roadLengths", unfollowed := true, recurses := true, apart := false }
def RoadLengthsSaid : Prop := roadLengthsRow.holds Try.pinned (OpenSpec.ofChange roadLengthsSpec)

/-- ITS FALSE NEIGHBOUR: 'it returns false'. Refute it at one input. -/
def roadLengthsWrong : ChangeSpec := { name := "roadLengths", fn := fun _ => fun
  | [d1, d2, d3] => { results := [.lit (.bool false)], args := [d1, d2, d3] }
  | _ => none }
def RoadLengthsWrongFalsely : Prop := roadLengthsRow.holds Try.pinned (OpenSpec.ofChange roadLengthsWrong)

/-- 'blazonlaw06.RoadStands': WHATEVER THE INPUT: true; the input reads as it did. -/
def roadStandsSpec : ChangeSpec := { name := "roadStands", fn := fun _ => fun
  | [d] => { results := [.lit (.bool true)], args := [d] }
  | _ => none }
def roadStandsRow : OpenClaim := { program := "ytoknkmlkeacgjaa", sum := "2daec7095e885328e90e63bf21c11f7ef98bade1d658fb428735f6b5fd0ede42", func := "blazon/blazonlaw06.RoadStands", spec := "roadStands", unfollowed := true, recurses := true, apart := false }
def RoadStandsSaid : Prop := roadStandsRow.holds Try.pinned (OpenSpec.ofChange roadStandsSpec)

/-- ITS FALSE NEIGHBOUR: 'it returns false'. Refute it at one input. -/
def roadStandsWrong : ChangeSpec := { name := "roadStands", fn := fun _ => fun
  | [d] => { results := [.lit (.bool false)], args := [d] }
  | _ => none }
def RoadStandsWrongFalsely : Prop := roadStandsRow.holds Try.pinned (OpenSpec.ofChange roadStandsWrong)

/-- 'blazonlaw06.RoadUnions': WHATEVER THE INPUT: true; the input reads as it did. -/
def roadUnionsSpec : ChangeSpec := { name := "roadUnions", fn := fun _ => fun
  | [d1, d2] => { results := [.lit (.bool true)], args := [d1, d2] }
  | _ => none }
def roadUnionsRow : OpenClaim := { program := "ytoknkmlkeacgjaa", sum := "2daec7095e885328e90e63bf21c11f7ef98bade1d658fb428735f6b5fd0ede42", func := "blazon/blazonlaw06.RoadUnions", spec := "roadUnions", unfollowed := true, recurses := true, apart := false }
def RoadUnionsSaid : Prop := roadUnionsRow.holds Try.pinned (OpenSpec.ofChange roadUnionsSpec)

/-- ITS FALSE NEIGHBOUR: 'it returns false'. Refute it at one input. -/
def roadUnionsWrong : ChangeSpec := { name := "roadUnions", fn := fun _ => fun
  | [d1, d2] => { results := [.lit (.bool false)], args := [d1, d2] }
  | _ => none }
def RoadUnionsWrongFalsely : Prop := roadUnionsRow.holds Try.pinned (OpenSpec.ofChange roadUnionsWrong)

/-- 'blazonlaw06.RoadSets': WHATEVER THE INPUT: true; the input reads as it did. -/
def roadSetsSpec : ChangeSpec := { name := "roadSets", fn := fun _ => fun
  | [d1, d2, d3] => { results := [.lit (.bool true)], args := [d1, d2, d3] }
  | _ => none }
def roadSetsRow : OpenClaim := { program := "ytoknkmlkeacgjaa", sum := "2daec7095e885328e90e63bf21c11f7ef98bade1d658fb428735f6b5fd0ede42", func := "blazon/blazonlaw06.RoadSets", spec := "roadSets", unfollowed := true, recurses := true, apart := false }
def RoadSetsSaid : Prop := roadSetsRow.holds Try.pinned (OpenSpec.ofChange roadSetsSpec)

/-- ITS FALSE NEIGHBOUR: 'it returns false'. Refute it at one input. -/
def roadSetsWrong : ChangeSpec := { name := "roadSets", fn := fun _ => fun
  | [d1, d2, d3] => { results := [.lit (.bool false)], args := [d1, d2, d3] }
  | _ => none }
def RoadSetsWrongFalsely : Prop := roadSetsRow.holds Try.pinned (OpenSpec.ofChange roadSetsWrong)

/- THE SECOND FORM. 'bulk': how many values and letters a reading holds, each counted each time it is reached (what is shared counts as often as it is met; a slice's spare places count too). A statement '..UptoSaid' is the law's where the arguments, and the package variables that the reading takes, are together of bulk at most 1048576: NARROWER than '..Said'. Prove '..Said' where nothing that the law and all that it calls make is longer than what came in: it says more and counts as full. Else prove '..UptoSaid'. A law counts once. -/
mutual
def uptoBulk {H : Type} : DataW H → Nat
  | .lit (.string bytes) => bytes.length + 1
  | .lit _ => 1
  | .nil => 1
  | .ptr d => uptoBulk d + 1
  | .slice elems spare => uptoBulkAll elems + uptoBulkAll spare + 1
  | .agg parts => uptoBulkAll parts + 1
  | .iface _ d => uptoBulk d + 1
  | .map entries => uptoBulkEntries entries + 1
  | .held _ => 1
def uptoBulkAll {H : Type} : List (DataW H) → Nat
  | [] => 0
  | d :: r => uptoBulk d + uptoBulkAll r
def uptoBulkEntries {H : Type} : List (Lit × DataW H) → Nat
  | [] => 0
  | x :: r => uptoBulkEntry x + uptoBulkEntries r
def uptoBulkEntry {H : Type} : Lit × DataW H → Nat
  | (.string bytes, d) => bytes.length + uptoBulk d + 1
  | (_, d) => uptoBulk d + 1
 end
def uptoSmall : (H : Type) → List (DataW H) → Bool := fun _ ds => decide (uptoBulkAll ds ≤ 1048576)
def OpenSpec.upto (s : _root_.Go.ChangeSpec) : _root_.Go.OpenSpec := { _root_.Go.OpenSpec.ofChange s with cond := some uptoSmall }

/-- 'blazonlaw06.RoadCarries', WHERE WHAT IT READS IS OF BULK AT MOST 1048576: true; the input reads as it did. -/
def roadCarriesUptoRow : OpenClaim := { program := "ytoknkmlkeacgjaa", sum := "2daec7095e885328e90e63bf21c11f7ef98bade1d658fb428735f6b5fd0ede42", func := "blazon/blazonlaw06.RoadCarries", spec := "roadCarries", unfollowed := true, recurses := true, apart := false, narrowed := true }
def RoadCarriesUptoSaid : Prop := roadCarriesUptoRow.holds Try.pinned (OpenSpec.upto roadCarriesSpec)

/-- 'blazonlaw06.RoadOrder', WHERE WHAT IT READS IS OF BULK AT MOST 1048576: true; the input reads as it did. -/
def roadOrderUptoRow : OpenClaim := { program := "ytoknkmlkeacgjaa", sum := "2daec7095e885328e90e63bf21c11f7ef98bade1d658fb428735f6b5fd0ede42", func := "blazon/blazonlaw06.RoadOrder", spec := "roadOrder", unfollowed := true, recurses := true, apart := false, narrowed := true }
def RoadOrderUptoSaid : Prop := roadOrderUptoRow.holds Try.pinned (OpenSpec.upto roadOrderSpec)

/-- 'blazonlaw06.RoadAhead', WHERE WHAT IT READS IS OF BULK AT MOST 1048576: true; the input reads as it did. -/
def roadAheadUptoRow : OpenClaim := { program := "ytoknkmlkeacgjaa", sum := "2daec7095e885328e90e63bf21c11f7ef98bade1d658fb428735f6b5fd0ede42", func := "blazon/blazonlaw06.RoadAhead", spec := "roadAhead", unfollowed := true, recurses := true, apart := false, narrowed := true }
def RoadAheadUptoSaid : Prop := roadAheadUptoRow.holds Try.pinned (OpenSpec.upto roadAheadSpec)

/-- 'blazonlaw06.RoadKept', WHERE WHAT IT READS IS OF BULK AT MOST 1048576: true; the input reads as it did. -/
def roadKeptUptoRow : OpenClaim := { program := "ytoknkmlkeacgjaa", sum := "2daec7095e885328e90e63bf21c11f7ef98bade1d658fb428735f6b5fd0ede42", func := "blazon/blazonlaw06.RoadKept", spec := "roadKept", unfollowed := true, recurses := true, apart := false, narrowed := true }
def RoadKeptUptoSaid : Prop := roadKeptUptoRow.holds Try.pinned (OpenSpec.upto roadKeptSpec)

/-- 'blazonlaw06.RoadSame', WHERE WHAT IT READS IS OF BULK AT MOST 1048576: true; the input reads as it did. -/
def roadSameUptoRow : OpenClaim := { program := "ytoknkmlkeacgjaa", sum := "2daec7095e885328e90e63bf21c11f7ef98bade1d658fb428735f6b5fd0ede42", func := "blazon/blazonlaw06.RoadSame", spec := "roadSame", unfollowed := true, recurses := true, apart := false, narrowed := true }
def RoadSameUptoSaid : Prop := roadSameUptoRow.holds Try.pinned (OpenSpec.upto roadSameSpec)

/-- 'blazonlaw06.RoadWarns', WHERE WHAT IT READS IS OF BULK AT MOST 1048576: true; the input reads as it did. -/
def roadWarnsUptoRow : OpenClaim := { program := "ytoknkmlkeacgjaa", sum := "2daec7095e885328e90e63bf21c11f7ef98bade1d658fb428735f6b5fd0ede42", func := "blazon/blazonlaw06.RoadWarns", spec := "roadWarns", unfollowed := true, recurses := true, apart := false, narrowed := true }
def RoadWarnsUptoSaid : Prop := roadWarnsUptoRow.holds Try.pinned (OpenSpec.upto roadWarnsSpec)

/-- 'blazonlaw06.RoadCrowds', WHERE WHAT IT READS IS OF BULK AT MOST 1048576: true; the input reads as it did. -/
def roadCrowdsUptoRow : OpenClaim := { program := "ytoknkmlkeacgjaa", sum := "2daec7095e885328e90e63bf21c11f7ef98bade1d658fb428735f6b5fd0ede42", func := "blazon/blazonlaw06.RoadCrowds", spec := "roadCrowds", unfollowed := true, recurses := true, apart := false, narrowed := true }
def RoadCrowdsUptoSaid : Prop := roadCrowdsUptoRow.holds Try.pinned (OpenSpec.upto roadCrowdsSpec)

/-- 'blazonlaw06.RoadSights', WHERE WHAT IT READS IS OF BULK AT MOST 1048576: true; the input reads as it did. -/
def roadSightsUptoRow : OpenClaim := { program := "ytoknkmlkeacgjaa", sum := "2daec7095e885328e90e63bf21c11f7ef98bade1d658fb428735f6b5fd0ede42", func := "blazon/blazonlaw06.RoadSights", spec := "roadSights", unfollowed := true, recurses := true, apart := false, narrowed := true }
def RoadSightsUptoSaid : Prop := roadSightsUptoRow.holds Try.pinned (OpenSpec.upto roadSightsSpec)

/-- 'blazonlaw06.RoadWalls', WHERE WHAT IT READS IS OF BULK AT MOST 1048576: true; the input reads as it did. -/
def roadWallsUptoRow : OpenClaim := { program := "ytoknkmlkeacgjaa", sum := "2daec7095e885328e90e63bf21c11f7ef98bade1d658fb428735f6b5fd0ede42", func := "blazon/blazonlaw06.RoadWalls", spec := "roadWalls", unfollowed := true, recurses := true, apart := false, narrowed := true }
def RoadWallsUptoSaid : Prop := roadWallsUptoRow.holds Try.pinned (OpenSpec.upto roadWallsSpec)

/-- 'blazonlaw06.RoadLengths', WHERE WHAT IT READS IS OF BULK AT MOST 1048576: true; the input reads as it did. -/
def roadLengthsUptoRow : OpenClaim := { program := "ytoknkmlkeacgjaa", sum := "2daec7095e885328e90e63bf21c11f7ef98bade1d658fb428735f6b5fd0ede42", func := "blazon/blazonlaw06.RoadLengths", spec := "roadLengths", unfollowed := true, recurses := true, apart := false, narrowed := true }
def RoadLengthsUptoSaid : Prop := roadLengthsUptoRow.holds Try.pinned (OpenSpec.upto roadLengthsSpec)

/-- 'blazonlaw06.RoadStands', WHERE WHAT IT READS IS OF BULK AT MOST 1048576: true; the input reads as it did. -/
def roadStandsUptoRow : OpenClaim := { program := "ytoknkmlkeacgjaa", sum := "2daec7095e885328e90e63bf21c11f7ef98bade1d658fb428735f6b5fd0ede42", func := "blazon/blazonlaw06.RoadStands", spec := "roadStands", unfollowed := true, recurses := true, apart := false, narrowed := true }
def RoadStandsUptoSaid : Prop := roadStandsUptoRow.holds Try.pinned (OpenSpec.upto roadStandsSpec)

/-- 'blazonlaw06.RoadUnions', WHERE WHAT IT READS IS OF BULK AT MOST 1048576: true; the input reads as it did. -/
def roadUnionsUptoRow : OpenClaim := { program := "ytoknkmlkeacgjaa", sum := "2daec7095e885328e90e63bf21c11f7ef98bade1d658fb428735f6b5fd0ede42", func := "blazon/blazonlaw06.RoadUnions", spec := "roadUnions", unfollowed := true, recurses := true, apart := false, narrowed := true }
def RoadUnionsUptoSaid : Prop := roadUnionsUptoRow.holds Try.pinned (OpenSpec.upto roadUnionsSpec)

/-- 'blazonlaw06.RoadSets', WHERE WHAT IT READS IS OF BULK AT MOST 1048576: true; the input reads as it did. -/
def roadSetsUptoRow : OpenClaim := { program := "ytoknkmlkeacgjaa", sum := "2daec7095e885328e90e63bf21c11f7ef98bade1d658fb428735f6b5fd0ede42", func := "blazon/blazonlaw06.RoadSets", spec := "roadSets", unfollowed := true, recurses := true, apart := false, narrowed := true }
def RoadSetsUptoSaid : Prop := roadSetsUptoRow.holds Try.pinned (OpenSpec.upto roadSetsSpec)

end Rows
end Go.Proofs.Ytoknkmlkeacgjaa
