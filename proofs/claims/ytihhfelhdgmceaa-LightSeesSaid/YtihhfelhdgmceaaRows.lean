/-
  No cell of these rows narrows 'for every input' (looked for: loops, veiled, ifaces, maps, wideKeys, modest, calm, conditions, laid).
  DERIVED. THE GIVEN ROWS OF THIS SEAT. 16 by the template 'for every input the law returns true; each argument reads behind the call as it read before'; 0 by the template 'total and deterministic' (their statements: YtihhfelhdgmceaaTotals.lean).
  GIVEN WITH THE SEED: the statements are not yours to turn. If you find one false, say at which input.
  Laid BY PROGRAM, IN A SANDBOX (cutbox-rows.mjs): the forced cells as the released guide's own fill.sh prints them over the translation 94e51d392b28dfb2… (all of the seat's roots in one cut). By AI agents, Wed Nov 11 2026. No macro, syntax, notation, axiom, sorry.
-/
import Derived.Test.YtihhfelhdgmceaaChecked
import GoSem.Claim
import GoSem.ClaimJoined
import GoSem.ClaimMapViews
import Derived.JoinedTies
import Derived.KernelRfl
namespace Go.Proofs.Ytihhfelhdgmceaa
/- THE CELL 'sum', in the pinned program and in every row, IS THE sha256 OF THE DUMP (.gsa) THAT YtihhfelhdgmceaaProg.lean LOADS. Nothing in Lean hashes anything: it is a label: what it is worth is what the hold of that sum in a sandbox is worth. -/
noncomputable def Try.pinned : Pinned := { name := "ytihhfelhdgmceaa", sum := "94e51d392b28dfb277930624887484c6b6bf2ec559814ba2968c6411fad8c497", checked := Try.checked }
namespace Rows
def none {H : Type} : Left H := { results := [], args := [] }

/-- 'blazonlaw03.LightCoefficients': WHATEVER THE INPUT: true; the input reads as it did. -/
def lightCoefficientsSpec : ChangeSpec := { name := "lightCoefficients", fn := fun _ => fun
  | [d1, d2, d3] => { results := [.lit (.bool true)], args := [d1, d2, d3] }
  | _ => none }
def lightCoefficientsRow : OpenClaim := { program := "ytihhfelhdgmceaa", sum := "94e51d392b28dfb277930624887484c6b6bf2ec559814ba2968c6411fad8c497", func := "blazon/blazonlaw03.LightCoefficients", spec := "lightCoefficients", apart := false }
def LightCoefficientsSaid : Prop := lightCoefficientsRow.holds Try.pinned (OpenSpec.ofChange lightCoefficientsSpec)

/-- ITS FALSE NEIGHBOUR: 'it returns false'. Refute it at one input. -/
def lightCoefficientsWrong : ChangeSpec := { name := "lightCoefficients", fn := fun _ => fun
  | [d1, d2, d3] => { results := [.lit (.bool false)], args := [d1, d2, d3] }
  | _ => none }
def LightCoefficientsWrongFalsely : Prop := lightCoefficientsRow.holds Try.pinned (OpenSpec.ofChange lightCoefficientsWrong)

/-- 'blazonlaw03.LightAges': WHATEVER THE INPUT: true; the input reads as it did. -/
def lightAgesSpec : ChangeSpec := { name := "lightAges", fn := fun _ => fun
  | [d1, d2, d3] => { results := [.lit (.bool true)], args := [d1, d2, d3] }
  | _ => none }
def lightAgesRow : OpenClaim := { program := "ytihhfelhdgmceaa", sum := "94e51d392b28dfb277930624887484c6b6bf2ec559814ba2968c6411fad8c497", func := "blazon/blazonlaw03.LightAges", spec := "lightAges", apart := false }
def LightAgesSaid : Prop := lightAgesRow.holds Try.pinned (OpenSpec.ofChange lightAgesSpec)

/-- ITS FALSE NEIGHBOUR: 'it returns false'. Refute it at one input. -/
def lightAgesWrong : ChangeSpec := { name := "lightAges", fn := fun _ => fun
  | [d1, d2, d3] => { results := [.lit (.bool false)], args := [d1, d2, d3] }
  | _ => none }
def LightAgesWrongFalsely : Prop := lightAgesRow.holds Try.pinned (OpenSpec.ofChange lightAgesWrong)

/-- 'blazonlaw03.LightSlopes': WHATEVER THE INPUT: true; the input reads as it did. -/
def lightSlopesSpec : ChangeSpec := { name := "lightSlopes", fn := fun _ => fun
  | [d1, d2, d3] => { results := [.lit (.bool true)], args := [d1, d2, d3] }
  | _ => none }
def lightSlopesRow : OpenClaim := { program := "ytihhfelhdgmceaa", sum := "94e51d392b28dfb277930624887484c6b6bf2ec559814ba2968c6411fad8c497", func := "blazon/blazonlaw03.LightSlopes", spec := "lightSlopes", apart := false }
def LightSlopesSaid : Prop := lightSlopesRow.holds Try.pinned (OpenSpec.ofChange lightSlopesSpec)

/-- ITS FALSE NEIGHBOUR: 'it returns false'. Refute it at one input. -/
def lightSlopesWrong : ChangeSpec := { name := "lightSlopes", fn := fun _ => fun
  | [d1, d2, d3] => { results := [.lit (.bool false)], args := [d1, d2, d3] }
  | _ => none }
def LightSlopesWrongFalsely : Prop := lightSlopesRow.holds Try.pinned (OpenSpec.ofChange lightSlopesWrong)

/-- 'blazonlaw03.LightTables': WHATEVER THE INPUT: true; the input reads as it did. -/
def lightTablesSpec : ChangeSpec := { name := "lightTables", fn := fun _ => fun
  | [d1, d2] => { results := [.lit (.bool true)], args := [d1, d2] }
  | _ => none }
def lightTablesRow : OpenClaim := { program := "ytihhfelhdgmceaa", sum := "94e51d392b28dfb277930624887484c6b6bf2ec559814ba2968c6411fad8c497", func := "blazon/blazonlaw03.LightTables", spec := "lightTables", apart := false }
def LightTablesSaid : Prop := lightTablesRow.holds Try.pinned (OpenSpec.ofChange lightTablesSpec)

/-- ITS FALSE NEIGHBOUR: 'it returns false'. Refute it at one input. -/
def lightTablesWrong : ChangeSpec := { name := "lightTables", fn := fun _ => fun
  | [d1, d2] => { results := [.lit (.bool false)], args := [d1, d2] }
  | _ => none }
def LightTablesWrongFalsely : Prop := lightTablesRow.holds Try.pinned (OpenSpec.ofChange lightTablesWrong)

/-- 'blazonlaw03.LightReadings': WHATEVER THE INPUT: true; the input reads as it did. -/
def lightReadingsSpec : ChangeSpec := { name := "lightReadings", fn := fun _ => fun
  | [d1, d2] => { results := [.lit (.bool true)], args := [d1, d2] }
  | _ => none }
def lightReadingsRow : OpenClaim := { program := "ytihhfelhdgmceaa", sum := "94e51d392b28dfb277930624887484c6b6bf2ec559814ba2968c6411fad8c497", func := "blazon/blazonlaw03.LightReadings", spec := "lightReadings", apart := false }
def LightReadingsSaid : Prop := lightReadingsRow.holds Try.pinned (OpenSpec.ofChange lightReadingsSpec)

/-- ITS FALSE NEIGHBOUR: 'it returns false'. Refute it at one input. -/
def lightReadingsWrong : ChangeSpec := { name := "lightReadings", fn := fun _ => fun
  | [d1, d2] => { results := [.lit (.bool false)], args := [d1, d2] }
  | _ => none }
def LightReadingsWrongFalsely : Prop := lightReadingsRow.holds Try.pinned (OpenSpec.ofChange lightReadingsWrong)

/-- 'blazonlaw03.LightBoxes': WHATEVER THE INPUT: true; the input reads as it did. -/
def lightBoxesSpec : ChangeSpec := { name := "lightBoxes", fn := fun _ => fun
  | [d1, d2, d3] => { results := [.lit (.bool true)], args := [d1, d2, d3] }
  | _ => none }
def lightBoxesRow : OpenClaim := { program := "ytihhfelhdgmceaa", sum := "94e51d392b28dfb277930624887484c6b6bf2ec559814ba2968c6411fad8c497", func := "blazon/blazonlaw03.LightBoxes", spec := "lightBoxes", apart := false }
def LightBoxesSaid : Prop := lightBoxesRow.holds Try.pinned (OpenSpec.ofChange lightBoxesSpec)

/-- ITS FALSE NEIGHBOUR: 'it returns false'. Refute it at one input. -/
def lightBoxesWrong : ChangeSpec := { name := "lightBoxes", fn := fun _ => fun
  | [d1, d2, d3] => { results := [.lit (.bool false)], args := [d1, d2, d3] }
  | _ => none }
def LightBoxesWrongFalsely : Prop := lightBoxesRow.holds Try.pinned (OpenSpec.ofChange lightBoxesWrong)

/-- 'blazonlaw03.LightCorrects': WHATEVER THE INPUT: true; the input reads as it did. -/
def lightCorrectsSpec : ChangeSpec := { name := "lightCorrects", fn := fun _ => fun
  | [d] => { results := [.lit (.bool true)], args := [d] }
  | _ => none }
def lightCorrectsRow : OpenClaim := { program := "ytihhfelhdgmceaa", sum := "94e51d392b28dfb277930624887484c6b6bf2ec559814ba2968c6411fad8c497", func := "blazon/blazonlaw03.LightCorrects", spec := "lightCorrects", apart := false }
def LightCorrectsSaid : Prop := lightCorrectsRow.holds Try.pinned (OpenSpec.ofChange lightCorrectsSpec)

/-- ITS FALSE NEIGHBOUR: 'it returns false'. Refute it at one input. -/
def lightCorrectsWrong : ChangeSpec := { name := "lightCorrects", fn := fun _ => fun
  | [d] => { results := [.lit (.bool false)], args := [d] }
  | _ => none }
def LightCorrectsWrongFalsely : Prop := lightCorrectsRow.holds Try.pinned (OpenSpec.ofChange lightCorrectsWrong)

/-- 'blazonlaw03.LightPlates': WHATEVER THE INPUT: true; the input reads as it did. -/
def lightPlatesSpec : ChangeSpec := { name := "lightPlates", fn := fun _ => fun
  | [d1, d2] => { results := [.lit (.bool true)], args := [d1, d2] }
  | _ => none }
def lightPlatesRow : OpenClaim := { program := "ytihhfelhdgmceaa", sum := "94e51d392b28dfb277930624887484c6b6bf2ec559814ba2968c6411fad8c497", func := "blazon/blazonlaw03.LightPlates", spec := "lightPlates", apart := false }
def LightPlatesSaid : Prop := lightPlatesRow.holds Try.pinned (OpenSpec.ofChange lightPlatesSpec)

/-- ITS FALSE NEIGHBOUR: 'it returns false'. Refute it at one input. -/
def lightPlatesWrong : ChangeSpec := { name := "lightPlates", fn := fun _ => fun
  | [d1, d2] => { results := [.lit (.bool false)], args := [d1, d2] }
  | _ => none }
def LightPlatesWrongFalsely : Prop := lightPlatesRow.holds Try.pinned (OpenSpec.ofChange lightPlatesWrong)

/-- 'blazonlaw03.LightBrights': WHATEVER THE INPUT: true; the input reads as it did. -/
def lightBrightsSpec : ChangeSpec := { name := "lightBrights", fn := fun _ => fun
  | [d1, d2, d3] => { results := [.lit (.bool true)], args := [d1, d2, d3] }
  | _ => none }
def lightBrightsRow : OpenClaim := { program := "ytihhfelhdgmceaa", sum := "94e51d392b28dfb277930624887484c6b6bf2ec559814ba2968c6411fad8c497", func := "blazon/blazonlaw03.LightBrights", spec := "lightBrights", apart := false }
def LightBrightsSaid : Prop := lightBrightsRow.holds Try.pinned (OpenSpec.ofChange lightBrightsSpec)

/-- ITS FALSE NEIGHBOUR: 'it returns false'. Refute it at one input. -/
def lightBrightsWrong : ChangeSpec := { name := "lightBrights", fn := fun _ => fun
  | [d1, d2, d3] => { results := [.lit (.bool false)], args := [d1, d2, d3] }
  | _ => none }
def LightBrightsWrongFalsely : Prop := lightBrightsRow.holds Try.pinned (OpenSpec.ofChange lightBrightsWrong)

/-- 'blazonlaw03.LightDimmed': WHATEVER THE INPUT: true; the input reads as it did. -/
def lightDimmedSpec : ChangeSpec := { name := "lightDimmed", fn := fun _ => fun
  | [d1, d2, d3] => { results := [.lit (.bool true)], args := [d1, d2, d3] }
  | _ => none }
def lightDimmedRow : OpenClaim := { program := "ytihhfelhdgmceaa", sum := "94e51d392b28dfb277930624887484c6b6bf2ec559814ba2968c6411fad8c497", func := "blazon/blazonlaw03.LightDimmed", spec := "lightDimmed", apart := false }
def LightDimmedSaid : Prop := lightDimmedRow.holds Try.pinned (OpenSpec.ofChange lightDimmedSpec)

/-- ITS FALSE NEIGHBOUR: 'it returns false'. Refute it at one input. -/
def lightDimmedWrong : ChangeSpec := { name := "lightDimmed", fn := fun _ => fun
  | [d1, d2, d3] => { results := [.lit (.bool false)], args := [d1, d2, d3] }
  | _ => none }
def LightDimmedWrongFalsely : Prop := lightDimmedRow.holds Try.pinned (OpenSpec.ofChange lightDimmedWrong)

/-- 'blazonlaw03.LightBetter': WHATEVER THE INPUT: true; the input reads as it did. -/
def lightBetterSpec : ChangeSpec := { name := "lightBetter", fn := fun _ => fun
  | [d1, d2] => { results := [.lit (.bool true)], args := [d1, d2] }
  | _ => none }
def lightBetterRow : OpenClaim := { program := "ytihhfelhdgmceaa", sum := "94e51d392b28dfb277930624887484c6b6bf2ec559814ba2968c6411fad8c497", func := "blazon/blazonlaw03.LightBetter", spec := "lightBetter", apart := false }
def LightBetterSaid : Prop := lightBetterRow.holds Try.pinned (OpenSpec.ofChange lightBetterSpec)

/-- ITS FALSE NEIGHBOUR: 'it returns false'. Refute it at one input. -/
def lightBetterWrong : ChangeSpec := { name := "lightBetter", fn := fun _ => fun
  | [d1, d2] => { results := [.lit (.bool false)], args := [d1, d2] }
  | _ => none }
def LightBetterWrongFalsely : Prop := lightBetterRow.holds Try.pinned (OpenSpec.ofChange lightBetterWrong)

/-- 'blazonlaw03.LightAccepts': WHATEVER THE INPUT: true; the input reads as it did. -/
def lightAcceptsSpec : ChangeSpec := { name := "lightAccepts", fn := fun _ => fun
  | [d1, d2, d3] => { results := [.lit (.bool true)], args := [d1, d2, d3] }
  | _ => none }
def lightAcceptsRow : OpenClaim := { program := "ytihhfelhdgmceaa", sum := "94e51d392b28dfb277930624887484c6b6bf2ec559814ba2968c6411fad8c497", func := "blazon/blazonlaw03.LightAccepts", spec := "lightAccepts", apart := false }
def LightAcceptsSaid : Prop := lightAcceptsRow.holds Try.pinned (OpenSpec.ofChange lightAcceptsSpec)

/-- ITS FALSE NEIGHBOUR: 'it returns false'. Refute it at one input. -/
def lightAcceptsWrong : ChangeSpec := { name := "lightAccepts", fn := fun _ => fun
  | [d1, d2, d3] => { results := [.lit (.bool false)], args := [d1, d2, d3] }
  | _ => none }
def LightAcceptsWrongFalsely : Prop := lightAcceptsRow.holds Try.pinned (OpenSpec.ofChange lightAcceptsWrong)

/-- 'blazonlaw03.LightLegible': WHATEVER THE INPUT: true; the input reads as it did. -/
def lightLegibleSpec : ChangeSpec := { name := "lightLegible", fn := fun _ => fun
  | [d] => { results := [.lit (.bool true)], args := [d] }
  | _ => none }
def lightLegibleRow : OpenClaim := { program := "ytihhfelhdgmceaa", sum := "94e51d392b28dfb277930624887484c6b6bf2ec559814ba2968c6411fad8c497", func := "blazon/blazonlaw03.LightLegible", spec := "lightLegible", apart := false }
def LightLegibleSaid : Prop := lightLegibleRow.holds Try.pinned (OpenSpec.ofChange lightLegibleSpec)

/-- ITS FALSE NEIGHBOUR: 'it returns false'. Refute it at one input. -/
def lightLegibleWrong : ChangeSpec := { name := "lightLegible", fn := fun _ => fun
  | [d] => { results := [.lit (.bool false)], args := [d] }
  | _ => none }
def LightLegibleWrongFalsely : Prop := lightLegibleRow.holds Try.pinned (OpenSpec.ofChange lightLegibleWrong)

/-- 'blazonlaw03.LightValues': WHATEVER THE INPUT: true; the input reads as it did. -/
def lightValuesSpec : ChangeSpec := { name := "lightValues", fn := fun _ => fun
  | [d] => { results := [.lit (.bool true)], args := [d] }
  | _ => none }
def lightValuesRow : OpenClaim := { program := "ytihhfelhdgmceaa", sum := "94e51d392b28dfb277930624887484c6b6bf2ec559814ba2968c6411fad8c497", func := "blazon/blazonlaw03.LightValues", spec := "lightValues", apart := false }
def LightValuesSaid : Prop := lightValuesRow.holds Try.pinned (OpenSpec.ofChange lightValuesSpec)

/-- ITS FALSE NEIGHBOUR: 'it returns false'. Refute it at one input. -/
def lightValuesWrong : ChangeSpec := { name := "lightValues", fn := fun _ => fun
  | [d] => { results := [.lit (.bool false)], args := [d] }
  | _ => none }
def LightValuesWrongFalsely : Prop := lightValuesRow.holds Try.pinned (OpenSpec.ofChange lightValuesWrong)

/-- 'blazonlaw03.LightDays': WHATEVER THE INPUT: true; the input reads as it did. -/
def lightDaysSpec : ChangeSpec := { name := "lightDays", fn := fun _ => fun
  | [d1, d2, d3] => { results := [.lit (.bool true)], args := [d1, d2, d3] }
  | _ => none }
def lightDaysRow : OpenClaim := { program := "ytihhfelhdgmceaa", sum := "94e51d392b28dfb277930624887484c6b6bf2ec559814ba2968c6411fad8c497", func := "blazon/blazonlaw03.LightDays", spec := "lightDays", apart := false }
def LightDaysSaid : Prop := lightDaysRow.holds Try.pinned (OpenSpec.ofChange lightDaysSpec)

/-- ITS FALSE NEIGHBOUR: 'it returns false'. Refute it at one input. -/
def lightDaysWrong : ChangeSpec := { name := "lightDays", fn := fun _ => fun
  | [d1, d2, d3] => { results := [.lit (.bool false)], args := [d1, d2, d3] }
  | _ => none }
def LightDaysWrongFalsely : Prop := lightDaysRow.holds Try.pinned (OpenSpec.ofChange lightDaysWrong)

/-- 'blazonlaw03.LightSees': WHATEVER THE INPUT: true; the input reads as it did. -/
def lightSeesSpec : ChangeSpec := { name := "lightSees", fn := fun _ => fun
  | [d] => { results := [.lit (.bool true)], args := [d] }
  | _ => none }
def lightSeesRow : OpenClaim := { program := "ytihhfelhdgmceaa", sum := "94e51d392b28dfb277930624887484c6b6bf2ec559814ba2968c6411fad8c497", func := "blazon/blazonlaw03.LightSees", spec := "lightSees", apart := false }
def LightSeesSaid : Prop := lightSeesRow.holds Try.pinned (OpenSpec.ofChange lightSeesSpec)

/-- ITS FALSE NEIGHBOUR: 'it returns false'. Refute it at one input. -/
def lightSeesWrong : ChangeSpec := { name := "lightSees", fn := fun _ => fun
  | [d] => { results := [.lit (.bool false)], args := [d] }
  | _ => none }
def LightSeesWrongFalsely : Prop := lightSeesRow.holds Try.pinned (OpenSpec.ofChange lightSeesWrong)

/- THE SECOND FORM. 'bulk': how many values and letters a reading holds, each counted each time it is reached (what is shared counts as often as it is met; a slice's spare places count too). A statement '..UptoSaid' is the law's where the arguments, and the package variables that the reading takes, are together of bulk at most 1048576: NARROWER than '..Said'. Prove '..Said' where nothing that the law and all that it calls make is longer than what came in: it says more and counts as full. Else prove '..UptoSaid'. A law counts once. -/
mutual
def uptoBulk {H : Type} : DataW H → Nat
  | .lit (.string bytes) => bytes.length + 1
  | .lit _ => 1
  | .nil => 1
  | .ptr d => uptoBulk d + 1
  | .slice elems spare => uptoBulkAll elems + uptoBulkAll spare + 1
  | .agg parts => uptoBulkAll parts + 1
  | .iface _ d => uptoBulk d + 1
  | .map entries => uptoBulkEntries entries + 1
  | .held _ => 1
def uptoBulkAll {H : Type} : List (DataW H) → Nat
  | [] => 0
  | d :: r => uptoBulk d + uptoBulkAll r
def uptoBulkEntries {H : Type} : List (Lit × DataW H) → Nat
  | [] => 0
  | x :: r => uptoBulkEntry x + uptoBulkEntries r
def uptoBulkEntry {H : Type} : Lit × DataW H → Nat
  | (.string bytes, d) => bytes.length + uptoBulk d + 1
  | (_, d) => uptoBulk d + 1
 end
def uptoSmall : (H : Type) → List (DataW H) → Bool := fun _ ds => decide (uptoBulkAll ds ≤ 1048576)
def OpenSpec.upto (s : _root_.Go.ChangeSpec) : _root_.Go.OpenSpec := { _root_.Go.OpenSpec.ofChange s with cond := some uptoSmall }

/-- 'blazonlaw03.LightCoefficients', WHERE WHAT IT READS IS OF BULK AT MOST 1048576: true; the input reads as it did. -/
def lightCoefficientsUptoRow : OpenClaim := { program := "ytihhfelhdgmceaa", sum := "94e51d392b28dfb277930624887484c6b6bf2ec559814ba2968c6411fad8c497", func := "blazon/blazonlaw03.LightCoefficients", spec := "lightCoefficients", apart := false, narrowed := true }
def LightCoefficientsUptoSaid : Prop := lightCoefficientsUptoRow.holds Try.pinned (OpenSpec.upto lightCoefficientsSpec)

/-- 'blazonlaw03.LightAges', WHERE WHAT IT READS IS OF BULK AT MOST 1048576: true; the input reads as it did. -/
def lightAgesUptoRow : OpenClaim := { program := "ytihhfelhdgmceaa", sum := "94e51d392b28dfb277930624887484c6b6bf2ec559814ba2968c6411fad8c497", func := "blazon/blazonlaw03.LightAges", spec := "lightAges", apart := false, narrowed := true }
def LightAgesUptoSaid : Prop := lightAgesUptoRow.holds Try.pinned (OpenSpec.upto lightAgesSpec)

/-- 'blazonlaw03.LightSlopes', WHERE WHAT IT READS IS OF BULK AT MOST 1048576: true; the input reads as it did. -/
def lightSlopesUptoRow : OpenClaim := { program := "ytihhfelhdgmceaa", sum := "94e51d392b28dfb277930624887484c6b6bf2ec559814ba2968c6411fad8c497", func := "blazon/blazonlaw03.LightSlopes", spec := "lightSlopes", apart := false, narrowed := true }
def LightSlopesUptoSaid : Prop := lightSlopesUptoRow.holds Try.pinned (OpenSpec.upto lightSlopesSpec)

/-- 'blazonlaw03.LightTables', WHERE WHAT IT READS IS OF BULK AT MOST 1048576: true; the input reads as it did. -/
def lightTablesUptoRow : OpenClaim := { program := "ytihhfelhdgmceaa", sum := "94e51d392b28dfb277930624887484c6b6bf2ec559814ba2968c6411fad8c497", func := "blazon/blazonlaw03.LightTables", spec := "lightTables", apart := false, narrowed := true }
def LightTablesUptoSaid : Prop := lightTablesUptoRow.holds Try.pinned (OpenSpec.upto lightTablesSpec)

/-- 'blazonlaw03.LightReadings', WHERE WHAT IT READS IS OF BULK AT MOST 1048576: true; the input reads as it did. -/
def lightReadingsUptoRow : OpenClaim := { program := "ytihhfelhdgmceaa", sum := "94e51d392b28dfb277930624887484c6b6bf2ec559814ba2968c6411fad8c497", func := "blazon/blazonlaw03.LightReadings", spec := "lightReadings", apart := false, narrowed := true }
def LightReadingsUptoSaid : Prop := lightReadingsUptoRow.holds Try.pinned (OpenSpec.upto lightReadingsSpec)

/-- 'blazonlaw03.LightBoxes', WHERE WHAT IT READS IS OF BULK AT MOST 1048576: true; the input reads as it did. -/
def lightBoxesUptoRow : OpenClaim := { program := "ytihhfelhdgmceaa", sum := "94e51d392b28dfb277930624887484c6b6bf2ec559814ba2968c6411fad8c497", func := "blazon/blazonlaw03.LightBoxes", spec := "lightBoxes", apart := false, narrowed := true }
def LightBoxesUptoSaid : Prop := lightBoxesUptoRow.holds Try.pinned (OpenSpec.upto lightBoxesSpec)

/-- 'blazonlaw03.LightCorrects', WHERE WHAT IT READS IS OF BULK AT MOST 1048576: true; the input reads as it did. -/
def lightCorrectsUptoRow : OpenClaim := { program := "ytihhfelhdgmceaa", sum := "94e51d392b28dfb277930624887484c6b6bf2ec559814ba2968c6411fad8c497", func := "blazon/blazonlaw03.LightCorrects", spec := "lightCorrects", apart := false, narrowed := true }
def LightCorrectsUptoSaid : Prop := lightCorrectsUptoRow.holds Try.pinned (OpenSpec.upto lightCorrectsSpec)

/-- 'blazonlaw03.LightPlates', WHERE WHAT IT READS IS OF BULK AT MOST 1048576: true; the input reads as it did. -/
def lightPlatesUptoRow : OpenClaim := { program := "ytihhfelhdgmceaa", sum := "94e51d392b28dfb277930624887484c6b6bf2ec559814ba2968c6411fad8c497", func := "blazon/blazonlaw03.LightPlates", spec := "lightPlates", apart := false, narrowed := true }
def LightPlatesUptoSaid : Prop := lightPlatesUptoRow.holds Try.pinned (OpenSpec.upto lightPlatesSpec)

/-- 'blazonlaw03.LightBrights', WHERE WHAT IT READS IS OF BULK AT MOST 1048576: true; the input reads as it did. -/
def lightBrightsUptoRow : OpenClaim := { program := "ytihhfelhdgmceaa", sum := "94e51d392b28dfb277930624887484c6b6bf2ec559814ba2968c6411fad8c497", func := "blazon/blazonlaw03.LightBrights", spec := "lightBrights", apart := false, narrowed := true }
def LightBrightsUptoSaid : Prop := lightBrightsUptoRow.holds Try.pinned (OpenSpec.upto lightBrightsSpec)

/-- 'blazonlaw03.LightDimmed', WHERE WHAT IT READS IS OF BULK AT MOST 1048576: true; the input reads as it did. -/
def lightDimmedUptoRow : OpenClaim := { program := "ytihhfelhdgmceaa", sum := "94e51d392b28dfb277930624887484c6b6bf2ec559814ba2968c6411fad8c497", func := "blazon/blazonlaw03.LightDimmed", spec := "lightDimmed", apart := false, narrowed := true }
def LightDimmedUptoSaid : Prop := lightDimmedUptoRow.holds Try.pinned (OpenSpec.upto lightDimmedSpec)

/-- 'blazonlaw03.LightBetter', WHERE WHAT IT READS IS OF BULK AT MOST 1048576: true; the input reads as it did. -/
def lightBetterUptoRow : OpenClaim := { program := "ytihhfelhdgmceaa", sum := "94e51d392b28dfb277930624887484c6b6bf2ec559814ba2968c6411fad8c497", func := "blazon/blazonlaw03.LightBetter", spec := "lightBetter", apart := false, narrowed := true }
def LightBetterUptoSaid : Prop := lightBetterUptoRow.holds Try.pinned (OpenSpec.upto lightBetterSpec)

/-- 'blazonlaw03.LightAccepts', WHERE WHAT IT READS IS OF BULK AT MOST 1048576: true; the input reads as it did. -/
def lightAcceptsUptoRow : OpenClaim := { program := "ytihhfelhdgmceaa", sum := "94e51d392b28dfb277930624887484c6b6bf2ec559814ba2968c6411fad8c497", func := "blazon/blazonlaw03.LightAccepts", spec := "lightAccepts", apart := false, narrowed := true }
def LightAcceptsUptoSaid : Prop := lightAcceptsUptoRow.holds Try.pinned (OpenSpec.upto lightAcceptsSpec)

/-- 'blazonlaw03.LightLegible', WHERE WHAT IT READS IS OF BULK AT MOST 1048576: true; the input reads as it did. -/
def lightLegibleUptoRow : OpenClaim := { program := "ytihhfelhdgmceaa", sum := "94e51d392b28dfb277930624887484c6b6bf2ec559814ba2968c6411fad8c497", func := "blazon/blazonlaw03.LightLegible", spec := "lightLegible", apart := false, narrowed := true }
def LightLegibleUptoSaid : Prop := lightLegibleUptoRow.holds Try.pinned (OpenSpec.upto lightLegibleSpec)

/-- 'blazonlaw03.LightValues', WHERE WHAT IT READS IS OF BULK AT MOST 1048576: true; the input reads as it did. -/
def lightValuesUptoRow : OpenClaim := { program := "ytihhfelhdgmceaa", sum := "94e51d392b28dfb277930624887484c6b6bf2ec559814ba2968c6411fad8c497", func := "blazon/blazonlaw03.LightValues", spec := "lightValues", apart := false, narrowed := true }
def LightValuesUptoSaid : Prop := lightValuesUptoRow.holds Try.pinned (OpenSpec.upto lightValuesSpec)

/-- 'blazonlaw03.LightDays', WHERE WHAT IT READS IS OF BULK AT MOST 1048576: true; the input reads as it did. -/
def lightDaysUptoRow : OpenClaim := { program := "ytihhfelhdgmceaa", sum := "94e51d392b28dfb277930624887484c6b6bf2ec559814ba2968c6411fad8c497", func := "blazon/blazonlaw03.LightDays", spec := "lightDays", apart := false, narrowed := true }
def LightDaysUptoSaid : Prop := lightDaysUptoRow.holds Try.pinned (OpenSpec.upto lightDaysSpec)

/-- 'blazonlaw03.LightSees', WHERE WHAT IT READS IS OF BULK AT MOST 1048576: true; the input reads as it did. -/
def lightSeesUptoRow : OpenClaim := { program := "ytihhfelhdgmceaa", sum := "94e51d392b28dfb277930624887484c6b6bf2ec559814ba2968c6411fad8c497", func := "blazon/blazonlaw03.LightSees", spec := "lightSees", apart := false, narrowed := true }
def LightSeesUptoSaid : Prop := lightSeesUptoRow.holds Try.pinned (OpenSpec.upto lightSeesSpec)

end Rows
end Go.Proofs.Ytihhfelhdgmceaa
