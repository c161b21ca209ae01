/-
  No cell of these rows narrows 'for every input' (looked for: loops, veiled, ifaces, maps, wideKeys, modest, calm, conditions, laid).
  DERIVED. THE GIVEN ROWS OF THIS SEAT. 15 by the template 'for every input the law returns true; each argument reads behind the call as it read before'; 0 by the template 'total and deterministic' (their statements: YtkeolmipdoeljaaTotals.lean).
  GIVEN WITH THE SEED: the statements are not yours to turn. If you find one false, say at which input.
  Laid BY PROGRAM, IN A SANDBOX (cutbox-rows.mjs): the forced cells as the released guide's own fill.sh prints them over the translation 81ff473df47959c3… (all of the seat's roots in one cut). By AI agents, Wed Nov 11 2026. No macro, syntax, notation, axiom, sorry.
-/
import Derived.Test.YtkeolmipdoeljaaChecked
import GoSem.Claim
import GoSem.ClaimJoined
import GoSem.ClaimMapViews
import Derived.JoinedTies
import Derived.KernelRfl
namespace Go.Proofs.Ytkeolmipdoeljaa
/- THE CELL 'sum', in the pinned program and in every row, IS THE sha256 OF THE DUMP (.gsa) THAT YtkeolmipdoeljaaProg.lean LOADS. Nothing in Lean hashes anything: it is a label: what it is worth is what the hold of that sum in a sandbox is worth. -/
noncomputable def Try.pinned : Pinned := { name := "ytkeolmipdoeljaa", sum := "81ff473df47959c38c90a52bd361988b8eb825607ecdd0b82c218358f0be589c", checked := Try.checked }
namespace Rows
def none {H : Type} : Left H := { results := [], args := [] }

/-- 'quadrupolelaw04.HeatFewest': WHATEVER THE INPUT: true; the input reads as it did. -/
def heatFewestSpec : ChangeSpec := { name := "heatFewest", fn := fun _ => fun
  | [d1, d2, d3] => { results := [.lit (.bool true)], args := [d1, d2, d3] }
  | _ => none }
def heatFewestRow : OpenClaim := { program := "ytkeolmipdoeljaa", sum := "81ff473df47959c38c90a52bd361988b8eb825607ecdd0b82c218358f0be589c", func := "quadrupole/quadrupolelaw04.HeatFewest", spec := "heatFewest", unfollowed := true, recurses := true, apart := false }
def HeatFewestSaid : Prop := heatFewestRow.holds Try.pinned (OpenSpec.ofChange heatFewestSpec)

/-- ITS FALSE NEIGHBOUR: 'it returns false'. Refute it at one input. -/
def heatFewestWrong : ChangeSpec := { name := "heatFewest", fn := fun _ => fun
  | [d1, d2, d3] => { results := [.lit (.bool false)], args := [d1, d2, d3] }
  | _ => none }
def HeatFewestWrongFalsely : Prop := heatFewestRow.holds Try.pinned (OpenSpec.ofChange heatFewestWrong)

/-- 'quadrupolelaw04.HeatWindows': WHATEVER THE INPUT: true; the input reads as it did. -/
def heatWindowsSpec : ChangeSpec := { name := "heatWindows", fn := fun _ => fun
  | [d1, d2, d3] => { results := [.lit (.bool true)], args := [d1, d2, d3] }
  | _ => none }
def heatWindowsRow : OpenClaim := { program := "ytkeolmipdoeljaa", sum := "81ff473df47959c38c90a52bd361988b8eb825607ecdd0b82c218358f0be589c", func := "quadrupole/quadrupolelaw04.HeatWindows", spec := "heatWindows", unfollowed := true, recurses := true, apart := false }
def HeatWindowsSaid : Prop := heatWindowsRow.holds Try.pinned (OpenSpec.ofChange heatWindowsSpec)

/-- ITS FALSE NEIGHBOUR: 'it returns false'. Refute it at one input. -/
def heatWindowsWrong : ChangeSpec := { name := "heatWindows", fn := fun _ => fun
  | [d1, d2, d3] => { results := [.lit (.bool false)], args := [d1, d2, d3] }
  | _ => none }
def HeatWindowsWrongFalsely : Prop := heatWindowsRow.holds Try.pinned (OpenSpec.ofChange heatWindowsWrong)

/-- 'quadrupolelaw04.HeatCurves': WHATEVER THE INPUT: true; the input reads as it did. -/
def heatCurvesSpec : ChangeSpec := { name := "heatCurves", fn := fun _ => fun
  | [d1, d2] => { results := [.lit (.bool true)], args := [d1, d2] }
  | _ => none }
def heatCurvesRow : OpenClaim := { program := "ytkeolmipdoeljaa", sum := "81ff473df47959c38c90a52bd361988b8eb825607ecdd0b82c218358f0be589c", func := "quadrupole/quadrupolelaw04.HeatCurves", spec := "heatCurves", unfollowed := true, recurses := true, apart := false }
def HeatCurvesSaid : Prop := heatCurvesRow.holds Try.pinned (OpenSpec.ofChange heatCurvesSpec)

/-- ITS FALSE NEIGHBOUR: 'it returns false'. Refute it at one input. -/
def heatCurvesWrong : ChangeSpec := { name := "heatCurves", fn := fun _ => fun
  | [d1, d2] => { results := [.lit (.bool false)], args := [d1, d2] }
  | _ => none }
def HeatCurvesWrongFalsely : Prop := heatCurvesRow.holds Try.pinned (OpenSpec.ofChange heatCurvesWrong)

/-- 'quadrupolelaw04.HeatInserts': WHATEVER THE INPUT: true; the input reads as it did. -/
def heatInsertsSpec : ChangeSpec := { name := "heatInserts", fn := fun _ => fun
  | [d1, d2, d3] => { results := [.lit (.bool true)], args := [d1, d2, d3] }
  | _ => none }
def heatInsertsRow : OpenClaim := { program := "ytkeolmipdoeljaa", sum := "81ff473df47959c38c90a52bd361988b8eb825607ecdd0b82c218358f0be589c", func := "quadrupole/quadrupolelaw04.HeatInserts", spec := "heatInserts", unfollowed := true, recurses := true, apart := false }
def HeatInsertsSaid : Prop := heatInsertsRow.holds Try.pinned (OpenSpec.ofChange heatInsertsSpec)

/-- ITS FALSE NEIGHBOUR: 'it returns false'. Refute it at one input. -/
def heatInsertsWrong : ChangeSpec := { name := "heatInserts", fn := fun _ => fun
  | [d1, d2, d3] => { results := [.lit (.bool false)], args := [d1, d2, d3] }
  | _ => none }
def HeatInsertsWrongFalsely : Prop := heatInsertsRow.holds Try.pinned (OpenSpec.ofChange heatInsertsWrong)

/-- 'quadrupolelaw04.HeatScales': WHATEVER THE INPUT: true; the input reads as it did. -/
def heatScalesSpec : ChangeSpec := { name := "heatScales", fn := fun _ => fun
  | [d1, d2, d3] => { results := [.lit (.bool true)], args := [d1, d2, d3] }
  | _ => none }
def heatScalesRow : OpenClaim := { program := "ytkeolmipdoeljaa", sum := "81ff473df47959c38c90a52bd361988b8eb825607ecdd0b82c218358f0be589c", func := "quadrupole/quadrupolelaw04.HeatScales", spec := "heatScales", unfollowed := true, recurses := true, apart := false }
def HeatScalesSaid : Prop := heatScalesRow.holds Try.pinned (OpenSpec.ofChange heatScalesSpec)

/-- ITS FALSE NEIGHBOUR: 'it returns false'. Refute it at one input. -/
def heatScalesWrong : ChangeSpec := { name := "heatScales", fn := fun _ => fun
  | [d1, d2, d3] => { results := [.lit (.bool false)], args := [d1, d2, d3] }
  | _ => none }
def HeatScalesWrongFalsely : Prop := heatScalesRow.holds Try.pinned (OpenSpec.ofChange heatScalesWrong)

/-- 'quadrupolelaw04.HeatUncools': WHATEVER THE INPUT: true; the input reads as it did. -/
def heatUncoolsSpec : ChangeSpec := { name := "heatUncools", fn := fun _ => fun
  | [d1, d2, d3] => { results := [.lit (.bool true)], args := [d1, d2, d3] }
  | _ => none }
def heatUncoolsRow : OpenClaim := { program := "ytkeolmipdoeljaa", sum := "81ff473df47959c38c90a52bd361988b8eb825607ecdd0b82c218358f0be589c", func := "quadrupole/quadrupolelaw04.HeatUncools", spec := "heatUncools", unfollowed := true, recurses := true, apart := false }
def HeatUncoolsSaid : Prop := heatUncoolsRow.holds Try.pinned (OpenSpec.ofChange heatUncoolsSpec)

/-- ITS FALSE NEIGHBOUR: 'it returns false'. Refute it at one input. -/
def heatUncoolsWrong : ChangeSpec := { name := "heatUncools", fn := fun _ => fun
  | [d1, d2, d3] => { results := [.lit (.bool false)], args := [d1, d2, d3] }
  | _ => none }
def HeatUncoolsWrongFalsely : Prop := heatUncoolsRow.holds Try.pinned (OpenSpec.ofChange heatUncoolsWrong)

/-- 'quadrupolelaw04.HeatOnly': WHATEVER THE INPUT: true; the input reads as it did. -/
def heatOnlySpec : ChangeSpec := { name := "heatOnly", fn := fun _ => fun
  | [d1, d2, d3] => { results := [.lit (.bool true)], args := [d1, d2, d3] }
  | _ => none }
def heatOnlyRow : OpenClaim := { program := "ytkeolmipdoeljaa", sum := "81ff473df47959c38c90a52bd361988b8eb825607ecdd0b82c218358f0be589c", func := "quadrupole/quadrupolelaw04.HeatOnly", spec := "heatOnly", unfollowed := true, recurses := true, apart := false }
def HeatOnlySaid : Prop := heatOnlyRow.holds Try.pinned (OpenSpec.ofChange heatOnlySpec)

/-- ITS FALSE NEIGHBOUR: 'it returns false'. Refute it at one input. -/
def heatOnlyWrong : ChangeSpec := { name := "heatOnly", fn := fun _ => fun
  | [d1, d2, d3] => { results := [.lit (.bool false)], args := [d1, d2, d3] }
  | _ => none }
def HeatOnlyWrongFalsely : Prop := heatOnlyRow.holds Try.pinned (OpenSpec.ofChange heatOnlyWrong)

/-- 'quadrupolelaw04.HeatParts': WHATEVER THE INPUT: true; the input reads as it did. -/
def heatPartsSpec : ChangeSpec := { name := "heatParts", fn := fun _ => fun
  | [d1, d2, d3] => { results := [.lit (.bool true)], args := [d1, d2, d3] }
  | _ => none }
def heatPartsRow : OpenClaim := { program := "ytkeolmipdoeljaa", sum := "81ff473df47959c38c90a52bd361988b8eb825607ecdd0b82c218358f0be589c", func := "quadrupole/quadrupolelaw04.HeatParts", spec := "heatParts", unfollowed := true, recurses := true, apart := false }
def HeatPartsSaid : Prop := heatPartsRow.holds Try.pinned (OpenSpec.ofChange heatPartsSpec)

/-- ITS FALSE NEIGHBOUR: 'it returns false'. Refute it at one input. -/
def heatPartsWrong : ChangeSpec := { name := "heatParts", fn := fun _ => fun
  | [d1, d2, d3] => { results := [.lit (.bool false)], args := [d1, d2, d3] }
  | _ => none }
def HeatPartsWrongFalsely : Prop := heatPartsRow.holds Try.pinned (OpenSpec.ofChange heatPartsWrong)

/-- 'quadrupolelaw04.HeatJoins': WHATEVER THE INPUT: true; the input reads as it did. -/
def heatJoinsSpec : ChangeSpec := { name := "heatJoins", fn := fun _ => fun
  | [d1, d2, d3] => { results := [.lit (.bool true)], args := [d1, d2, d3] }
  | _ => none }
def heatJoinsRow : OpenClaim := { program := "ytkeolmipdoeljaa", sum := "81ff473df47959c38c90a52bd361988b8eb825607ecdd0b82c218358f0be589c", func := "quadrupole/quadrupolelaw04.HeatJoins", spec := "heatJoins", unfollowed := true, recurses := true, apart := false }
def HeatJoinsSaid : Prop := heatJoinsRow.holds Try.pinned (OpenSpec.ofChange heatJoinsSpec)

/-- ITS FALSE NEIGHBOUR: 'it returns false'. Refute it at one input. -/
def heatJoinsWrong : ChangeSpec := { name := "heatJoins", fn := fun _ => fun
  | [d1, d2, d3] => { results := [.lit (.bool false)], args := [d1, d2, d3] }
  | _ => none }
def HeatJoinsWrongFalsely : Prop := heatJoinsRow.holds Try.pinned (OpenSpec.ofChange heatJoinsWrong)

/-- 'quadrupolelaw04.HeatTraces': WHATEVER THE INPUT: true; the input reads as it did. -/
def heatTracesSpec : ChangeSpec := { name := "heatTraces", fn := fun _ => fun
  | [d1, d2] => { results := [.lit (.bool true)], args := [d1, d2] }
  | _ => none }
def heatTracesRow : OpenClaim := { program := "ytkeolmipdoeljaa", sum := "81ff473df47959c38c90a52bd361988b8eb825607ecdd0b82c218358f0be589c", func := "quadrupole/quadrupolelaw04.HeatTraces", spec := "heatTraces", unfollowed := true, recurses := true, apart := false }
def HeatTracesSaid : Prop := heatTracesRow.holds Try.pinned (OpenSpec.ofChange heatTracesSpec)

/-- ITS FALSE NEIGHBOUR: 'it returns false'. Refute it at one input. -/
def heatTracesWrong : ChangeSpec := { name := "heatTraces", fn := fun _ => fun
  | [d1, d2] => { results := [.lit (.bool false)], args := [d1, d2] }
  | _ => none }
def HeatTracesWrongFalsely : Prop := heatTracesRow.holds Try.pinned (OpenSpec.ofChange heatTracesWrong)

/-- 'quadrupolelaw04.HeatHot': WHATEVER THE INPUT: true; the input reads as it did. -/
def heatHotSpec : ChangeSpec := { name := "heatHot", fn := fun _ => fun
  | [d1, d2, d3] => { results := [.lit (.bool true)], args := [d1, d2, d3] }
  | _ => none }
def heatHotRow : OpenClaim := { program := "ytkeolmipdoeljaa", sum := "81ff473df47959c38c90a52bd361988b8eb825607ecdd0b82c218358f0be589c", func := "quadrupole/quadrupolelaw04.HeatHot", spec := "heatHot", unfollowed := true, recurses := true, apart := false }
def HeatHotSaid : Prop := heatHotRow.holds Try.pinned (OpenSpec.ofChange heatHotSpec)

/-- ITS FALSE NEIGHBOUR: 'it returns false'. Refute it at one input. -/
def heatHotWrong : ChangeSpec := { name := "heatHot", fn := fun _ => fun
  | [d1, d2, d3] => { results := [.lit (.bool false)], args := [d1, d2, d3] }
  | _ => none }
def HeatHotWrongFalsely : Prop := heatHotRow.holds Try.pinned (OpenSpec.ofChange heatHotWrong)

/-- 'quadrupolelaw04.HeatLeast': WHATEVER THE INPUT: true; the input reads as it did. -/
def heatLeastSpec : ChangeSpec := { name := "heatLeast", fn := fun _ => fun
  | [d1, d2, d3] => { results := [.lit (.bool true)], args := [d1, d2, d3] }
  | _ => none }
def heatLeastRow : OpenClaim := { program := "ytkeolmipdoeljaa", sum := "81ff473df47959c38c90a52bd361988b8eb825607ecdd0b82c218358f0be589c", func := "quadrupole/quadrupolelaw04.HeatLeast", spec := "heatLeast", unfollowed := true, recurses := true, apart := false }
def HeatLeastSaid : Prop := heatLeastRow.holds Try.pinned (OpenSpec.ofChange heatLeastSpec)

/-- ITS FALSE NEIGHBOUR: 'it returns false'. Refute it at one input. -/
def heatLeastWrong : ChangeSpec := { name := "heatLeast", fn := fun _ => fun
  | [d1, d2, d3] => { results := [.lit (.bool false)], args := [d1, d2, d3] }
  | _ => none }
def HeatLeastWrongFalsely : Prop := heatLeastRow.holds Try.pinned (OpenSpec.ofChange heatLeastWrong)

/-- 'quadrupolelaw04.HeatChecks': WHATEVER THE INPUT: true; the input reads as it did. -/
def heatChecksSpec : ChangeSpec := { name := "heatChecks", fn := fun _ => fun
  | [d1, d2, d3] => { results := [.lit (.bool true)], args := [d1, d2, d3] }
  | _ => none }
def heatChecksRow : OpenClaim := { program := "ytkeolmipdoeljaa", sum := "81ff473df47959c38c90a52bd361988b8eb825607ecdd0b82c218358f0be589c", func := "quadrupole/quadrupolelaw04.HeatChecks", spec := "heatChecks", unfollowed := true, recurses := true, apart := false }
def HeatChecksSaid : Prop := heatChecksRow.holds Try.pinned (OpenSpec.ofChange heatChecksSpec)

/-- ITS FALSE NEIGHBOUR: 'it returns false'. Refute it at one input. -/
def heatChecksWrong : ChangeSpec := { name := "heatChecks", fn := fun _ => fun
  | [d1, d2, d3] => { results := [.lit (.bool false)], args := [d1, d2, d3] }
  | _ => none }
def HeatChecksWrongFalsely : Prop := heatChecksRow.holds Try.pinned (OpenSpec.ofChange heatChecksWrong)

/-- 'quadrupolelaw04.HeatShows': WHATEVER THE INPUT: true; the input reads as it did. -/
def heatShowsSpec : ChangeSpec := { name := "heatShows", fn := fun _ => fun
  | [d1, d2, d3] => { results := [.lit (.bool true)], args := [d1, d2, d3] }
  | _ => none }
def heatShowsRow : OpenClaim := { program := "ytkeolmipdoeljaa", sum := "81ff473df47959c38c90a52bd361988b8eb825607ecdd0b82c218358f0be589c", func := "quadrupole/quadrupolelaw04.HeatShows", spec := "heatShows", unfollowed := true, recurses := true, apart := false }
def HeatShowsSaid : Prop := heatShowsRow.holds Try.pinned (OpenSpec.ofChange heatShowsSpec)

/-- ITS FALSE NEIGHBOUR: 'it returns false'. Refute it at one input. -/
def heatShowsWrong : ChangeSpec := { name := "heatShows", fn := fun _ => fun
  | [d1, d2, d3] => { results := [.lit (.bool false)], args := [d1, d2, d3] }
  | _ => none }
def HeatShowsWrongFalsely : Prop := heatShowsRow.holds Try.pinned (OpenSpec.ofChange heatShowsWrong)

/-- 'quadrupoletop.TopHeats': WHATEVER THE INPUT: true; the input reads as it did. -/
def topHeatsSpec : ChangeSpec := { name := "topHeats", fn := fun _ => fun
  | [d1, d2, d3] => { results := [.lit (.bool true)], args := [d1, d2, d3] }
  | _ => none }
def topHeatsRow : OpenClaim := { program := "ytkeolmipdoeljaa", sum := "81ff473df47959c38c90a52bd361988b8eb825607ecdd0b82c218358f0be589c", func := "quadrupole/quadrupoletop.TopHeats", spec := "topHeats", unfollowed := true, recurses := true, apart := false }
def TopHeatsSaid : Prop := topHeatsRow.holds Try.pinned (OpenSpec.ofChange topHeatsSpec)

/-- ITS FALSE NEIGHBOUR: 'it returns false'. Refute it at one input. -/
def topHeatsWrong : ChangeSpec := { name := "topHeats", fn := fun _ => fun
  | [d1, d2, d3] => { results := [.lit (.bool false)], args := [d1, d2, d3] }
  | _ => none }
def TopHeatsWrongFalsely : Prop := topHeatsRow.holds Try.pinned (OpenSpec.ofChange topHeatsWrong)

/- THE SECOND FORM. 'bulk': how many values and letters a reading holds, each counted each time it is reached (what is shared counts as often as it is met; a slice's spare places count too). A statement '..UptoSaid' is the law's where the arguments, and the package variables that the reading takes, are together of bulk at most 1048576: NARROWER than '..Said'. Prove '..Said' where nothing that the law and all that it calls make is longer than what came in: it says more and counts as full. Else prove '..UptoSaid'. A law counts once. -/
mutual
def uptoBulk {H : Type} : DataW H → Nat
  | .lit (.string bytes) => bytes.length + 1
  | .lit _ => 1
  | .nil => 1
  | .ptr d => uptoBulk d + 1
  | .slice elems spare => uptoBulkAll elems + uptoBulkAll spare + 1
  | .agg parts => uptoBulkAll parts + 1
  | .iface _ d => uptoBulk d + 1
  | .map entries => uptoBulkEntries entries + 1
  | .held _ => 1
def uptoBulkAll {H : Type} : List (DataW H) → Nat
  | [] => 0
  | d :: r => uptoBulk d + uptoBulkAll r
def uptoBulkEntries {H : Type} : List (Lit × DataW H) → Nat
  | [] => 0
  | x :: r => uptoBulkEntry x + uptoBulkEntries r
def uptoBulkEntry {H : Type} : Lit × DataW H → Nat
  | (.string bytes, d) => bytes.length + uptoBulk d + 1
  | (_, d) => uptoBulk d + 1
 end
def uptoSmall : (H : Type) → List (DataW H) → Bool := fun _ ds => decide (uptoBulkAll ds ≤ 1048576)
def OpenSpec.upto (s : _root_.Go.ChangeSpec) : _root_.Go.OpenSpec := { _root_.Go.OpenSpec.ofChange s with cond := some uptoSmall }

/-- 'quadrupolelaw04.HeatFewest', WHERE WHAT IT READS IS OF BULK AT MOST 1048576: true; the input reads as it did. -/
def heatFewestUptoRow : OpenClaim := { program := "ytkeolmipdoeljaa", sum := "81ff473df47959c38c90a52bd361988b8eb825607ecdd0b82c218358f0be589c", func := "quadrupole/quadrupolelaw04.HeatFewest", spec := "heatFewest", unfollowed := true, recurses := true, apart := false, narrowed := true }
def HeatFewestUptoSaid : Prop := heatFewestUptoRow.holds Try.pinned (OpenSpec.upto heatFewestSpec)

/-- 'quadrupolelaw04.HeatWindows', WHERE WHAT IT READS IS OF BULK AT MOST 1048576: true; the input reads as it did. -/
def heatWindowsUptoRow : OpenClaim := { program := "ytkeolmipdoeljaa", sum := "81ff473df47959c38c90a52bd361988b8eb825607ecdd0b82c218358f0be589c", func := "quadrupole/quadrupolelaw04.HeatWindows", spec := "heatWindows", unfollowed := true, recurses := true, apart := false, narrowed := true }
def HeatWindowsUptoSaid : Prop := heatWindowsUptoRow.holds Try.pinned (OpenSpec.upto heatWindowsSpec)

/-- 'quadrupolelaw04.HeatCurves', WHERE WHAT IT READS IS OF BULK AT MOST 1048576: true; the input reads as it did. -/
def heatCurvesUptoRow : OpenClaim := { program := "ytkeolmipdoeljaa", sum := "81ff473df47959c38c90a52bd361988b8eb825607ecdd0b82c218358f0be589c", func := "quadrupole/quadrupolelaw04.HeatCurves", spec := "heatCurves", unfollowed := true, recurses := true, apart := false, narrowed := true }
def HeatCurvesUptoSaid : Prop := heatCurvesUptoRow.holds Try.pinned (OpenSpec.upto heatCurvesSpec)

/-- 'quadrupolelaw04.HeatInserts', WHERE WHAT IT READS IS OF BULK AT MOST 1048576: true; the input reads as it did. -/
def heatInsertsUptoRow : OpenClaim := { program := "ytkeolmipdoeljaa", sum := "81ff473df47959c38c90a52bd361988b8eb825607ecdd0b82c218358f0be589c", func := "quadrupole/quadrupolelaw04.HeatInserts", spec := "heatInserts", unfollowed := true, recurses := true, apart := false, narrowed := true }
def HeatInsertsUptoSaid : Prop := heatInsertsUptoRow.holds Try.pinned (OpenSpec.upto heatInsertsSpec)

/-- 'quadrupolelaw04.HeatScales', WHERE WHAT IT READS IS OF BULK AT MOST 1048576: true; the input reads as it did. -/
def heatScalesUptoRow : OpenClaim := { program := "ytkeolmipdoeljaa", sum := "81ff473df47959c38c90a52bd361988b8eb825607ecdd0b82c218358f0be589c", func := "quadrupole/quadrupolelaw04.HeatScales", spec := "heatScales", unfollowed := true, recurses := true, apart := false, narrowed := true }
def HeatScalesUptoSaid : Prop := heatScalesUptoRow.holds Try.pinned (OpenSpec.upto heatScalesSpec)

/-- 'quadrupolelaw04.HeatUncools', WHERE WHAT IT READS IS OF BULK AT MOST 1048576: true; the input reads as it did. -/
def heatUncoolsUptoRow : OpenClaim := { program := "ytkeolmipdoeljaa", sum := "81ff473df47959c38c90a52bd361988b8eb825607ecdd0b82c218358f0be589c", func := "quadrupole/quadrupolelaw04.HeatUncools", spec := "heatUncools", unfollowed := true, recurses := true, apart := false, narrowed := true }
def HeatUncoolsUptoSaid : Prop := heatUncoolsUptoRow.holds Try.pinned (OpenSpec.upto heatUncoolsSpec)

/-- 'quadrupolelaw04.HeatOnly', WHERE WHAT IT READS IS OF BULK AT MOST 1048576: true; the input reads as it did. -/
def heatOnlyUptoRow : OpenClaim := { program := "ytkeolmipdoeljaa", sum := "81ff473df47959c38c90a52bd361988b8eb825607ecdd0b82c218358f0be589c", func := "quadrupole/quadrupolelaw04.HeatOnly", spec := "heatOnly", unfollowed := true, recurses := true, apart := false, narrowed := true }
def HeatOnlyUptoSaid : Prop := heatOnlyUptoRow.holds Try.pinned (OpenSpec.upto heatOnlySpec)

/-- 'quadrupolelaw04.HeatParts', WHERE WHAT IT READS IS OF BULK AT MOST 1048576: true; the input reads as it did. -/
def heatPartsUptoRow : OpenClaim := { program := "ytkeolmipdoeljaa", sum := "81ff473df47959c38c90a52bd361988b8eb825607ecdd0b82c218358f0be589c", func := "quadrupole/quadrupolelaw04.HeatParts", spec := "heatParts", unfollowed := true, recurses := true, apart := false, narrowed := true }
def HeatPartsUptoSaid : Prop := heatPartsUptoRow.holds Try.pinned (OpenSpec.upto heatPartsSpec)

/-- 'quadrupolelaw04.HeatJoins', WHERE WHAT IT READS IS OF BULK AT MOST 1048576: true; the input reads as it did. -/
def heatJoinsUptoRow : OpenClaim := { program := "ytkeolmipdoeljaa", sum := "81ff473df47959c38c90a52bd361988b8eb825607ecdd0b82c218358f0be589c", func := "quadrupole/quadrupolelaw04.HeatJoins", spec := "heatJoins", unfollowed := true, recurses := true, apart := false, narrowed := true }
def HeatJoinsUptoSaid : Prop := heatJoinsUptoRow.holds Try.pinned (OpenSpec.upto heatJoinsSpec)

/-- 'quadrupolelaw04.HeatTraces', WHERE WHAT IT READS IS OF BULK AT MOST 1048576: true; the input reads as it did. -/
def heatTracesUptoRow : OpenClaim := { program := "ytkeolmipdoeljaa", sum := "81ff473df47959c38c90a52bd361988b8eb825607ecdd0b82c218358f0be589c", func := "quadrupole/quadrupolelaw04.HeatTraces", spec := "heatTraces", unfollowed := true, recurses := true, apart := false, narrowed := true }
def HeatTracesUptoSaid : Prop := heatTracesUptoRow.holds Try.pinned (OpenSpec.upto heatTracesSpec)

/-- 'quadrupolelaw04.HeatHot', WHERE WHAT IT READS IS OF BULK AT MOST 1048576: true; the input reads as it did. -/
def heatHotUptoRow : OpenClaim := { program := "ytkeolmipdoeljaa", sum := "81ff473df47959c38c90a52bd361988b8eb825607ecdd0b82c218358f0be589c", func := "quadrupole/quadrupolelaw04.HeatHot", spec := "heatHot", unfollowed := true, recurses := true, apart := false, narrowed := true }
def HeatHotUptoSaid : Prop := heatHotUptoRow.holds Try.pinned (OpenSpec.upto heatHotSpec)

/-- 'quadrupolelaw04.HeatLeast', WHERE WHAT IT READS IS OF BULK AT MOST 1048576: true; the input reads as it did. -/
def heatLeastUptoRow : OpenClaim := { program := "ytkeolmipdoeljaa", sum := "81ff473df47959c38c90a52bd361988b8eb825607ecdd0b82c218358f0be589c", func := "quadrupole/quadrupolelaw04.HeatLeast", spec := "heatLeast", unfollowed := true, recurses := true, apart := false, narrowed := true }
def HeatLeastUptoSaid : Prop := heatLeastUptoRow.holds Try.pinned (OpenSpec.upto heatLeastSpec)

/-- 'quadrupolelaw04.HeatChecks', WHERE WHAT IT READS IS OF BULK AT MOST 1048576: true; the input reads as it did. -/
def heatChecksUptoRow : OpenClaim := { program := "ytkeolmipdoeljaa", sum := "81ff473df47959c38c90a52bd361988b8eb825607ecdd0b82c218358f0be589c", func := "quadrupole/quadrupolelaw04.HeatChecks", spec := "heatChecks", unfollowed := true, recurses := true, apart := false, narrowed := true }
def HeatChecksUptoSaid : Prop := heatChecksUptoRow.holds Try.pinned (OpenSpec.upto heatChecksSpec)

/-- 'quadrupolelaw04.HeatShows', WHERE WHAT IT READS IS OF BULK AT MOST 1048576: true; the input reads as it did. -/
def heatShowsUptoRow : OpenClaim := { program := "ytkeolmipdoeljaa", sum := "81ff473df47959c38c90a52bd361988b8eb825607ecdd0b82c218358f0be589c", func := "quadrupole/quadrupolelaw04.HeatShows", spec := "heatShows", unfollowed := true, recurses := true, apart := false, narrowed := true }
def HeatShowsUptoSaid : Prop := heatShowsUptoRow.holds Try.pinned (OpenSpec.upto heatShowsSpec)

/-- 'quadrupoletop.TopHeats', WHERE WHAT IT READS IS OF BULK AT MOST 1048576: true; the input reads as it did. -/
def topHeatsUptoRow : OpenClaim := { program := "ytkeolmipdoeljaa", sum := "81ff473df47959c38c90a52bd361988b8eb825607ecdd0b82c218358f0be589c", func := "quadrupole/quadrupoletop.TopHeats", spec := "topHeats", unfollowed := true, recurses := true, apart := false, narrowed := true }
def TopHeatsUptoSaid : Prop := topHeatsUptoRow.holds Try.pinned (OpenSpec.upto topHeatsSpec)

end Rows
end Go.Proofs.Ytkeolmipdoeljaa
