/-
  No cell of these rows narrows 'for every input' (looked for: loops, veiled, ifaces, maps, wideKeys, modest, calm, conditions, laid).
  DERIVED. THE GIVEN ROWS OF THIS SEAT. 13 by the template 'for every input the law returns true; each argument reads behind the call as it read before'; 0 by the template 'total and deterministic' (their statements: YtejjogpgolgdgaaTotals.lean).
  GIVEN WITH THE SEED: the statements are not yours to turn. If you find one false, say at which input.
  Laid BY PROGRAM, IN A SANDBOX (cutbox-rows.mjs): the forced cells as the released guide's own fill.sh prints them over the translation 8f140af81a621172… (all of the seat's roots in one cut). By AI agents, Wed Nov 11 2026. No macro, syntax, notation, axiom, sorry.
-/
import Derived.Test.YtejjogpgolgdgaaChecked
import GoSem.Claim
import GoSem.ClaimJoined
import GoSem.ClaimMapViews
import Derived.JoinedTies
import Derived.KernelRfl
namespace Go.Proofs.Ytejjogpgolgdgaa
/- THE CELL 'sum', in the pinned program and in every row, IS THE sha256 OF THE DUMP (.gsa) THAT YtejjogpgolgdgaaProg.lean LOADS. Nothing in Lean hashes anything: it is a label: what it is worth is what the hold of that sum in a sandbox is worth. -/
noncomputable def Try.pinned : Pinned := { name := "ytejjogpgolgdgaa", sum := "8f140af81a6211723d182623058f648444b47b63bc9eb7fca78259b05fcf7493", checked := Try.checked }
namespace Rows
def none {H : Type} : Left H := { results := [], args := [] }

/-- 'quadrupolelaw07.VoltWays': WHATEVER THE INPUT: true; the input reads as it did. -/
def voltWaysSpec : ChangeSpec := { name := "voltWays", fn := fun _ => fun
  | [d1, d2] => { results := [.lit (.bool true)], args := [d1, d2] }
  | _ => none }
def voltWaysRow : OpenClaim := { program := "ytejjogpgolgdgaa", sum := "8f140af81a6211723d182623058f648444b47b63bc9eb7fca78259b05fcf7493", func := "quadrupole/quadrupolelaw07.VoltWays", spec := "voltWays", unfollowed := true, recurses := true, plainKeys := false, apart := false }
def VoltWaysSaid : Prop := voltWaysRow.holds Try.pinned (OpenSpec.ofChange voltWaysSpec)

/-- ITS FALSE NEIGHBOUR: 'it returns false'. Refute it at one input. -/
def voltWaysWrong : ChangeSpec := { name := "voltWays", fn := fun _ => fun
  | [d1, d2] => { results := [.lit (.bool false)], args := [d1, d2] }
  | _ => none }
def VoltWaysWrongFalsely : Prop := voltWaysRow.holds Try.pinned (OpenSpec.ofChange voltWaysWrong)

/-- 'quadrupolelaw07.VoltRows': WHATEVER THE INPUT: true; the input reads as it did. -/
def voltRowsSpec : ChangeSpec := { name := "voltRows", fn := fun _ => fun
  | [d1, d2] => { results := [.lit (.bool true)], args := [d1, d2] }
  | _ => none }
def voltRowsRow : OpenClaim := { program := "ytejjogpgolgdgaa", sum := "8f140af81a6211723d182623058f648444b47b63bc9eb7fca78259b05fcf7493", func := "quadrupole/quadrupolelaw07.VoltRows", spec := "voltRows", unfollowed := true, recurses := true, plainKeys := false, apart := false }
def VoltRowsSaid : Prop := voltRowsRow.holds Try.pinned (OpenSpec.ofChange voltRowsSpec)

/-- ITS FALSE NEIGHBOUR: 'it returns false'. Refute it at one input. -/
def voltRowsWrong : ChangeSpec := { name := "voltRows", fn := fun _ => fun
  | [d1, d2] => { results := [.lit (.bool false)], args := [d1, d2] }
  | _ => none }
def VoltRowsWrongFalsely : Prop := voltRowsRow.holds Try.pinned (OpenSpec.ofChange voltRowsWrong)

/-- 'quadrupolelaw07.VoltFields': WHATEVER THE INPUT: true; the input reads as it did. -/
def voltFieldsSpec : ChangeSpec := { name := "voltFields", fn := fun _ => fun
  | [d1, d2] => { results := [.lit (.bool true)], args := [d1, d2] }
  | _ => none }
def voltFieldsRow : OpenClaim := { program := "ytejjogpgolgdgaa", sum := "8f140af81a6211723d182623058f648444b47b63bc9eb7fca78259b05fcf7493", func := "quadrupole/quadrupolelaw07.VoltFields", spec := "voltFields", unfollowed := true, recurses := true, plainKeys := false, apart := false }
def VoltFieldsSaid : Prop := voltFieldsRow.holds Try.pinned (OpenSpec.ofChange voltFieldsSpec)

/-- ITS FALSE NEIGHBOUR: 'it returns false'. Refute it at one input. -/
def voltFieldsWrong : ChangeSpec := { name := "voltFields", fn := fun _ => fun
  | [d1, d2] => { results := [.lit (.bool false)], args := [d1, d2] }
  | _ => none }
def VoltFieldsWrongFalsely : Prop := voltFieldsRow.holds Try.pinned (OpenSpec.ofChange voltFieldsWrong)

/-- 'quadrupolelaw07.VoltCounts': WHATEVER THE INPUT: true; the input reads as it did. -/
def voltCountsSpec : ChangeSpec := { name := "voltCounts", fn := fun _ => fun
  | [d] => { results := [.lit (.bool true)], args := [d] }
  | _ => none }
def voltCountsRow : OpenClaim := { program := "ytejjogpgolgdgaa", sum := "8f140af81a6211723d182623058f648444b47b63bc9eb7fca78259b05fcf7493", func := "quadrupole/quadrupolelaw07.VoltCounts", spec := "voltCounts", unfollowed := true, recurses := true, plainKeys := false, apart := false }
def VoltCountsSaid : Prop := voltCountsRow.holds Try.pinned (OpenSpec.ofChange voltCountsSpec)

/-- ITS FALSE NEIGHBOUR: 'it returns false'. Refute it at one input. -/
def voltCountsWrong : ChangeSpec := { name := "voltCounts", fn := fun _ => fun
  | [d] => { results := [.lit (.bool false)], args := [d] }
  | _ => none }
def VoltCountsWrongFalsely : Prop := voltCountsRow.holds Try.pinned (OpenSpec.ofChange voltCountsWrong)

/-- 'quadrupolelaw07.VoltCalms': WHATEVER THE INPUT: true; the input reads as it did. -/
def voltCalmsSpec : ChangeSpec := { name := "voltCalms", fn := fun _ => fun
  | [d1, d2] => { results := [.lit (.bool true)], args := [d1, d2] }
  | _ => none }
def voltCalmsRow : OpenClaim := { program := "ytejjogpgolgdgaa", sum := "8f140af81a6211723d182623058f648444b47b63bc9eb7fca78259b05fcf7493", func := "quadrupole/quadrupolelaw07.VoltCalms", spec := "voltCalms", unfollowed := true, recurses := true, plainKeys := false, apart := false }
def VoltCalmsSaid : Prop := voltCalmsRow.holds Try.pinned (OpenSpec.ofChange voltCalmsSpec)

/-- ITS FALSE NEIGHBOUR: 'it returns false'. Refute it at one input. -/
def voltCalmsWrong : ChangeSpec := { name := "voltCalms", fn := fun _ => fun
  | [d1, d2] => { results := [.lit (.bool false)], args := [d1, d2] }
  | _ => none }
def VoltCalmsWrongFalsely : Prop := voltCalmsRow.holds Try.pinned (OpenSpec.ofChange voltCalmsWrong)

/-- 'quadrupolelaw07.VoltSmooth': WHATEVER THE INPUT: true; the input reads as it did. -/
def voltSmoothSpec : ChangeSpec := { name := "voltSmooth", fn := fun _ => fun
  | [d1, d2] => { results := [.lit (.bool true)], args := [d1, d2] }
  | _ => none }
def voltSmoothRow : OpenClaim := { program := "ytejjogpgolgdgaa", sum := "8f140af81a6211723d182623058f648444b47b63bc9eb7fca78259b05fcf7493", func := "quadrupole/quadrupolelaw07.VoltSmooth", spec := "voltSmooth", unfollowed := true, recurses := true, plainKeys := false, apart := false }
def VoltSmoothSaid : Prop := voltSmoothRow.holds Try.pinned (OpenSpec.ofChange voltSmoothSpec)

/-- ITS FALSE NEIGHBOUR: 'it returns false'. Refute it at one input. -/
def voltSmoothWrong : ChangeSpec := { name := "voltSmooth", fn := fun _ => fun
  | [d1, d2] => { results := [.lit (.bool false)], args := [d1, d2] }
  | _ => none }
def VoltSmoothWrongFalsely : Prop := voltSmoothRow.holds Try.pinned (OpenSpec.ofChange voltSmoothWrong)

/-- 'quadrupolelaw07.VoltCourses': WHATEVER THE INPUT: true; the input reads as it did. -/
def voltCoursesSpec : ChangeSpec := { name := "voltCourses", fn := fun _ => fun
  | [d1, d2, d3] => { results := [.lit (.bool true)], args := [d1, d2, d3] }
  | _ => none }
def voltCoursesRow : OpenClaim := { program := "ytejjogpgolgdgaa", sum := "8f140af81a6211723d182623058f648444b47b63bc9eb7fca78259b05fcf7493", func := "quadrupole/quadrupolelaw07.VoltCourses", spec := "voltCourses", unfollowed := true, recurses := true, plainKeys := false, apart := false }
def VoltCoursesSaid : Prop := voltCoursesRow.holds Try.pinned (OpenSpec.ofChange voltCoursesSpec)

/-- ITS FALSE NEIGHBOUR: 'it returns false'. Refute it at one input. -/
def voltCoursesWrong : ChangeSpec := { name := "voltCourses", fn := fun _ => fun
  | [d1, d2, d3] => { results := [.lit (.bool false)], args := [d1, d2, d3] }
  | _ => none }
def VoltCoursesWrongFalsely : Prop := voltCoursesRow.holds Try.pinned (OpenSpec.ofChange voltCoursesWrong)

/-- 'quadrupolelaw07.VoltMakes': WHATEVER THE INPUT: true; the input reads as it did. -/
def voltMakesSpec : ChangeSpec := { name := "voltMakes", fn := fun _ => fun
  | [d1, d2] => { results := [.lit (.bool true)], args := [d1, d2] }
  | _ => none }
def voltMakesRow : OpenClaim := { program := "ytejjogpgolgdgaa", sum := "8f140af81a6211723d182623058f648444b47b63bc9eb7fca78259b05fcf7493", func := "quadrupole/quadrupolelaw07.VoltMakes", spec := "voltMakes", unfollowed := true, recurses := true, plainKeys := false, apart := false }
def VoltMakesSaid : Prop := voltMakesRow.holds Try.pinned (OpenSpec.ofChange voltMakesSpec)

/-- ITS FALSE NEIGHBOUR: 'it returns false'. Refute it at one input. -/
def voltMakesWrong : ChangeSpec := { name := "voltMakes", fn := fun _ => fun
  | [d1, d2] => { results := [.lit (.bool false)], args := [d1, d2] }
  | _ => none }
def VoltMakesWrongFalsely : Prop := voltMakesRow.holds Try.pinned (OpenSpec.ofChange voltMakesWrong)

/-- 'quadrupolelaw07.VoltVolts': WHATEVER THE INPUT: true; the input reads as it did. -/
def voltVoltsSpec : ChangeSpec := { name := "voltVolts", fn := fun _ => fun
  | [d1, d2, d3] => { results := [.lit (.bool true)], args := [d1, d2, d3] }
  | _ => none }
def voltVoltsRow : OpenClaim := { program := "ytejjogpgolgdgaa", sum := "8f140af81a6211723d182623058f648444b47b63bc9eb7fca78259b05fcf7493", func := "quadrupole/quadrupolelaw07.VoltVolts", spec := "voltVolts", unfollowed := true, recurses := true, plainKeys := false, apart := false }
def VoltVoltsSaid : Prop := voltVoltsRow.holds Try.pinned (OpenSpec.ofChange voltVoltsSpec)

/-- ITS FALSE NEIGHBOUR: 'it returns false'. Refute it at one input. -/
def voltVoltsWrong : ChangeSpec := { name := "voltVolts", fn := fun _ => fun
  | [d1, d2, d3] => { results := [.lit (.bool false)], args := [d1, d2, d3] }
  | _ => none }
def VoltVoltsWrongFalsely : Prop := voltVoltsRow.holds Try.pinned (OpenSpec.ofChange voltVoltsWrong)

/-- 'quadrupolelaw07.VoltSums': WHATEVER THE INPUT: true; the input reads as it did. -/
def voltSumsSpec : ChangeSpec := { name := "voltSums", fn := fun _ => fun
  | [d1, d2, d3] => { results := [.lit (.bool true)], args := [d1, d2, d3] }
  | _ => none }
def voltSumsRow : OpenClaim := { program := "ytejjogpgolgdgaa", sum := "8f140af81a6211723d182623058f648444b47b63bc9eb7fca78259b05fcf7493", func := "quadrupole/quadrupolelaw07.VoltSums", spec := "voltSums", unfollowed := true, recurses := true, plainKeys := false, apart := false }
def VoltSumsSaid : Prop := voltSumsRow.holds Try.pinned (OpenSpec.ofChange voltSumsSpec)

/-- ITS FALSE NEIGHBOUR: 'it returns false'. Refute it at one input. -/
def voltSumsWrong : ChangeSpec := { name := "voltSums", fn := fun _ => fun
  | [d1, d2, d3] => { results := [.lit (.bool false)], args := [d1, d2, d3] }
  | _ => none }
def VoltSumsWrongFalsely : Prop := voltSumsRow.holds Try.pinned (OpenSpec.ofChange voltSumsWrong)

/-- 'quadrupolelaw07.VoltJumps': WHATEVER THE INPUT: true; the input reads as it did. -/
def voltJumpsSpec : ChangeSpec := { name := "voltJumps", fn := fun _ => fun
  | [d1, d2, d3] => { results := [.lit (.bool true)], args := [d1, d2, d3] }
  | _ => none }
def voltJumpsRow : OpenClaim := { program := "ytejjogpgolgdgaa", sum := "8f140af81a6211723d182623058f648444b47b63bc9eb7fca78259b05fcf7493", func := "quadrupole/quadrupolelaw07.VoltJumps", spec := "voltJumps", unfollowed := true, recurses := true, plainKeys := false, apart := false }
def VoltJumpsSaid : Prop := voltJumpsRow.holds Try.pinned (OpenSpec.ofChange voltJumpsSpec)

/-- ITS FALSE NEIGHBOUR: 'it returns false'. Refute it at one input. -/
def voltJumpsWrong : ChangeSpec := { name := "voltJumps", fn := fun _ => fun
  | [d1, d2, d3] => { results := [.lit (.bool false)], args := [d1, d2, d3] }
  | _ => none }
def VoltJumpsWrongFalsely : Prop := voltJumpsRow.holds Try.pinned (OpenSpec.ofChange voltJumpsWrong)

/-- 'quadrupolelaw07.VoltLess': WHATEVER THE INPUT: true; the input reads as it did. -/
def voltLessSpec : ChangeSpec := { name := "voltLess", fn := fun _ => fun
  | [d1, d2] => { results := [.lit (.bool true)], args := [d1, d2] }
  | _ => none }
def voltLessRow : OpenClaim := { program := "ytejjogpgolgdgaa", sum := "8f140af81a6211723d182623058f648444b47b63bc9eb7fca78259b05fcf7493", func := "quadrupole/quadrupolelaw07.VoltLess", spec := "voltLess", unfollowed := true, recurses := true, plainKeys := false, apart := false }
def VoltLessSaid : Prop := voltLessRow.holds Try.pinned (OpenSpec.ofChange voltLessSpec)

/-- ITS FALSE NEIGHBOUR: 'it returns false'. Refute it at one input. -/
def voltLessWrong : ChangeSpec := { name := "voltLess", fn := fun _ => fun
  | [d1, d2] => { results := [.lit (.bool false)], args := [d1, d2] }
  | _ => none }
def VoltLessWrongFalsely : Prop := voltLessRow.holds Try.pinned (OpenSpec.ofChange voltLessWrong)

/-- 'quadrupoletop.TopVolts': WHATEVER THE INPUT: true; the input reads as it did. -/
def topVoltsSpec : ChangeSpec := { name := "topVolts", fn := fun _ => fun
  | [d1, d2, d3] => { results := [.lit (.bool true)], args := [d1, d2, d3] }
  | _ => none }
def topVoltsRow : OpenClaim := { program := "ytejjogpgolgdgaa", sum := "8f140af81a6211723d182623058f648444b47b63bc9eb7fca78259b05fcf7493", func := "quadrupole/quadrupoletop.TopVolts", spec := "topVolts", unfollowed := true, recurses := true, plainKeys := false, apart := false }
def TopVoltsSaid : Prop := topVoltsRow.holds Try.pinned (OpenSpec.ofChange topVoltsSpec)

/-- ITS FALSE NEIGHBOUR: 'it returns false'. Refute it at one input. -/
def topVoltsWrong : ChangeSpec := { name := "topVolts", fn := fun _ => fun
  | [d1, d2, d3] => { results := [.lit (.bool false)], args := [d1, d2, d3] }
  | _ => none }
def TopVoltsWrongFalsely : Prop := topVoltsRow.holds Try.pinned (OpenSpec.ofChange topVoltsWrong)

/- THE SECOND FORM. 'bulk': how many values and letters a reading holds, each counted each time it is reached (what is shared counts as often as it is met; a slice's spare places count too). A statement '..UptoSaid' is the law's where the arguments, and the package variables that the reading takes, are together of bulk at most 1048576: NARROWER than '..Said'. Prove '..Said' where nothing that the law and all that it calls make is longer than what came in: it says more and counts as full. Else prove '..UptoSaid'. A law counts once. -/
mutual
def uptoBulk {H : Type} : DataW H → Nat
  | .lit (.string bytes) => bytes.length + 1
  | .lit _ => 1
  | .nil => 1
  | .ptr d => uptoBulk d + 1
  | .slice elems spare => uptoBulkAll elems + uptoBulkAll spare + 1
  | .agg parts => uptoBulkAll parts + 1
  | .iface _ d => uptoBulk d + 1
  | .map entries => uptoBulkEntries entries + 1
  | .held _ => 1
def uptoBulkAll {H : Type} : List (DataW H) → Nat
  | [] => 0
  | d :: r => uptoBulk d + uptoBulkAll r
def uptoBulkEntries {H : Type} : List (Lit × DataW H) → Nat
  | [] => 0
  | x :: r => uptoBulkEntry x + uptoBulkEntries r
def uptoBulkEntry {H : Type} : Lit × DataW H → Nat
  | (.string bytes, d) => bytes.length + uptoBulk d + 1
  | (_, d) => uptoBulk d + 1
 end
def uptoSmall : (H : Type) → List (DataW H) → Bool := fun _ ds => decide (uptoBulkAll ds ≤ 1048576)
def OpenSpec.upto (s : _root_.Go.ChangeSpec) : _root_.Go.OpenSpec := { _root_.Go.OpenSpec.ofChange s with cond := some uptoSmall }

/-- 'quadrupolelaw07.VoltWays', WHERE WHAT IT READS IS OF BULK AT MOST 1048576: true; the input reads as it did. -/
def voltWaysUptoRow : OpenClaim := { program := "ytejjogpgolgdgaa", sum := "8f140af81a6211723d182623058f648444b47b63bc9eb7fca78259b05fcf7493", func := "quadrupole/quadrupolelaw07.VoltWays", spec := "voltWays", unfollowed := true, recurses := true, plainKeys := false, apart := false, narrowed := true }
def VoltWaysUptoSaid : Prop := voltWaysUptoRow.holds Try.pinned (OpenSpec.upto voltWaysSpec)

/-- 'quadrupolelaw07.VoltRows', WHERE WHAT IT READS IS OF BULK AT MOST 1048576: true; the input reads as it did. -/
def voltRowsUptoRow : OpenClaim := { program := "ytejjogpgolgdgaa", sum := "8f140af81a6211723d182623058f648444b47b63bc9eb7fca78259b05fcf7493", func := "quadrupole/quadrupolelaw07.VoltRows", spec := "voltRows", unfollowed := true, recurses := true, plainKeys := false, apart := false, narrowed := true }
def VoltRowsUptoSaid : Prop := voltRowsUptoRow.holds Try.pinned (OpenSpec.upto voltRowsSpec)

/-- 'quadrupolelaw07.VoltFields', WHERE WHAT IT READS IS OF BULK AT MOST 1048576: true; the input reads as it did. -/
def voltFieldsUptoRow : OpenClaim := { program := "ytejjogpgolgdgaa", sum := "8f140af81a6211723d182623058f648444b47b63bc9eb7fca78259b05fcf7493", func := "quadrupole/quadrupolelaw07.VoltFields", spec := "voltFields", unfollowed := true, recurses := true, plainKeys := false, apart := false, narrowed := true }
def VoltFieldsUptoSaid : Prop := voltFieldsUptoRow.holds Try.pinned (OpenSpec.upto voltFieldsSpec)

/-- 'quadrupolelaw07.VoltCounts', WHERE WHAT IT READS IS OF BULK AT MOST 1048576: true; the input reads as it did. -/
def voltCountsUptoRow : OpenClaim := { program := "ytejjogpgolgdgaa", sum := "8f140af81a6211723d182623058f648444b47b63bc9eb7fca78259b05fcf7493", func := "quadrupole/quadrupolelaw07.VoltCounts", spec := "voltCounts", unfollowed := true, recurses := true, plainKeys := false, apart := false, narrowed := true }
def VoltCountsUptoSaid : Prop := voltCountsUptoRow.holds Try.pinned (OpenSpec.upto voltCountsSpec)

/-- 'quadrupolelaw07.VoltCalms', WHERE WHAT IT READS IS OF BULK AT MOST 1048576: true; the input reads as it did. -/
def voltCalmsUptoRow : OpenClaim := { program := "ytejjogpgolgdgaa", sum := "8f140af81a6211723d182623058f648444b47b63bc9eb7fca78259b05fcf7493", func := "quadrupole/quadrupolelaw07.VoltCalms", spec := "voltCalms", unfollowed := true, recurses := true, plainKeys := false, apart := false, narrowed := true }
def VoltCalmsUptoSaid : Prop := voltCalmsUptoRow.holds Try.pinned (OpenSpec.upto voltCalmsSpec)

/-- 'quadrupolelaw07.VoltSmooth', WHERE WHAT IT READS IS OF BULK AT MOST 1048576: true; the input reads as it did. -/
def voltSmoothUptoRow : OpenClaim := { program := "ytejjogpgolgdgaa", sum := "8f140af81a6211723d182623058f648444b47b63bc9eb7fca78259b05fcf7493", func := "quadrupole/quadrupolelaw07.VoltSmooth", spec := "voltSmooth", unfollowed := true, recurses := true, plainKeys := false, apart := false, narrowed := true }
def VoltSmoothUptoSaid : Prop := voltSmoothUptoRow.holds Try.pinned (OpenSpec.upto voltSmoothSpec)

/-- 'quadrupolelaw07.VoltCourses', WHERE WHAT IT READS IS OF BULK AT MOST 1048576: true; the input reads as it did. -/
def voltCoursesUptoRow : OpenClaim := { program := "ytejjogpgolgdgaa", sum := "8f140af81a6211723d182623058f648444b47b63bc9eb7fca78259b05fcf7493", func := "quadrupole/quadrupolelaw07.VoltCourses", spec := "voltCourses", unfollowed := true, recurses := true, plainKeys := false, apart := false, narrowed := true }
def VoltCoursesUptoSaid : Prop := voltCoursesUptoRow.holds Try.pinned (OpenSpec.upto voltCoursesSpec)

/-- 'quadrupolelaw07.VoltMakes', WHERE WHAT IT READS IS OF BULK AT MOST 1048576: true; the input reads as it did. -/
def voltMakesUptoRow : OpenClaim := { program := "ytejjogpgolgdgaa", sum := "8f140af81a6211723d182623058f648444b47b63bc9eb7fca78259b05fcf7493", func := "quadrupole/quadrupolelaw07.VoltMakes", spec := "voltMakes", unfollowed := true, recurses := true, plainKeys := false, apart := false, narrowed := true }
def VoltMakesUptoSaid : Prop := voltMakesUptoRow.holds Try.pinned (OpenSpec.upto voltMakesSpec)

/-- 'quadrupolelaw07.VoltVolts', WHERE WHAT IT READS IS OF BULK AT MOST 1048576: true; the input reads as it did. -/
def voltVoltsUptoRow : OpenClaim := { program := "ytejjogpgolgdgaa", sum := "8f140af81a6211723d182623058f648444b47b63bc9eb7fca78259b05fcf7493", func := "quadrupole/quadrupolelaw07.VoltVolts", spec := "voltVolts", unfollowed := true, recurses := true, plainKeys := false, apart := false, narrowed := true }
def VoltVoltsUptoSaid : Prop := voltVoltsUptoRow.holds Try.pinned (OpenSpec.upto voltVoltsSpec)

/-- 'quadrupolelaw07.VoltSums', WHERE WHAT IT READS IS OF BULK AT MOST 1048576: true; the input reads as it did. -/
def voltSumsUptoRow : OpenClaim := { program := "ytejjogpgolgdgaa", sum := "8f140af81a6211723d182623058f648444b47b63bc9eb7fca78259b05fcf7493", func := "quadrupole/quadrupolelaw07.VoltSums", spec := "voltSums", unfollowed := true, recurses := true, plainKeys := false, apart := false, narrowed := true }
def VoltSumsUptoSaid : Prop := voltSumsUptoRow.holds Try.pinned (OpenSpec.upto voltSumsSpec)

/-- 'quadrupolelaw07.VoltJumps', WHERE WHAT IT READS IS OF BULK AT MOST 1048576: true; the input reads as it did. -/
def voltJumpsUptoRow : OpenClaim := { program := "ytejjogpgolgdgaa", sum := "8f140af81a6211723d182623058f648444b47b63bc9eb7fca78259b05fcf7493", func := "quadrupole/quadrupolelaw07.VoltJumps", spec := "voltJumps", unfollowed := true, recurses := true, plainKeys := false, apart := false, narrowed := true }
def VoltJumpsUptoSaid : Prop := voltJumpsUptoRow.holds Try.pinned (OpenSpec.upto voltJumpsSpec)

/-- 'quadrupolelaw07.VoltLess', WHERE WHAT IT READS IS OF BULK AT MOST 1048576: true; the input reads as it did. -/
def voltLessUptoRow : OpenClaim := { program := "ytejjogpgolgdgaa", sum := "8f140af81a6211723d182623058f648444b47b63bc9eb7fca78259b05fcf7493", func := "quadrupole/quadrupolelaw07.VoltLess", spec := "voltLess", unfollowed := true, recurses := true, plainKeys := false, apart := false, narrowed := true }
def VoltLessUptoSaid : Prop := voltLessUptoRow.holds Try.pinned (OpenSpec.upto voltLessSpec)

/-- 'quadrupoletop.TopVolts', WHERE WHAT IT READS IS OF BULK AT MOST 1048576: true; the input reads as it did. -/
def topVoltsUptoRow : OpenClaim := { program := "ytejjogpgolgdgaa", sum := "8f140af81a6211723d182623058f648444b47b63bc9eb7fca78259b05fcf7493", func := "quadrupole/quadrupoletop.TopVolts", spec := "topVolts", unfollowed := true, recurses := true, plainKeys := false, apart := false, narrowed := true }
def TopVoltsUptoSaid : Prop := topVoltsUptoRow.holds Try.pinned (OpenSpec.upto topVoltsSpec)

end Rows
end Go.Proofs.Ytejjogpgolgdgaa
