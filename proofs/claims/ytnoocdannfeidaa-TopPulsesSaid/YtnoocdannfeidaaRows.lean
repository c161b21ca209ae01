/-
  No cell of these rows narrows 'for every input' (looked for: loops, veiled, ifaces, maps, wideKeys, modest, calm, conditions, laid).
  DERIVED. THE GIVEN ROWS OF THIS SEAT. 14 by the template 'for every input the law returns true; each argument reads behind the call as it read before'; 0 by the template 'total and deterministic' (their statements: YtnoocdannfeidaaTotals.lean).
  GIVEN WITH THE SEED: the statements are not yours to turn. If you find one false, say at which input.
  Laid BY PROGRAM, IN A SANDBOX (cutbox-rows.mjs): the forced cells as the released guide's own fill.sh prints them over the translation e6b3b8e5f8fea1d6… (all of the seat's roots in one cut). By AI agents, Wed Nov 11 2026. No macro, syntax, notation, axiom, sorry.
-/
import Derived.Test.YtnoocdannfeidaaChecked
import GoSem.Claim
import GoSem.ClaimJoined
import GoSem.ClaimMapViews
import Derived.JoinedTies
import Derived.KernelRfl
namespace Go.Proofs.Ytnoocdannfeidaa
/- THE CELL 'sum', in the pinned program and in every row, IS THE sha256 OF THE DUMP (.gsa) THAT YtnoocdannfeidaaProg.lean LOADS. Nothing in Lean hashes anything: it is a label: what it is worth is what the hold of that sum in a sandbox is worth. -/
noncomputable def Try.pinned : Pinned := { name := "ytnoocdannfeidaa", sum := "e6b3b8e5f8fea1d60b9389da02a25cd2a4fddb29c10ed4f8149ae837ac3e51a5", checked := Try.checked }
namespace Rows
def none {H : Type} : Left H := { results := [], args := [] }

/-- 'quadrupolelaw01.PulseAreas': WHATEVER THE INPUT: true; the input reads as it did. -/
def pulseAreasSpec : ChangeSpec := { name := "pulseAreas", fn := fun _ => fun
  | [d1, d2] => { results := [.lit (.bool true)], args := [d1, d2] }
  | _ => none }
def pulseAreasRow : OpenClaim := { program := "ytnoocdannfeidaa", sum := "e6b3b8e5f8fea1d60b9389da02a25cd2a4fddb29c10ed4f8149ae837ac3e51a5", func := "quadrupole/quadrupolelaw01.PulseAreas", spec := "pulseAreas", unfollowed := true, recurses := true, apart := false }
def PulseAreasSaid : Prop := pulseAreasRow.holds Try.pinned (OpenSpec.ofChange pulseAreasSpec)

/-- ITS FALSE NEIGHBOUR: 'it returns false'. Refute it at one input. -/
def pulseAreasWrong : ChangeSpec := { name := "pulseAreas", fn := fun _ => fun
  | [d1, d2] => { results := [.lit (.bool false)], args := [d1, d2] }
  | _ => none }
def PulseAreasWrongFalsely : Prop := pulseAreasRow.holds Try.pinned (OpenSpec.ofChange pulseAreasWrong)

/-- 'quadrupolelaw01.PulseTurns': WHATEVER THE INPUT: true; the input reads as it did. -/
def pulseTurnsSpec : ChangeSpec := { name := "pulseTurns", fn := fun _ => fun
  | [d1, d2] => { results := [.lit (.bool true)], args := [d1, d2] }
  | _ => none }
def pulseTurnsRow : OpenClaim := { program := "ytnoocdannfeidaa", sum := "e6b3b8e5f8fea1d60b9389da02a25cd2a4fddb29c10ed4f8149ae837ac3e51a5", func := "quadrupole/quadrupolelaw01.PulseTurns", spec := "pulseTurns", unfollowed := true, recurses := true, apart := false }
def PulseTurnsSaid : Prop := pulseTurnsRow.holds Try.pinned (OpenSpec.ofChange pulseTurnsSpec)

/-- ITS FALSE NEIGHBOUR: 'it returns false'. Refute it at one input. -/
def pulseTurnsWrong : ChangeSpec := { name := "pulseTurns", fn := fun _ => fun
  | [d1, d2] => { results := [.lit (.bool false)], args := [d1, d2] }
  | _ => none }
def PulseTurnsWrongFalsely : Prop := pulseTurnsRow.holds Try.pinned (OpenSpec.ofChange pulseTurnsWrong)

/-- 'quadrupolelaw01.PulseShortest': WHATEVER THE INPUT: true; the input reads as it did. -/
def pulseShortestSpec : ChangeSpec := { name := "pulseShortest", fn := fun _ => fun
  | [d1, d2] => { results := [.lit (.bool true)], args := [d1, d2] }
  | _ => none }
def pulseShortestRow : OpenClaim := { program := "ytnoocdannfeidaa", sum := "e6b3b8e5f8fea1d60b9389da02a25cd2a4fddb29c10ed4f8149ae837ac3e51a5", func := "quadrupole/quadrupolelaw01.PulseShortest", spec := "pulseShortest", unfollowed := true, recurses := true, apart := false }
def PulseShortestSaid : Prop := pulseShortestRow.holds Try.pinned (OpenSpec.ofChange pulseShortestSpec)

/-- ITS FALSE NEIGHBOUR: 'it returns false'. Refute it at one input. -/
def pulseShortestWrong : ChangeSpec := { name := "pulseShortest", fn := fun _ => fun
  | [d1, d2] => { results := [.lit (.bool false)], args := [d1, d2] }
  | _ => none }
def PulseShortestWrongFalsely : Prop := pulseShortestRow.holds Try.pinned (OpenSpec.ofChange pulseShortestWrong)

/-- 'quadrupolelaw01.PulseChecks': WHATEVER THE INPUT: true; the input reads as it did. -/
def pulseChecksSpec : ChangeSpec := { name := "pulseChecks", fn := fun _ => fun
  | [d1, d2, d3] => { results := [.lit (.bool true)], args := [d1, d2, d3] }
  | _ => none }
def pulseChecksRow : OpenClaim := { program := "ytnoocdannfeidaa", sum := "e6b3b8e5f8fea1d60b9389da02a25cd2a4fddb29c10ed4f8149ae837ac3e51a5", func := "quadrupole/quadrupolelaw01.PulseChecks", spec := "pulseChecks", unfollowed := true, recurses := true, apart := false }
def PulseChecksSaid : Prop := pulseChecksRow.holds Try.pinned (OpenSpec.ofChange pulseChecksSpec)

/-- ITS FALSE NEIGHBOUR: 'it returns false'. Refute it at one input. -/
def pulseChecksWrong : ChangeSpec := { name := "pulseChecks", fn := fun _ => fun
  | [d1, d2, d3] => { results := [.lit (.bool false)], args := [d1, d2, d3] }
  | _ => none }
def PulseChecksWrongFalsely : Prop := pulseChecksRow.holds Try.pinned (OpenSpec.ofChange pulseChecksWrong)

/-- 'quadrupolelaw01.PulsePaths': WHATEVER THE INPUT: true; the input reads as it did. -/
def pulsePathsSpec : ChangeSpec := { name := "pulsePaths", fn := fun _ => fun
  | [d1, d2] => { results := [.lit (.bool true)], args := [d1, d2] }
  | _ => none }
def pulsePathsRow : OpenClaim := { program := "ytnoocdannfeidaa", sum := "e6b3b8e5f8fea1d60b9389da02a25cd2a4fddb29c10ed4f8149ae837ac3e51a5", func := "quadrupole/quadrupolelaw01.PulsePaths", spec := "pulsePaths", unfollowed := true, recurses := true, apart := false }
def PulsePathsSaid : Prop := pulsePathsRow.holds Try.pinned (OpenSpec.ofChange pulsePathsSpec)

/-- ITS FALSE NEIGHBOUR: 'it returns false'. Refute it at one input. -/
def pulsePathsWrong : ChangeSpec := { name := "pulsePaths", fn := fun _ => fun
  | [d1, d2] => { results := [.lit (.bool false)], args := [d1, d2] }
  | _ => none }
def PulsePathsWrongFalsely : Prop := pulsePathsRow.holds Try.pinned (OpenSpec.ofChange pulsePathsWrong)

/-- 'quadrupolelaw01.PulseScales': WHATEVER THE INPUT: true; the input reads as it did. -/
def pulseScalesSpec : ChangeSpec := { name := "pulseScales", fn := fun _ => fun
  | [d1, d2, d3] => { results := [.lit (.bool true)], args := [d1, d2, d3] }
  | _ => none }
def pulseScalesRow : OpenClaim := { program := "ytnoocdannfeidaa", sum := "e6b3b8e5f8fea1d60b9389da02a25cd2a4fddb29c10ed4f8149ae837ac3e51a5", func := "quadrupole/quadrupolelaw01.PulseScales", spec := "pulseScales", unfollowed := true, recurses := true, apart := false }
def PulseScalesSaid : Prop := pulseScalesRow.holds Try.pinned (OpenSpec.ofChange pulseScalesSpec)

/-- ITS FALSE NEIGHBOUR: 'it returns false'. Refute it at one input. -/
def pulseScalesWrong : ChangeSpec := { name := "pulseScales", fn := fun _ => fun
  | [d1, d2, d3] => { results := [.lit (.bool false)], args := [d1, d2, d3] }
  | _ => none }
def PulseScalesWrongFalsely : Prop := pulseScalesRow.holds Try.pinned (OpenSpec.ofChange pulseScalesWrong)

/-- 'quadrupolelaw01.PulseFinds': WHATEVER THE INPUT: true; the input reads as it did. -/
def pulseFindsSpec : ChangeSpec := { name := "pulseFinds", fn := fun _ => fun
  | [d1, d2, d3] => { results := [.lit (.bool true)], args := [d1, d2, d3] }
  | _ => none }
def pulseFindsRow : OpenClaim := { program := "ytnoocdannfeidaa", sum := "e6b3b8e5f8fea1d60b9389da02a25cd2a4fddb29c10ed4f8149ae837ac3e51a5", func := "quadrupole/quadrupolelaw01.PulseFinds", spec := "pulseFinds", unfollowed := true, recurses := true, apart := false }
def PulseFindsSaid : Prop := pulseFindsRow.holds Try.pinned (OpenSpec.ofChange pulseFindsSpec)

/-- ITS FALSE NEIGHBOUR: 'it returns false'. Refute it at one input. -/
def pulseFindsWrong : ChangeSpec := { name := "pulseFinds", fn := fun _ => fun
  | [d1, d2, d3] => { results := [.lit (.bool false)], args := [d1, d2, d3] }
  | _ => none }
def PulseFindsWrongFalsely : Prop := pulseFindsRow.holds Try.pinned (OpenSpec.ofChange pulseFindsWrong)

/-- 'quadrupolelaw01.PulseBacks': WHATEVER THE INPUT: true; the input reads as it did. -/
def pulseBacksSpec : ChangeSpec := { name := "pulseBacks", fn := fun _ => fun
  | [d1, d2] => { results := [.lit (.bool true)], args := [d1, d2] }
  | _ => none }
def pulseBacksRow : OpenClaim := { program := "ytnoocdannfeidaa", sum := "e6b3b8e5f8fea1d60b9389da02a25cd2a4fddb29c10ed4f8149ae837ac3e51a5", func := "quadrupole/quadrupolelaw01.PulseBacks", spec := "pulseBacks", unfollowed := true, recurses := true, apart := false }
def PulseBacksSaid : Prop := pulseBacksRow.holds Try.pinned (OpenSpec.ofChange pulseBacksSpec)

/-- ITS FALSE NEIGHBOUR: 'it returns false'. Refute it at one input. -/
def pulseBacksWrong : ChangeSpec := { name := "pulseBacks", fn := fun _ => fun
  | [d1, d2] => { results := [.lit (.bool false)], args := [d1, d2] }
  | _ => none }
def PulseBacksWrongFalsely : Prop := pulseBacksRow.holds Try.pinned (OpenSpec.ofChange pulseBacksWrong)

/-- 'quadrupolelaw01.PulseCloses': WHATEVER THE INPUT: true; the input reads as it did. -/
def pulseClosesSpec : ChangeSpec := { name := "pulseCloses", fn := fun _ => fun
  | [d] => { results := [.lit (.bool true)], args := [d] }
  | _ => none }
def pulseClosesRow : OpenClaim := { program := "ytnoocdannfeidaa", sum := "e6b3b8e5f8fea1d60b9389da02a25cd2a4fddb29c10ed4f8149ae837ac3e51a5", func := "quadrupole/quadrupolelaw01.PulseCloses", spec := "pulseCloses", unfollowed := true, recurses := true, apart := false }
def PulseClosesSaid : Prop := pulseClosesRow.holds Try.pinned (OpenSpec.ofChange pulseClosesSpec)

/-- ITS FALSE NEIGHBOUR: 'it returns false'. Refute it at one input. -/
def pulseClosesWrong : ChangeSpec := { name := "pulseCloses", fn := fun _ => fun
  | [d] => { results := [.lit (.bool false)], args := [d] }
  | _ => none }
def PulseClosesWrongFalsely : Prop := pulseClosesRow.holds Try.pinned (OpenSpec.ofChange pulseClosesWrong)

/-- 'quadrupolelaw01.PulseAdds': WHATEVER THE INPUT: true; the input reads as it did. -/
def pulseAddsSpec : ChangeSpec := { name := "pulseAdds", fn := fun _ => fun
  | [d1, d2, d3] => { results := [.lit (.bool true)], args := [d1, d2, d3] }
  | _ => none }
def pulseAddsRow : OpenClaim := { program := "ytnoocdannfeidaa", sum := "e6b3b8e5f8fea1d60b9389da02a25cd2a4fddb29c10ed4f8149ae837ac3e51a5", func := "quadrupole/quadrupolelaw01.PulseAdds", spec := "pulseAdds", unfollowed := true, recurses := true, apart := false }
def PulseAddsSaid : Prop := pulseAddsRow.holds Try.pinned (OpenSpec.ofChange pulseAddsSpec)

/-- ITS FALSE NEIGHBOUR: 'it returns false'. Refute it at one input. -/
def pulseAddsWrong : ChangeSpec := { name := "pulseAdds", fn := fun _ => fun
  | [d1, d2, d3] => { results := [.lit (.bool false)], args := [d1, d2, d3] }
  | _ => none }
def PulseAddsWrongFalsely : Prop := pulseAddsRow.holds Try.pinned (OpenSpec.ofChange pulseAddsWrong)

/-- 'quadrupolelaw01.PulseJoins': WHATEVER THE INPUT: true; the input reads as it did. -/
def pulseJoinsSpec : ChangeSpec := { name := "pulseJoins", fn := fun _ => fun
  | [d1, d2, d3] => { results := [.lit (.bool true)], args := [d1, d2, d3] }
  | _ => none }
def pulseJoinsRow : OpenClaim := { program := "ytnoocdannfeidaa", sum := "e6b3b8e5f8fea1d60b9389da02a25cd2a4fddb29c10ed4f8149ae837ac3e51a5", func := "quadrupole/quadrupolelaw01.PulseJoins", spec := "pulseJoins", unfollowed := true, recurses := true, apart := false }
def PulseJoinsSaid : Prop := pulseJoinsRow.holds Try.pinned (OpenSpec.ofChange pulseJoinsSpec)

/-- ITS FALSE NEIGHBOUR: 'it returns false'. Refute it at one input. -/
def pulseJoinsWrong : ChangeSpec := { name := "pulseJoins", fn := fun _ => fun
  | [d1, d2, d3] => { results := [.lit (.bool false)], args := [d1, d2, d3] }
  | _ => none }
def PulseJoinsWrongFalsely : Prop := pulseJoinsRow.holds Try.pinned (OpenSpec.ofChange pulseJoinsWrong)

/-- 'quadrupolelaw01.PulseDelays': WHATEVER THE INPUT: true; the input reads as it did. -/
def pulseDelaysSpec : ChangeSpec := { name := "pulseDelays", fn := fun _ => fun
  | [d1, d2, d3] => { results := [.lit (.bool true)], args := [d1, d2, d3] }
  | _ => none }
def pulseDelaysRow : OpenClaim := { program := "ytnoocdannfeidaa", sum := "e6b3b8e5f8fea1d60b9389da02a25cd2a4fddb29c10ed4f8149ae837ac3e51a5", func := "quadrupole/quadrupolelaw01.PulseDelays", spec := "pulseDelays", unfollowed := true, recurses := true, apart := false }
def PulseDelaysSaid : Prop := pulseDelaysRow.holds Try.pinned (OpenSpec.ofChange pulseDelaysSpec)

/-- ITS FALSE NEIGHBOUR: 'it returns false'. Refute it at one input. -/
def pulseDelaysWrong : ChangeSpec := { name := "pulseDelays", fn := fun _ => fun
  | [d1, d2, d3] => { results := [.lit (.bool false)], args := [d1, d2, d3] }
  | _ => none }
def PulseDelaysWrongFalsely : Prop := pulseDelaysRow.holds Try.pinned (OpenSpec.ofChange pulseDelaysWrong)

/-- 'quadrupolelaw01.PulseSearches': WHATEVER THE INPUT: true; the input reads as it did. -/
def pulseSearchesSpec : ChangeSpec := { name := "pulseSearches", fn := fun _ => fun
  | [d1, d2] => { results := [.lit (.bool true)], args := [d1, d2] }
  | _ => none }
def pulseSearchesRow : OpenClaim := { program := "ytnoocdannfeidaa", sum := "e6b3b8e5f8fea1d60b9389da02a25cd2a4fddb29c10ed4f8149ae837ac3e51a5", func := "quadrupole/quadrupolelaw01.PulseSearches", spec := "pulseSearches", unfollowed := true, recurses := true, apart := false }
def PulseSearchesSaid : Prop := pulseSearchesRow.holds Try.pinned (OpenSpec.ofChange pulseSearchesSpec)

/-- ITS FALSE NEIGHBOUR: 'it returns false'. Refute it at one input. -/
def pulseSearchesWrong : ChangeSpec := { name := "pulseSearches", fn := fun _ => fun
  | [d1, d2] => { results := [.lit (.bool false)], args := [d1, d2] }
  | _ => none }
def PulseSearchesWrongFalsely : Prop := pulseSearchesRow.holds Try.pinned (OpenSpec.ofChange pulseSearchesWrong)

/-- 'quadrupoletop.TopPulses': WHATEVER THE INPUT: true; the input reads as it did. -/
def topPulsesSpec : ChangeSpec := { name := "topPulses", fn := fun _ => fun
  | [d1, d2, d3] => { results := [.lit (.bool true)], args := [d1, d2, d3] }
  | _ => none }
def topPulsesRow : OpenClaim := { program := "ytnoocdannfeidaa", sum := "e6b3b8e5f8fea1d60b9389da02a25cd2a4fddb29c10ed4f8149ae837ac3e51a5", func := "quadrupole/quadrupoletop.TopPulses", spec := "topPulses", unfollowed := true, recurses := true, apart := false }
def TopPulsesSaid : Prop := topPulsesRow.holds Try.pinned (OpenSpec.ofChange topPulsesSpec)

/-- ITS FALSE NEIGHBOUR: 'it returns false'. Refute it at one input. -/
def topPulsesWrong : ChangeSpec := { name := "topPulses", fn := fun _ => fun
  | [d1, d2, d3] => { results := [.lit (.bool false)], args := [d1, d2, d3] }
  | _ => none }
def TopPulsesWrongFalsely : Prop := topPulsesRow.holds Try.pinned (OpenSpec.ofChange topPulsesWrong)

/- THE SECOND FORM. 'bulk': how many values and letters a reading holds, each counted each time it is reached (what is shared counts as often as it is met; a slice's spare places count too). A statement '..UptoSaid' is the law's where the arguments, and the package variables that the reading takes, are together of bulk at most 1048576: NARROWER than '..Said'. Prove '..Said' where nothing that the law and all that it calls make is longer than what came in: it says more and counts as full. Else prove '..UptoSaid'. A law counts once. -/
mutual
def uptoBulk {H : Type} : DataW H → Nat
  | .lit (.string bytes) => bytes.length + 1
  | .lit _ => 1
  | .nil => 1
  | .ptr d => uptoBulk d + 1
  | .slice elems spare => uptoBulkAll elems + uptoBulkAll spare + 1
  | .agg parts => uptoBulkAll parts + 1
  | .iface _ d => uptoBulk d + 1
  | .map entries => uptoBulkEntries entries + 1
  | .held _ => 1
def uptoBulkAll {H : Type} : List (DataW H) → Nat
  | [] => 0
  | d :: r => uptoBulk d + uptoBulkAll r
def uptoBulkEntries {H : Type} : List (Lit × DataW H) → Nat
  | [] => 0
  | x :: r => uptoBulkEntry x + uptoBulkEntries r
def uptoBulkEntry {H : Type} : Lit × DataW H → Nat
  | (.string bytes, d) => bytes.length + uptoBulk d + 1
  | (_, d) => uptoBulk d + 1
 end
def uptoSmall : (H : Type) → List (DataW H) → Bool := fun _ ds => decide (uptoBulkAll ds ≤ 1048576)
def OpenSpec.upto (s : _root_.Go.ChangeSpec) : _root_.Go.OpenSpec := { _root_.Go.OpenSpec.ofChange s with cond := some uptoSmall }

/-- 'quadrupolelaw01.PulseAreas', WHERE WHAT IT READS IS OF BULK AT MOST 1048576: true; the input reads as it did. -/
def pulseAreasUptoRow : OpenClaim := { program := "ytnoocdannfeidaa", sum := "e6b3b8e5f8fea1d60b9389da02a25cd2a4fddb29c10ed4f8149ae837ac3e51a5", func := "quadrupole/quadrupolelaw01.PulseAreas", spec := "pulseAreas", unfollowed := true, recurses := true, apart := false, narrowed := true }
def PulseAreasUptoSaid : Prop := pulseAreasUptoRow.holds Try.pinned (OpenSpec.upto pulseAreasSpec)

/-- 'quadrupolelaw01.PulseTurns', WHERE WHAT IT READS IS OF BULK AT MOST 1048576: true; the input reads as it did. -/
def pulseTurnsUptoRow : OpenClaim := { program := "ytnoocdannfeidaa", sum := "e6b3b8e5f8fea1d60b9389da02a25cd2a4fddb29c10ed4f8149ae837ac3e51a5", func := "quadrupole/quadrupolelaw01.PulseTurns", spec := "pulseTurns", unfollowed := true, recurses := true, apart := false, narrowed := true }
def PulseTurnsUptoSaid : Prop := pulseTurnsUptoRow.holds Try.pinned (OpenSpec.upto pulseTurnsSpec)

/-- 'quadrupolelaw01.PulseShortest', WHERE WHAT IT READS IS OF BULK AT MOST 1048576: true; the input reads as it did. -/
def pulseShortestUptoRow : OpenClaim := { program := "ytnoocdannfeidaa", sum := "e6b3b8e5f8fea1d60b9389da02a25cd2a4fddb29c10ed4f8149ae837ac3e51a5", func := "quadrupole/quadrupolelaw01.PulseShortest", spec := "pulseShortest", unfollowed := true, recurses := true, apart := false, narrowed := true }
def PulseShortestUptoSaid : Prop := pulseShortestUptoRow.holds Try.pinned (OpenSpec.upto pulseShortestSpec)

/-- 'quadrupolelaw01.PulseChecks', WHERE WHAT IT READS IS OF BULK AT MOST 1048576: true; the input reads as it did. -/
def pulseChecksUptoRow : OpenClaim := { program := "ytnoocdannfeidaa", sum := "e6b3b8e5f8fea1d60b9389da02a25cd2a4fddb29c10ed4f8149ae837ac3e51a5", func := "quadrupole/quadrupolelaw01.PulseChecks", spec := "pulseChecks", unfollowed := true, recurses := true, apart := false, narrowed := true }
def PulseChecksUptoSaid : Prop := pulseChecksUptoRow.holds Try.pinned (OpenSpec.upto pulseChecksSpec)

/-- 'quadrupolelaw01.PulsePaths', WHERE WHAT IT READS IS OF BULK AT MOST 1048576: true; the input reads as it did. -/
def pulsePathsUptoRow : OpenClaim := { program := "ytnoocdannfeidaa", sum := "e6b3b8e5f8fea1d60b9389da02a25cd2a4fddb29c10ed4f8149ae837ac3e51a5", func := "quadrupole/quadrupolelaw01.PulsePaths", spec := "pulsePaths", unfollowed := true, recurses := true, apart := false, narrowed := true }
def PulsePathsUptoSaid : Prop := pulsePathsUptoRow.holds Try.pinned (OpenSpec.upto pulsePathsSpec)

/-- 'quadrupolelaw01.PulseScales', WHERE WHAT IT READS IS OF BULK AT MOST 1048576: true; the input reads as it did. -/
def pulseScalesUptoRow : OpenClaim := { program := "ytnoocdannfeidaa", sum := "e6b3b8e5f8fea1d60b9389da02a25cd2a4fddb29c10ed4f8149ae837ac3e51a5", func := "quadrupole/quadrupolelaw01.PulseScales", spec := "pulseScales", unfollowed := true, recurses := true, apart := false, narrowed := true }
def PulseScalesUptoSaid : Prop := pulseScalesUptoRow.holds Try.pinned (OpenSpec.upto pulseScalesSpec)

/-- 'quadrupolelaw01.PulseFinds', WHERE WHAT IT READS IS OF BULK AT MOST 1048576: true; the input reads as it did. -/
def pulseFindsUptoRow : OpenClaim := { program := "ytnoocdannfeidaa", sum := "e6b3b8e5f8fea1d60b9389da02a25cd2a4fddb29c10ed4f8149ae837ac3e51a5", func := "quadrupole/quadrupolelaw01.PulseFinds", spec := "pulseFinds", unfollowed := true, recurses := true, apart := false, narrowed := true }
def PulseFindsUptoSaid : Prop := pulseFindsUptoRow.holds Try.pinned (OpenSpec.upto pulseFindsSpec)

/-- 'quadrupolelaw01.PulseBacks', WHERE WHAT IT READS IS OF BULK AT MOST 1048576: true; the input reads as it did. -/
def pulseBacksUptoRow : OpenClaim := { program := "ytnoocdannfeidaa", sum := "e6b3b8e5f8fea1d60b9389da02a25cd2a4fddb29c10ed4f8149ae837ac3e51a5", func := "quadrupole/quadrupolelaw01.PulseBacks", spec := "pulseBacks", unfollowed := true, recurses := true, apart := false, narrowed := true }
def PulseBacksUptoSaid : Prop := pulseBacksUptoRow.holds Try.pinned (OpenSpec.upto pulseBacksSpec)

/-- 'quadrupolelaw01.PulseCloses', WHERE WHAT IT READS IS OF BULK AT MOST 1048576: true; the input reads as it did. -/
def pulseClosesUptoRow : OpenClaim := { program := "ytnoocdannfeidaa", sum := "e6b3b8e5f8fea1d60b9389da02a25cd2a4fddb29c10ed4f8149ae837ac3e51a5", func := "quadrupole/quadrupolelaw01.PulseCloses", spec := "pulseCloses", unfollowed := true, recurses := true, apart := false, narrowed := true }
def PulseClosesUptoSaid : Prop := pulseClosesUptoRow.holds Try.pinned (OpenSpec.upto pulseClosesSpec)

/-- 'quadrupolelaw01.PulseAdds', WHERE WHAT IT READS IS OF BULK AT MOST 1048576: true; the input reads as it did. -/
def pulseAddsUptoRow : OpenClaim := { program := "ytnoocdannfeidaa", sum := "e6b3b8e5f8fea1d60b9389da02a25cd2a4fddb29c10ed4f8149ae837ac3e51a5", func := "quadrupole/quadrupolelaw01.PulseAdds", spec := "pulseAdds", unfollowed := true, recurses := true, apart := false, narrowed := true }
def PulseAddsUptoSaid : Prop := pulseAddsUptoRow.holds Try.pinned (OpenSpec.upto pulseAddsSpec)

/-- 'quadrupolelaw01.PulseJoins', WHERE WHAT IT READS IS OF BULK AT MOST 1048576: true; the input reads as it did. -/
def pulseJoinsUptoRow : OpenClaim := { program := "ytnoocdannfeidaa", sum := "e6b3b8e5f8fea1d60b9389da02a25cd2a4fddb29c10ed4f8149ae837ac3e51a5", func := "quadrupole/quadrupolelaw01.PulseJoins", spec := "pulseJoins", unfollowed := true, recurses := true, apart := false, narrowed := true }
def PulseJoinsUptoSaid : Prop := pulseJoinsUptoRow.holds Try.pinned (OpenSpec.upto pulseJoinsSpec)

/-- 'quadrupolelaw01.PulseDelays', WHERE WHAT IT READS IS OF BULK AT MOST 1048576: true; the input reads as it did. -/
def pulseDelaysUptoRow : OpenClaim := { program := "ytnoocdannfeidaa", sum := "e6b3b8e5f8fea1d60b9389da02a25cd2a4fddb29c10ed4f8149ae837ac3e51a5", func := "quadrupole/quadrupolelaw01.PulseDelays", spec := "pulseDelays", unfollowed := true, recurses := true, apart := false, narrowed := true }
def PulseDelaysUptoSaid : Prop := pulseDelaysUptoRow.holds Try.pinned (OpenSpec.upto pulseDelaysSpec)

/-- 'quadrupolelaw01.PulseSearches', WHERE WHAT IT READS IS OF BULK AT MOST 1048576: true; the input reads as it did. -/
def pulseSearchesUptoRow : OpenClaim := { program := "ytnoocdannfeidaa", sum := "e6b3b8e5f8fea1d60b9389da02a25cd2a4fddb29c10ed4f8149ae837ac3e51a5", func := "quadrupole/quadrupolelaw01.PulseSearches", spec := "pulseSearches", unfollowed := true, recurses := true, apart := false, narrowed := true }
def PulseSearchesUptoSaid : Prop := pulseSearchesUptoRow.holds Try.pinned (OpenSpec.upto pulseSearchesSpec)

/-- 'quadrupoletop.TopPulses', WHERE WHAT IT READS IS OF BULK AT MOST 1048576: true; the input reads as it did. -/
def topPulsesUptoRow : OpenClaim := { program := "ytnoocdannfeidaa", sum := "e6b3b8e5f8fea1d60b9389da02a25cd2a4fddb29c10ed4f8149ae837ac3e51a5", func := "quadrupole/quadrupoletop.TopPulses", spec := "topPulses", unfollowed := true, recurses := true, apart := false, narrowed := true }
def TopPulsesUptoSaid : Prop := topPulsesUptoRow.holds Try.pinned (OpenSpec.upto topPulsesSpec)

end Rows
end Go.Proofs.Ytnoocdannfeidaa
