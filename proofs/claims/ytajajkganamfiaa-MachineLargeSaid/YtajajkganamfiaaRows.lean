/-
  No cell of these rows narrows 'for every input' (looked for: loops, veiled, ifaces, maps, wideKeys, modest, calm, conditions, laid).
  DERIVED. THE GIVEN ROWS OF THIS SEAT. 6 by the template 'for every input the law returns true; each argument reads behind the call as it read before'; 0 by the template 'total and deterministic' (their statements: YtajajkganamfiaaTotals.lean).
  GIVEN WITH THE SEED: the statements are not yours to turn. If you find one false, say at which input.
  Laid BY PROGRAM, IN A SANDBOX (cutbox-rows.mjs): the forced cells as the released guide's own fill.sh prints them over the translation b649f9a3c38ea6b8… (all of the seat's roots in one cut). By AI agents, Wed Nov 11 2026. No macro, syntax, notation, axiom, sorry.
-/
import Derived.Test.YtajajkganamfiaaChecked
import GoSem.Claim
import GoSem.ClaimJoined
import GoSem.ClaimMapViews
import Derived.JoinedTies
import Derived.KernelRfl
namespace Go.Proofs.Ytajajkganamfiaa
/- THE CELL 'sum', in the pinned program and in every row, IS THE sha256 OF THE DUMP (.gsa) THAT YtajajkganamfiaaProg.lean LOADS. Nothing in Lean hashes anything: it is a label: what it is worth is what the hold of that sum in a sandbox is worth. -/
noncomputable def Try.pinned : Pinned := { name := "ytajajkganamfiaa", sum := "b649f9a3c38ea6b8e135641da2604299a9b887c58dfd018479a5c11e97f01775", checked := Try.checked }
namespace Rows
def none {H : Type} : Left H := { results := [], args := [] }

/-- 'evergreenlaw29.MachineShortest': WHATEVER THE INPUT: true; the input reads as it did. -/
def machineShortestSpec : ChangeSpec := { name := "machineShortest", fn := fun _ => fun
  | [d] => { results := [.lit (.bool true)], args := [d] }
  | _ => none }
def machineShortestRow : OpenClaim := { program := "ytajajkganamfiaa", sum := "b649f9a3c38ea6b8e135641da2604299a9b887c58dfd018479a5c11e97f01775", func := "evergreen/evergreenlaw29.MachineShortest", spec := "machineShortest", plainKeys := false, apart := false }
def MachineShortestSaid : Prop := machineShortestRow.holds Try.pinned (OpenSpec.ofChange machineShortestSpec)

/-- ITS FALSE NEIGHBOUR: 'it returns false'. Refute it at one input. -/
def machineShortestWrong : ChangeSpec := { name := "machineShortest", fn := fun _ => fun
  | [d] => { results := [.lit (.bool false)], args := [d] }
  | _ => none }
def MachineShortestWrongFalsely : Prop := machineShortestRow.holds Try.pinned (OpenSpec.ofChange machineShortestWrong)

/-- 'evergreenlaw29.MachineRuns': WHATEVER THE INPUT: true; the input reads as it did. -/
def machineRunsSpec : ChangeSpec := { name := "machineRuns", fn := fun _ => fun
  | [d1, d2, d3] => { results := [.lit (.bool true)], args := [d1, d2, d3] }
  | _ => none }
def machineRunsRow : OpenClaim := { program := "ytajajkganamfiaa", sum := "b649f9a3c38ea6b8e135641da2604299a9b887c58dfd018479a5c11e97f01775", func := "evergreen/evergreenlaw29.MachineRuns", spec := "machineRuns", plainKeys := false, apart := false }
def MachineRunsSaid : Prop := machineRunsRow.holds Try.pinned (OpenSpec.ofChange machineRunsSpec)

/-- ITS FALSE NEIGHBOUR: 'it returns false'. Refute it at one input. -/
def machineRunsWrong : ChangeSpec := { name := "machineRuns", fn := fun _ => fun
  | [d1, d2, d3] => { results := [.lit (.bool false)], args := [d1, d2, d3] }
  | _ => none }
def MachineRunsWrongFalsely : Prop := machineRunsRow.holds Try.pinned (OpenSpec.ofChange machineRunsWrong)

/-- 'evergreenlaw29.MachineChecks': WHATEVER THE INPUT: true; the input reads as it did. -/
def machineChecksSpec : ChangeSpec := { name := "machineChecks", fn := fun _ => fun
  | [d] => { results := [.lit (.bool true)], args := [d] }
  | _ => none }
def machineChecksRow : OpenClaim := { program := "ytajajkganamfiaa", sum := "b649f9a3c38ea6b8e135641da2604299a9b887c58dfd018479a5c11e97f01775", func := "evergreen/evergreenlaw29.MachineChecks", spec := "machineChecks", plainKeys := false, apart := false }
def MachineChecksSaid : Prop := machineChecksRow.holds Try.pinned (OpenSpec.ofChange machineChecksSpec)

/-- ITS FALSE NEIGHBOUR: 'it returns false'. Refute it at one input. -/
def machineChecksWrong : ChangeSpec := { name := "machineChecks", fn := fun _ => fun
  | [d] => { results := [.lit (.bool false)], args := [d] }
  | _ => none }
def MachineChecksWrongFalsely : Prop := machineChecksRow.holds Try.pinned (OpenSpec.ofChange machineChecksWrong)

/-- 'evergreenlaw29.MachineWords': WHATEVER THE INPUT: true; the input reads as it did. -/
def machineWordsSpec : ChangeSpec := { name := "machineWords", fn := fun _ => fun
  | [d1, d2] => { results := [.lit (.bool true)], args := [d1, d2] }
  | _ => none }
def machineWordsRow : OpenClaim := { program := "ytajajkganamfiaa", sum := "b649f9a3c38ea6b8e135641da2604299a9b887c58dfd018479a5c11e97f01775", func := "evergreen/evergreenlaw29.MachineWords", spec := "machineWords", plainKeys := false, apart := false }
def MachineWordsSaid : Prop := machineWordsRow.holds Try.pinned (OpenSpec.ofChange machineWordsSpec)

/-- ITS FALSE NEIGHBOUR: 'it returns false'. Refute it at one input. -/
def machineWordsWrong : ChangeSpec := { name := "machineWords", fn := fun _ => fun
  | [d1, d2] => { results := [.lit (.bool false)], args := [d1, d2] }
  | _ => none }
def MachineWordsWrongFalsely : Prop := machineWordsRow.holds Try.pinned (OpenSpec.ofChange machineWordsWrong)

/-- 'evergreenlaw29.MachineLarge': WHATEVER THE INPUT: true; the input reads as it did. -/
def machineLargeSpec : ChangeSpec := { name := "machineLarge", fn := fun _ => fun
  | [d1, d2] => { results := [.lit (.bool true)], args := [d1, d2] }
  | _ => none }
def machineLargeRow : OpenClaim := { program := "ytajajkganamfiaa", sum := "b649f9a3c38ea6b8e135641da2604299a9b887c58dfd018479a5c11e97f01775", func := "evergreen/evergreenlaw29.MachineLarge", spec := "machineLarge", unfollowed := true, recurses := true, plainKeys := false, apart := false }
def MachineLargeSaid : Prop := machineLargeRow.holds Try.pinned (OpenSpec.ofChange machineLargeSpec)

/-- ITS FALSE NEIGHBOUR: 'it returns false'. Refute it at one input. -/
def machineLargeWrong : ChangeSpec := { name := "machineLarge", fn := fun _ => fun
  | [d1, d2] => { results := [.lit (.bool false)], args := [d1, d2] }
  | _ => none }
def MachineLargeWrongFalsely : Prop := machineLargeRow.holds Try.pinned (OpenSpec.ofChange machineLargeWrong)

/-- 'evergreenlaw29.MachineCounts': WHATEVER THE INPUT: true; the input reads as it did. -/
def machineCountsSpec : ChangeSpec := { name := "machineCounts", fn := fun _ => fun
  | [d1, d2] => { results := [.lit (.bool true)], args := [d1, d2] }
  | _ => none }
def machineCountsRow : OpenClaim := { program := "ytajajkganamfiaa", sum := "b649f9a3c38ea6b8e135641da2604299a9b887c58dfd018479a5c11e97f01775", func := "evergreen/evergreenlaw29.MachineCounts", spec := "machineCounts", plainKeys := false, apart := false }
def MachineCountsSaid : Prop := machineCountsRow.holds Try.pinned (OpenSpec.ofChange machineCountsSpec)

/-- ITS FALSE NEIGHBOUR: 'it returns false'. Refute it at one input. -/
def machineCountsWrong : ChangeSpec := { name := "machineCounts", fn := fun _ => fun
  | [d1, d2] => { results := [.lit (.bool false)], args := [d1, d2] }
  | _ => none }
def MachineCountsWrongFalsely : Prop := machineCountsRow.holds Try.pinned (OpenSpec.ofChange machineCountsWrong)

/- THE SECOND FORM. 'bulk': how many values and letters a reading holds, each counted each time it is reached (what is shared counts as often as it is met; a slice's spare places count too). A statement '..UptoSaid' is the law's where the arguments, and the package variables that the reading takes, are together of bulk at most 1048576: NARROWER than '..Said'. Prove '..Said' where nothing that the law and all that it calls make is longer than what came in: it says more and counts as full. Else prove '..UptoSaid'. A law counts once. -/
mutual
def uptoBulk {H : Type} : DataW H → Nat
  | .lit (.string bytes) => bytes.length + 1
  | .lit _ => 1
  | .nil => 1
  | .ptr d => uptoBulk d + 1
  | .slice elems spare => uptoBulkAll elems + uptoBulkAll spare + 1
  | .agg parts => uptoBulkAll parts + 1
  | .iface _ d => uptoBulk d + 1
  | .map entries => uptoBulkEntries entries + 1
  | .held _ => 1
def uptoBulkAll {H : Type} : List (DataW H) → Nat
  | [] => 0
  | d :: r => uptoBulk d + uptoBulkAll r
def uptoBulkEntries {H : Type} : List (Lit × DataW H) → Nat
  | [] => 0
  | x :: r => uptoBulkEntry x + uptoBulkEntries r
def uptoBulkEntry {H : Type} : Lit × DataW H → Nat
  | (.string bytes, d) => bytes.length + uptoBulk d + 1
  | (_, d) => uptoBulk d + 1
 end
def uptoSmall : (H : Type) → List (DataW H) → Bool := fun _ ds => decide (uptoBulkAll ds ≤ 1048576)
def OpenSpec.upto (s : _root_.Go.ChangeSpec) : _root_.Go.OpenSpec := { _root_.Go.OpenSpec.ofChange s with cond := some uptoSmall }

/-- 'evergreenlaw29.MachineShortest', WHERE WHAT IT READS IS OF BULK AT MOST 1048576: true; the input reads as it did. -/
def machineShortestUptoRow : OpenClaim := { program := "ytajajkganamfiaa", sum := "b649f9a3c38ea6b8e135641da2604299a9b887c58dfd018479a5c11e97f01775", func := "evergreen/evergreenlaw29.MachineShortest", spec := "machineShortest", plainKeys := false, apart := false, narrowed := true }
def MachineShortestUptoSaid : Prop := machineShortestUptoRow.holds Try.pinned (OpenSpec.upto machineShortestSpec)

/-- 'evergreenlaw29.MachineRuns', WHERE WHAT IT READS IS OF BULK AT MOST 1048576: true; the input reads as it did. -/
def machineRunsUptoRow : OpenClaim := { program := "ytajajkganamfiaa", sum := "b649f9a3c38ea6b8e135641da2604299a9b887c58dfd018479a5c11e97f01775", func := "evergreen/evergreenlaw29.MachineRuns", spec := "machineRuns", plainKeys := false, apart := false, narrowed := true }
def MachineRunsUptoSaid : Prop := machineRunsUptoRow.holds Try.pinned (OpenSpec.upto machineRunsSpec)

/-- 'evergreenlaw29.MachineChecks', WHERE WHAT IT READS IS OF BULK AT MOST 1048576: true; the input reads as it did. -/
def machineChecksUptoRow : OpenClaim := { program := "ytajajkganamfiaa", sum := "b649f9a3c38ea6b8e135641da2604299a9b887c58dfd018479a5c11e97f01775", func := "evergreen/evergreenlaw29.MachineChecks", spec := "machineChecks", plainKeys := false, apart := false, narrowed := true }
def MachineChecksUptoSaid : Prop := machineChecksUptoRow.holds Try.pinned (OpenSpec.upto machineChecksSpec)

/-- 'evergreenlaw29.MachineWords', WHERE WHAT IT READS IS OF BULK AT MOST 1048576: true; the input reads as it did. -/
def machineWordsUptoRow : OpenClaim := { program := "ytajajkganamfiaa", sum := "b649f9a3c38ea6b8e135641da2604299a9b887c58dfd018479a5c11e97f01775", func := "evergreen/evergreenlaw29.MachineWords", spec := "machineWords", plainKeys := false, apart := false, narrowed := true }
def MachineWordsUptoSaid : Prop := machineWordsUptoRow.holds Try.pinned (OpenSpec.upto machineWordsSpec)

/-- 'evergreenlaw29.MachineLarge', WHERE WHAT IT READS IS OF BULK AT MOST 1048576: true; the input reads as it did. -/
def machineLargeUptoRow : OpenClaim := { program := "ytajajkganamfiaa", sum := "b649f9a3c38ea6b8e135641da2604299a9b887c58dfd018479a5c11e97f01775", func := "evergreen/evergreenlaw29.MachineLarge", spec := "machineLarge", unfollowed := true, recurses := true, plainKeys := false, apart := false, narrowed := true }
def MachineLargeUptoSaid : Prop := machineLargeUptoRow.holds Try.pinned (OpenSpec.upto machineLargeSpec)

/-- 'evergreenlaw29.MachineCounts', WHERE WHAT IT READS IS OF BULK AT MOST 1048576: true; the input reads as it did. -/
def machineCountsUptoRow : OpenClaim := { program := "ytajajkganamfiaa", sum := "b649f9a3c38ea6b8e135641da2604299a9b887c58dfd018479a5c11e97f01775", func := "evergreen/evergreenlaw29.MachineCounts", spec := "machineCounts", plainKeys := false, apart := false, narrowed := true }
def MachineCountsUptoSaid : Prop := machineCountsUptoRow.holds Try.pinned (OpenSpec.upto machineCountsSpec)

end Rows
end Go.Proofs.Ytajajkganamfiaa
