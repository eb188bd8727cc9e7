/-
  No cell of these rows narrows 'for every input' (looked for: loops, veiled, ifaces, maps, wideKeys, modest, calm, conditions, laid).
  DERIVED. THE GIVEN ROWS OF THIS SEAT. 8 by the template 'for every input the law returns true; each argument reads behind the call as it read before'; 0 by the template 'total and deterministic' (their statements: YtfhoaehoccfadaaTotals.lean).
  GIVEN WITH THE SEED: the statements are not yours to turn. If you find one false, say at which input.
  Laid BY PROGRAM, IN A SANDBOX (cutbox-rows.mjs): the forced cells as the released guide's own fill.sh prints them over the translation eb502d4dcbaae5a9… (all of the seat's roots in one cut). By AI agents, Wed Nov 11 2026. No macro, syntax, notation, axiom, sorry.
-/
import Derived.Test.YtfhoaehoccfadaaChecked
import GoSem.Claim
import GoSem.ClaimJoined
import GoSem.ClaimMapViews
import Derived.JoinedTies
import Derived.KernelRfl
namespace Go.Proofs.Ytfhoaehoccfadaa
/- THE CELL 'sum', in the pinned program and in every row, IS THE sha256 OF THE DUMP (.gsa) THAT YtfhoaehoccfadaaProg.lean LOADS. Nothing in Lean hashes anything: it is a label: what it is worth is what the hold of that sum in a sandbox is worth. -/
noncomputable def Try.pinned : Pinned := { name := "ytfhoaehoccfadaa", sum := "eb502d4dcbaae5a99d102bbe26a0cbd9fd0533c59f3f7aa4e01922ba32a1fbf4", checked := Try.checked }
namespace Rows
def none {H : Type} : Left H := { results := [], args := [] }

/-- 'evergreenlaw32.LiteralBuilds': WHATEVER THE INPUT: true; the input reads as it did. -/
def literalBuildsSpec : ChangeSpec := { name := "literalBuilds", fn := fun _ => fun
  | [d] => { results := [.lit (.bool true)], args := [d] }
  | _ => none }
def literalBuildsRow : OpenClaim := { program := "ytfhoaehoccfadaa", sum := "eb502d4dcbaae5a99d102bbe26a0cbd9fd0533c59f3f7aa4e01922ba32a1fbf4", func := "evergreen/evergreenlaw32.LiteralBuilds", spec := "literalBuilds", plainKeys := false, apart := false }
def LiteralBuildsSaid : Prop := literalBuildsRow.holds Try.pinned (OpenSpec.ofChange literalBuildsSpec)

/-- ITS FALSE NEIGHBOUR: 'it returns false'. Refute it at one input. -/
def literalBuildsWrong : ChangeSpec := { name := "literalBuilds", fn := fun _ => fun
  | [d] => { results := [.lit (.bool false)], args := [d] }
  | _ => none }
def LiteralBuildsWrongFalsely : Prop := literalBuildsRow.holds Try.pinned (OpenSpec.ofChange literalBuildsWrong)

/-- 'evergreenlaw32.LiteralEnds': WHATEVER THE INPUT: true; the input reads as it did. -/
def literalEndsSpec : ChangeSpec := { name := "literalEnds", fn := fun _ => fun
  | [d1, d2] => { results := [.lit (.bool true)], args := [d1, d2] }
  | _ => none }
def literalEndsRow : OpenClaim := { program := "ytfhoaehoccfadaa", sum := "eb502d4dcbaae5a99d102bbe26a0cbd9fd0533c59f3f7aa4e01922ba32a1fbf4", func := "evergreen/evergreenlaw32.LiteralEnds", spec := "literalEnds", plainKeys := false, apart := false }
def LiteralEndsSaid : Prop := literalEndsRow.holds Try.pinned (OpenSpec.ofChange literalEndsSpec)

/-- ITS FALSE NEIGHBOUR: 'it returns false'. Refute it at one input. -/
def literalEndsWrong : ChangeSpec := { name := "literalEnds", fn := fun _ => fun
  | [d1, d2] => { results := [.lit (.bool false)], args := [d1, d2] }
  | _ => none }
def LiteralEndsWrongFalsely : Prop := literalEndsRow.holds Try.pinned (OpenSpec.ofChange literalEndsWrong)

/-- 'evergreenlaw32.LiteralOrder': WHATEVER THE INPUT: true; the input reads as it did. -/
def literalOrderSpec : ChangeSpec := { name := "literalOrder", fn := fun _ => fun
  | [d1, d2] => { results := [.lit (.bool true)], args := [d1, d2] }
  | _ => none }
def literalOrderRow : OpenClaim := { program := "ytfhoaehoccfadaa", sum := "eb502d4dcbaae5a99d102bbe26a0cbd9fd0533c59f3f7aa4e01922ba32a1fbf4", func := "evergreen/evergreenlaw32.LiteralOrder", spec := "literalOrder", plainKeys := false, apart := false }
def LiteralOrderSaid : Prop := literalOrderRow.holds Try.pinned (OpenSpec.ofChange literalOrderSpec)

/-- ITS FALSE NEIGHBOUR: 'it returns false'. Refute it at one input. -/
def literalOrderWrong : ChangeSpec := { name := "literalOrder", fn := fun _ => fun
  | [d1, d2] => { results := [.lit (.bool false)], args := [d1, d2] }
  | _ => none }
def LiteralOrderWrongFalsely : Prop := literalOrderRow.holds Try.pinned (OpenSpec.ofChange literalOrderWrong)

/-- 'evergreenlaw32.LiteralRepeats': WHATEVER THE INPUT: true; the input reads as it did. -/
def literalRepeatsSpec : ChangeSpec := { name := "literalRepeats", fn := fun _ => fun
  | [d1, d2] => { results := [.lit (.bool true)], args := [d1, d2] }
  | _ => none }
def literalRepeatsRow : OpenClaim := { program := "ytfhoaehoccfadaa", sum := "eb502d4dcbaae5a99d102bbe26a0cbd9fd0533c59f3f7aa4e01922ba32a1fbf4", func := "evergreen/evergreenlaw32.LiteralRepeats", spec := "literalRepeats", plainKeys := false, apart := false }
def LiteralRepeatsSaid : Prop := literalRepeatsRow.holds Try.pinned (OpenSpec.ofChange literalRepeatsSpec)

/-- ITS FALSE NEIGHBOUR: 'it returns false'. Refute it at one input. -/
def literalRepeatsWrong : ChangeSpec := { name := "literalRepeats", fn := fun _ => fun
  | [d1, d2] => { results := [.lit (.bool false)], args := [d1, d2] }
  | _ => none }
def LiteralRepeatsWrongFalsely : Prop := literalRepeatsRow.holds Try.pinned (OpenSpec.ofChange literalRepeatsWrong)

/-- 'evergreenlaw32.LiteralConcatenates': WHATEVER THE INPUT: true; the input reads as it did. -/
def literalConcatenatesSpec : ChangeSpec := { name := "literalConcatenates", fn := fun _ => fun
  | [d1, d2, d3] => { results := [.lit (.bool true)], args := [d1, d2, d3] }
  | _ => none }
def literalConcatenatesRow : OpenClaim := { program := "ytfhoaehoccfadaa", sum := "eb502d4dcbaae5a99d102bbe26a0cbd9fd0533c59f3f7aa4e01922ba32a1fbf4", func := "evergreen/evergreenlaw32.LiteralConcatenates", spec := "literalConcatenates", plainKeys := false, apart := false }
def LiteralConcatenatesSaid : Prop := literalConcatenatesRow.holds Try.pinned (OpenSpec.ofChange literalConcatenatesSpec)

/-- ITS FALSE NEIGHBOUR: 'it returns false'. Refute it at one input. -/
def literalConcatenatesWrong : ChangeSpec := { name := "literalConcatenates", fn := fun _ => fun
  | [d1, d2, d3] => { results := [.lit (.bool false)], args := [d1, d2, d3] }
  | _ => none }
def LiteralConcatenatesWrongFalsely : Prop := literalConcatenatesRow.holds Try.pinned (OpenSpec.ofChange literalConcatenatesWrong)

/-- 'evergreenlaw32.LiteralLimits': WHATEVER THE INPUT: true; the input reads as it did. -/
def literalLimitsSpec : ChangeSpec := { name := "literalLimits", fn := fun _ => fun
  | [d1, d2, d3] => { results := [.lit (.bool true)], args := [d1, d2, d3] }
  | _ => none }
def literalLimitsRow : OpenClaim := { program := "ytfhoaehoccfadaa", sum := "eb502d4dcbaae5a99d102bbe26a0cbd9fd0533c59f3f7aa4e01922ba32a1fbf4", func := "evergreen/evergreenlaw32.LiteralLimits", spec := "literalLimits", plainKeys := false, apart := false }
def LiteralLimitsSaid : Prop := literalLimitsRow.holds Try.pinned (OpenSpec.ofChange literalLimitsSpec)

/-- ITS FALSE NEIGHBOUR: 'it returns false'. Refute it at one input. -/
def literalLimitsWrong : ChangeSpec := { name := "literalLimits", fn := fun _ => fun
  | [d1, d2, d3] => { results := [.lit (.bool false)], args := [d1, d2, d3] }
  | _ => none }
def LiteralLimitsWrongFalsely : Prop := literalLimitsRow.holds Try.pinned (OpenSpec.ofChange literalLimitsWrong)

/-- 'evergreenlaw32.LiteralRuns': WHATEVER THE INPUT: true; the input reads as it did. -/
def literalRunsSpec : ChangeSpec := { name := "literalRuns", fn := fun _ => fun
  | [d1, d2] => { results := [.lit (.bool true)], args := [d1, d2] }
  | _ => none }
def literalRunsRow : OpenClaim := { program := "ytfhoaehoccfadaa", sum := "eb502d4dcbaae5a99d102bbe26a0cbd9fd0533c59f3f7aa4e01922ba32a1fbf4", func := "evergreen/evergreenlaw32.LiteralRuns", spec := "literalRuns", plainKeys := false, apart := false }
def LiteralRunsSaid : Prop := literalRunsRow.holds Try.pinned (OpenSpec.ofChange literalRunsSpec)

/-- ITS FALSE NEIGHBOUR: 'it returns false'. Refute it at one input. -/
def literalRunsWrong : ChangeSpec := { name := "literalRuns", fn := fun _ => fun
  | [d1, d2] => { results := [.lit (.bool false)], args := [d1, d2] }
  | _ => none }
def LiteralRunsWrongFalsely : Prop := literalRunsRow.holds Try.pinned (OpenSpec.ofChange literalRunsWrong)

/-- 'evergreenlaw32.LiteralFinds': WHATEVER THE INPUT: true; the input reads as it did. -/
def literalFindsSpec : ChangeSpec := { name := "literalFinds", fn := fun _ => fun
  | [d1, d2] => { results := [.lit (.bool true)], args := [d1, d2] }
  | _ => none }
def literalFindsRow : OpenClaim := { program := "ytfhoaehoccfadaa", sum := "eb502d4dcbaae5a99d102bbe26a0cbd9fd0533c59f3f7aa4e01922ba32a1fbf4", func := "evergreen/evergreenlaw32.LiteralFinds", spec := "literalFinds", plainKeys := false, apart := false }
def LiteralFindsSaid : Prop := literalFindsRow.holds Try.pinned (OpenSpec.ofChange literalFindsSpec)

/-- ITS FALSE NEIGHBOUR: 'it returns false'. Refute it at one input. -/
def literalFindsWrong : ChangeSpec := { name := "literalFinds", fn := fun _ => fun
  | [d1, d2] => { results := [.lit (.bool false)], args := [d1, d2] }
  | _ => none }
def LiteralFindsWrongFalsely : Prop := literalFindsRow.holds Try.pinned (OpenSpec.ofChange literalFindsWrong)

/- THE SECOND FORM. 'bulk': how many values and letters a reading holds, each counted each time it is reached (what is shared counts as often as it is met; a slice's spare places count too). A statement '..UptoSaid' is the law's where the arguments, and the package variables that the reading takes, are together of bulk at most 1048576: NARROWER than '..Said'. Prove '..Said' where nothing that the law and all that it calls make is longer than what came in: it says more and counts as full. Else prove '..UptoSaid'. A law counts once. -/
mutual
def uptoBulk {H : Type} : DataW H → Nat
  | .lit (.string bytes) => bytes.length + 1
  | .lit _ => 1
  | .nil => 1
  | .ptr d => uptoBulk d + 1
  | .slice elems spare => uptoBulkAll elems + uptoBulkAll spare + 1
  | .agg parts => uptoBulkAll parts + 1
  | .iface _ d => uptoBulk d + 1
  | .map entries => uptoBulkEntries entries + 1
  | .held _ => 1
def uptoBulkAll {H : Type} : List (DataW H) → Nat
  | [] => 0
  | d :: r => uptoBulk d + uptoBulkAll r
def uptoBulkEntries {H : Type} : List (Lit × DataW H) → Nat
  | [] => 0
  | x :: r => uptoBulkEntry x + uptoBulkEntries r
def uptoBulkEntry {H : Type} : Lit × DataW H → Nat
  | (.string bytes, d) => bytes.length + uptoBulk d + 1
  | (_, d) => uptoBulk d + 1
 end
def uptoSmall : (H : Type) → List (DataW H) → Bool := fun _ ds => decide (uptoBulkAll ds ≤ 1048576)
def OpenSpec.upto (s : _root_.Go.ChangeSpec) : _root_.Go.OpenSpec := { _root_.Go.OpenSpec.ofChange s with cond := some uptoSmall }

/-- 'evergreenlaw32.LiteralBuilds', WHERE WHAT IT READS IS OF BULK AT MOST 1048576: true; the input reads as it did. -/
def literalBuildsUptoRow : OpenClaim := { program := "ytfhoaehoccfadaa", sum := "eb502d4dcbaae5a99d102bbe26a0cbd9fd0533c59f3f7aa4e01922ba32a1fbf4", func := "evergreen/evergreenlaw32.LiteralBuilds", spec := "literalBuilds", plainKeys := false, apart := false, narrowed := true }
def LiteralBuildsUptoSaid : Prop := literalBuildsUptoRow.holds Try.pinned (OpenSpec.upto literalBuildsSpec)

/-- 'evergreenlaw32.LiteralEnds', WHERE WHAT IT READS IS OF BULK AT MOST 1048576: true; the input reads as it did. -/
def literalEndsUptoRow : OpenClaim := { program := "ytfhoaehoccfadaa", sum := "eb502d4dcbaae5a99d102bbe26a0cbd9fd0533c59f3f7aa4e01922ba32a1fbf4", func := "evergreen/evergreenlaw32.LiteralEnds", spec := "literalEnds", plainKeys := false, apart := false, narrowed := true }
def LiteralEndsUptoSaid : Prop := literalEndsUptoRow.holds Try.pinned (OpenSpec.upto literalEndsSpec)

/-- 'evergreenlaw32.LiteralOrder', WHERE WHAT IT READS IS OF BULK AT MOST 1048576: true; the input reads as it did. -/
def literalOrderUptoRow : OpenClaim := { program := "ytfhoaehoccfadaa", sum := "eb502d4dcbaae5a99d102bbe26a0cbd9fd0533c59f3f7aa4e01922ba32a1fbf4", func := "evergreen/evergreenlaw32.LiteralOrder", spec := "literalOrder", plainKeys := false, apart := false, narrowed := true }
def LiteralOrderUptoSaid : Prop := literalOrderUptoRow.holds Try.pinned (OpenSpec.upto literalOrderSpec)

/-- 'evergreenlaw32.LiteralRepeats', WHERE WHAT IT READS IS OF BULK AT MOST 1048576: true; the input reads as it did. -/
def literalRepeatsUptoRow : OpenClaim := { program := "ytfhoaehoccfadaa", sum := "eb502d4dcbaae5a99d102bbe26a0cbd9fd0533c59f3f7aa4e01922ba32a1fbf4", func := "evergreen/evergreenlaw32.LiteralRepeats", spec := "literalRepeats", plainKeys := false, apart := false, narrowed := true }
def LiteralRepeatsUptoSaid : Prop := literalRepeatsUptoRow.holds Try.pinned (OpenSpec.upto literalRepeatsSpec)

/-- 'evergreenlaw32.LiteralConcatenates', WHERE WHAT IT READS IS OF BULK AT MOST 1048576: true; the input reads as it did. -/
def literalConcatenatesUptoRow : OpenClaim := { program := "ytfhoaehoccfadaa", sum := "eb502d4dcbaae5a99d102bbe26a0cbd9fd0533c59f3f7aa4e01922ba32a1fbf4", func := "evergreen/evergreenlaw32.LiteralConcatenates", spec := "literalConcatenates", plainKeys := false, apart := false, narrowed := true }
def LiteralConcatenatesUptoSaid : Prop := literalConcatenatesUptoRow.holds Try.pinned (OpenSpec.upto literalConcatenatesSpec)

/-- 'evergreenlaw32.LiteralLimits', WHERE WHAT IT READS IS OF BULK AT MOST 1048576: true; the input reads as it did. -/
def literalLimitsUptoRow : OpenClaim := { program := "ytfhoaehoccfadaa", sum := "eb502d4dcbaae5a99d102bbe26a0cbd9fd0533c59f3f7aa4e01922ba32a1fbf4", func := "evergreen/evergreenlaw32.LiteralLimits", spec := "literalLimits", plainKeys := false, apart := false, narrowed := true }
def LiteralLimitsUptoSaid : Prop := literalLimitsUptoRow.holds Try.pinned (OpenSpec.upto literalLimitsSpec)

/-- 'evergreenlaw32.LiteralRuns', WHERE WHAT IT READS IS OF BULK AT MOST 1048576: true; the input reads as it did. -/
def literalRunsUptoRow : OpenClaim := { program := "ytfhoaehoccfadaa", sum := "eb502d4dcbaae5a99d102bbe26a0cbd9fd0533c59f3f7aa4e01922ba32a1fbf4", func := "evergreen/evergreenlaw32.LiteralRuns", spec := "literalRuns", plainKeys := false, apart := false, narrowed := true }
def LiteralRunsUptoSaid : Prop := literalRunsUptoRow.holds Try.pinned (OpenSpec.upto literalRunsSpec)

/-- 'evergreenlaw32.LiteralFinds', WHERE WHAT IT READS IS OF BULK AT MOST 1048576: true; the input reads as it did. -/
def literalFindsUptoRow : OpenClaim := { program := "ytfhoaehoccfadaa", sum := "eb502d4dcbaae5a99d102bbe26a0cbd9fd0533c59f3f7aa4e01922ba32a1fbf4", func := "evergreen/evergreenlaw32.LiteralFinds", spec := "literalFinds", plainKeys := false, apart := false, narrowed := true }
def LiteralFindsUptoSaid : Prop := literalFindsUptoRow.holds Try.pinned (OpenSpec.upto literalFindsSpec)

end Rows
end Go.Proofs.Ytfhoaehoccfadaa
