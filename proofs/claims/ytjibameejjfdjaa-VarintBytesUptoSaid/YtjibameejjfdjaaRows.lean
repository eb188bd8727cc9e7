/-
  No cell of these rows narrows 'for every input' (looked for: loops, veiled, ifaces, maps, wideKeys, modest, calm, conditions, laid).
  DERIVED. THE GIVEN ROWS OF THIS SEAT. 9 by the template 'for every input the law returns true; each argument reads behind the call as it read before'; 0 by the template 'total and deterministic' (their statements: YtjibameejjfdjaaTotals.lean).
  GIVEN WITH THE SEED: the statements are not yours to turn. If you find one false, say at which input.
  Laid BY PROGRAM, IN A SANDBOX (cutbox-rows.mjs): the forced cells as the released guide's own fill.sh prints them over the translation aa1c7b78cb83069c… (all of the seat's roots in one cut). By AI agents, Wed Nov 11 2026. No macro, syntax, notation, axiom, sorry.
-/
import Derived.Test.YtjibameejjfdjaaChecked
import GoSem.Claim
import GoSem.ClaimJoined
import GoSem.ClaimMapViews
import Derived.JoinedTies
import Derived.KernelRfl
namespace Go.Proofs.Ytjibameejjfdjaa
/- THE CELL 'sum', in the pinned program and in every row, IS THE sha256 OF THE DUMP (.gsa) THAT YtjibameejjfdjaaProg.lean LOADS. Nothing in Lean hashes anything: it is a label: what it is worth is what the hold of that sum in a sandbox is worth. -/
noncomputable def Try.pinned : Pinned := { name := "ytjibameejjfdjaa", sum := "aa1c7b78cb83069cbd1ce40138236d43ebf3e09cdac9e37d9a6e690ae3b57b0e", checked := Try.checked }
namespace Rows
def none {H : Type} : Left H := { results := [], args := [] }

/-- 'evergreenlaw07.VarintTakes': WHATEVER THE INPUT: true; the input reads as it did. -/
def varintTakesSpec : ChangeSpec := { name := "varintTakes", fn := fun _ => fun
  | [d] => { results := [.lit (.bool true)], args := [d] }
  | _ => none }
def varintTakesRow : OpenClaim := { program := "ytjibameejjfdjaa", sum := "aa1c7b78cb83069cbd1ce40138236d43ebf3e09cdac9e37d9a6e690ae3b57b0e", func := "evergreen/evergreenlaw07.VarintTakes", spec := "varintTakes", apart := false }
def VarintTakesSaid : Prop := varintTakesRow.holds Try.pinned (OpenSpec.ofChange varintTakesSpec)

/-- ITS FALSE NEIGHBOUR: 'it returns false'. Refute it at one input. -/
def varintTakesWrong : ChangeSpec := { name := "varintTakes", fn := fun _ => fun
  | [d] => { results := [.lit (.bool false)], args := [d] }
  | _ => none }
def VarintTakesWrongFalsely : Prop := varintTakesRow.holds Try.pinned (OpenSpec.ofChange varintTakesWrong)

/-- 'evergreenlaw07.VarintSequence': WHATEVER THE INPUT: true; the input reads as it did. -/
def varintSequenceSpec : ChangeSpec := { name := "varintSequence", fn := fun _ => fun
  | [d] => { results := [.lit (.bool true)], args := [d] }
  | _ => none }
def varintSequenceRow : OpenClaim := { program := "ytjibameejjfdjaa", sum := "aa1c7b78cb83069cbd1ce40138236d43ebf3e09cdac9e37d9a6e690ae3b57b0e", func := "evergreen/evergreenlaw07.VarintSequence", spec := "varintSequence", apart := false }
def VarintSequenceSaid : Prop := varintSequenceRow.holds Try.pinned (OpenSpec.ofChange varintSequenceSpec)

/-- ITS FALSE NEIGHBOUR: 'it returns false'. Refute it at one input. -/
def varintSequenceWrong : ChangeSpec := { name := "varintSequence", fn := fun _ => fun
  | [d] => { results := [.lit (.bool false)], args := [d] }
  | _ => none }
def VarintSequenceWrongFalsely : Prop := varintSequenceRow.holds Try.pinned (OpenSpec.ofChange varintSequenceWrong)

/-- 'evergreenlaw07.VarintTakesInts': WHATEVER THE INPUT: true; the input reads as it did. -/
def varintTakesIntsSpec : ChangeSpec := { name := "varintTakesInts", fn := fun _ => fun
  | [d] => { results := [.lit (.bool true)], args := [d] }
  | _ => none }
def varintTakesIntsRow : OpenClaim := { program := "ytjibameejjfdjaa", sum := "aa1c7b78cb83069cbd1ce40138236d43ebf3e09cdac9e37d9a6e690ae3b57b0e", func := "evergreen/evergreenlaw07.VarintTakesInts", spec := "varintTakesInts", apart := false }
def VarintTakesIntsSaid : Prop := varintTakesIntsRow.holds Try.pinned (OpenSpec.ofChange varintTakesIntsSpec)

/-- ITS FALSE NEIGHBOUR: 'it returns false'. Refute it at one input. -/
def varintTakesIntsWrong : ChangeSpec := { name := "varintTakesInts", fn := fun _ => fun
  | [d] => { results := [.lit (.bool false)], args := [d] }
  | _ => none }
def VarintTakesIntsWrongFalsely : Prop := varintTakesIntsRow.holds Try.pinned (OpenSpec.ofChange varintTakesIntsWrong)

/-- 'evergreenlaw07.VarintTakesBytes': WHATEVER THE INPUT: true; the input reads as it did. -/
def varintTakesBytesSpec : ChangeSpec := { name := "varintTakesBytes", fn := fun _ => fun
  | [d1, d2] => { results := [.lit (.bool true)], args := [d1, d2] }
  | _ => none }
def varintTakesBytesRow : OpenClaim := { program := "ytjibameejjfdjaa", sum := "aa1c7b78cb83069cbd1ce40138236d43ebf3e09cdac9e37d9a6e690ae3b57b0e", func := "evergreen/evergreenlaw07.VarintTakesBytes", spec := "varintTakesBytes", apart := false }
def VarintTakesBytesSaid : Prop := varintTakesBytesRow.holds Try.pinned (OpenSpec.ofChange varintTakesBytesSpec)

/-- ITS FALSE NEIGHBOUR: 'it returns false'. Refute it at one input. -/
def varintTakesBytesWrong : ChangeSpec := { name := "varintTakesBytes", fn := fun _ => fun
  | [d1, d2] => { results := [.lit (.bool false)], args := [d1, d2] }
  | _ => none }
def VarintTakesBytesWrongFalsely : Prop := varintTakesBytesRow.holds Try.pinned (OpenSpec.ofChange varintTakesBytesWrong)

/-- 'evergreenlaw07.VarintGrows': WHATEVER THE INPUT: true; the input reads as it did. -/
def varintGrowsSpec : ChangeSpec := { name := "varintGrows", fn := fun _ => fun
  | [d1, d2] => { results := [.lit (.bool true)], args := [d1, d2] }
  | _ => none }
def varintGrowsRow : OpenClaim := { program := "ytjibameejjfdjaa", sum := "aa1c7b78cb83069cbd1ce40138236d43ebf3e09cdac9e37d9a6e690ae3b57b0e", func := "evergreen/evergreenlaw07.VarintGrows", spec := "varintGrows", apart := false }
def VarintGrowsSaid : Prop := varintGrowsRow.holds Try.pinned (OpenSpec.ofChange varintGrowsSpec)

/-- ITS FALSE NEIGHBOUR: 'it returns false'. Refute it at one input. -/
def varintGrowsWrong : ChangeSpec := { name := "varintGrows", fn := fun _ => fun
  | [d1, d2] => { results := [.lit (.bool false)], args := [d1, d2] }
  | _ => none }
def VarintGrowsWrongFalsely : Prop := varintGrowsRow.holds Try.pinned (OpenSpec.ofChange varintGrowsWrong)

/-- 'evergreenlaw07.VarintInts': WHATEVER THE INPUT: true; the input reads as it did. -/
def varintIntsSpec : ChangeSpec := { name := "varintInts", fn := fun _ => fun
  | [d1, d2] => { results := [.lit (.bool true)], args := [d1, d2] }
  | _ => none }
def varintIntsRow : OpenClaim := { program := "ytjibameejjfdjaa", sum := "aa1c7b78cb83069cbd1ce40138236d43ebf3e09cdac9e37d9a6e690ae3b57b0e", func := "evergreen/evergreenlaw07.VarintInts", spec := "varintInts", apart := false }
def VarintIntsSaid : Prop := varintIntsRow.holds Try.pinned (OpenSpec.ofChange varintIntsSpec)

/-- ITS FALSE NEIGHBOUR: 'it returns false'. Refute it at one input. -/
def varintIntsWrong : ChangeSpec := { name := "varintInts", fn := fun _ => fun
  | [d1, d2] => { results := [.lit (.bool false)], args := [d1, d2] }
  | _ => none }
def VarintIntsWrongFalsely : Prop := varintIntsRow.holds Try.pinned (OpenSpec.ofChange varintIntsWrong)

/-- 'evergreenlaw07.VarintPuts': WHATEVER THE INPUT: true; the input reads as it did. -/
def varintPutsSpec : ChangeSpec := { name := "varintPuts", fn := fun _ => fun
  | [d] => { results := [.lit (.bool true)], args := [d] }
  | _ => none }
def varintPutsRow : OpenClaim := { program := "ytjibameejjfdjaa", sum := "aa1c7b78cb83069cbd1ce40138236d43ebf3e09cdac9e37d9a6e690ae3b57b0e", func := "evergreen/evergreenlaw07.VarintPuts", spec := "varintPuts", apart := false }
def VarintPutsSaid : Prop := varintPutsRow.holds Try.pinned (OpenSpec.ofChange varintPutsSpec)

/-- ITS FALSE NEIGHBOUR: 'it returns false'. Refute it at one input. -/
def varintPutsWrong : ChangeSpec := { name := "varintPuts", fn := fun _ => fun
  | [d] => { results := [.lit (.bool false)], args := [d] }
  | _ => none }
def VarintPutsWrongFalsely : Prop := varintPutsRow.holds Try.pinned (OpenSpec.ofChange varintPutsWrong)

/-- 'evergreenlaw07.VarintBytes': WHATEVER THE INPUT: true; the input reads as it did. -/
def varintBytesSpec : ChangeSpec := { name := "varintBytes", fn := fun _ => fun
  | [d1, d2, d3] => { results := [.lit (.bool true)], args := [d1, d2, d3] }
  | _ => none }
def varintBytesRow : OpenClaim := { program := "ytjibameejjfdjaa", sum := "aa1c7b78cb83069cbd1ce40138236d43ebf3e09cdac9e37d9a6e690ae3b57b0e", func := "evergreen/evergreenlaw07.VarintBytes", spec := "varintBytes", apart := false }
def VarintBytesSaid : Prop := varintBytesRow.holds Try.pinned (OpenSpec.ofChange varintBytesSpec)

/-- ITS FALSE NEIGHBOUR: 'it returns false'. Refute it at one input. -/
def varintBytesWrong : ChangeSpec := { name := "varintBytes", fn := fun _ => fun
  | [d1, d2, d3] => { results := [.lit (.bool false)], args := [d1, d2, d3] }
  | _ => none }
def VarintBytesWrongFalsely : Prop := varintBytesRow.holds Try.pinned (OpenSpec.ofChange varintBytesWrong)

/-- 'evergreenlaw07.VarintUnique': WHATEVER THE INPUT: true; the input reads as it did. -/
def varintUniqueSpec : ChangeSpec := { name := "varintUnique", fn := fun _ => fun
  | [d] => { results := [.lit (.bool true)], args := [d] }
  | _ => none }
def varintUniqueRow : OpenClaim := { program := "ytjibameejjfdjaa", sum := "aa1c7b78cb83069cbd1ce40138236d43ebf3e09cdac9e37d9a6e690ae3b57b0e", func := "evergreen/evergreenlaw07.VarintUnique", spec := "varintUnique", apart := false }
def VarintUniqueSaid : Prop := varintUniqueRow.holds Try.pinned (OpenSpec.ofChange varintUniqueSpec)

/-- ITS FALSE NEIGHBOUR: 'it returns false'. Refute it at one input. -/
def varintUniqueWrong : ChangeSpec := { name := "varintUnique", fn := fun _ => fun
  | [d] => { results := [.lit (.bool false)], args := [d] }
  | _ => none }
def VarintUniqueWrongFalsely : Prop := varintUniqueRow.holds Try.pinned (OpenSpec.ofChange varintUniqueWrong)

/- THE SECOND FORM. 'bulk': how many values and letters a reading holds, each counted each time it is reached (what is shared counts as often as it is met; a slice's spare places count too). A statement '..UptoSaid' is the law's where the arguments, and the package variables that the reading takes, are together of bulk at most 1048576: NARROWER than '..Said'. Prove '..Said' where nothing that the law and all that it calls make is longer than what came in: it says more and counts as full. Else prove '..UptoSaid'. A law counts once. -/
mutual
def uptoBulk {H : Type} : DataW H → Nat
  | .lit (.string bytes) => bytes.length + 1
  | .lit _ => 1
  | .nil => 1
  | .ptr d => uptoBulk d + 1
  | .slice elems spare => uptoBulkAll elems + uptoBulkAll spare + 1
  | .agg parts => uptoBulkAll parts + 1
  | .iface _ d => uptoBulk d + 1
  | .map entries => uptoBulkEntries entries + 1
  | .held _ => 1
def uptoBulkAll {H : Type} : List (DataW H) → Nat
  | [] => 0
  | d :: r => uptoBulk d + uptoBulkAll r
def uptoBulkEntries {H : Type} : List (Lit × DataW H) → Nat
  | [] => 0
  | x :: r => uptoBulkEntry x + uptoBulkEntries r
def uptoBulkEntry {H : Type} : Lit × DataW H → Nat
  | (.string bytes, d) => bytes.length + uptoBulk d + 1
  | (_, d) => uptoBulk d + 1
 end
def uptoSmall : (H : Type) → List (DataW H) → Bool := fun _ ds => decide (uptoBulkAll ds ≤ 1048576)
def OpenSpec.upto (s : _root_.Go.ChangeSpec) : _root_.Go.OpenSpec := { _root_.Go.OpenSpec.ofChange s with cond := some uptoSmall }

/-- 'evergreenlaw07.VarintTakes', WHERE WHAT IT READS IS OF BULK AT MOST 1048576: true; the input reads as it did. -/
def varintTakesUptoRow : OpenClaim := { program := "ytjibameejjfdjaa", sum := "aa1c7b78cb83069cbd1ce40138236d43ebf3e09cdac9e37d9a6e690ae3b57b0e", func := "evergreen/evergreenlaw07.VarintTakes", spec := "varintTakes", apart := false, narrowed := true }
def VarintTakesUptoSaid : Prop := varintTakesUptoRow.holds Try.pinned (OpenSpec.upto varintTakesSpec)

/-- 'evergreenlaw07.VarintSequence', WHERE WHAT IT READS IS OF BULK AT MOST 1048576: true; the input reads as it did. -/
def varintSequenceUptoRow : OpenClaim := { program := "ytjibameejjfdjaa", sum := "aa1c7b78cb83069cbd1ce40138236d43ebf3e09cdac9e37d9a6e690ae3b57b0e", func := "evergreen/evergreenlaw07.VarintSequence", spec := "varintSequence", apart := false, narrowed := true }
def VarintSequenceUptoSaid : Prop := varintSequenceUptoRow.holds Try.pinned (OpenSpec.upto varintSequenceSpec)

/-- 'evergreenlaw07.VarintTakesInts', WHERE WHAT IT READS IS OF BULK AT MOST 1048576: true; the input reads as it did. -/
def varintTakesIntsUptoRow : OpenClaim := { program := "ytjibameejjfdjaa", sum := "aa1c7b78cb83069cbd1ce40138236d43ebf3e09cdac9e37d9a6e690ae3b57b0e", func := "evergreen/evergreenlaw07.VarintTakesInts", spec := "varintTakesInts", apart := false, narrowed := true }
def VarintTakesIntsUptoSaid : Prop := varintTakesIntsUptoRow.holds Try.pinned (OpenSpec.upto varintTakesIntsSpec)

/-- 'evergreenlaw07.VarintTakesBytes', WHERE WHAT IT READS IS OF BULK AT MOST 1048576: true; the input reads as it did. -/
def varintTakesBytesUptoRow : OpenClaim := { program := "ytjibameejjfdjaa", sum := "aa1c7b78cb83069cbd1ce40138236d43ebf3e09cdac9e37d9a6e690ae3b57b0e", func := "evergreen/evergreenlaw07.VarintTakesBytes", spec := "varintTakesBytes", apart := false, narrowed := true }
def VarintTakesBytesUptoSaid : Prop := varintTakesBytesUptoRow.holds Try.pinned (OpenSpec.upto varintTakesBytesSpec)

/-- 'evergreenlaw07.VarintGrows', WHERE WHAT IT READS IS OF BULK AT MOST 1048576: true; the input reads as it did. -/
def varintGrowsUptoRow : OpenClaim := { program := "ytjibameejjfdjaa", sum := "aa1c7b78cb83069cbd1ce40138236d43ebf3e09cdac9e37d9a6e690ae3b57b0e", func := "evergreen/evergreenlaw07.VarintGrows", spec := "varintGrows", apart := false, narrowed := true }
def VarintGrowsUptoSaid : Prop := varintGrowsUptoRow.holds Try.pinned (OpenSpec.upto varintGrowsSpec)

/-- 'evergreenlaw07.VarintInts', WHERE WHAT IT READS IS OF BULK AT MOST 1048576: true; the input reads as it did. -/
def varintIntsUptoRow : OpenClaim := { program := "ytjibameejjfdjaa", sum := "aa1c7b78cb83069cbd1ce40138236d43ebf3e09cdac9e37d9a6e690ae3b57b0e", func := "evergreen/evergreenlaw07.VarintInts", spec := "varintInts", apart := false, narrowed := true }
def VarintIntsUptoSaid : Prop := varintIntsUptoRow.holds Try.pinned (OpenSpec.upto varintIntsSpec)

/-- 'evergreenlaw07.VarintPuts', WHERE WHAT IT READS IS OF BULK AT MOST 1048576: true; the input reads as it did. -/
def varintPutsUptoRow : OpenClaim := { program := "ytjibameejjfdjaa", sum := "aa1c7b78cb83069cbd1ce40138236d43ebf3e09cdac9e37d9a6e690ae3b57b0e", func := "evergreen/evergreenlaw07.VarintPuts", spec := "varintPuts", apart := false, narrowed := true }
def VarintPutsUptoSaid : Prop := varintPutsUptoRow.holds Try.pinned (OpenSpec.upto varintPutsSpec)

/-- 'evergreenlaw07.VarintBytes', WHERE WHAT IT READS IS OF BULK AT MOST 1048576: true; the input reads as it did. -/
def varintBytesUptoRow : OpenClaim := { program := "ytjibameejjfdjaa", sum := "aa1c7b78cb83069cbd1ce40138236d43ebf3e09cdac9e37d9a6e690ae3b57b0e", func := "evergreen/evergreenlaw07.VarintBytes", spec := "varintBytes", apart := false, narrowed := true }
def VarintBytesUptoSaid : Prop := varintBytesUptoRow.holds Try.pinned (OpenSpec.upto varintBytesSpec)

/-- 'evergreenlaw07.VarintUnique', WHERE WHAT IT READS IS OF BULK AT MOST 1048576: true; the input reads as it did. -/
def varintUniqueUptoRow : OpenClaim := { program := "ytjibameejjfdjaa", sum := "aa1c7b78cb83069cbd1ce40138236d43ebf3e09cdac9e37d9a6e690ae3b57b0e", func := "evergreen/evergreenlaw07.VarintUnique", spec := "varintUnique", apart := false, narrowed := true }
def VarintUniqueUptoSaid : Prop := varintUniqueUptoRow.holds Try.pinned (OpenSpec.upto varintUniqueSpec)

end Rows
end Go.Proofs.Ytjibameejjfdjaa
