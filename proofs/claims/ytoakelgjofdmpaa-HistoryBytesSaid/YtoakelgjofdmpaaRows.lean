/-
  No cell of these rows narrows 'for every input' (looked for: loops, veiled, ifaces, maps, wideKeys, modest, calm, conditions, laid).
  DERIVED. THE GIVEN ROWS OF THIS SEAT. 8 by the template 'for every input the law returns true; each argument reads behind the call as it read before'; 0 by the template 'total and deterministic' (their statements: YtoakelgjofdmpaaTotals.lean).
  GIVEN WITH THE SEED: the statements are not yours to turn. If you find one false, say at which input.
  Laid BY PROGRAM, IN A SANDBOX (cutbox-rows.mjs): the forced cells as the released guide's own fill.sh prints them over the translation 26b5f95f6e884f91… (all of the seat's roots in one cut). By AI agents, Wed Nov 11 2026. No macro, syntax, notation, axiom, sorry.
-/
import Derived.Test.YtoakelgjofdmpaaChecked
import GoSem.Claim
import GoSem.ClaimJoined
import GoSem.ClaimMapViews
import Derived.JoinedTies
import Derived.KernelRfl
namespace Go.Proofs.Ytoakelgjofdmpaa
/- THE CELL 'sum', in the pinned program and in every row, IS THE sha256 OF THE DUMP (.gsa) THAT YtoakelgjofdmpaaProg.lean LOADS. Nothing in Lean hashes anything: it is a label: what it is worth is what the hold of that sum in a sandbox is worth. -/
noncomputable def Try.pinned : Pinned := { name := "ytoakelgjofdmpaa", sum := "26b5f95f6e884f9160b176ab18f326ad650d752d68617ee8ad0b1ea2e9478af3", checked := Try.checked }
namespace Rows
def none {H : Type} : Left H := { results := [], args := [] }

/-- 'evergreenlaw45.HistoryKeepsOwn': WHATEVER THE INPUT: true; the input reads as it did. -/
def historyKeepsOwnSpec : ChangeSpec := { name := "historyKeepsOwn", fn := fun _ => fun
  | [d] => { results := [.lit (.bool true)], args := [d] }
  | _ => none }
def historyKeepsOwnRow : OpenClaim := { program := "ytoakelgjofdmpaa", sum := "26b5f95f6e884f9160b176ab18f326ad650d752d68617ee8ad0b1ea2e9478af3", func := "evergreen/evergreenlaw45.HistoryKeepsOwn", spec := "historyKeepsOwn", apart := false }
def HistoryKeepsOwnSaid : Prop := historyKeepsOwnRow.holds Try.pinned (OpenSpec.ofChange historyKeepsOwnSpec)

/-- ITS FALSE NEIGHBOUR: 'it returns false'. Refute it at one input. -/
def historyKeepsOwnWrong : ChangeSpec := { name := "historyKeepsOwn", fn := fun _ => fun
  | [d] => { results := [.lit (.bool false)], args := [d] }
  | _ => none }
def HistoryKeepsOwnWrongFalsely : Prop := historyKeepsOwnRow.holds Try.pinned (OpenSpec.ofChange historyKeepsOwnWrong)

/-- 'evergreenlaw45.HistoryBases': WHATEVER THE INPUT: true; the input reads as it did. -/
def historyBasesSpec : ChangeSpec := { name := "historyBases", fn := fun _ => fun
  | [d1, d2, d3] => { results := [.lit (.bool true)], args := [d1, d2, d3] }
  | _ => none }
def historyBasesRow : OpenClaim := { program := "ytoakelgjofdmpaa", sum := "26b5f95f6e884f9160b176ab18f326ad650d752d68617ee8ad0b1ea2e9478af3", func := "evergreen/evergreenlaw45.HistoryBases", spec := "historyBases", unfollowed := true, recurses := true, apart := false }
def HistoryBasesSaid : Prop := historyBasesRow.holds Try.pinned (OpenSpec.ofChange historyBasesSpec)

/-- ITS FALSE NEIGHBOUR: 'it returns false'. Refute it at one input. -/
def historyBasesWrong : ChangeSpec := { name := "historyBases", fn := fun _ => fun
  | [d1, d2, d3] => { results := [.lit (.bool false)], args := [d1, d2, d3] }
  | _ => none }
def HistoryBasesWrongFalsely : Prop := historyBasesRow.holds Try.pinned (OpenSpec.ofChange historyBasesWrong)

/-- 'evergreenlaw45.HistoryOrder': WHATEVER THE INPUT: true; the input reads as it did. -/
def historyOrderSpec : ChangeSpec := { name := "historyOrder", fn := fun _ => fun
  | [d1, d2] => { results := [.lit (.bool true)], args := [d1, d2] }
  | _ => none }
def historyOrderRow : OpenClaim := { program := "ytoakelgjofdmpaa", sum := "26b5f95f6e884f9160b176ab18f326ad650d752d68617ee8ad0b1ea2e9478af3", func := "evergreen/evergreenlaw45.HistoryOrder", spec := "historyOrder", apart := false }
def HistoryOrderSaid : Prop := historyOrderRow.holds Try.pinned (OpenSpec.ofChange historyOrderSpec)

/-- ITS FALSE NEIGHBOUR: 'it returns false'. Refute it at one input. -/
def historyOrderWrong : ChangeSpec := { name := "historyOrder", fn := fun _ => fun
  | [d1, d2] => { results := [.lit (.bool false)], args := [d1, d2] }
  | _ => none }
def HistoryOrderWrongFalsely : Prop := historyOrderRow.holds Try.pinned (OpenSpec.ofChange historyOrderWrong)

/-- 'evergreenlaw45.HistoryAdds': WHATEVER THE INPUT: true; the input reads as it did. -/
def historyAddsSpec : ChangeSpec := { name := "historyAdds", fn := fun _ => fun
  | [d1, d2] => { results := [.lit (.bool true)], args := [d1, d2] }
  | _ => none }
def historyAddsRow : OpenClaim := { program := "ytoakelgjofdmpaa", sum := "26b5f95f6e884f9160b176ab18f326ad650d752d68617ee8ad0b1ea2e9478af3", func := "evergreen/evergreenlaw45.HistoryAdds", spec := "historyAdds", apart := false }
def HistoryAddsSaid : Prop := historyAddsRow.holds Try.pinned (OpenSpec.ofChange historyAddsSpec)

/-- ITS FALSE NEIGHBOUR: 'it returns false'. Refute it at one input. -/
def historyAddsWrong : ChangeSpec := { name := "historyAdds", fn := fun _ => fun
  | [d1, d2] => { results := [.lit (.bool false)], args := [d1, d2] }
  | _ => none }
def HistoryAddsWrongFalsely : Prop := historyAddsRow.holds Try.pinned (OpenSpec.ofChange historyAddsWrong)

/-- 'evergreenlaw45.HistoryKeeps': WHATEVER THE INPUT: true; the input reads as it did. -/
def historyKeepsSpec : ChangeSpec := { name := "historyKeeps", fn := fun _ => fun
  | [d1, d2] => { results := [.lit (.bool true)], args := [d1, d2] }
  | _ => none }
def historyKeepsRow : OpenClaim := { program := "ytoakelgjofdmpaa", sum := "26b5f95f6e884f9160b176ab18f326ad650d752d68617ee8ad0b1ea2e9478af3", func := "evergreen/evergreenlaw45.HistoryKeeps", spec := "historyKeeps", apart := false }
def HistoryKeepsSaid : Prop := historyKeepsRow.holds Try.pinned (OpenSpec.ofChange historyKeepsSpec)

/-- ITS FALSE NEIGHBOUR: 'it returns false'. Refute it at one input. -/
def historyKeepsWrong : ChangeSpec := { name := "historyKeeps", fn := fun _ => fun
  | [d1, d2] => { results := [.lit (.bool false)], args := [d1, d2] }
  | _ => none }
def HistoryKeepsWrongFalsely : Prop := historyKeepsRow.holds Try.pinned (OpenSpec.ofChange historyKeepsWrong)

/-- 'evergreenlaw45.HistoryRelates': WHATEVER THE INPUT: true; the input reads as it did. -/
def historyRelatesSpec : ChangeSpec := { name := "historyRelates", fn := fun _ => fun
  | [d1, d2, d3] => { results := [.lit (.bool true)], args := [d1, d2, d3] }
  | _ => none }
def historyRelatesRow : OpenClaim := { program := "ytoakelgjofdmpaa", sum := "26b5f95f6e884f9160b176ab18f326ad650d752d68617ee8ad0b1ea2e9478af3", func := "evergreen/evergreenlaw45.HistoryRelates", spec := "historyRelates", apart := false }
def HistoryRelatesSaid : Prop := historyRelatesRow.holds Try.pinned (OpenSpec.ofChange historyRelatesSpec)

/-- ITS FALSE NEIGHBOUR: 'it returns false'. Refute it at one input. -/
def historyRelatesWrong : ChangeSpec := { name := "historyRelates", fn := fun _ => fun
  | [d1, d2, d3] => { results := [.lit (.bool false)], args := [d1, d2, d3] }
  | _ => none }
def HistoryRelatesWrongFalsely : Prop := historyRelatesRow.holds Try.pinned (OpenSpec.ofChange historyRelatesWrong)

/-- 'evergreenlaw45.HistoryBytes': WHATEVER THE INPUT: true; the input reads as it did. -/
def historyBytesSpec : ChangeSpec := { name := "historyBytes", fn := fun _ => fun
  | [d1, d2] => { results := [.lit (.bool true)], args := [d1, d2] }
  | _ => none }
def historyBytesRow : OpenClaim := { program := "ytoakelgjofdmpaa", sum := "26b5f95f6e884f9160b176ab18f326ad650d752d68617ee8ad0b1ea2e9478af3", func := "evergreen/evergreenlaw45.HistoryBytes", spec := "historyBytes", apart := false }
def HistoryBytesSaid : Prop := historyBytesRow.holds Try.pinned (OpenSpec.ofChange historyBytesSpec)

/-- ITS FALSE NEIGHBOUR: 'it returns false'. Refute it at one input. -/
def historyBytesWrong : ChangeSpec := { name := "historyBytes", fn := fun _ => fun
  | [d1, d2] => { results := [.lit (.bool false)], args := [d1, d2] }
  | _ => none }
def HistoryBytesWrongFalsely : Prop := historyBytesRow.holds Try.pinned (OpenSpec.ofChange historyBytesWrong)

/-- 'evergreenlaw45.HistoryNil': WHATEVER THE INPUT: true; the input reads as it did. -/
def historyNilSpec : ChangeSpec := { name := "historyNil", fn := fun _ => fun
  | [d1, d2] => { results := [.lit (.bool true)], args := [d1, d2] }
  | _ => none }
def historyNilRow : OpenClaim := { program := "ytoakelgjofdmpaa", sum := "26b5f95f6e884f9160b176ab18f326ad650d752d68617ee8ad0b1ea2e9478af3", func := "evergreen/evergreenlaw45.HistoryNil", spec := "historyNil", apart := false }
def HistoryNilSaid : Prop := historyNilRow.holds Try.pinned (OpenSpec.ofChange historyNilSpec)

/-- ITS FALSE NEIGHBOUR: 'it returns false'. Refute it at one input. -/
def historyNilWrong : ChangeSpec := { name := "historyNil", fn := fun _ => fun
  | [d1, d2] => { results := [.lit (.bool false)], args := [d1, d2] }
  | _ => none }
def HistoryNilWrongFalsely : Prop := historyNilRow.holds Try.pinned (OpenSpec.ofChange historyNilWrong)

/- THE SECOND FORM. 'bulk': how many values and letters a reading holds, each counted each time it is reached (what is shared counts as often as it is met; a slice's spare places count too). A statement '..UptoSaid' is the law's where the arguments, and the package variables that the reading takes, are together of bulk at most 1048576: NARROWER than '..Said'. Prove '..Said' where nothing that the law and all that it calls make is longer than what came in: it says more and counts as full. Else prove '..UptoSaid'. A law counts once. -/
mutual
def uptoBulk {H : Type} : DataW H → Nat
  | .lit (.string bytes) => bytes.length + 1
  | .lit _ => 1
  | .nil => 1
  | .ptr d => uptoBulk d + 1
  | .slice elems spare => uptoBulkAll elems + uptoBulkAll spare + 1
  | .agg parts => uptoBulkAll parts + 1
  | .iface _ d => uptoBulk d + 1
  | .map entries => uptoBulkEntries entries + 1
  | .held _ => 1
def uptoBulkAll {H : Type} : List (DataW H) → Nat
  | [] => 0
  | d :: r => uptoBulk d + uptoBulkAll r
def uptoBulkEntries {H : Type} : List (Lit × DataW H) → Nat
  | [] => 0
  | x :: r => uptoBulkEntry x + uptoBulkEntries r
def uptoBulkEntry {H : Type} : Lit × DataW H → Nat
  | (.string bytes, d) => bytes.length + uptoBulk d + 1
  | (_, d) => uptoBulk d + 1
 end
def uptoSmall : (H : Type) → List (DataW H) → Bool := fun _ ds => decide (uptoBulkAll ds ≤ 1048576)
def OpenSpec.upto (s : _root_.Go.ChangeSpec) : _root_.Go.OpenSpec := { _root_.Go.OpenSpec.ofChange s with cond := some uptoSmall }

/-- 'evergreenlaw45.HistoryKeepsOwn', WHERE WHAT IT READS IS OF BULK AT MOST 1048576: true; the input reads as it did. -/
def historyKeepsOwnUptoRow : OpenClaim := { program := "ytoakelgjofdmpaa", sum := "26b5f95f6e884f9160b176ab18f326ad650d752d68617ee8ad0b1ea2e9478af3", func := "evergreen/evergreenlaw45.HistoryKeepsOwn", spec := "historyKeepsOwn", apart := false, narrowed := true }
def HistoryKeepsOwnUptoSaid : Prop := historyKeepsOwnUptoRow.holds Try.pinned (OpenSpec.upto historyKeepsOwnSpec)

/-- 'evergreenlaw45.HistoryBases', WHERE WHAT IT READS IS OF BULK AT MOST 1048576: true; the input reads as it did. -/
def historyBasesUptoRow : OpenClaim := { program := "ytoakelgjofdmpaa", sum := "26b5f95f6e884f9160b176ab18f326ad650d752d68617ee8ad0b1ea2e9478af3", func := "evergreen/evergreenlaw45.HistoryBases", spec := "historyBases", unfollowed := true, recurses := true, apart := false, narrowed := true }
def HistoryBasesUptoSaid : Prop := historyBasesUptoRow.holds Try.pinned (OpenSpec.upto historyBasesSpec)

/-- 'evergreenlaw45.HistoryOrder', WHERE WHAT IT READS IS OF BULK AT MOST 1048576: true; the input reads as it did. -/
def historyOrderUptoRow : OpenClaim := { program := "ytoakelgjofdmpaa", sum := "26b5f95f6e884f9160b176ab18f326ad650d752d68617ee8ad0b1ea2e9478af3", func := "evergreen/evergreenlaw45.HistoryOrder", spec := "historyOrder", apart := false, narrowed := true }
def HistoryOrderUptoSaid : Prop := historyOrderUptoRow.holds Try.pinned (OpenSpec.upto historyOrderSpec)

/-- 'evergreenlaw45.HistoryAdds', WHERE WHAT IT READS IS OF BULK AT MOST 1048576: true; the input reads as it did. -/
def historyAddsUptoRow : OpenClaim := { program := "ytoakelgjofdmpaa", sum := "26b5f95f6e884f9160b176ab18f326ad650d752d68617ee8ad0b1ea2e9478af3", func := "evergreen/evergreenlaw45.HistoryAdds", spec := "historyAdds", apart := false, narrowed := true }
def HistoryAddsUptoSaid : Prop := historyAddsUptoRow.holds Try.pinned (OpenSpec.upto historyAddsSpec)

/-- 'evergreenlaw45.HistoryKeeps', WHERE WHAT IT READS IS OF BULK AT MOST 1048576: true; the input reads as it did. -/
def historyKeepsUptoRow : OpenClaim := { program := "ytoakelgjofdmpaa", sum := "26b5f95f6e884f9160b176ab18f326ad650d752d68617ee8ad0b1ea2e9478af3", func := "evergreen/evergreenlaw45.HistoryKeeps", spec := "historyKeeps", apart := false, narrowed := true }
def HistoryKeepsUptoSaid : Prop := historyKeepsUptoRow.holds Try.pinned (OpenSpec.upto historyKeepsSpec)

/-- 'evergreenlaw45.HistoryRelates', WHERE WHAT IT READS IS OF BULK AT MOST 1048576: true; the input reads as it did. -/
def historyRelatesUptoRow : OpenClaim := { program := "ytoakelgjofdmpaa", sum := "26b5f95f6e884f9160b176ab18f326ad650d752d68617ee8ad0b1ea2e9478af3", func := "evergreen/evergreenlaw45.HistoryRelates", spec := "historyRelates", apart := false, narrowed := true }
def HistoryRelatesUptoSaid : Prop := historyRelatesUptoRow.holds Try.pinned (OpenSpec.upto historyRelatesSpec)

/-- 'evergreenlaw45.HistoryBytes', WHERE WHAT IT READS IS OF BULK AT MOST 1048576: true; the input reads as it did. -/
def historyBytesUptoRow : OpenClaim := { program := "ytoakelgjofdmpaa", sum := "26b5f95f6e884f9160b176ab18f326ad650d752d68617ee8ad0b1ea2e9478af3", func := "evergreen/evergreenlaw45.HistoryBytes", spec := "historyBytes", apart := false, narrowed := true }
def HistoryBytesUptoSaid : Prop := historyBytesUptoRow.holds Try.pinned (OpenSpec.upto historyBytesSpec)

/-- 'evergreenlaw45.HistoryNil', WHERE WHAT IT READS IS OF BULK AT MOST 1048576: true; the input reads as it did. -/
def historyNilUptoRow : OpenClaim := { program := "ytoakelgjofdmpaa", sum := "26b5f95f6e884f9160b176ab18f326ad650d752d68617ee8ad0b1ea2e9478af3", func := "evergreen/evergreenlaw45.HistoryNil", spec := "historyNil", apart := false, narrowed := true }
def HistoryNilUptoSaid : Prop := historyNilUptoRow.holds Try.pinned (OpenSpec.upto historyNilSpec)

end Rows
end Go.Proofs.Ytoakelgjofdmpaa
