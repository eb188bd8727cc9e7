/-
  No cell of these rows narrows 'for every input' (looked for: loops, veiled, ifaces, maps, wideKeys, modest, calm, conditions, laid).
  DERIVED. THE GIVEN ROWS OF THIS SEAT. 5 by the template 'for every input the law returns true; each argument reads behind the call as it read before'; 0 by the template 'total and deterministic' (their statements: YtjajlnhobchkgaaTotals.lean).
  GIVEN WITH THE SEED: the statements are not yours to turn. If you find one false, say at which input.
  Laid BY PROGRAM, IN A SANDBOX (cutbox-rows.mjs): the forced cells as the released guide's own fill.sh prints them over the translation ac306a664db2aec8… (all of the seat's roots in one cut). By AI agents, Wed Nov 11 2026. No macro, syntax, notation, axiom, sorry.
-/
import Derived.Test.YtjajlnhobchkgaaChecked
import GoSem.Claim
import GoSem.ClaimJoined
import GoSem.ClaimMapViews
import Derived.JoinedTies
import Derived.KernelRfl
namespace Go.Proofs.Ytjajlnhobchkgaa
/- THE CELL 'sum', in the pinned program and in every row, IS THE sha256 OF THE DUMP (.gsa) THAT YtjajlnhobchkgaaProg.lean LOADS. Nothing in Lean hashes anything: it is a label: what it is worth is what the hold of that sum in a sandbox is worth. -/
noncomputable def Try.pinned : Pinned := { name := "ytjajlnhobchkgaa", sum := "ac306a664db2aec8114943018e6f40f5e6ab21f3319be97fed1f3bc03389e125", checked := Try.checked }
namespace Rows
def none {H : Type} : Left H := { results := [], args := [] }

/-- 'evergreenlaw39.UndoReturns': WHATEVER THE INPUT: true; the input reads as it did. -/
def undoReturnsSpec : ChangeSpec := { name := "undoReturns", fn := fun _ => fun
  | [d1, d2] => { results := [.lit (.bool true)], args := [d1, d2] }
  | _ => none }
def undoReturnsRow : OpenClaim := { program := "ytjajlnhobchkgaa", sum := "ac306a664db2aec8114943018e6f40f5e6ab21f3319be97fed1f3bc03389e125", func := "evergreen/evergreenlaw39.UndoReturns", spec := "undoReturns", apart := false }
def UndoReturnsSaid : Prop := undoReturnsRow.holds Try.pinned (OpenSpec.ofChange undoReturnsSpec)

/-- ITS FALSE NEIGHBOUR: 'it returns false'. Refute it at one input. -/
def undoReturnsWrong : ChangeSpec := { name := "undoReturns", fn := fun _ => fun
  | [d1, d2] => { results := [.lit (.bool false)], args := [d1, d2] }
  | _ => none }
def UndoReturnsWrongFalsely : Prop := undoReturnsRow.holds Try.pinned (OpenSpec.ofChange undoReturnsWrong)

/-- 'evergreenlaw39.UndoBetween': WHATEVER THE INPUT: true; the input reads as it did. -/
def undoBetweenSpec : ChangeSpec := { name := "undoBetween", fn := fun _ => fun
  | [d1, d2, d3] => { results := [.lit (.bool true)], args := [d1, d2, d3] }
  | _ => none }
def undoBetweenRow : OpenClaim := { program := "ytjajlnhobchkgaa", sum := "ac306a664db2aec8114943018e6f40f5e6ab21f3319be97fed1f3bc03389e125", func := "evergreen/evergreenlaw39.UndoBetween", spec := "undoBetween", apart := false }
def UndoBetweenSaid : Prop := undoBetweenRow.holds Try.pinned (OpenSpec.ofChange undoBetweenSpec)

/-- ITS FALSE NEIGHBOUR: 'it returns false'. Refute it at one input. -/
def undoBetweenWrong : ChangeSpec := { name := "undoBetween", fn := fun _ => fun
  | [d1, d2, d3] => { results := [.lit (.bool false)], args := [d1, d2, d3] }
  | _ => none }
def UndoBetweenWrongFalsely : Prop := undoBetweenRow.holds Try.pinned (OpenSpec.ofChange undoBetweenWrong)

/-- 'evergreenlaw39.UndoPaths': WHATEVER THE INPUT: true; the input reads as it did. -/
def undoPathsSpec : ChangeSpec := { name := "undoPaths", fn := fun _ => fun
  | [d] => { results := [.lit (.bool true)], args := [d] }
  | _ => none }
def undoPathsRow : OpenClaim := { program := "ytjajlnhobchkgaa", sum := "ac306a664db2aec8114943018e6f40f5e6ab21f3319be97fed1f3bc03389e125", func := "evergreen/evergreenlaw39.UndoPaths", spec := "undoPaths", apart := false }
def UndoPathsSaid : Prop := undoPathsRow.holds Try.pinned (OpenSpec.ofChange undoPathsSpec)

/-- ITS FALSE NEIGHBOUR: 'it returns false'. Refute it at one input. -/
def undoPathsWrong : ChangeSpec := { name := "undoPaths", fn := fun _ => fun
  | [d] => { results := [.lit (.bool false)], args := [d] }
  | _ => none }
def UndoPathsWrongFalsely : Prop := undoPathsRow.holds Try.pinned (OpenSpec.ofChange undoPathsWrong)

/-- 'evergreenlaw39.UndoCopies': WHATEVER THE INPUT: true; the input reads as it did. -/
def undoCopiesSpec : ChangeSpec := { name := "undoCopies", fn := fun _ => fun
  | [d1, d2] => { results := [.lit (.bool true)], args := [d1, d2] }
  | _ => none }
def undoCopiesRow : OpenClaim := { program := "ytjajlnhobchkgaa", sum := "ac306a664db2aec8114943018e6f40f5e6ab21f3319be97fed1f3bc03389e125", func := "evergreen/evergreenlaw39.UndoCopies", spec := "undoCopies", apart := false }
def UndoCopiesSaid : Prop := undoCopiesRow.holds Try.pinned (OpenSpec.ofChange undoCopiesSpec)

/-- ITS FALSE NEIGHBOUR: 'it returns false'. Refute it at one input. -/
def undoCopiesWrong : ChangeSpec := { name := "undoCopies", fn := fun _ => fun
  | [d1, d2] => { results := [.lit (.bool false)], args := [d1, d2] }
  | _ => none }
def UndoCopiesWrongFalsely : Prop := undoCopiesRow.holds Try.pinned (OpenSpec.ofChange undoCopiesWrong)

/-- 'evergreenlaw39.UndoNone': WHATEVER THE INPUT: true; the input reads as it did. -/
def undoNoneSpec : ChangeSpec := { name := "undoNone", fn := fun _ => fun
  | [d1, d2] => { results := [.lit (.bool true)], args := [d1, d2] }
  | _ => none }
def undoNoneRow : OpenClaim := { program := "ytjajlnhobchkgaa", sum := "ac306a664db2aec8114943018e6f40f5e6ab21f3319be97fed1f3bc03389e125", func := "evergreen/evergreenlaw39.UndoNone", spec := "undoNone", apart := false }
def UndoNoneSaid : Prop := undoNoneRow.holds Try.pinned (OpenSpec.ofChange undoNoneSpec)

/-- ITS FALSE NEIGHBOUR: 'it returns false'. Refute it at one input. -/
def undoNoneWrong : ChangeSpec := { name := "undoNone", fn := fun _ => fun
  | [d1, d2] => { results := [.lit (.bool false)], args := [d1, d2] }
  | _ => none }
def UndoNoneWrongFalsely : Prop := undoNoneRow.holds Try.pinned (OpenSpec.ofChange undoNoneWrong)

/- THE SECOND FORM. 'bulk': how many values and letters a reading holds, each counted each time it is reached (what is shared counts as often as it is met; a slice's spare places count too). A statement '..UptoSaid' is the law's where the arguments, and the package variables that the reading takes, are together of bulk at most 1048576: NARROWER than '..Said'. Prove '..Said' where nothing that the law and all that it calls make is longer than what came in: it says more and counts as full. Else prove '..UptoSaid'. A law counts once. -/
mutual
def uptoBulk {H : Type} : DataW H → Nat
  | .lit (.string bytes) => bytes.length + 1
  | .lit _ => 1
  | .nil => 1
  | .ptr d => uptoBulk d + 1
  | .slice elems spare => uptoBulkAll elems + uptoBulkAll spare + 1
  | .agg parts => uptoBulkAll parts + 1
  | .iface _ d => uptoBulk d + 1
  | .map entries => uptoBulkEntries entries + 1
  | .held _ => 1
def uptoBulkAll {H : Type} : List (DataW H) → Nat
  | [] => 0
  | d :: r => uptoBulk d + uptoBulkAll r
def uptoBulkEntries {H : Type} : List (Lit × DataW H) → Nat
  | [] => 0
  | x :: r => uptoBulkEntry x + uptoBulkEntries r
def uptoBulkEntry {H : Type} : Lit × DataW H → Nat
  | (.string bytes, d) => bytes.length + uptoBulk d + 1
  | (_, d) => uptoBulk d + 1
 end
def uptoSmall : (H : Type) → List (DataW H) → Bool := fun _ ds => decide (uptoBulkAll ds ≤ 1048576)
def OpenSpec.upto (s : _root_.Go.ChangeSpec) : _root_.Go.OpenSpec := { _root_.Go.OpenSpec.ofChange s with cond := some uptoSmall }

/-- 'evergreenlaw39.UndoReturns', WHERE WHAT IT READS IS OF BULK AT MOST 1048576: true; the input reads as it did. -/
def undoReturnsUptoRow : OpenClaim := { program := "ytjajlnhobchkgaa", sum := "ac306a664db2aec8114943018e6f40f5e6ab21f3319be97fed1f3bc03389e125", func := "evergreen/evergreenlaw39.UndoReturns", spec := "undoReturns", apart := false, narrowed := true }
def UndoReturnsUptoSaid : Prop := undoReturnsUptoRow.holds Try.pinned (OpenSpec.upto undoReturnsSpec)

/-- 'evergreenlaw39.UndoBetween', WHERE WHAT IT READS IS OF BULK AT MOST 1048576: true; the input reads as it did. -/
def undoBetweenUptoRow : OpenClaim := { program := "ytjajlnhobchkgaa", sum := "ac306a664db2aec8114943018e6f40f5e6ab21f3319be97fed1f3bc03389e125", func := "evergreen/evergreenlaw39.UndoBetween", spec := "undoBetween", apart := false, narrowed := true }
def UndoBetweenUptoSaid : Prop := undoBetweenUptoRow.holds Try.pinned (OpenSpec.upto undoBetweenSpec)

/-- 'evergreenlaw39.UndoPaths', WHERE WHAT IT READS IS OF BULK AT MOST 1048576: true; the input reads as it did. -/
def undoPathsUptoRow : OpenClaim := { program := "ytjajlnhobchkgaa", sum := "ac306a664db2aec8114943018e6f40f5e6ab21f3319be97fed1f3bc03389e125", func := "evergreen/evergreenlaw39.UndoPaths", spec := "undoPaths", apart := false, narrowed := true }
def UndoPathsUptoSaid : Prop := undoPathsUptoRow.holds Try.pinned (OpenSpec.upto undoPathsSpec)

/-- 'evergreenlaw39.UndoCopies', WHERE WHAT IT READS IS OF BULK AT MOST 1048576: true; the input reads as it did. -/
def undoCopiesUptoRow : OpenClaim := { program := "ytjajlnhobchkgaa", sum := "ac306a664db2aec8114943018e6f40f5e6ab21f3319be97fed1f3bc03389e125", func := "evergreen/evergreenlaw39.UndoCopies", spec := "undoCopies", apart := false, narrowed := true }
def UndoCopiesUptoSaid : Prop := undoCopiesUptoRow.holds Try.pinned (OpenSpec.upto undoCopiesSpec)

/-- 'evergreenlaw39.UndoNone', WHERE WHAT IT READS IS OF BULK AT MOST 1048576: true; the input reads as it did. -/
def undoNoneUptoRow : OpenClaim := { program := "ytjajlnhobchkgaa", sum := "ac306a664db2aec8114943018e6f40f5e6ab21f3319be97fed1f3bc03389e125", func := "evergreen/evergreenlaw39.UndoNone", spec := "undoNone", apart := false, narrowed := true }
def UndoNoneUptoSaid : Prop := undoNoneUptoRow.holds Try.pinned (OpenSpec.upto undoNoneSpec)

end Rows
end Go.Proofs.Ytjajlnhobchkgaa
