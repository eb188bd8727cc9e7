/-
  No cell of these rows narrows 'for every input' (looked for: loops, veiled, ifaces, maps, wideKeys, modest, calm, conditions, laid).
  DERIVED. THE GIVEN ROWS OF THIS SEAT. 4 by the template 'for every input the law returns true; each argument reads behind the call as it read before'; 0 by the template 'total and deterministic' (their statements: YtpabngicbfcdkaaTotals.lean).
  GIVEN WITH THE SEED: the statements are not yours to turn. If you find one false, say at which input.
  Laid BY PROGRAM, IN A SANDBOX (cutbox-rows.mjs): the forced cells as the released guide's own fill.sh prints them over the translation befb922648ce39a0… (all of the seat's roots in one cut). By AI agents, Wed Nov 11 2026. No macro, syntax, notation, axiom, sorry.
-/
import Derived.Test.YtpabngicbfcdkaaChecked
import GoSem.Claim
import GoSem.ClaimJoined
import GoSem.ClaimMapViews
import Derived.JoinedTies
import Derived.KernelRfl
namespace Go.Proofs.Ytpabngicbfcdkaa
/- THE CELL 'sum', in the pinned program and in every row, IS THE sha256 OF THE DUMP (.gsa) THAT YtpabngicbfcdkaaProg.lean LOADS. Nothing in Lean hashes anything: it is a label: what it is worth is what the hold of that sum in a sandbox is worth. -/
noncomputable def Try.pinned : Pinned := { name := "ytpabngicbfcdkaa", sum := "befb922648ce39a05cb31166131809f2c1717afbd1be8bf29665279fadbe5abb", checked := Try.checked }
namespace Rows
def none {H : Type} : Left H := { results := [], args := [] }

/-- 'evergreenlaw54.SyntaxTokens': WHATEVER THE INPUT: true; the input reads as it did. -/
def syntaxTokensSpec : ChangeSpec := { name := "syntaxTokens", fn := fun _ => fun
  | [d] => { results := [.lit (.bool true)], args := [d] }
  | _ => none }
def syntaxTokensRow : OpenClaim := { program := "ytpabngicbfcdkaa", sum := "befb922648ce39a05cb31166131809f2c1717afbd1be8bf29665279fadbe5abb", func := "evergreen/evergreenlaw54.SyntaxTokens", spec := "syntaxTokens", inPlace := ["internal/bytealg.IndexByteString"], unfollowed := true, recurses := true, plainKeys := false, apart := false }
def SyntaxTokensSaid : Prop := syntaxTokensRow.holds Try.pinned (OpenSpec.ofChange syntaxTokensSpec)

/-- ITS FALSE NEIGHBOUR: 'it returns false'. Refute it at one input. -/
def syntaxTokensWrong : ChangeSpec := { name := "syntaxTokens", fn := fun _ => fun
  | [d] => { results := [.lit (.bool false)], args := [d] }
  | _ => none }
def SyntaxTokensWrongFalsely : Prop := syntaxTokensRow.holds Try.pinned (OpenSpec.ofChange syntaxTokensWrong)

/-- 'evergreenlaw54.SyntaxParses': WHATEVER THE INPUT: true; the input reads as it did. -/
def syntaxParsesSpec : ChangeSpec := { name := "syntaxParses", fn := fun _ => fun
  | [d] => { results := [.lit (.bool true)], args := [d] }
  | _ => none }
def syntaxParsesRow : OpenClaim := { program := "ytpabngicbfcdkaa", sum := "befb922648ce39a05cb31166131809f2c1717afbd1be8bf29665279fadbe5abb", func := "evergreen/evergreenlaw54.SyntaxParses", spec := "syntaxParses", inPlace := ["internal/bytealg.IndexByteString"], unfollowed := true, recurses := true, plainKeys := false, apart := false }
def SyntaxParsesSaid : Prop := syntaxParsesRow.holds Try.pinned (OpenSpec.ofChange syntaxParsesSpec)

/-- ITS FALSE NEIGHBOUR: 'it returns false'. Refute it at one input. -/
def syntaxParsesWrong : ChangeSpec := { name := "syntaxParses", fn := fun _ => fun
  | [d] => { results := [.lit (.bool false)], args := [d] }
  | _ => none }
def SyntaxParsesWrongFalsely : Prop := syntaxParsesRow.holds Try.pinned (OpenSpec.ofChange syntaxParsesWrong)

/-- 'evergreenlaw54.SyntaxDeep': WHATEVER THE INPUT: true; the input reads as it did. -/
def syntaxDeepSpec : ChangeSpec := { name := "syntaxDeep", fn := fun _ => fun
  | [d1, d2] => { results := [.lit (.bool true)], args := [d1, d2] }
  | _ => none }
def syntaxDeepRow : OpenClaim := { program := "ytpabngicbfcdkaa", sum := "befb922648ce39a05cb31166131809f2c1717afbd1be8bf29665279fadbe5abb", func := "evergreen/evergreenlaw54.SyntaxDeep", spec := "syntaxDeep", inPlace := ["internal/bytealg.IndexByteString"], unfollowed := true, recurses := true, plainKeys := false, apart := false }
def SyntaxDeepSaid : Prop := syntaxDeepRow.holds Try.pinned (OpenSpec.ofChange syntaxDeepSpec)

/-- ITS FALSE NEIGHBOUR: 'it returns false'. Refute it at one input. -/
def syntaxDeepWrong : ChangeSpec := { name := "syntaxDeep", fn := fun _ => fun
  | [d1, d2] => { results := [.lit (.bool false)], args := [d1, d2] }
  | _ => none }
def SyntaxDeepWrongFalsely : Prop := syntaxDeepRow.holds Try.pinned (OpenSpec.ofChange syntaxDeepWrong)

/-- 'evergreenlaw54.SyntaxTrees': WHATEVER THE INPUT: true; the input reads as it did. -/
def syntaxTreesSpec : ChangeSpec := { name := "syntaxTrees", fn := fun _ => fun
  | [d1, d2] => { results := [.lit (.bool true)], args := [d1, d2] }
  | _ => none }
def syntaxTreesRow : OpenClaim := { program := "ytpabngicbfcdkaa", sum := "befb922648ce39a05cb31166131809f2c1717afbd1be8bf29665279fadbe5abb", func := "evergreen/evergreenlaw54.SyntaxTrees", spec := "syntaxTrees", inPlace := ["internal/bytealg.IndexByteString"], unfollowed := true, recurses := true, plainKeys := false, apart := false }
def SyntaxTreesSaid : Prop := syntaxTreesRow.holds Try.pinned (OpenSpec.ofChange syntaxTreesSpec)

/-- ITS FALSE NEIGHBOUR: 'it returns false'. Refute it at one input. -/
def syntaxTreesWrong : ChangeSpec := { name := "syntaxTrees", fn := fun _ => fun
  | [d1, d2] => { results := [.lit (.bool false)], args := [d1, d2] }
  | _ => none }
def SyntaxTreesWrongFalsely : Prop := syntaxTreesRow.holds Try.pinned (OpenSpec.ofChange syntaxTreesWrong)

/- THE SECOND FORM. 'bulk': how many values and letters a reading holds, each counted each time it is reached (what is shared counts as often as it is met; a slice's spare places count too). A statement '..UptoSaid' is the law's where the arguments, and the package variables that the reading takes, are together of bulk at most 1048576: NARROWER than '..Said'. Prove '..Said' where nothing that the law and all that it calls make is longer than what came in: it says more and counts as full. Else prove '..UptoSaid'. A law counts once. -/
mutual
def uptoBulk {H : Type} : DataW H → Nat
  | .lit (.string bytes) => bytes.length + 1
  | .lit _ => 1
  | .nil => 1
  | .ptr d => uptoBulk d + 1
  | .slice elems spare => uptoBulkAll elems + uptoBulkAll spare + 1
  | .agg parts => uptoBulkAll parts + 1
  | .iface _ d => uptoBulk d + 1
  | .map entries => uptoBulkEntries entries + 1
  | .held _ => 1
def uptoBulkAll {H : Type} : List (DataW H) → Nat
  | [] => 0
  | d :: r => uptoBulk d + uptoBulkAll r
def uptoBulkEntries {H : Type} : List (Lit × DataW H) → Nat
  | [] => 0
  | x :: r => uptoBulkEntry x + uptoBulkEntries r
def uptoBulkEntry {H : Type} : Lit × DataW H → Nat
  | (.string bytes, d) => bytes.length + uptoBulk d + 1
  | (_, d) => uptoBulk d + 1
 end
def uptoSmall : (H : Type) → List (DataW H) → Bool := fun _ ds => decide (uptoBulkAll ds ≤ 1048576)
def OpenSpec.upto (s : _root_.Go.ChangeSpec) : _root_.Go.OpenSpec := { _root_.Go.OpenSpec.ofChange s with cond := some uptoSmall }

/-- 'evergreenlaw54.SyntaxTokens', WHERE WHAT IT READS IS OF BULK AT MOST 1048576: true; the input reads as it did. -/
def syntaxTokensUptoRow : OpenClaim := { program := "ytpabngicbfcdkaa", sum := "befb922648ce39a05cb31166131809f2c1717afbd1be8bf29665279fadbe5abb", func := "evergreen/evergreenlaw54.SyntaxTokens", spec := "syntaxTokens", inPlace := ["internal/bytealg.IndexByteString"], unfollowed := true, recurses := true, plainKeys := false, apart := false, narrowed := true }
def SyntaxTokensUptoSaid : Prop := syntaxTokensUptoRow.holds Try.pinned (OpenSpec.upto syntaxTokensSpec)

/-- 'evergreenlaw54.SyntaxParses', WHERE WHAT IT READS IS OF BULK AT MOST 1048576: true; the input reads as it did. -/
def syntaxParsesUptoRow : OpenClaim := { program := "ytpabngicbfcdkaa", sum := "befb922648ce39a05cb31166131809f2c1717afbd1be8bf29665279fadbe5abb", func := "evergreen/evergreenlaw54.SyntaxParses", spec := "syntaxParses", inPlace := ["internal/bytealg.IndexByteString"], unfollowed := true, recurses := true, plainKeys := false, apart := false, narrowed := true }
def SyntaxParsesUptoSaid : Prop := syntaxParsesUptoRow.holds Try.pinned (OpenSpec.upto syntaxParsesSpec)

/-- 'evergreenlaw54.SyntaxDeep', WHERE WHAT IT READS IS OF BULK AT MOST 1048576: true; the input reads as it did. -/
def syntaxDeepUptoRow : OpenClaim := { program := "ytpabngicbfcdkaa", sum := "befb922648ce39a05cb31166131809f2c1717afbd1be8bf29665279fadbe5abb", func := "evergreen/evergreenlaw54.SyntaxDeep", spec := "syntaxDeep", inPlace := ["internal/bytealg.IndexByteString"], unfollowed := true, recurses := true, plainKeys := false, apart := false, narrowed := true }
def SyntaxDeepUptoSaid : Prop := syntaxDeepUptoRow.holds Try.pinned (OpenSpec.upto syntaxDeepSpec)

/-- 'evergreenlaw54.SyntaxTrees', WHERE WHAT IT READS IS OF BULK AT MOST 1048576: true; the input reads as it did. -/
def syntaxTreesUptoRow : OpenClaim := { program := "ytpabngicbfcdkaa", sum := "befb922648ce39a05cb31166131809f2c1717afbd1be8bf29665279fadbe5abb", func := "evergreen/evergreenlaw54.SyntaxTrees", spec := "syntaxTrees", inPlace := ["internal/bytealg.IndexByteString"], unfollowed := true, recurses := true, plainKeys := false, apart := false, narrowed := true }
def SyntaxTreesUptoSaid : Prop := syntaxTreesUptoRow.holds Try.pinned (OpenSpec.upto syntaxTreesSpec)

end Rows
end Go.Proofs.Ytpabngicbfcdkaa
