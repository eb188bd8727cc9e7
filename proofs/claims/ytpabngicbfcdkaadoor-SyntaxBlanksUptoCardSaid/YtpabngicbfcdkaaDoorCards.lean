/-
  DERIVED. GIVEN WITH THE SEED: THE CARDS: each row of YtpabngicbfcdkaaDoorRows.lean that lists a variable, with what it lists TIED to the program's text (the seventh form; the later family's looks); each row that meets fmt, with fmt's text TOLD by the authors' own Lean function (tested against real Go, not proved from fmt's source: count such statements apart). THE CARD IS WHAT COUNTS. Prove the row's statement (the work); the ties are given (YtpabngicbfcdkaaDoorTie.lean); close each card by the builder's one call (the guide's Derived/Test/ToyasCard.lean, 'card_holds'). Laid BY PROGRAM, IN A SANDBOX (cutbox-door.mjs). By AI agents, Wed Nov 11 2026. No macro, syntax, notation, axiom, sorry.
-/
import Derived.Test.YtpabngicbfcdkaaDoorRows
import GoSem.ClaimSeven
namespace Go.Proofs.YtpabngicbfcdkaaDoor
namespace Rows

/-- THE TIED CARD OF 'evergreenlaw54.SyntaxFormats'. -/
def syntaxFormatsCard : Claim7 := { stood := { row := syntaxFormatsRow, standIns := [], harness := (true, "b2a2f93c8eebfd97de3273aad4f0b3b6d0a4620790422dda2fa41ea43571c7cb"), looks := true }, kinds := [], alts := [], laidByText := true, laidKinds := [.data, .data, .data], laidTests := true, laidLooks := .later }
def SyntaxFormatsCardSaid : Prop := Claim7.holds Tryd.pinned (.plain (OpenSpec.ofChange syntaxFormatsSpec)) syntaxFormatsCard

/-- THE TIED CARD OF 'evergreenlaw54.SyntaxReturns'. -/
def syntaxReturnsCard : Claim7 := { stood := { row := syntaxReturnsRow, standIns := [], harness := (true, "b2a2f93c8eebfd97de3273aad4f0b3b6d0a4620790422dda2fa41ea43571c7cb"), looks := true }, kinds := [], alts := [], laidByText := true, laidKinds := [.data, .data, .data], laidTests := true, laidLooks := .later }
def SyntaxReturnsCardSaid : Prop := Claim7.holds Tryd.pinned (.plain (OpenSpec.ofChange syntaxReturnsSpec)) syntaxReturnsCard

/-- THE TIED CARD OF 'evergreenlaw54.SyntaxStable'. -/
def syntaxStableCard : Claim7 := { stood := { row := syntaxStableRow, standIns := [], harness := (true, "b2a2f93c8eebfd97de3273aad4f0b3b6d0a4620790422dda2fa41ea43571c7cb"), looks := true }, kinds := [], alts := [], laidByText := true, laidKinds := [.data, .data, .data], laidTests := true, laidLooks := .later }
def SyntaxStableCardSaid : Prop := Claim7.holds Tryd.pinned (.plain (OpenSpec.ofChange syntaxStableSpec)) syntaxStableCard

/-- THE TIED CARD OF 'evergreenlaw54.SyntaxLeast'. -/
def syntaxLeastCard : Claim7 := { stood := { row := syntaxLeastRow, standIns := [], harness := (true, "b2a2f93c8eebfd97de3273aad4f0b3b6d0a4620790422dda2fa41ea43571c7cb"), looks := true }, kinds := [], alts := [], laidByText := true, laidKinds := [.data, .data, .data], laidTests := true, laidLooks := .later }
def SyntaxLeastCardSaid : Prop := Claim7.holds Tryd.pinned (.plain (OpenSpec.ofChange syntaxLeastSpec)) syntaxLeastCard

/-- THE TIED CARD OF 'evergreenlaw54.SyntaxBlanks'. -/
def syntaxBlanksCard : Claim7 := { stood := { row := syntaxBlanksRow, standIns := [], harness := (true, "b2a2f93c8eebfd97de3273aad4f0b3b6d0a4620790422dda2fa41ea43571c7cb"), looks := true }, kinds := [], alts := [], laidByText := true, laidKinds := [.data, .data, .data], laidTests := true, laidLooks := .later }
def SyntaxBlanksCardSaid : Prop := Claim7.holds Tryd.pinned (.plain (OpenSpec.ofChange syntaxBlanksSpec)) syntaxBlanksCard

/-- THE SECOND FORM's CARD OF 'evergreenlaw54.SyntaxFormats'. -/
def syntaxFormatsUptoCard : Claim7 := { stood := { row := syntaxFormatsUptoRow, standIns := [], harness := (true, "b2a2f93c8eebfd97de3273aad4f0b3b6d0a4620790422dda2fa41ea43571c7cb"), looks := true }, kinds := [], alts := [], laidByText := true, laidKinds := [.data, .data, .data], laidTests := true, laidLooks := .later }
def SyntaxFormatsUptoCardSaid : Prop := Claim7.holds Tryd.pinned (.plain (OpenSpec.upto syntaxFormatsSpec)) syntaxFormatsUptoCard

/-- THE SECOND FORM's CARD OF 'evergreenlaw54.SyntaxReturns'. -/
def syntaxReturnsUptoCard : Claim7 := { stood := { row := syntaxReturnsUptoRow, standIns := [], harness := (true, "b2a2f93c8eebfd97de3273aad4f0b3b6d0a4620790422dda2fa41ea43571c7cb"), looks := true }, kinds := [], alts := [], laidByText := true, laidKinds := [.data, .data, .data], laidTests := true, laidLooks := .later }
def SyntaxReturnsUptoCardSaid : Prop := Claim7.holds Tryd.pinned (.plain (OpenSpec.upto syntaxReturnsSpec)) syntaxReturnsUptoCard

/-- THE SECOND FORM's CARD OF 'evergreenlaw54.SyntaxStable'. -/
def syntaxStableUptoCard : Claim7 := { stood := { row := syntaxStableUptoRow, standIns := [], harness := (true, "b2a2f93c8eebfd97de3273aad4f0b3b6d0a4620790422dda2fa41ea43571c7cb"), looks := true }, kinds := [], alts := [], laidByText := true, laidKinds := [.data, .data, .data], laidTests := true, laidLooks := .later }
def SyntaxStableUptoCardSaid : Prop := Claim7.holds Tryd.pinned (.plain (OpenSpec.upto syntaxStableSpec)) syntaxStableUptoCard

/-- THE SECOND FORM's CARD OF 'evergreenlaw54.SyntaxLeast'. -/
def syntaxLeastUptoCard : Claim7 := { stood := { row := syntaxLeastUptoRow, standIns := [], harness := (true, "b2a2f93c8eebfd97de3273aad4f0b3b6d0a4620790422dda2fa41ea43571c7cb"), looks := true }, kinds := [], alts := [], laidByText := true, laidKinds := [.data, .data, .data], laidTests := true, laidLooks := .later }
def SyntaxLeastUptoCardSaid : Prop := Claim7.holds Tryd.pinned (.plain (OpenSpec.upto syntaxLeastSpec)) syntaxLeastUptoCard

/-- THE SECOND FORM's CARD OF 'evergreenlaw54.SyntaxBlanks'. -/
def syntaxBlanksUptoCard : Claim7 := { stood := { row := syntaxBlanksUptoRow, standIns := [], harness := (true, "b2a2f93c8eebfd97de3273aad4f0b3b6d0a4620790422dda2fa41ea43571c7cb"), looks := true }, kinds := [], alts := [], laidByText := true, laidKinds := [.data, .data, .data], laidTests := true, laidLooks := .later }
def SyntaxBlanksUptoCardSaid : Prop := Claim7.holds Tryd.pinned (.plain (OpenSpec.upto syntaxBlanksSpec)) syntaxBlanksUptoCard
end Rows
end Go.Proofs.YtpabngicbfcdkaaDoor
