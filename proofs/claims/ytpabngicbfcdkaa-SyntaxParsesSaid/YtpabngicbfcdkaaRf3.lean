/-
  The reference's list of signs.
-/
import Derived.Test.YtpabngicbfcdkaaRf2
namespace Go.Proofs.Ytpabngicbfcdkaa
open Go.RowKit
set_option linter.unusedVariables false
set_option linter.unusedSimpArgs false

/-- the signs, longer ones first -/
def signL : List (List Nat) := [[43, 43], [61, 61], [33, 61], [60, 61], [43], [45], [42], [60], [40], [41], [91], [93], [58], [44]]

set_option maxRecDepth 100000 in
theorem signs_any (w : World) : Calls Try.prog 38 #[] w fun e w' => e = .returned (.slice (some ⟨w.heap.size, 0, none⟩) 14 14) ∧
    w' = w.alloc (.cells #[.string ⟨#[43, 43]⟩, .string ⟨#[61, 61]⟩, .string ⟨#[33, 61]⟩, .string ⟨#[60, 61]⟩, .string ⟨#[43]⟩, .string ⟨#[45]⟩, .string ⟨#[42]⟩, .string ⟨#[60]⟩, .string ⟨#[40]⟩, .string ⟨#[41]⟩, .string ⟨#[91]⟩, .string ⟨#[93]⟩, .string ⟨#[58]⟩, .string ⟨#[44]⟩] 9) := by
  go_enter Try.func38, Try.ntmps38
  go_wp2
  go_ret
  exact ⟨rfl, rfl⟩

end Go.Proofs.Ytpabngicbfcdkaa
