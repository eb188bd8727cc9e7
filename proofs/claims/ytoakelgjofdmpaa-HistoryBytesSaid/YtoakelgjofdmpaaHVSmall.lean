/-
  bytes: their type; Bytes of equal lists.
-/
import Derived.Test.YtoakelgjofdmpaaVTake
import Derived.Test.YtoakelgjofdmpaaSmall
namespace Go.Proofs.Ytoakelgjofdmpaa
open Go.RowKit
set_option linter.unusedVariables false
set_option linter.unusedSimpArgs false

theorem E8 : Elt Try.prog 66 5 .u8 1 := ⟨Try.underlying66, info_parts (by kernel_rfl)⟩

theorem bytes_eq (a a2 : Option Addr) (n n2 c c2 : Nat) (l : List Int) (w : World) (hr : Rd w .u8 a n l) (hr2 : Rd w .u8 a2 n2 l) :
    Calls Try.prog 37 #[.slice a n c, .slice a2 n2 c2] w fun e w' => e = .returned (.bool true) ∧ w = w' := by
  have h1 := run_str (P := Try.prog) w c hr rfl 66 9 _ Try.underlying66 Try.underlying5 Try.underlying9
  have h2 := run_str (P := Try.prog) w c2 hr2 rfl 66 9 _ Try.underlying66 Try.underlying5 Try.underlying9
  generalize strOfNums l = s at *
  clear hr hr2
  go_enter Try.func37, Try.ntmps37
  go_wp2
  go_ret
  exact ⟨ret_eq (by simp), rfl⟩

end Go.Proofs.Ytoakelgjofdmpaa
