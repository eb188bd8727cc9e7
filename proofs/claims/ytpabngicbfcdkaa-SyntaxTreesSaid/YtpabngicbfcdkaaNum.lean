/-
  small functions that all statements share: Num, Is; errors as values.
-/
import Derived.Test.YtpabngicbfcdkaaBase
import Derived.Deep.QuietTactic
import Derived.BigQuiet
namespace Go.Proofs.Ytpabngicbfcdkaa
open Go.RowKit
set_option linter.unusedVariables false
set_option linter.unusedSimpArgs false

/-- an error code as an error; 0: nil -/
def errV (k : Int) : Value := if k = 0 then .nilIface else .iface 47 (.int .i64 k)

theorem num_nil (w : World) : Calls Try.prog 10 #[.nilIface] w fun e w' => e = .returned (.int .i64 0) ∧ w = w' := by
  go_enter Try.func10, Try.ntmps10
  go_wp2
  go_ret
  exact ⟨rfl, rfl⟩

theorem num_errno (n : Int) (w : World) : Calls Try.prog 10 #[.iface 47 (.int .i64 n)] w fun e w' => e = .returned (.int .i64 n) ∧ w = w' := by
  have ht : ∀ w, (Instr.typeAssert (.iface 47 (.int .i64 n)) 24 47 true).run Try.prog w = .ok (.tuple #[.int .i64 n, .bool true]) w := fun w => by kernel_rfl
  go_enter Try.func10, Try.ntmps10
  go_wp2
  go_ret
  exact ⟨rfl, rfl⟩

theorem num_errV (k : Int) (w : World) : Calls Try.prog 10 #[errV k] w fun e w' => e = .returned (.int .i64 k) ∧ w = w' := by
  unfold errV
  by_cases h : k = 0
  · rw [if_pos h, h]; exact num_nil w
  · rw [if_neg h]; exact num_errno k w

theorem is_errno (k : Int) (hk : (k != 0) = true) (w : World) : Calls Try.prog 15 #[.iface 47 (.int .i64 k), .int .i64 k] w fun e w' => e = .returned (.bool true) ∧ w = w' := by
  go_enter Try.func15, Try.ntmps15
  go_wp2_with fail
  refine (num_errno _ _).mono ?_
  rintro e w' ⟨rfl, rfl⟩
  go_wp2
  go_ret
  exact ⟨ret_eq (by simp), rfl⟩


theorem bdrewN {B : Nat} {a w : World} (h : Below B a w) (n : Nat) : Below B a (w.drewN n) := ⟨h.os, h.tape, h.output, h.size, h.block⟩

end Go.Proofs.Ytpabngicbfcdkaa
