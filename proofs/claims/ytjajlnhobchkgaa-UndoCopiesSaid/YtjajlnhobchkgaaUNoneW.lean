/-
  what the methods return on a nil tree; the walk of UndoNone.
-/
import Derived.Test.YtjajlnhobchkgaaUMeth
namespace Go.Proofs.Ytjajlnhobchkgaa
open Go.RowKit
set_option linter.unusedVariables false
set_option linter.unusedSimpArgs false

theorem acell {w : World} {xs : Array Value} {e : TypeId} {i z : Nat} {v : Value} (hz : w.heap.size = z) (h : xs[i]? = some v) : (w.alloc (.cells xs e)).cell? ⟨z, i, none⟩ = some v := by
  subst hz; rw [World.cell?_alloc_new]; exact h

theorem nil_check (n : Int) (w : World) : Calls Try.prog 41 #[.pointer none, .int .i64 n] w fun e w' => e = .returned (.iface 46 (.int .i64 5)) ∧ w = w' := by
  go_enter Try.func41, Try.ntmps41
  go_wp2_with fail
  refine (none_nil _).mono ?_
  rintro e w' ⟨rfl, rfl⟩
  go_wp2
  go_ret
  exact ⟨rfl, rfl⟩

set_option maxRecDepth 100000 in
theorem nil_Text (n : Int) (w : World) : Calls Try.prog 29 #[.pointer none, .int .i64 n] w fun e w' => e = .returned (.tuple #[.int .i64 0, .iface 46 (.int .i64 5)]) ∧ w = w' := by
  have hne : ∀ w, (binOp .neq 28 (.iface 46 (.int .i64 5)) .nilIface).run Try.prog w = .ok (.bool true) w := fun w => by kernel_rfl
  go_enter Try.func29, Try.ntmps29
  go_wp2_with fail
  refine (nil_check _ _).mono ?_
  rintro e w' ⟨rfl, rfl⟩
  go_wp2
  go_ret2
  exact ⟨rfl, rfl⟩

set_option maxRecDepth 100000 in
theorem nil_Parent (n : Int) (w : World) : Calls Try.prog 22 #[.pointer none, .int .i64 n] w fun e w' => e = .returned (.tuple #[.int .i64 0, .iface 46 (.int .i64 5)]) ∧ w = w' := by
  have hne : ∀ w, (binOp .neq 28 (.iface 46 (.int .i64 5)) .nilIface).run Try.prog w = .ok (.bool true) w := fun w => by kernel_rfl
  go_enter Try.func22, Try.ntmps22
  go_wp2_with fail
  refine (nil_check _ _).mono ?_
  rintro e w' ⟨rfl, rfl⟩
  go_wp2
  go_ret2
  exact ⟨rfl, rfl⟩

set_option maxRecDepth 100000 in
theorem nil_Children (n : Int) (w : World) : Calls Try.prog 24 #[.pointer none, .int .i64 n] w fun e w' => e = .returned (.tuple #[.slice none 0 0, .iface 46 (.int .i64 5)]) ∧ w = w' := by
  have hne : ∀ w, (binOp .neq 28 (.iface 46 (.int .i64 5)) .nilIface).run Try.prog w = .ok (.bool true) w := fun w => by kernel_rfl
  go_enter Try.func24, Try.ntmps24
  go_wp2_with fail
  refine (nil_check _ _).mono ?_
  rintro e w' ⟨rfl, rfl⟩
  go_wp2
  go_ret2
  exact ⟨rfl, rfl⟩

set_option maxRecDepth 100000 in
theorem nil_Path (n : Int) (w : World) : Calls Try.prog 23 #[.pointer none, .int .i64 n] w fun e w' => e = .returned (.tuple #[.slice none 0 0, .iface 46 (.int .i64 5)]) ∧ w = w' := by
  have hne : ∀ w, (binOp .neq 28 (.iface 46 (.int .i64 5)) .nilIface).run Try.prog w = .ok (.bool true) w := fun w => by kernel_rfl
  go_enter Try.func23, Try.ntmps23
  go_wp2_with fail
  refine (nil_check _ _).mono ?_
  rintro e w' ⟨rfl, rfl⟩
  go_wp2
  go_ret2
  exact ⟨rfl, rfl⟩

set_option maxRecDepth 100000 in
theorem nil_Between (n m : Int) (w : World) : Calls Try.prog 16 #[.pointer none, .int .i64 n, .int .i64 m] w fun e w' => e = .returned (.tuple #[.slice none 0 0, .slice none 0 0, .iface 46 (.int .i64 5)]) ∧ w = w' := by
  have hne : ∀ w, (binOp .neq 28 (.iface 46 (.int .i64 5)) .nilIface).run Try.prog w = .ok (.bool true) w := fun w => by kernel_rfl
  go_enter Try.func16, Try.ntmps16
  go_wp2_with fail
  refine (nil_check _ _).mono ?_
  rintro e w' ⟨rfl, rfl⟩
  go_wp2
  go_ret3
  exact ⟨rfl, rfl⟩

set_option maxRecDepth 100000 in
theorem nil_Do (n : Int) (w : World) : Calls Try.prog 30 #[.pointer none, .int .i64 n] w fun e w' => e = .returned (.int .i64 0) ∧ w = w' := by
  have hne : ∀ w, (binOp .neq 28 (.iface 46 (.int .i64 5)) .nilIface).run Try.prog w = .ok (.bool true) w := fun w => by kernel_rfl
  go_enter Try.func30, Try.ntmps30
  go_wp2_with fail
  refine (none_nil _).mono ?_
  rintro e w' ⟨rfl, rfl⟩
  go_wp2
  go_ret
  exact ⟨rfl, rfl⟩

set_option maxRecDepth 100000 in
theorem nil_Now (w : World) : Calls Try.prog 9 #[.pointer none] w fun e w' => e = .returned (.int .i64 0) ∧ w = w' := by
  have hne : ∀ w, (binOp .neq 28 (.iface 46 (.int .i64 5)) .nilIface).run Try.prog w = .ok (.bool true) w := fun w => by kernel_rfl
  go_enter Try.func9, Try.ntmps9
  go_wp2_with fail
  refine (none_nil _).mono ?_
  rintro e w' ⟨rfl, rfl⟩
  go_wp2
  go_ret
  exact ⟨rfl, rfl⟩

set_option maxRecDepth 100000 in
theorem nil_Len (w : World) : Calls Try.prog 21 #[.pointer none] w fun e w' => e = .returned (.int .i64 0) ∧ w = w' := by
  have hne : ∀ w, (binOp .neq 28 (.iface 46 (.int .i64 5)) .nilIface).run Try.prog w = .ok (.bool true) w := fun w => by kernel_rfl
  go_enter Try.func21, Try.ntmps21
  go_wp2_with fail
  refine (none_nil _).mono ?_
  rintro e w' ⟨rfl, rfl⟩
  go_wp2
  go_ret
  exact ⟨rfl, rfl⟩

set_option maxRecDepth 100000 in
theorem nil_Texts (w : World) : Calls Try.prog 31 #[.pointer none] w fun e w' => e = .returned (.slice none 0 0) ∧ w = w' := by
  have hne : ∀ w, (binOp .neq 28 (.iface 46 (.int .i64 5)) .nilIface).run Try.prog w = .ok (.bool true) w := fun w => by kernel_rfl
  go_enter Try.func31, Try.ntmps31
  go_wp2_with fail
  refine (none_nil _).mono ?_
  rintro e w' ⟨rfl, rfl⟩
  go_wp2
  go_ret
  exact ⟨rfl, rfl⟩

set_option maxRecDepth 100000 in
theorem nil_Copy (w : World) : Calls Try.prog 26 #[.pointer none] w fun e w' => e = .returned (.pointer none) ∧ w = w' := by
  have hne : ∀ w, (binOp .neq 28 (.iface 46 (.int .i64 5)) .nilIface).run Try.prog w = .ok (.bool true) w := fun w => by kernel_rfl
  go_enter Try.func26, Try.ntmps26
  go_wp2_with fail
  refine (none_nil _).mono ?_
  rintro e w' ⟨rfl, rfl⟩
  go_wp2
  go_ret
  exact ⟨rfl, rfl⟩

set_option maxRecDepth 100000 in
theorem nil_Undo (w : World) : Calls Try.prog 10 #[.pointer none] w fun e w' => e = .returned (.iface 46 (.int .i64 5)) ∧ w = w' := by
  have hne : ∀ w, (binOp .neq 28 (.iface 46 (.int .i64 5)) .nilIface).run Try.prog w = .ok (.bool true) w := fun w => by kernel_rfl
  go_enter Try.func10, Try.ntmps10
  go_wp2_with fail
  refine (none_nil _).mono ?_
  rintro e w' ⟨rfl, rfl⟩
  go_wp2
  go_ret
  exact ⟨rfl, rfl⟩

set_option maxRecDepth 100000 in
theorem nil_Redo (w : World) : Calls Try.prog 11 #[.pointer none] w fun e w' => e = .returned (.iface 46 (.int .i64 5)) ∧ w = w' := by
  have hne : ∀ w, (binOp .neq 28 (.iface 46 (.int .i64 5)) .nilIface).run Try.prog w = .ok (.bool true) w := fun w => by kernel_rfl
  go_enter Try.func11, Try.ntmps11
  go_wp2_with fail
  refine (none_nil _).mono ?_
  rintro e w' ⟨rfl, rfl⟩
  go_wp2
  go_ret
  exact ⟨rfl, rfl⟩

set_option maxRecDepth 100000 in
theorem nil_RedoTo (n : Int) (w : World) : Calls Try.prog 32 #[.pointer none, .int .i64 n] w fun e w' => e = .returned (.iface 46 (.int .i64 5)) ∧ w = w' := by
  have hne : ∀ w, (binOp .neq 28 (.iface 46 (.int .i64 5)) .nilIface).run Try.prog w = .ok (.bool true) w := fun w => by kernel_rfl
  go_enter Try.func32, Try.ntmps32
  go_wp2_with fail
  refine (none_nil _).mono ?_
  rintro e w' ⟨rfl, rfl⟩
  go_wp2
  go_ret
  exact ⟨rfl, rfl⟩

set_option maxRecDepth 100000 in
theorem nil_Goto (n : Int) (w : World) : Calls Try.prog 25 #[.pointer none, .int .i64 n] w fun e w' => e = .returned (.iface 46 (.int .i64 5)) ∧ w = w' := by
  have hne : ∀ w, (binOp .neq 28 (.iface 46 (.int .i64 5)) .nilIface).run Try.prog w = .ok (.bool true) w := fun w => by kernel_rfl
  go_enter Try.func25, Try.ntmps25
  go_wp2_with fail
  refine (nil_check _ _).mono ?_
  rintro e w' ⟨rfl, rfl⟩
  go_wp2
  go_ret
  exact ⟨rfl, rfl⟩

set_option maxRecDepth 100000 in
set_option maxHeartbeats 4000000 in
theorem walk_UndoNone (id n : Int) (w : World) (_h1 : (Lit.int .i64 id).wf = true) (_h2 : (Lit.int .i64 n).wf = true) :
    Calls Try.prog 7 #[.int .i64 id, .int .i64 n] w fun e w' => e = .returned (.bool true) ∧ Below w.heap.size w w' := by
  have hp : ∀ w, (binOp .neq 23 (.pointer none) (.pointer none)).run Try.prog w = .ok (.bool false) w := fun w => by kernel_rfl
  go_enter Try.func7, Try.ntmps7
  go_wp2_with fail
  refine (alive_any _).mono ?_
  rintro e w1 ⟨rfl, hb1⟩
  have HB1 := Lib.hid hb1
  clear hb1
  go_wp2_with fail
  refine (nil_Text _ _).mono ?_
  rintro e w2 ⟨rfl, rfl⟩
  go_wp2_with fail
  refine (nil_Parent _ _).mono ?_
  rintro e w2 ⟨rfl, rfl⟩
  go_wp2_with fail
  refine (nil_Children _ _).mono ?_
  rintro e w2 ⟨rfl, rfl⟩
  go_wp2_with fail
  refine (nil_Path _ _).mono ?_
  rintro e w2 ⟨rfl, rfl⟩
  go_wp2_with fail
  refine (nil_Between _ _ _).mono ?_
  rintro e w2 ⟨rfl, rfl⟩
  go_wp2_with fail
  refine (nil_Do _ _).mono ?_
  rintro e w2 ⟨rfl, rfl⟩
  go_wp2_with fail
  refine (nil_Now _).mono ?_
  rintro e w2 ⟨rfl, rfl⟩
  go_wp2_with fail
  refine (nil_Len _).mono ?_
  rintro e w2 ⟨rfl, rfl⟩
  go_wp2_with fail
  refine (nil_Texts _).mono ?_
  rintro e w2 ⟨rfl, rfl⟩
  go_wp2_with fail
  refine (nil_Copy _).mono ?_
  rintro e w2 ⟨rfl, rfl⟩
  go_wp2_with fail
  refine (nil_Undo _).mono ?_
  rintro e w2 ⟨rfl, rfl⟩
  go_wp2_with fail
  refine (nil_Redo _).mono ?_
  rintro e w2 ⟨rfl, rfl⟩
  go_wp2_with fail
  refine (nil_RedoTo _ _).mono ?_
  rintro e w2 ⟨rfl, rfl⟩
  go_wp2_with fail
  refine (nil_Goto _ _).mono ?_
  rintro e w2 ⟨rfl, rfl⟩
  obtain ⟨w6, hw6⟩ : ∃ w6, w6 = w1.alloc (.cells #[.iface 46 (.int .i64 5), .iface 46 (.int .i64 5), .iface 46 (.int .i64 5), .iface 46 (.int .i64 5), .iface 46 (.int .i64 5), .iface 46 (.int .i64 5), .iface 46 (.int .i64 5), .iface 46 (.int .i64 5), .iface 46 (.int .i64 5)] 28) := ⟨_, rfl⟩
  have HC : Hid (∀ i, i < 9 → w6.cell? ⟨w1.heap.size, i, none⟩ = some (.iface 46 (.int .i64 5))) := Lib.hid (by
    intro i hi
    rw [hw6]
    rcases (show i = 0 ∨ i = 1 ∨ i = 2 ∨ i = 3 ∨ i = 4 ∨ i = 5 ∨ i = 6 ∨ i = 7 ∨ i = 8 by omega) with rfl | rfl | rfl | rfl | rfl | rfl | rfl | rfl | rfl <;> exact acell rfl rfl)
  have HB6 : Hid (Below w.heap.size w w6) := Lib.hid (by rw [hw6]; exact HB1.out.alloc HB1.out.size _)
  have HW6 := Lib.hid hw6
  clear hw6
  go_wp2
  rw [← HW6.out]
  go_loop [115] (fun iv => ∃ i : Nat, i ≤ 9 ∧ iv = .int .i64 i) (fun iv => 9 - (intOf iv).toNat)
  case atStart => exact ⟨0, by omega, rfl⟩
  case round =>
    obtain ⟨i, hi, rfl⟩ := hrel
    by_cases hlt : i < 9
    · have hc := HC.out i hlt
      go_wp2_with fail
      refine (is_errno 5 rfl _).mono ?_
      rintro e w7 ⟨rfl, rfl⟩
      clear hc
      go_wp2
      go_round
      case rel => exact ⟨i + 1, by omega, by go_num⟩
      case measure => simp [intOf]; omega
    · go_wp2
      go_ret
      exact ⟨rfl, HB6.out⟩

end Go.Proofs.Ytjajlnhobchkgaa
