/-
  small functions of the statements on varint: copied, Num, Bytes, awake.
-/
import Derived.Test.YtjibameejjfdjaaVTake
namespace Go.Proofs.Ytjibameejjfdjaa
open Go.RowKit

theorem E8 : Elt Try.prog 22 5 .u8 1 := ⟨Try.underlying22, info_parts (by kernel_rfl)⟩

set_option maxHeartbeats 400000 in
theorem copied_any (a : Option Addr) (n c : Nat) (l : List Int) (w : World) (hr : Rd w .u8 a n l) (hn : n ≤ 140737488355328) :
    Calls Try.prog 13 #[.slice a n c] w fun e w' => ∃ a' c', e = .returned (.slice a' n c') ∧ Own w' w.heap.size 5 .u8 (.slice a' n c') l ∧ Below w.heap.size w w' := by
  have HL := Lib.hid hr.len
  go_enter Try.func13, Try.ntmps13
  go_wp2_with (at_builtin; refine app_rd (.tmp 3) (.tmp 4) E8 rfl rfl w.heap.size _ [] rfl (Own.lits w .u8 _ [] _ (Nat.le_refl _) (by simp)) _ _ _ l rfl (hr.below (below_alloc _ _)) (by rw [HL.out]; simp; omega) (by omega) (by simp) ?_)
  intro a' c' w' ho hg
  have hb := grown_below (Own.lits w .u8 _ [] _ (Nat.le_refl _) (by simp)) hg (by simp)
  rw [HL.out] at ho ⊢
  have ho' := Lib.hid ho; clear ho
  have hb' := Lib.hid (Below.trans (below_alloc w _) hb); clear hb hg
  go_wp2
  go_ret
  exact ⟨a', c', rfl, ho'.out, hb'.out⟩

theorem num_nil (w : World) : Calls Try.prog 16 #[.nilIface] w fun e w' => e = .returned (.int .i64 0) ∧ w = w' := by
  go_enter Try.func16, Try.ntmps16
  go_wp2
  go_ret
  exact ⟨rfl, rfl⟩

theorem num_errno (n : Int) (w : World) : Calls Try.prog 16 #[.iface 52 (.int .i64 n)] w fun e w' => e = .returned (.int .i64 n) ∧ w = w' := by
  have ht : ∀ w, (Instr.typeAssert (.iface 52 (.int .i64 n)) 25 52 true).run Try.prog w = .ok (.tuple #[.int .i64 n, .bool true]) w := fun w => by kernel_rfl
  go_enter Try.func16, Try.ntmps16
  go_wp2
  go_ret
  exact ⟨rfl, rfl⟩

theorem bytes_eq (a a2 : Option Addr) (n n2 c c2 : Nat) (l : List Int) (w : World) (hr : Rd w .u8 a n l) (hr2 : Rd w .u8 a2 n2 l) :
    Calls Try.prog 22 #[.slice a n c, .slice a2 n2 c2] w fun e w' => e = .returned (.bool true) ∧ w = w' := by
  have h1 := run_str (P := Try.prog) w c hr rfl 22 9 _ Try.underlying22 Try.underlying5 Try.underlying9
  have h2 := run_str (P := Try.prog) w c2 hr2 rfl 22 9 _ Try.underlying22 Try.underlying5 Try.underlying9
  generalize strOfNums l = s at *
  clear hr hr2
  go_enter Try.func22, Try.ntmps22
  go_wp2
  go_ret
  exact ⟨ret_eq (by simp), rfl⟩

set_option maxHeartbeats 400000 in
theorem awake_any (w : World) : Calls Try.prog 15 #[] w fun e w' => e = .returned (.bool true) ∧ Below w.heap.size w w' := by
  have hk : tkV (tk [128, 1, 5]) = .tuple #[.int .u64 128, .int .i64 2, .nilIface] := by simp [tkV, tk, tkGo]
  have HK := Lib.hid hk; clear hk
  have hr := Rd.lits w .u8 5 [128, 1, 5] (by simp) (by decide)
  go_enter Try.func15, Try.ntmps15
  go_wp2_with fail
  refine (take_any _ _ _ [128, 1, 5] _ hr).mono ?_
  rintro e w' ⟨rfl, rfl⟩
  rw [HK.out]
  go_wp2
  go_ret
  exact ⟨rfl, below_alloc _ _⟩

end Go.Proofs.Ytjibameejjfdjaa
