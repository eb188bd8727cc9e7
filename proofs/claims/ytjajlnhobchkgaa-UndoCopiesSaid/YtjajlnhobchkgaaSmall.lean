/-
  small functions that all statements share: Num, Is, Bytes, Ints; errors as values.
-/
import Derived.Test.YtjajlnhobchkgaaBase
import Derived.Deep.QuietTactic
import Derived.BigQuiet
namespace Go.Proofs.Ytjajlnhobchkgaa
open Go.RowKit
set_option linter.unusedVariables false
set_option linter.unusedSimpArgs false

/-- an error code as an error; 0: nil -/
def errV (k : Int) : Value := if k = 0 then .nilIface else .iface 46 (.int .i64 k)

theorem num_nil (w : World) : Calls Try.prog 40 #[.nilIface] w fun e w' => e = .returned (.int .i64 0) ∧ w = w' := by
  go_enter Try.func40, Try.ntmps40
  go_wp2
  go_ret
  exact ⟨rfl, rfl⟩

theorem num_errno (n : Int) (w : World) : Calls Try.prog 40 #[.iface 46 (.int .i64 n)] w fun e w' => e = .returned (.int .i64 n) ∧ w = w' := by
  have ht : ∀ w, (Instr.typeAssert (.iface 46 (.int .i64 n)) 28 46 true).run Try.prog w = .ok (.tuple #[.int .i64 n, .bool true]) w := fun w => by kernel_rfl
  go_enter Try.func40, Try.ntmps40
  go_wp2
  go_ret
  exact ⟨rfl, rfl⟩

theorem num_errV (k : Int) (w : World) : Calls Try.prog 40 #[errV k] w fun e w' => e = .returned (.int .i64 k) ∧ w = w' := by
  unfold errV
  by_cases h : k = 0
  · rw [if_pos h, h]; exact num_nil w
  · rw [if_neg h]; exact num_errno k w

theorem is_errno (k : Int) (hk : (k != 0) = true) (w : World) : Calls Try.prog 18 #[.iface 46 (.int .i64 k), .int .i64 k] w fun e w' => e = .returned (.bool true) ∧ w = w' := by
  go_enter Try.func18, Try.ntmps18
  go_wp2_with fail
  refine (num_errno _ _).mono ?_
  rintro e w' ⟨rfl, rfl⟩
  go_wp2
  go_ret
  exact ⟨ret_eq (by simp), rfl⟩

theorem getD_ne {l l2 : List Int} (h : l.length = l2.length) (hne : l ≠ l2) : ∃ i, i < l.length ∧ l.getD i 0 ≠ l2.getD i 0 := by
  refine Classical.byContradiction fun hc => hne (List.ext_getElem h fun i h1 h2 => ?_)
  have := Classical.not_not.1 fun hh => hc ⟨i, h1, hh⟩
  simpa [List.getD, h1, h2] using this

theorem bdrewN {B : Nat} {a w : World} (h : Below B a w) (n : Nat) : Below B a (w.drewN n) := ⟨h.os, h.tape, h.output, h.size, h.block⟩

set_option maxHeartbeats 1000000 in
theorem ints_any (a a2 : Option Addr) (n n2 c c2 : Nat) (l l2 : List Int) (w : World) (hr : Rd w .i64 a n l) (hr2 : Rd w .i64 a2 n2 l2) :
    Calls Try.prog 20 #[.slice a n c, .slice a2 n2 c2] w fun e w' => e = .returned (.bool (decide (l = l2))) ∧ Below w.heap.size w w' := by
  have HR := Lib.hid hr
  have HR2 := Lib.hid hr2
  have hmx := hr.max
  have HL := Lib.hid hr.len
  have HL2 := Lib.hid hr2.len
  by_cases hn : n = n2
  · subst hn
    clear hr hr2
    go_enter Try.func20, Try.ntmps20
    go_wp2
    go_loopw [5] (fun iv wr => ∃ i : Nat, i ≤ n ∧ iv = .int .i64 i ∧ (∀ j, j < i → l.getD j 0 = l2.getD j 0) ∧ Below w.heap.size w wr) (fun iv _ => n - (intOf iv).toNat)
    case atStart => exact ⟨0, by omega, rfl, fun j hj => by omega, Below.refl _ _⟩
    case round =>
      obtain ⟨i, hi, rfl, heq, hbl⟩ := hrel
      have HEQ := Lib.hid heq
      have HBL := Lib.hid hbl
      clear heq hbl
      by_cases hlt : i < n
      · obtain ⟨b1, o1, rfl, h1⟩ := (HR.out.below HBL.out).cell i hlt
        obtain ⟨b2, o2, rfl, h2⟩ := (HR2.out.below HBL.out).cell i hlt
        have hi1 : (i : Int) < (n : Int) := by omega
        have hi0 : (0 : Int) ≤ (i : Int) := by omega
        by_cases hne : l.getD i 0 = l2.getD i 0
        · have HN := Lib.hid hne
          rw [hne] at h1
          clear hne
          generalize l2.getD i 0 = z at h1 h2
          go_wp2
          go_quiet (fail)
          go_wp2
          go_roundw
          case rel => exact ⟨i + 1, by omega, by go_num, fun j hj => (by
            by_cases hji : j < i
            · exact HEQ.out j hji
            · have : j = i := by omega
              subst this; exact HN.out), bdrewN HBL.out _⟩
          case measure => simp [intOf]; omega
        · have HE : Hid (decide (l = l2) = false) := Lib.hid (by simp; intro h; rw [h] at hne; exact hne rfl)
          generalize l.getD i 0 = y at *
          generalize l2.getD i 0 = z at *
          have hyz : (y != z) = true := by simpa using hne
          clear hne
          go_wp2
          go_quiet (fail)
          go_wp2
          go_ret
          exact ⟨ret_eq (by rw [HE.out]; rfl), bdrewN HBL.out _⟩
      · have HE : Hid (decide (l = l2) = true) := Lib.hid (by
          simp
          refine Classical.byContradiction fun hc => ?_
          obtain ⟨j, hj, hn⟩ := getD_ne (by rw [HL.out, HL2.out]) hc
          exact hn (HEQ.out j (by rw [HL.out] at hj; omega)))
        go_wp2
        go_ret
        exact ⟨ret_eq (by rw [HE.out]; rfl), HBL.out⟩
  · have HE : Hid (decide (l = l2) = false) := Lib.hid (by simp; intro h; rw [h, HL2.out] at HL; exact hn HL.out.symm)
    clear hr hr2
    go_enter Try.func20, Try.ntmps20
    go_wp2
    go_ret
    exact ⟨ret_eq (by rw [HE.out]; rfl), Below.refl _ _⟩

end Go.Proofs.Ytjajlnhobchkgaa
