/-
  signed numbers: TakeInt, PutInt and the reference's Back and Zigzag.
-/
import Derived.Test.YtjibameejjfdjaaVPut
import Derived.Lib.Zigzag
namespace Go.Proofs.Ytjibameejjfdjaa
open Go.RowKit

/-- the signed number of an unsigned one -/
def back (v : Int) : Int := if v % 2 = 0 then v / 2 else -(v / 2) - 1

theorem back_even {v : Int} (h : v % 2 = 0) : back v = v / 2 := by rw [back, if_pos h]
theorem back_odd {v : Int} (h : v % 2 = 1) : back v = -(v / 2) - 1 := by rw [back, if_neg (by omega)]

theorem takeInt_none (a : Option Addr) (n c : Nat) (l : List Int) (w : World) (hr : Rd w .u8 a n l) (h : tk l = none) :
    Calls Try.prog 18 #[.slice a n c] w fun e w' => e = .returned (.tuple #[.int .i64 0, .int .i64 0, .iface 52 (.int .i64 4)]) ∧ w = w' := by
  have H := Lib.hid (take_none a n c l w hr h)
  clear h hr
  have hne : ∀ w, (binOp .neq 25 (.iface 52 (.int .i64 4)) .nilIface).run Try.prog w = .ok (.bool true) w := fun w => by kernel_rfl
  go_enter Try.func18, Try.ntmps18
  go_wp2_with fail
  refine H.out.mono ?_
  rintro e w' ⟨rfl, rfl⟩
  go_wp2
  go_ret3
  exact ⟨rfl, rfl⟩

theorem takeInt_some (a : Option Addr) (n c : Nat) (l : List Int) (w : World) (hr : Rd w .u8 a n l) (v : Int) (u : Nat) (h : tk l = some (v, u)) (h0 : 0 ≤ v) (h1 : v ≤ 18446744073709551615) :
    Calls Try.prog 18 #[.slice a n c] w fun e w' => e = .returned (.tuple #[.int .i64 (back v), .int .i64 u, .nilIface]) ∧ w = w' := by
  have H := Lib.hid (take_some a n c l w hr v u h)
  clear h hr
  by_cases hv : v % 2 = 1
  · have HB := Lib.hid (back_odd hv)
    have hv2 : (v % 2 == 1) = true := by simpa using hv
    clear hv
    go_enter Try.func18, Try.ntmps18
    go_wp2_with fail
    refine H.out.mono ?_
    rintro e w' ⟨rfl, rfl⟩
    go_wp2
    go_ret3
    exact ⟨ret_eq (by rw [HB.out]; rfl), rfl⟩
  · have HB := Lib.hid (back_even (v := v) (by omega))
    have hv2 : (v % 2 == 1) = false := by simpa using hv
    clear hv
    go_enter Try.func18, Try.ntmps18
    go_wp2_with fail
    refine H.out.mono ?_
    rintro e w' ⟨rfl, rfl⟩
    go_wp2
    go_ret3
    exact ⟨ret_eq (by rw [HB.out]; rfl), rfl⟩

theorem refBack_any (v : Int) (w : World) (h0 : 0 ≤ v) (h1 : v ≤ 18446744073709551615) :
    Calls Try.prog 19 #[.int .u64 v] w fun e w' => e = .returned (.int .i64 (back v)) ∧ w = w' := by
  by_cases hv : v % 2 = 0
  · have HB := Lib.hid (back_even hv)
    have hv2 : (v % 2 == 0) = true := by simpa using hv
    clear hv
    go_enter Try.func19, Try.ntmps19
    go_wp2
    go_ret
    exact ⟨ret_eq (by rw [HB.out]; rfl), rfl⟩
  · have HB := Lib.hid (back_odd (v := v) (by omega))
    have hv2 : (v % 2 == 0) = false := by simpa using hv
    clear hv
    go_enter Try.func19, Try.ntmps19
    go_wp2
    go_ret
    exact ⟨ret_eq (by rw [HB.out]; rfl), rfl⟩

/-- the unsigned number of a signed one -/
def zig (n : Int) : Int := if 0 ≤ n then 2 * n else -2 * n - 1

theorem zig_bd {n : Int} (h0 : -9223372036854775808 ≤ n) (h1 : n ≤ 9223372036854775807) : 0 ≤ zig n ∧ zig n ≤ 18446744073709551615 := by
  unfold zig; split <;> omega

theorem back_zig (n : Int) : back (zig n) = n := by
  unfold zig
  split
  · rw [back_even (by omega)]; omega
  · rw [back_odd (by omega)]; omega

theorem refZig_any (n : Int) (w : World) (h0 : -9223372036854775808 ≤ n) (h1 : n ≤ 9223372036854775807) :
    Calls Try.prog 26 #[.int .i64 n] w fun e w' => e = .returned (.int .u64 (zig n)) ∧ w = w' := by
  by_cases hn : 0 ≤ n
  · go_enter Try.func26, Try.ntmps26
    go_wp2
    go_ret
    refine ⟨ret_eq ?_, rfl⟩
    unfold zig; rw [if_pos hn]
    simp <;> omega
  · go_enter Try.func26, Try.ntmps26
    go_wp2
    go_ret
    refine ⟨ret_eq ?_, rfl⟩
    unfold zig; rw [if_neg (by omega)]
    simp [IntKind.wrap_u64] <;> omega

end Go.Proofs.Ytjibameejjfdjaa
