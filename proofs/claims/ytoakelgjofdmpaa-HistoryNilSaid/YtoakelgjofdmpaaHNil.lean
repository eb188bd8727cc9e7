/-
  what the methods return on a nil graph.
-/
import Derived.Test.YtoakelgjofdmpaaHAlive
namespace Go.Proofs.Ytoakelgjofdmpaa
open Go.RowKit

set_option maxRecDepth 100000 in
theorem nil_add (v : Value) (t : Int) (s : ByteArray) (w : World) : Calls Try.prog 21 #[.pointer none, .agg #[v, .int .i64 t, .string s]] w fun e w' => e = .returned (.tuple #[.int .i64 0, .iface 63 (.int .i64 5)]) ∧ Below w.heap.size w w' := by
  go_enter Try.func21, Try.ntmps21
  go_wp2
  go_ret2
  exact ⟨rfl, below_alloc _ _⟩

set_option maxRecDepth 100000 in
theorem nil_get (n : Int) (w : World) : Calls Try.prog 14 #[.pointer none, .int .i64 n] w fun e w' => e = .returned (.tuple #[.agg #[.slice none 0 0, .int .i64 0, .string ⟨#[]⟩], .iface 63 (.int .i64 5)]) ∧ Below w.heap.size w w' := by
  go_enter Try.func14, Try.ntmps14
  go_wp2
  exact bodyPost_ret (v := .tuple #[.agg #[.slice none 0 0, .int .i64 0, .string ⟨#[]⟩], .iface 63 (.int .i64 5)]) (by simp [results, Try.results14, go_sem]) rfl ⟨rfl, below_alloc _ _⟩

set_option maxRecDepth 100000 in
theorem nil_anc (n : Int) (w : World) : Calls Try.prog 28 #[.pointer none, .int .i64 n] w fun e w' => e = .returned (.tuple #[.slice none 0 0, .iface 63 (.int .i64 5)]) ∧ w = w' := by
  go_enter Try.func28, Try.ntmps28
  go_wp2
  go_ret2
  exact ⟨rfl, rfl⟩

set_option maxRecDepth 100000 in
theorem nil_bef (n m : Int) (w : World) : Calls Try.prog 19 #[.pointer none, .int .i64 n, .int .i64 m] w fun e w' => e = .returned (.tuple #[.bool false, .iface 63 (.int .i64 5)]) ∧ w = w' := by
  go_enter Try.func19, Try.ntmps19
  go_wp2
  go_ret2
  exact ⟨rfl, rfl⟩

set_option maxRecDepth 100000 in
theorem nil_bas (n m : Int) (w : World) : Calls Try.prog 16 #[.pointer none, .int .i64 n, .int .i64 m] w fun e w' => e = .returned (.tuple #[.slice none 0 0, .iface 63 (.int .i64 5)]) ∧ w = w' := by
  go_enter Try.func16, Try.ntmps16
  go_wp2
  go_ret2
  exact ⟨rfl, rfl⟩

set_option maxRecDepth 100000 in
theorem nil_line (n : Int) (w : World) : Calls Try.prog 29 #[.pointer none, .int .i64 n] w fun e w' => e = .returned (.tuple #[.slice none 0 0, .iface 63 (.int .i64 5)]) ∧ w = w' := by
  go_enter Try.func29, Try.ntmps29
  go_wp2
  go_ret2
  exact ⟨rfl, rfl⟩

set_option maxRecDepth 100000 in
theorem nil_keep (a : Option Addr) (n c : Nat) (w : World) : Calls Try.prog 25 #[.pointer none, .slice a n c] w fun e w' => e = .returned (.tuple #[.pointer none, .slice none 0 0, .iface 63 (.int .i64 5)]) ∧ w = w' := by
  go_enter Try.func25, Try.ntmps25
  go_wp2
  go_ret3
  exact ⟨rfl, rfl⟩

set_option maxRecDepth 100000 in
theorem nil_len (w : World) : Calls Try.prog 13 #[.pointer none] w fun e w' => e = .returned (.int .i64 0) ∧ w = w' := by
  go_enter Try.func13, Try.ntmps13
  go_wp2
  go_ret
  exact ⟨rfl, rfl⟩

set_option maxRecDepth 100000 in
theorem nil_heads (w : World) : Calls Try.prog 23 #[.pointer none] w fun e w' => e = .returned (.slice none 0 0) ∧ w = w' := by
  go_enter Try.func23, Try.ntmps23
  go_wp2
  go_ret
  exact ⟨rfl, rfl⟩

set_option maxRecDepth 100000 in
theorem nil_copy (w : World) : Calls Try.prog 20 #[.pointer none] w fun e w' => e = .returned (.pointer none) ∧ w = w' := by
  go_enter Try.func20, Try.ntmps20
  go_wp2
  go_ret
  exact ⟨rfl, rfl⟩

set_option maxRecDepth 100000 in
theorem nil_put (w : World) : Calls Try.prog 35 #[.pointer none] w fun e w' => e = .returned (.slice none 0 0) ∧ w = w' := by
  go_enter Try.func35, Try.ntmps35
  go_wp2
  go_ret
  exact ⟨rfl, rfl⟩

end Go.Proofs.Ytoakelgjofdmpaa
