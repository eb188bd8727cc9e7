/-
  the walk of HistoryNil.
-/
import Derived.Test.YtoakelgjofdmpaaHNil
namespace Go.Proofs.Ytoakelgjofdmpaa
open Go.RowKit

set_option maxRecDepth 100000 in
set_option maxHeartbeats 4000000 in
theorem walk_HistoryNil (v : Value) (ps : List Int) (t : Int) (s : ByteArray) (n : Int) (w : World) (_h1 : Par w (fun i => i < w.heap.size) v ps) (_h2 : (Lit.int .i64 t).wf = true) (_h3 : s.size ≤ 9223372036854775807) (_h4 : (Lit.int .i64 n).wf = true) :
    Calls Try.prog 10 #[.agg #[v, .int .i64 t, .string s], .int .i64 n] w fun e w' => e = .returned (.bool true) ∧ Below w.heap.size w w' := by
  obtain ⟨w0, hw0⟩ : ∃ w0, w0 = w.alloc (.cells #[v, .int .i64 t, .string s] 27) := ⟨_, rfl⟩
  have HB0 := Lib.hid (show Below w.heap.size w w0 by rw [hw0]; exact below_alloc _ _)
  have HX0 : Hid (w0.cell? ⟨w.heap.size, 0, none⟩ = some v) := Lib.hid (by rw [hw0]; simp)
  have HX1 : Hid (w0.cell? ⟨w.heap.size, 1, none⟩ = some (.int .i64 t)) := Lib.hid (by rw [hw0]; simp)
  have HX2 : Hid (w0.cell? ⟨w.heap.size, 2, none⟩ = some (.string s)) := Lib.hid (by rw [hw0]; simp)
  have HW0 := Lib.hid hw0
  clear hw0
  go_enter Try.func10, Try.ntmps10
  go_wp2_with fail
  rw [← HW0.out]
  refine (alive_any _).mono ?_
  rintro e w1 ⟨rfl, hb1⟩
  have x0 := below_cell hb1 HX0.out
  have x1 := below_cell hb1 HX1.out
  have x2 := below_cell hb1 HX2.out
  have HB1 := Lib.hid (bthen HB0.out hb1)
  clear hb1
  go_wp2_with fail
  refine (nil_add _ _ _ _).mono ?_
  rintro e w2 ⟨rfl, hb2⟩
  have HB2 := Lib.hid (bthen HB1.out hb2)
  clear hb2 x0 x1 x2
  go_wp2_with fail
  refine (nil_get _ _).mono ?_
  rintro e w3 ⟨rfl, hb3⟩
  have HB3 := Lib.hid (bthen HB2.out hb3)
  clear hb3
  go_wp2_with fail
  refine (nil_anc _ _).mono ?_
  rintro e w4 ⟨rfl, hw4⟩
  have HW4 := Lib.hid hw4
  clear hw4
  go_wp2_with fail
  refine (nil_bef _ _ _).mono ?_
  rintro e w5 ⟨rfl, rfl⟩
  go_wp2_with fail
  refine (nil_bas _ _ _).mono ?_
  rintro e w5 ⟨rfl, rfl⟩
  go_wp2_with fail
  refine (nil_line _ _).mono ?_
  rintro e w5 ⟨rfl, rfl⟩
  go_wp2_with fail
  refine (nil_keep _ _ _ _).mono ?_
  rintro e w5 ⟨rfl, hw5⟩
  have HB5 : Hid (Below w.heap.size w w5) := Lib.hid (by
    rw [← hw5, ← HW4.out]
    exact ((HB3.out.alloc HB3.out.size _).alloc (by have := HB3.out.size; simp; omega) _))
  clear hw5
  obtain ⟨w6, hw6⟩ : ∃ w6, w6 = w5.alloc (.cells #[.iface 63 (.int .i64 5), .iface 63 (.int .i64 5), .iface 63 (.int .i64 5), .iface 63 (.int .i64 5), .iface 63 (.int .i64 5), .iface 63 (.int .i64 5), .iface 63 (.int .i64 5)] 33) := ⟨_, rfl⟩
  have HC : Hid (∀ i, i < 7 → w6.cell? ⟨w5.heap.size, i, none⟩ = some (.iface 63 (.int .i64 5))) := Lib.hid (by
    intro i hi
    rw [hw6]
    rcases (show i = 0 ∨ i = 1 ∨ i = 2 ∨ i = 3 ∨ i = 4 ∨ i = 5 ∨ i = 6 by omega) with rfl | rfl | rfl | rfl | rfl | rfl | rfl <;> exact acell rfl rfl)
  have HB6 : Hid (Below w.heap.size w w6) := Lib.hid (by rw [hw6]; exact HB5.out.alloc HB5.out.size _)
  have HW6 := Lib.hid hw6
  clear hw6
  go_wp2
  rw [← HW6.out]
  go_loop [22] (fun iv => ∃ i : Nat, i ≤ 7 ∧ iv = .int .i64 i) (fun iv => 7 - (intOf iv).toNat)
  case atStart => exact ⟨0, by omega, rfl⟩
  case round =>
    obtain ⟨i, hi, rfl⟩ := hrel
    by_cases hlt : i < 7
    · have hc := HC.out i hlt
      go_wp2_with fail
      refine (is_errno 5 rfl _).mono ?_
      rintro e w7 ⟨rfl, rfl⟩
      clear hc
      go_wp2
      go_round
      case rel => exact ⟨i + 1, by omega, by go_num⟩
      case measure => simp [intOf]; omega
    · go_wp2_with fail
      refine (nil_len _).mono ?_
      rintro e w7 ⟨rfl, rfl⟩
      go_wp2_with fail
      refine (nil_heads _).mono ?_
      rintro e w7 ⟨rfl, rfl⟩
      go_wp2_with fail
      refine (nil_copy _).mono ?_
      rintro e w7 ⟨rfl, rfl⟩
      have hp : ∀ w, (binOp .eql 28 (.pointer none) (.pointer none)).run Try.prog w = .ok (.bool true) w := fun w => by kernel_rfl
      go_wp2_with fail
      refine (nil_put _).mono ?_
      rintro e w7 ⟨rfl, rfl⟩
      go_wp2
      go_ret
      exact ⟨ret_eq (by simp), HB6.out⟩

end Go.Proofs.Ytoakelgjofdmpaa
