/-
  the walk of MachineShortest: for any machine that can be read it returns true and writes nothing that was there.
-/
import Derived.Test.YtajajkganamfiaaMOdd
import Derived.Test.YtajajkganamfiaaMAcc
import Derived.Test.YtajajkganamfiaaMRefShort2
namespace Go.Proofs.Ytajajkganamfiaa
open Go.RowKit

theorem small_true (s : Int) (ac : Option Addr) (nc cc : Nat) (an : Option Addr) (nn cn : Nat) (aa : Option Addr) (na ca : Nat) (cls : List Int) (next : List (List Int)) (acc : List Bool) (w : World)
    (hm : RdM w ac nc an nn aa na cls next acc) (h : msmall s cls next acc = true) :
    Calls Try.prog 9 #[.agg #[.int .i64 s, .slice ac nc cc, .slice an nn cn, .slice aa na ca]] w fun e w' => e = .returned (.bool true) ∧ Below w.heap.size w w' := by
  have := small_any s ac nc cc an nn cn aa na ca cls next acc w hm
  rw [h] at this; exact this
theorem small_false (s : Int) (ac : Option Addr) (nc cc : Nat) (an : Option Addr) (nn cn : Nat) (aa : Option Addr) (na ca : Nat) (cls : List Int) (next : List (List Int)) (acc : List Bool) (w : World)
    (hm : RdM w ac nc an nn aa na cls next acc) (h : msmall s cls next acc = false) :
    Calls Try.prog 9 #[.agg #[.int .i64 s, .slice ac nc cc, .slice an nn cn, .slice aa na ca]] w fun e w' => e = .returned (.bool false) ∧ Below w.heap.size w w' := by
  have := small_any s ac nc cc an nn cn aa na ca cls next acc w hm
  rw [h] at this; exact this
theorem msmall_valid {s cls next acc} (h : msmall s cls next acc = true) : Valid s cls next acc := by
  unfold msmall at h
  simp only [Bool.and_eq_true, beq_iff_eq] at h
  exact valid_of_code h.2

set_option maxRecDepth 100000 in
set_option maxHeartbeats 2000000 in
theorem walk_MachineShortest (s : Int) (ac : Option Addr) (nc cc : Nat) (an : Option Addr) (nn cn : Nat) (aa : Option Addr) (na ca : Nat) (cls : List Int) (next : List (List Int)) (acc : List Bool) (w : World)
    (hm : RdM w ac nc an nn aa na cls next acc) :
    Calls Try.prog 3 #[.agg #[.int .i64 s, .slice ac nc cc, .slice an nn cn, .slice aa na ca]] w fun e w' => e = .returned (.bool true) ∧ Below w.heap.size w w' := by
  obtain ⟨w0, hw0⟩ : ∃ w0, w0 = w.alloc (.cells #[.int .i64 s, .slice ac nc cc, .slice an nn cn, .slice aa na ca] 26) := ⟨_, rfl⟩
  have HB0 := Lib.hid (show Below w.heap.size w w0 by rw [hw0]; exact below_alloc _ _)
  have HM0 := Lib.hid (hm.below HB0.out)
  have HX0 : Hid (w0.cell? ⟨w.heap.size, 0, none⟩ = some (.int .i64 s)) := Lib.hid (by rw [hw0]; simp)
  have HX1 : Hid (w0.cell? ⟨w.heap.size, 1, none⟩ = some (.slice ac nc cc)) := Lib.hid (by rw [hw0]; simp)
  have HX2 : Hid (w0.cell? ⟨w.heap.size, 2, none⟩ = some (.slice an nn cn)) := Lib.hid (by rw [hw0]; simp)
  have HX3 : Hid (w0.cell? ⟨w.heap.size, 3, none⟩ = some (.slice aa na ca)) := Lib.hid (by rw [hw0]; simp)
  have HW0 := Lib.hid hw0
  have hne : ∀ w, (binOp .eql 30 .nilIface .nilIface).run Try.prog w = .ok (.bool true) w := fun w => by kernel_rfl
  clear hm hw0
  cases hs : msmall s cls next acc with
  | false =>
    have HS := Lib.hid hs
    clear hs
    go_enter Try.func3, Try.ntmps3
    go_wp2_with fail
    rw [← HW0.out]
    have x0 := HX0.out
    have x1 := HX1.out
    have x2 := HX2.out
    have x3 := HX3.out
    go_wp2_with fail
    refine (small_false _ _ _ _ _ _ _ _ _ _ _ _ _ _ HM0.out HS.out).mono ?_
    rintro e w1 ⟨rfl, hb1⟩
    have HB1 := Lib.hid hb1
    clear x0 x1 x2 x3 hb1
    go_wp2
    go_ret
    exact ⟨rfl, bthen HB0.out HB1.out⟩
  | true =>
    have HS := Lib.hid hs
    have HV := Lib.hid (msmall_valid hs)
    clear hs
    go_enter Try.func3, Try.ntmps3
    go_wp2_with fail
    rw [← HW0.out]
    have x0 := HX0.out
    have x1 := HX1.out
    have x2 := HX2.out
    have x3 := HX3.out
    go_wp2_with fail
    refine (small_true _ _ _ _ _ _ _ _ _ _ _ _ _ _ HM0.out HS.out).mono ?_
    rintro e w1 ⟨rfl, hb1⟩
    have HB1 := Lib.hid hb1
    have y0 := below_cell hb1 x0
    have y1 := below_cell hb1 x1
    have y2 := below_cell hb1 x2
    have y3 := below_cell hb1 x3
    clear x0 x1 x2 x3 hb1
    go_wp2_with fail
    refine (short_any _ _ _ _ _ _ _ _ _ _ cls next acc _ (HM0.out.below HB1.out) HV.out).mono ?_
    rintro e w2 ⟨hb2, h⟩
    have HB2 := Lib.hid hb2
    have z0 := below_cell hb2 y0
    have z1 := below_cell hb2 y1
    have z2 := below_cell hb2 y2
    have z3 := below_cell hb2 y3
    clear y0 y1 y2 y3 hb2
    have HC := Lib.hid (refShort_any s ac nc cc an nn cn aa na ca cls next acc w2 (HM0.out.below (bthen HB1.out HB2.out)) HV.out)
    generalize shortest s cls next acc = R at *
    cases R with
    | none =>
      simp only at h
      subst h
      go_wp2_with fail
      refine HC.out.mono ?_
      rintro e w3 ⟨hb3, h⟩
      simp only at h
      subst h
      have HB3 := Lib.hid hb3
      clear z0 z1 z2 z3 hb3
      go_wp2_with fail
      refine (awake_any _).mono ?_
      rintro e w4 ⟨rfl, hb4⟩
      have HB4 := Lib.hid hb4
      clear hb4
      go_wp2_with fail
      refine (bytes_eq none none 0 0 0 0 [] _ ⟨rfl, by omega, fun i hi => by omega, by simp⟩ ⟨rfl, by omega, fun i hi => by omega, by simp⟩).mono ?_
      rintro e w5 ⟨rfl, rfl⟩
      go_wp2_with fail
      go_ret
      exact ⟨rfl, bthen HB0.out (bthen HB1.out (bthen HB2.out (bthen HB3.out HB4.out)))⟩
    | some t =>
      obtain ⟨a, c, rfl, hr⟩ := h
      have HR := Lib.hid hr
      clear hr
      go_wp2_with fail
      refine HC.out.mono ?_
      rintro e w3 ⟨hb3, a2, c2, rfl, hr2⟩
      have HR2 := Lib.hid hr2
      have HB3 := Lib.hid hb3
      clear z0 z1 z2 z3 hb3 hr2
      go_wp2_with fail
      refine (awake_any _).mono ?_
      rintro e w4 ⟨rfl, hb4⟩
      have HB4 := Lib.hid hb4
      clear hb4
      go_wp2_with fail
      refine (bytes_eq _ _ _ _ _ _ t _ (HR.out.below (bthen HB3.out HB4.out)) (HR2.out.below HB4.out)).mono ?_
      rintro e w5 ⟨rfl, rfl⟩
      go_wp2_with fail
      go_ret
      exact ⟨rfl, bthen HB0.out (bthen HB1.out (bthen HB2.out (bthen HB3.out HB4.out)))⟩

end Go.Proofs.Ytajajkganamfiaa
