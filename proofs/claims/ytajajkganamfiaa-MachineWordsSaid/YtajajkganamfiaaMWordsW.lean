/-
  the walk of MachineWords: for any machine that can be read it returns true and writes nothing that was there.
-/
import Derived.Test.YtajajkganamfiaaMRefWord
import Derived.Test.YtajajkganamfiaaMShortW
namespace Go.Proofs.Ytajajkganamfiaa
open Go.RowKit
set_option linter.unusedVariables false
set_option linter.unusedSimpArgs false

set_option maxRecDepth 100000 in
set_option maxHeartbeats 1000000 in
theorem words_range (st : Nat) (ac : Option Addr) (nc cc : Nat) (an : Option Addr) (nn cn : Nat) (aa : Option Addr) (na ca : Nat) (cls : List Int) (next : List (List Int)) (acc : List Bool) (n : Int) (w : World)
    (hm : RdM w ac nc an nn aa na cls next acc) (hv : Valid st cls next acc) (hn : n < 0 ∨ 65536 < n) :
    Calls Try.prog 23 #[.agg #[.int .i64 st, .slice ac nc cc, .slice an nn cn, .slice aa na ca], .int .i64 n] w fun e w' => e = .returned (.tuple #[.int .i64 0, .iface 43 (.int .i64 1)]) ∧ Below w.heap.size w w' := by
  obtain ⟨w1, hw1⟩ : ∃ w1, w1 = w.alloc (.cells #[.int .i64 st, .slice ac nc cc, .slice an nn cn, .slice aa na ca] 26) := ⟨_, rfl⟩
  have HW1 := Lib.hid hw1
  have hb1 : Below w.heap.size w w1 := by rw [hw1]; exact below_alloc _ _
  have hct : CT w1 w.heap.size st (.slice ac nc cc) (.slice an nn cn) (.slice aa na ca) := by rw [hw1]; exact alloc_ct _ _ _ _ _ _
  have HB1 := Lib.hid hb1
  have HM := Lib.hid (hm.below hb1)
  have HV := Lib.hid hv
  have hne : ∀ w, (binOp .neq 30 .nilIface .nilIface).run Try.prog w = .ok (.bool false) w := fun w => by kernel_rfl
  obtain ⟨z0, z1, z2, z3, -⟩ := hct
  clear hm hv hw1 hb1
  have HC := Lib.hid (check_any st ac nc cc an nn cn aa na ca cls next acc w1 HM.out)
  rw [show errV (mcode st cls next acc) = Value.nilIface by rw [code_of_valid HV.out]; rfl] at HC
  rcases hn with hn | hn
  · go_enter Try.func23, Try.ntmps23
    go_upto_region 1 with fail
    rw [← HW1.out]
    go_wp2_with fail
    refine HC.out.mono ?_
    rintro e w2 ⟨rfl, hb2⟩
    have HB2 := Lib.hid (bthen HB1.out hb2)
    clear hb2
    go_wp2
    go_ret2
    exact ⟨rfl, HB2.out⟩
  · have hn0 : decide (n < 0) = false := decide_eq_false (by omega)
    go_enter Try.func23, Try.ntmps23
    go_upto_region 1 with fail
    rw [← HW1.out]
    go_wp2_with fail
    refine HC.out.mono ?_
    rintro e w2 ⟨rfl, hb2⟩
    have HB2 := Lib.hid (bthen HB1.out hb2)
    clear hb2
    go_wp2
    go_ret2
    exact ⟨rfl, HB2.out⟩

set_option maxRecDepth 100000 in
set_option maxHeartbeats 2000000 in
theorem walk_MachineWords (s : Int) (ac : Option Addr) (nc cc : Nat) (an : Option Addr) (nn cn : Nat) (aa : Option Addr) (na ca : Nat) (cls : List Int) (next : List (List Int)) (acc : List Bool) (n : Int) (w : World)
    (hm : RdM w ac nc an nn aa na cls next acc) (wn : (Lit.int .i64 n).wf = true) :
    Calls Try.prog 6 #[.agg #[.int .i64 s, .slice ac nc cc, .slice an nn cn, .slice aa na ca], .int .i64 n] w fun e w' => e = .returned (.bool true) ∧ Below w.heap.size w w' := by
  obtain ⟨w0, hw0⟩ : ∃ w0, w0 = w.alloc (.cells #[.int .i64 s, .slice ac nc cc, .slice an nn cn, .slice aa na ca] 26) := ⟨_, rfl⟩
  have HB0 := Lib.hid (show Below w.heap.size w w0 by rw [hw0]; exact below_alloc _ _)
  have HM0 := Lib.hid (hm.below HB0.out)
  have hct : CT w0 w.heap.size s (.slice ac nc cc) (.slice an nn cn) (.slice aa na ca) := by rw [hw0]; exact alloc_ct _ _ _ _ _ _
  have HCT := Lib.hid hct
  have HW0 := Lib.hid hw0
  have hne : ∀ w, (binOp .eql 30 .nilIface .nilIface).run Try.prog w = .ok (.bool true) w := fun w => by kernel_rfl
  clear hm hw0 wn
  obtain ⟨x0, x1, x2, x3, -⟩ := hct
  cases hs : msmall s cls next acc with
  | false =>
    have HS := Lib.hid hs
    clear hs
    go_enter Try.func6, Try.ntmps6
    go_upto_region 1 with fail
    rw [← HW0.out]
    go_wp2_with fail
    refine (small_false _ _ _ _ _ _ _ _ _ _ _ _ _ _ HM0.out HS.out).mono ?_
    rintro e w1 ⟨rfl, hb1⟩
    have HB1 := Lib.hid hb1
    clear x0 x1 x2 x3 hb1
    go_wp2
    go_ret
    exact ⟨rfl, bthen HB0.out HB1.out⟩
  | true =>
    have HS := Lib.hid hs
    have hv := msmall_valid hs
    have HV := Lib.hid hv
    obtain ⟨st, rfl⟩ := Int.eq_ofNat_of_zero_le hv.s0
    clear hs hv
    by_cases hr : n < 0 ∨ 65536 < n
    · have HWR := Lib.hid (fun (wx : World) (hb : Below w0.heap.size w0 wx) => words_range st ac nc cc an nn cn aa na ca cls next acc n wx (HM0.out.below hb) HV.out hr)
      have hd : n < 0 ∨ (decide (n < 0) = false ∧ 65536 < n) := by
        rcases hr with h | h
        · exact .inl h
        · exact .inr ⟨decide_eq_false (by omega), h⟩
      clear hr
      rcases hd with hd | ⟨hd0, hd⟩
      all_goals
        go_enter Try.func6, Try.ntmps6
        go_upto_region 1 with fail
        rw [← HW0.out]
        go_wp2_with fail
        refine (small_true _ _ _ _ _ _ _ _ _ _ _ _ _ _ HM0.out HS.out).mono ?_
        rintro e w1 ⟨rfl, hb1⟩
        have HB1 := Lib.hid hb1
        clear x0 x1 x2 x3
        obtain ⟨x0, x1, x2, x3, -⟩ := HCT.out.below hb1
        clear hb1
        go_wp2_with fail
        refine (HWR.out w1 HB1.out).mono ?_
        rintro e w2 ⟨rfl, hb2⟩
        have HB2 := Lib.hid hb2
        clear x0 x1 x2 x3 hb2
        go_wp2_with fail
        refine (awake_any _).mono ?_
        rintro e w3 ⟨rfl, hb3⟩
        have HB3 := Lib.hid hb3
        clear hb3
        go_wp2_with fail
        refine (is_errno 1 (by decide) _).mono ?_
        rintro e w4 ⟨rfl, rfl⟩
        go_wp2
        go_ret
        exact ⟨rfl, bthen HB0.out (bthen HB1.out (bthen HB2.out HB3.out))⟩
    · obtain ⟨N, rfl⟩ := Int.eq_ofNat_of_zero_le (show 0 ≤ n by omega)
      have hN : N ≤ 65536 := by omega
      have HWO := Lib.hid (fun (wx : World) (hb : Below w0.heap.size w0 wx) => words_ok st ac nc cc an nn cn aa na ca cls next acc N wx (HM0.out.below hb) HV.out hN)
      have HRW := Lib.hid (fun (wx : World) (hb : Below w0.heap.size w0 wx) => refWords_any st ac nc cc an nn cn aa na ca cls next acc N wx (HM0.out.below hb) HV.out hN)
      have hNi : (N : Int) ≤ 65536 := by omega
      have hd0 : decide ((N : Int) < 0) = false := decide_eq_false (by omega)
      have hd1 : decide ((65536 : Int) < (N : Int)) = false := decide_eq_false (by omega)
      clear hr hN
      generalize hC : wcnt cls next acc N st = C at *
      clear hC
      go_enter Try.func6, Try.ntmps6
      go_upto_region 1 with fail
      rw [← HW0.out]
      go_wp2_with fail
      refine (small_true _ _ _ _ _ _ _ _ _ _ _ _ _ _ HM0.out HS.out).mono ?_
      rintro e w1 ⟨rfl, hb1⟩
      have HB1 := Lib.hid hb1
      clear x0 x1 x2 x3
      obtain ⟨x0, x1, x2, x3, -⟩ := HCT.out.below hb1
      clear hb1
      go_wp2_with fail
      refine (HWO.out w1 HB1.out).mono ?_
      rintro e w2 ⟨he, hb2⟩
      have HB2 := Lib.hid (bthen HB1.out hb2)
      clear x0 x1 x2 x3
      obtain ⟨x0, x1, x2, x3, -⟩ := HCT.out.below HB2.out
      clear hb2
      by_cases hbig : 1152921504606846976 < C
      · rw [wordsV, if_pos hbig] at he
        subst he
        have hbi : (1152921504606846976 : Int) < (C : Int) := by omega
        clear hbig
        go_wp2_with fail
        refine (awake_any _).mono ?_
        rintro e w3 ⟨rfl, hb3⟩
        have HB3 := Lib.hid (bthen HB2.out hb3)
        clear x0 x1 x2 x3
        obtain ⟨x0, x1, x2, x3, -⟩ := HCT.out.below HB3.out
        clear hb3
        by_cases h100 : (100 : Int) < (N : Int)
        · go_wp2
          go_ret
          exact ⟨rfl, bthen HB0.out HB3.out⟩
        · have hd2 : decide ((100 : Int) < (N : Int)) = false := decide_eq_false h100
          clear h100
          go_wp2_with fail
          refine (HRW.out w3 HB3.out).mono ?_
          rintro e w4 ⟨rfl, hb4⟩
          have HB4 := Lib.hid (bthen HB3.out hb4)
          clear hb4 x0 x1 x2 x3
          go_wp2_with fail
          refine (is_errno 2 (by decide) _).mono ?_
          rintro e w5 ⟨rfl, rfl⟩
          go_wp2
          go_ret
          exact ⟨rfl, bthen HB0.out HB4.out⟩
      · rw [wordsV, if_neg hbig] at he
        subst he
        have hbi : decide ((1152921504606846976 : Int) < (C : Int)) = false := decide_eq_false (by omega)
        clear hbig
        go_wp2_with fail
        refine (awake_any _).mono ?_
        rintro e w3 ⟨rfl, hb3⟩
        have HB3 := Lib.hid (bthen HB2.out hb3)
        clear x0 x1 x2 x3
        obtain ⟨x0, x1, x2, x3, -⟩ := HCT.out.below HB3.out
        clear hb3
        by_cases h100 : (100 : Int) < (N : Int)
        · go_wp2
          go_ret
          exact ⟨rfl, bthen HB0.out HB3.out⟩
        · have hd2 : decide ((100 : Int) < (N : Int)) = false := decide_eq_false h100
          clear h100
          go_wp2_with fail
          refine (HRW.out w3 HB3.out).mono ?_
          rintro e w4 ⟨rfl, hb4⟩
          have HB4 := Lib.hid (bthen HB3.out hb4)
          clear hb4 x0 x1 x2 x3
          go_wp2
          go_ret
          exact ⟨rfl, bthen HB0.out HB4.out⟩

end Go.Proofs.Ytajajkganamfiaa
