/-
  the walk of MachineChecks: for any machine that can be read it returns true and writes nothing that was there.
-/
import Derived.Test.YtajajkganamfiaaMCopy
import Derived.Test.YtajajkganamfiaaMMinE
import Derived.Test.YtajajkganamfiaaMShortW
namespace Go.Proofs.Ytajajkganamfiaa
open Go.RowKit
set_option linter.unusedVariables false
set_option linter.unusedSimpArgs false

set_option maxRecDepth 100000 in
set_option maxHeartbeats 2000000 in
theorem walk_MachineChecks (s : Int) (ac : Option Addr) (nc cc : Nat) (an : Option Addr) (nn cn : Nat) (aa : Option Addr) (na ca : Nat) (cls : List Int) (next : List (List Int)) (acc : List Bool) (w : World)
    (hm : RdM w ac nc an nn aa na cls next acc) (hz : nc * 8 ≤ 140737488351232 ∧ na * 1 ≤ 140737488351232) (hrw : ∀ row ∈ next, row.length * 8 ≤ 140737488351232) :
    Calls Try.prog 5 #[.agg #[.int .i64 s, .slice ac nc cc, .slice an nn cn, .slice aa na ca]] w fun e w' => e = .returned (.bool true) ∧ Below w.heap.size w w' := by
  obtain ⟨w0, hw0⟩ : ∃ w0, w0 = w.alloc (.cells #[.int .i64 s, .slice ac nc cc, .slice an nn cn, .slice aa na ca] 26) := ⟨_, rfl⟩
  have HB0 := Lib.hid (show Below w.heap.size w w0 by rw [hw0]; exact below_alloc _ _)
  have HM0 := Lib.hid (hm.below HB0.out)
  have hct : CT w0 w.heap.size s (.slice ac nc cc) (.slice an nn cn) (.slice aa na ca) := by rw [hw0]; exact alloc_ct _ _ _ _ _ _
  have HCT := Lib.hid hct
  have HW0 := Lib.hid hw0
  have hmx := hm.n.max
  obtain ⟨x0, x1, x2, x3, -⟩ := hct
  by_cases hbig : 400 < nn
  · have hbi : (400 : Int) < (nn : Int) := by omega
    clear hm hw0 hz hrw hbig
    go_enter Try.func5, Try.ntmps5
    go_upto_region 1 with fail
    rw [← HW0.out]
    go_wp2
    go_ret
    exact ⟨rfl, HB0.out⟩
  · have HSZ : Hid (SzM cls next acc) := Lib.hid ⟨by rw [hm.c.len]; exact hz.1, by rw [hm.a.len]; have := hz.2; omega, by rw [hm.n.len]; omega, hrw⟩
    have hbi : decide ((400 : Int) < (nn : Int)) = false := decide_eq_false (by omega)
    have hni : (nn : Int) ≤ 400 := by omega
    obtain ⟨k, hk⟩ : ∃ k, k = mcode s cls next acc := ⟨_, rfl⟩
    have HCO := Lib.hid (fun (wx : World) (hb : Below w0.heap.size w0 wx) => copyM_any s ac nc cc an nn cn aa na ca cls next acc wx (HM0.out.below hb) HSZ.out)
    have HREF := Lib.hid (refCheck_any s ac nc cc an nn cn aa na ca cls next acc w0 HM0.out)
    rw [← hk] at HREF
    have HMIN := Lib.hid (fun (a1 : Option Addr) (n1 c1 : Nat) (a2 : Option Addr) (n2 c2 : Nat) (a3 : Option Addr) (n3 c3 : Nat) (wx : World) (h : RdM wx a1 n1 a2 n2 a3 n3 cls next acc) => minimizeF_any s a1 n1 c1 a2 n2 c2 a3 n3 c3 cls next acc wx h)
    unfold MinEPost at HMIN
    rw [← hk] at HMIN
    have HCHK := Lib.hid (fun (a1 : Option Addr) (n1 c1 : Nat) (a2 : Option Addr) (n2 c2 : Nat) (a3 : Option Addr) (n3 c3 : Nat) (wx : World) (h : RdM wx a1 n1 a2 n2 a3 n3 cls next acc) => check_any s a1 n1 c1 a2 n2 c2 a3 n3 c3 cls next acc wx h)
    rw [← hk] at HCHK
    clear hm hw0 hz hrw hbig hk
    go_enter Try.func5, Try.ntmps5
    go_upto_region 1 with fail
    rw [← HW0.out]
    go_wp2_with fail
    refine HREF.out.mono ?_
    rintro e w1 ⟨rfl, hb1⟩
    have HB1 := Lib.hid hb1
    clear x0 x1 x2 x3
    obtain ⟨x0, x1, x2, x3, -⟩ := HCT.out.below hb1
    clear hb1
    go_wp2_with fail
    refine (HCO.out w1 HB1.out).mono ?_
    rintro e w2 ⟨a1, c1, a2, c2, a3, c3, rfl, hm2, hb2⟩
    have HM2 := Lib.hid hm2
    have HB2 := Lib.hid (bthen HB1.out hb2)
    obtain ⟨l1, hl1⟩ : ∃ l1, l1 = cls.length := ⟨_, rfl⟩
    obtain ⟨l2, hl2⟩ : ∃ l2, l2 = next.length := ⟨_, rfl⟩
    obtain ⟨l3, hl3⟩ : ∃ l3, l3 = acc.length := ⟨_, rfl⟩
    rw [← hl1, ← hl2, ← hl3] at HM2 ⊢
    clear hm2 hb2 hl1 hl2 hl3 x0 x1 x2 x3
    go_wp2_with fail
    refine (HMIN.out _ _ _ _ _ _ _ _ _ w2 HM2.out).mono ?_
    rintro e w3 ⟨b1, n1, d1, b2, n2, d2, b3, n3, d3, rfl, hb3, -⟩
    have HB3 := Lib.hid (bthen HB2.out hb3)
    clear hb3
    go_upto_region 5 with fail
    obtain ⟨w4, hw4⟩ : ∃ w4, w4 = w3.alloc (.cells #[.int .i64 0, .slice b1 n1 d1, .slice b2 n2 d2, .slice b3 n3 d3] 26) := ⟨_, rfl⟩
    have HB4 : Hid (Below w0.heap.size w0 w4) := Lib.hid (by rw [hw4]; exact bthen HB3.out (below_alloc _ _))
    rw [← hw4]
    clear hw4
    go_wp2_with fail
    refine (awake_any _).mono ?_
    rintro e w5 ⟨rfl, hb5⟩
    have HB5 := Lib.hid (bthen HB4.out hb5)
    obtain ⟨x0, x1, x2, x3, -⟩ := HCT.out.below HB5.out
    clear hb5
    go_wp2_with fail
    refine (HCO.out w5 HB5.out).mono ?_
    rintro e w6 ⟨a1', c1', a2', c2', a3', c3', rfl, hm6, hb6⟩
    have HM6 := Lib.hid hm6
    have HB6 := Lib.hid (bthen HB5.out hb6)
    clear hm6 hb6 x0 x1 x2 x3
    go_wp2_with fail
    refine (HCHK.out _ _ _ _ _ _ _ _ _ w6 HM6.out).mono ?_
    rintro e w7 ⟨rfl, hb7⟩
    have HB7 := Lib.hid (bthen HB6.out hb7)
    clear hb7
    go_wp2_with fail
    refine (num_errV k _).mono ?_
    rintro e w8 ⟨rfl, rfl⟩
    by_cases hk0 : k = 0
    · subst hk0
      go_wp2
      go_ret
      exact ⟨rfl, bthen HB0.out HB7.out⟩
    · have hkf : (k == 0) = false := by simpa using hk0
      clear hk0
      go_wp2_with fail
      refine (num_errV k _).mono ?_
      rintro e w9 ⟨rfl, rfl⟩
      go_wp2
      go_ret
      exact ⟨rfl, bthen HB0.out HB7.out⟩

end Go.Proofs.Ytajajkganamfiaa
