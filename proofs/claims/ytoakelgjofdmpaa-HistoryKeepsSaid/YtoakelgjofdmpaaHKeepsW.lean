/-
  the walk of HistoryKeeps.
-/
import Derived.Test.YtoakelgjofdmpaaHKeepF
namespace Go.Proofs.Ytoakelgjofdmpaa
open Go.RowKit
set_option linter.unusedVariables false
set_option linter.unusedSimpArgs false

set_option maxRecDepth 100000 in
set_option maxHeartbeats 4000000 in
theorem walk_HistoryKeeps (a0 : Option Addr) (n cp : Nat) (list : List Cm) (a1 : Option Addr) (n1 c1 : Nat) (l : List Int) (w : World) (hr : RdC w (fun i => i < w.heap.size) a0 n list) (hl : Rd w .i64 a1 n1 l) (_hb : n1 * 8 ≤ 140737488351232) (_hc : n1 ≤ c1) :
    Calls Try.prog 7 #[.slice a0 n cp, .slice a1 n1 c1] w fun e w' => e = .returned (.bool true) ∧ Below w.heap.size w w' := by
  have HR := Lib.hid hr
  have HLL := Lib.hid hl
  have hmx := hr.max
  have hmx1 := hl.max
  have HGL := Lib.hid (buildL_good list)
  have hpn : ∀ w, (binOp .eql 28 (.pointer none) (.pointer none)).run Try.prog w = .ok (.bool true) w := fun w => by kernel_rfl
  clear hr hl _hb _hc
  go_enter Try.func7, Try.ntmps7
  go_wp2_with fail
  refine (alive_any _).mono ?_
  rintro e w1 ⟨rfl, hb1⟩
  have HB1 := Lib.hid hb1
  clear hb1
  by_cases h60 : 60 < n
  · have h61 : decide ((60 : Int) < (n : Int)) = true := decide_eq_true (by omega)
    have h62 : decide (60 < n) = true := decide_eq_true h60
    go_wp2
    go_ret
    exact ⟨rfl, HB1.out⟩
  have h61 : decide ((60 : Int) < (n : Int)) = false := decide_eq_false (by omega)
  have h62 : decide (60 < n) = false := decide_eq_false h60
  by_cases h200 : 200 < n1
  · have h63 : decide ((200 : Int) < (n1 : Int)) = true := decide_eq_true (by omega)
    have h64 : decide (200 < n1) = true := decide_eq_true h200
    go_wp2
    go_ret
    exact ⟨rfl, HB1.out⟩
  have h63 : decide ((200 : Int) < (n1 : Int)) = false := decide_eq_false (by omega)
  have h64 : decide (200 < n1) = false := decide_eq_false h200
  have H200 : Hid (n1 ≤ 200) := Lib.hid (by omega)
  clear h60 h200
  go_wp2_with fail
  refine (build_any (fun i => i < w.heap.size) a0 n cp list w1 (HR.out.below HB1.out) (fun i hi => Nat.lt_of_lt_of_le hi HB1.out.size)).mono ?_
  rintro e w2 ⟨bg, al, cl, S, T, rfl, htw⟩
  have HB2 := Lib.hid (bthen HB1.out htw.bel)
  have HG := Lib.hid htw.g
  have HLC := Lib.hid htw.l
  clear htw
  generalize buildL list = L at *
  have HKE := Lib.hid (keep_any S bg L a1 n1 c1 l w2 HG.out.rg HGL.out (HLL.out.below HB2.out))
  go_wp2_with fail
  refine HKE.out.mono ?_
  rintro e w3 ⟨hb3, hpost⟩
  have HC3 := Lib.hid hb3
  have HB3 := Lib.hid (bthen HB2.out hb3)
  have HRK := Lib.hid (refKeep_any T al cl L a1 n1 c1 l w3 (HLC.out.below HC3.out) HG.out.n1 HGL.out (HLL.out.below HB3.out) H200.out)
  clear hb3 HKE
  rcases hpost with ⟨hk, rfl⟩ | ⟨hk, hkk, bh, ta, tc, rfl, hgi, hrd⟩
  · obtain ⟨c, hc⟩ : ∃ c, c = keepCode L l := ⟨_, rfl⟩
    have HC := Lib.hid hc
    rw [← hc] at hk ⊢
    have hcz : (c != 0) = true := by rw [bne_iff_ne]; exact hk
    have hcd : decide (c = 0) = false := decide_eq_false hk
    have HKN := Lib.hid hk
    clear hc hk
    go_wp2_with fail
    refine HRK.out.mono ?_
    rintro e w4 ⟨hb4, hpost⟩
    rcases hpost with ⟨hk, rfl⟩ | ⟨hk, _⟩
    · rw [← HC.out]
      have HC4 := Lib.hid (bthen HC3.out hb4)
      have HB4 := Lib.hid (bthen HB3.out hb4)
      clear hb4 hk
      go_wp2_with fail
      refine (is_any S T bg al cl L w4 (HG.out.below HC4.out).rg (HLC.out.below HC4.out) HGL.out).mono ?_
      rintro e w5 ⟨rfl, hb5⟩
      have HB5 := Lib.hid (bthen HB4.out hb5)
      clear hb5
      go_wp2_with fail
      refine (num_errV c w5).mono ?_
      rintro e w6 ⟨rfl, rfl⟩
      go_wp2
      go_ret
      exact ⟨rfl, HB5.out⟩
    · exact absurd (HC.out.trans hk) HKN.out
  · have HK := Lib.hid hk
    have HKK := Lib.hid hkk
    have HGI := Lib.hid hgi
    have HRD := Lib.hid hrd
    clear hk hkk hgi hrd
    go_wp2_with fail
    refine HRK.out.mono ?_
    rintro e w4 ⟨hb4, hpost⟩
    rcases hpost with ⟨hk, _⟩ | ⟨hk, ma, mc, ta2, tc2, rfl, hmd, htd⟩
    · exact absurd HK.out hk
    · have HC4 := Lib.hid hb4
      have HB4 := Lib.hid (bthen HB3.out hb4)
      have HMD := Lib.hid hmd
      have HTD := Lib.hid htd
      have HGL2 := Lib.hid (keep_good HGL.out l L.length (Nat.le_refl _) HKK.out)
      clear hb4 hk hmd htd
      go_wp2_with fail
      refine (is_any S T bg al cl L w4 ((HG.out.below HC3.out).below HC4.out).rg ((HLC.out.below HC3.out).below HC4.out) HGL.out).mono ?_
      rintro e w5 ⟨rfl, hb5⟩
      have HC5 := Lib.hid hb5
      have HB5 := Lib.hid (bthen HB4.out hb5)
      clear hb5
      go_wp2_with fail
      refine (num_nil w5).mono ?_
      rintro e w6 ⟨rfl, rfl⟩
      go_wp2_with fail
      refine (is_any _ _ bh ma mc (keepTo L l L.length) w5 ((HGI.out.below HC4.out).below HC5.out).rg (HMD.out.below HC5.out) HGL2.out).mono ?_
      rintro e w7 ⟨rfl, hb7⟩
      have HC7 := Lib.hid (bthen HC5.out hb7)
      have HB7 := Lib.hid (bthen HB5.out hb7)
      have HIN : Hid (Calls Try.prog 17 #[.slice ta L.length tc, .slice ta2 L.length tc2] w7 fun e w' => e = .returned (.bool true) ∧ Below w7.heap.size w7 w') := Lib.hid (by
        have h := ints_any ta ta2 L.length L.length tc tc2 (toL l L.length L.length) (toL l L.length L.length) w7 ((HRD.out.below HC4.out).below HC7.out) (HTD.out.below HC7.out)
        rw [decide_eq_true rfl] at h
        exact h)
      clear hb7
      go_wp2_with fail
      refine HIN.out.mono ?_
      rintro e w8 ⟨rfl, hb8⟩
      have HB8 := Lib.hid (bthen HB7.out hb8)
      clear hb8
      go_wp2
      go_ret
      exact ⟨rfl, HB8.out⟩

end Go.Proofs.Ytoakelgjofdmpaa
