/-
  the walk of MachineLarge: for any two numbers it returns true and writes nothing that was there.
-/
import Derived.Test.YtajajkganamfiaaMBothW
import Derived.Test.YtajajkganamfiaaMSamW
import Derived.Test.YtajajkganamfiaaMEqual
import Derived.Test.YtajajkganamfiaaMLcm
import Derived.Test.YtajajkganamfiaaMOdd
import Derived.Test.YtajajkganamfiaaMRun
namespace Go.Proofs.Ytajajkganamfiaa
open Go.RowKit
set_option linter.unusedVariables false
set_option linter.unusedSimpArgs false

set_option maxRecDepth 100000 in
set_option maxHeartbeats 2000000 in
theorem walk_MachineLarge (i0 k0 : Int) (w : World) (wi : (Lit.int .u8 i0).wf = true) (wk : (Lit.int .u8 k0).wf = true) :
    Calls Try.prog 7 #[.int .u8 i0, .int .u8 k0] w fun e w' => e = .returned (.bool true) ∧ Below w.heap.size w w' := by
  obtain ⟨hi0, hi9⟩ := bd_u8 wi
  obtain ⟨hk0, hk9⟩ := bd_u8 wk
  obtain ⟨i, rfl⟩ := Int.eq_ofNat_of_zero_le hi0
  obtain ⟨k, rfl⟩ := Int.eq_ofNat_of_zero_le hk0
  obtain ⟨ni, hni⟩ : ∃ ni, ni = i + 1 := ⟨_, rfl⟩
  obtain ⟨nk, hnk⟩ : ∃ nk, nk = k + 1 := ⟨_, rfl⟩
  have hsi : (i : Int) + 1 = (ni : Int) := by omega
  have hsk : (k : Int) + 1 = (nk : Int) := by omega
  have HNI : Hid (0 < ni ∧ ni ≤ 256) := Lib.hid (by omega)
  have HNK : Hid (0 < nk ∧ nk ≤ 256) := Lib.hid (by omega)
  have hni0 : ¬ (nk : Int) = 0 := by omega
  have hni9 : (ni : Int) ≤ 256 := by omega
  have hni1 : 0 < (ni : Int) := by omega
  have hnk9 : (nk : Int) ≤ 256 := by omega
  have HEQ : Hid (((i : Int) == (k : Int)) = decide (ni = nk)) := Lib.hid (by
    rw [Bool.eq_iff_iff, beq_iff_eq, decide_eq_true_iff]; omega)
  have hne : ∀ w, (binOp .neq 30 .nilIface .nilIface).run Try.prog w = .ok (.bool false) w := fun w => by kernel_rfl
  clear hni hnk wi wk
  go_enter Try.func7, Try.ntmps7
  go_wp2_with fail
  refine (cycle_any ni HNI.out.1 HNI.out.2 _).mono ?_
  rintro e w1 ⟨ac, cc, an, cn, aa, ca, rfl, hb1, hm1⟩
  have HB1 := Lib.hid hb1
  have HM1 := Lib.hid hm1
  clear hb1 hm1
  go_wp2_with fail
  refine (cycle_any nk HNK.out.1 HNK.out.2 _).mono ?_
  rintro e w2 ⟨ac2, cc2, an2, cn2, aa2, ca2, rfl, hb2, hm2⟩
  have HB2 := Lib.hid (bthen HB1.out hb2)
  have HM2 := Lib.hid hm2
  have HM1' := Lib.hid (HM1.out.below hb2)
  clear hb2 hm2
  go_upto_region 3 with fail
  obtain ⟨w3, hw3⟩ : ∃ w3, w3 = (w2.alloc (.cells #[.int .i64 0, .slice ac 256 cc, .slice an ni cn, .slice aa ni ca] 26)).alloc (.cells #[.int .i64 0, .slice ac2 256 cc2, .slice an2 nk cn2, .slice aa2 nk ca2] 26) := ⟨_, rfl⟩
  rw [← hw3]
  have hb23 : Below w2.heap.size w2 w3 := by rw [hw3]; exact (below_alloc _ _).alloc (by simp) _
  have HCX : Hid (CT w3 w2.heap.size 0 (.slice ac 256 cc) (.slice an ni cn) (.slice aa ni ca)) := Lib.hid (by rw [hw3]; exact (alloc_ct _ _ _ _ _ _).below (below_alloc _ _))
  have HCY : Hid (CT w3 (w2.heap.size + 1) 0 (.slice ac2 256 cc2) (.slice an2 nk cn2) (.slice aa2 nk ca2)) := Lib.hid (by
    rw [hw3]
    have h := alloc_ct (w2.alloc (.cells #[.int .i64 0, .slice ac 256 cc, .slice an ni cn, .slice aa ni ca] 26)) 0 (.slice ac2 256 cc2) (.slice an2 nk cn2) (.slice aa2 nk ca2) 26
    rw [show (w2.alloc (.cells #[.int .i64 0, .slice ac 256 cc, .slice an ni cn, .slice aa ni ca] 26)).heap.size = w2.heap.size + 1 by simp] at h
    exact h)
  have HB3 := Lib.hid (bthen HB2.out hb23)
  have HM3 := Lib.hid (HM1'.out.below hb23)
  have HN3 := Lib.hid (HM2.out.below hb23)
  have HS3 : Hid (w3.heap.size = w2.heap.size + 1 + 1) := Lib.hid (by rw [hw3]; simp)
  obtain ⟨L, hL⟩ : ∃ L, L = Nat.lcm ni nk := ⟨_, rfl⟩
  have HL := Lib.hid hL
  have HL9 : Hid (L ≤ 65536) := Lib.hid (by rw [hL]; exact lcm_le HNI.out.1 HNK.out.1 HNI.out.2 HNK.out.2)
  clear hb23 hw3 hL hk0 hk9 hi0 hi9
  go_loopg [7] (L + 1 - ni) (fun gg mv wr => ∃ q m : Nat, m = ni * q ∧ 0 < q ∧ m ≤ L ∧ (∀ j, 0 < j → j < q → ¬ nk ∣ ni * j) ∧ gg = L + 1 - m ∧ mv = .int .i64 (m : Nat) ∧ wr = w3)
  case atStart =>
    refine ⟨1, ni, by omega, by omega, ?_, fun j h1 h2 => by omega, rfl, rfl, rfl⟩
    have h := lcm_more (k := 1) HNI.out.1 HNK.out.1 (fun j h1 h2 => by omega)
    rw [HL.out]; omega
  case round =>
    obtain ⟨q, m, hm, hq, hmL, hno, rfl, rfl, rfl⟩ := hrel
    have HM := Lib.hid hm
    have HNO := Lib.hid hno
    have HML := Lib.hid (And.intro hq hmL)
    have hm9 : (m : Int) ≤ 65536 := by have := HL9.out; omega
    have hm0 : 0 ≤ (m : Int) := by omega
    obtain ⟨r, hr⟩ : ∃ r, r = m % nk := ⟨_, rfl⟩
    have hrem : (m : Int).tmod (nk : Int) = (r : Int) := by rw [Int.tmod_eq_emod_of_nonneg hm0, hr]; push_cast; rfl
    have HR := Lib.hid hr
    clear hm hq hmL hno hr
    by_cases hr0 : r = 0
    · have HR0 := Lib.hid hr0
      subst hr0
      have HME : Hid (m = L) := Lib.hid (by
        rw [HM.out, HL.out]
        exact lcm_first HNI.out.1 HNK.out.1 HML.out.1 (Nat.dvd_of_mod_eq_zero (by rw [← HM.out]; exact HR.out.symm)) HNO.out)
      have HBO := Lib.hid (both_cyc ni nk HNI.out.1 HNI.out.2 HNK.out.1 HNK.out.2 ac ac2 cc cc2 an an2 cn cn2 aa aa2 ca ca2 wr HM3.out HN3.out)
      rw [← HL.out] at HBO
      have HSA := Lib.hid (fun (wx : World) (hb : Below wr.heap.size wr wx) => same_cyc ni nk HNI.out.1 HNI.out.2 HNK.out.1 HNK.out.2 ac ac2 cc cc2 an an2 cn cn2 aa aa2 ca ca2 wx (HM3.out.below hb) (HN3.out.below hb))
      obtain ⟨bq, hbq⟩ : ∃ b, b = decide (ni = nk) := ⟨_, rfl⟩
      rw [← hbq] at HSA HEQ
      have he1 : ((i : Int) == (k : Int)) = bq := HEQ.out
      have he2 : (i == k) = bq := by rw [← he1, Bool.eq_iff_iff, beq_iff_eq, beq_iff_eq]; omega
      have he3 : decide (i = k) = bq := by rw [← he2]; rfl
      obtain ⟨x0, x1, x2, x3, -⟩ := HCX.out
      obtain ⟨y0, y1, y2, y3, -⟩ := HCY.out
      clear hbq
      go_wp2_with fail
      refine HBO.out.mono ?_
      rintro e w4 ⟨hb4, ⟨hL, ac3, cc3, an3, cn3, aa3, ca3, rfl, hmz⟩ | ⟨hL, rfl⟩⟩
      · have HB4 := Lib.hid hb4
        have HMZ := Lib.hid hmz
        have hL6 : ¬ 256 < m := by rw [HME.out]; omega
        clear x0 x1 x2 x3 y0 y1 y2 y3 hmz hL
        obtain ⟨x0, x1, x2, x3, -⟩ := HCX.out.below hb4
        obtain ⟨y0, y1, y2, y3, -⟩ := HCY.out.below hb4
        clear hb4
        go_upto_region 6 with fail
        obtain ⟨w5, hw5⟩ : ∃ w5, w5 = w4.alloc (.cells #[.int .i64 0, .slice ac3 256 cc3, .slice an3 L cn3, .slice aa3 L ca3] 26) := ⟨_, rfl⟩
        rw [← hw5]
        have hb5 : Below w4.heap.size w4 w5 := by rw [hw5]; exact below_alloc _ _
        have HCZ : Hid (CT w5 w4.heap.size 0 (.slice ac3 256 cc3) (.slice an3 L cn3) (.slice aa3 L ca3)) := Lib.hid (by rw [hw5]; exact alloc_ct _ _ _ _ _ _)
        have HB45 := Lib.hid hb5
        have HB5 := Lib.hid (bthen HB4.out hb5)
        clear x0 x1 x2 x3 y0 y1 y2 y3 hw5 hb5
        obtain ⟨x0, x1, x2, x3, -⟩ := HCX.out.below HB5.out
        obtain ⟨y0, y1, y2, y3, -⟩ := HCY.out.below HB5.out
        go_wp2_with fail
        refine (HSA.out w5 HB5.out).mono ?_
        rintro e w6 ⟨rfl, hb6⟩
        have HB56 := Lib.hid hb6
        have HB6 := Lib.hid (bthen HB5.out hb6)
        have HCZ6 := Lib.hid (HCZ.out.below hb6)
        clear x0 x1 x2 x3 y0 y1 y2 y3 hb6
        go_wp2_with fail
        refine (awake_any _).mono ?_
        rintro e w7 ⟨rfl, hb7⟩
        have HB7 := Lib.hid (bthen HB6.out hb7)
        have HB07 := Lib.hid (bthen HB3.out HB7.out)
        have HB47 := Lib.hid (bthen (bthen HB45.out HB56.out) hb7)
        have HCZ7 := Lib.hid (HCZ6.out.below hb7)
        obtain ⟨z0, z1, z2, z3, -⟩ := HCZ6.out.below hb7
        clear hb7
        have hmL : m = L := HME.out
        have hL2 : L ≤ 256 := by omega
        have hL0 : 0 < L := by rw [HL.out]; exact Nat.lcm_pos HNI.out.1 HNK.out.1
        have heq : ∀ w, (binOp .eql 30 .nilIface .nilIface).run Try.prog w = .ok (.bool true) w := fun w => by kernel_rfl
        have HRM := Lib.hid (fun (wx : World) (hb : Below w7.heap.size w7 wx) => HMZ.out wx ((Fr.of_below (S := fun _ => False) (bthen HB47.out hb)).mono (fun _ h => h.elim)))
        have HCW := Lib.hid (fun (wx : World) (hb : Below w7.heap.size w7 wx) => HCZ7.out.below hb)
        have HCC := Lib.hid (cycle_any m (by rw [hmL]; exact hL0) (by rw [hmL]; exact hL2) w7.drew)
        clear z0 z1 z2 z3
        obtain ⟨z0, z1, z2, z3, -⟩ := HCZ7.out.below (Below.refl _ _).drew
        clear hL0 hL2
        subst hmL
        go_wp2_with fail
        go_region_held3 (fun wx => wx.cell? ⟨w4.heap.size, 0, none⟩ = some (.int .i64 0) ∧ wx.cell? ⟨w4.heap.size, 1, none⟩ = some (.slice ac3 256 cc3) ∧ wx.cell? ⟨w4.heap.size, 2, none⟩ = some (.slice an3 m cn3) ∧ wx.cell? ⟨w4.heap.size, 3, none⟩ = some (.slice aa3 m ca3)) (first | exact ⟨z0, z1, z2, z3⟩ | exact ⟨z0', z1', z2', z3'⟩ | go_keep) (first
          | (go_at_call 25; refine HCC.out.mono ?_; rintro e w8 ⟨ac4, cc4, an4, cn4, aa4, ca4, rfl, hb8, hm8⟩; have HB8 : Hid (Below w7.heap.size w7 w8) := Lib.hid ((Below.refl _ _).drew.trans hb8); have HM8 := Lib.hid hm8; obtain ⟨z0', z1', z2', z3', -⟩ := HCW.out w8 HB8.out; clear hb8 hm8)
          | (go_at_call 28; refine (equal_same 0 _ _ _ _ _ _ _ _ _ _ _ _ _ _ _ _ _ _ _ (HRM.out w8 HB8.out) HM8.out).mono ?_; rintro e w9 ⟨rfl, hb9⟩; have HB9 := Lib.hid (bthen HB8.out hb9); clear z0' z1' z2' z3'; obtain ⟨z0', z1', z2', z3', -⟩ := HCW.out w9 HB9.out; clear hb9))
        go_wp2
        go_ret
        exact ⟨rfl, bthen HB07.out HB9.out⟩
      · have HB4 := Lib.hid hb4
        have hL6 : 256 < m := by rw [HME.out]; omega
        clear x0 x1 x2 x3 y0 y1 y2 y3 hL
        obtain ⟨x0, x1, x2, x3, -⟩ := HCX.out.below hb4
        obtain ⟨y0, y1, y2, y3, -⟩ := HCY.out.below hb4
        clear hb4
        go_upto_region 6 with fail
        obtain ⟨w5, hw5⟩ : ∃ w5, w5 = w4.alloc (.cells #[.int .i64 0, .slice none 0 0, .slice none 0 0, .slice none 0 0] 26) := ⟨_, rfl⟩
        rw [← hw5]
        have hb5 : Below w4.heap.size w4 w5 := by rw [hw5]; exact below_alloc _ _
        have HCZ : Hid (CT w5 w4.heap.size 0 (.slice none 0 0) (.slice none 0 0) (.slice none 0 0)) := Lib.hid (by rw [hw5]; exact alloc_ct _ _ _ _ _ _)
        have HB5 := Lib.hid (bthen HB4.out hb5)
        clear x0 x1 x2 x3 y0 y1 y2 y3 hw5 hb5
        obtain ⟨x0, x1, x2, x3, -⟩ := HCX.out.below HB5.out
        obtain ⟨y0, y1, y2, y3, -⟩ := HCY.out.below HB5.out
        go_wp2_with fail
        refine (HSA.out w5 HB5.out).mono ?_
        rintro e w6 ⟨rfl, hb6⟩
        have HB6 := Lib.hid (bthen HB5.out hb6)
        have HCZ6 := Lib.hid (HCZ.out.below hb6)
        clear x0 x1 x2 x3 y0 y1 y2 y3 hb6
        go_wp2_with fail
        refine (awake_any _).mono ?_
        rintro e w7 ⟨rfl, hb7⟩
        have HB7 := Lib.hid (bthen HB6.out hb7)
        obtain ⟨z0, z1, z2, z3, -⟩ := HCZ6.out.below hb7
        clear hb7
        go_wp2_with fail
        refine (is_errno 9 (by decide) _).mono ?_
        rintro e w8 ⟨rfl, rfl⟩
        go_wp2
        go_ret
        exact ⟨rfl, bthen HB3.out HB7.out⟩
    · have hr1 : ¬ (r : Int) = 0 := by omega
      obtain ⟨s, hs⟩ : ∃ s, s = m + ni := ⟨_, rfl⟩
      have hsum : (m : Int) + (ni : Int) = (s : Int) := by omega
      have hs9 : (s : Int) ≤ 131072 := by omega
      have HS := Lib.hid hs
      clear hs
      go_wp2
      go_roundg (L + 1 - s)
      case measure =>
        have h1 := HML.out; have h2 := HNI.out; have h3 := HS.out; omega
      case rel =>
        have hno' : ∀ j, 0 < j → j < q + 1 → ¬ nk ∣ ni * j := fun j h1 h2 h3 => by
          rcases Nat.lt_or_ge j q with h | h
          · exact HNO.out j h1 h h3
          · obtain rfl : j = q := by omega
            rw [← HM.out] at h3
            exact hr0 (by rw [HR.out]; exact Nat.mod_eq_zero_of_dvd h3)
        refine ⟨q + 1, s, by rw [HS.out, HM.out, Nat.mul_succ], by omega, ?_, hno', rfl, rfl, rfl⟩
        have h := lcm_more (k := q + 1) HNI.out.1 HNK.out.1 hno'
        rw [Nat.mul_succ, ← HM.out] at h
        rw [HS.out, HL.out]; exact h

end Go.Proofs.Ytajajkganamfiaa
