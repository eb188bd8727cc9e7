/-
  LiteralConcatenates: the walk.
-/
import Derived.Test.YtfhoaehoccfadaaLEndsS
namespace Go.Proofs.Ytfhoaehoccfadaa
open Go.RowKit Go.Maps
set_option linter.unusedVariables false
set_option linter.unusedSimpArgs false

theorem conc_ints (ps : List (List Int)) (A B : List Int) : (endsL ps (A ++ B)).take A.length = endsL ps A := by
  refine List.ext_getElem (by simp [endsL]) fun i h1 h2 => ?_
  have hi : i < A.length := by simpa [endsL] using h2
  simp only [List.getElem_take]
  simp only [endsL, List.getElem_map, List.getElem_range]
  rw [List.take_append_of_le_length (by omega)]
theorem conc_at (ps : List (List Int)) (A B : List Int) {i : Nat} (hi : i < B.length) : (endsL ps (A ++ B)).getD (A.length + i) 0 = (cnt ps (A ++ B.take (i + 1)) : Int) := by
  rw [endsL_getD (by rw [List.length_append]; omega), List.take_append, List.take_of_length_le (by omega)]
  rw [show A.length + i + 1 - A.length = i + 1 by omega]

set_option maxRecDepth 100000 in
set_option maxHeartbeats 1500000 in
theorem walk_LiteralConcatenates (a0 : Option Addr) (len0 cap0 : Nat) (l0 : List ByteArray) (a1 a2 : ByteArray) (W : World) (w0 : RdS W a0 len0 l0) (w1 : a1.size ≤ maxLen) (b1 : a1.size ≤ 140737488351232) (w2 : a2.size ≤ maxLen) (b2 : a2.size ≤ 140737488351232) :
    Calls Try.prog 7 #[.slice a0 len0 cap0, .string a1, .string a2] W fun e w' => e = .returned (.bool true) ∧ Below W.heap.size W w' := by
  have HS0 := Lib.hid (small_any a0 len0 cap0 l0 W w0)
  have hne0 : ∀ w, (binOp .neq 30 .nilIface .nilIface).run Try.prog w = .ok (.bool false) w := fun w => by kernel_rfl
  have hne4 : ∀ w, (binOp .neq 30 (.iface 56 (.int .i64 4)) .nilIface).run Try.prog w = .ok (.bool true) w := fun w => by kernel_rfl
  have hcv := fun (w : World) (s : ByteArray) => Lib.run_convert_string_bytes (P := Try.prog) w 9 44 5 s Try.underlying9 Try.underlying44 Try.underlying5
  have HL0 := Lib.hid w0.len
  have hmax := w0.max
  have HW0 := Lib.hid (Below.refl W.heap.size W)
  by_cases hbig : 150 < a1.size ∨ 150 < a2.size
  · go_enter Try.func7, Try.ntmps7
    go_wp2_with fail
    refine HS0.out.mono ?_
    rintro e w3 ⟨⟨z, rfl, hz⟩, rfl⟩
    clear hz
    cases z with
    | false =>
      go_wp2
      go_ret
      exact ⟨rfl, Below.refl _ _⟩
    | true =>
      by_cases hA : 150 < a1.size
      · have hA1 : decide ((150 : Int) < (a1.size : Int)) = true := by simp; omega
        go_wp2
        go_ret
        exact ⟨rfl, Below.refl _ _⟩
      · have hA1 : decide ((150 : Int) < (a1.size : Int)) = false := by simp; omega
        have hB1 : decide ((150 : Int) < (a2.size : Int)) = true := by simp; omega
        go_wp2
        go_ret
        exact ⟨rfl, Below.refl _ _⟩
  · have hA : a1.size ≤ 150 := by omega
    have hB : a2.size ≤ 150 := by omega
    have hA1 : decide ((150 : Int) < (a1.size : Int)) = false := by simp; omega
    have hB1 : decide ((150 : Int) < (a2.size : Int)) = false := by simp; omega
    clear hbig
    go_enter Try.func7, Try.ntmps7
    go_wp2_with fail
    refine HS0.out.mono ?_
    rintro e w3 ⟨⟨z, rfl, hz⟩, rfl⟩
    cases z with
    | false =>
      clear hz
      go_wp2
      go_ret
      exact ⟨rfl, Below.refl _ _⟩
    | true =>
    have HSM := Lib.hid (small_of (hz rfl))
    have HN : Hid (len0 ≤ 100000) := Lib.hid (by have := HSM.out.n; have := HL0.out; omega)
    clear hz
    go_wp2_with fail
    rcases HSM.out.code with hc | hc
    · have HC := Lib.hid hc
      clear hc
      refine (bytesOf_any a0 len0 cap0 l0 _ (w0.below HW0.out) HN.out).mono ?_
      rintro e r1 ⟨⟨ra1, rc1, rfl, hrows1⟩, hbr1⟩
      have HRW1 := Lib.hid hrows1
      have HBR1 := Lib.hid ((bthen HW0.out hbr1).trans ((bytesWorld_below r1 5 a1).mono (bthen HW0.out hbr1).size))
      have HQR1 := Lib.hid (bthen hbr1 (bytesWorld_below r1 5 a1))
      clear hrows1 hbr1
      go_wp2_with fail
      refine (ends_str l0 a1 len0 rc1 ra1 r1 HRW1.out HSM.out.n (by omega) _ _ rfl).mono ?_
      have HE1 : Hid (ecode (pats l0) (numsOf a1) = 0) := Lib.hid (by rw [ecode_eq (by rw [numsOf_len]; omega)]; exact HC.out)
      rintro e x1 hp1
      obtain ⟨hb1, ea1, ec1, rfl, hcc1, hr1⟩ := hp1.ok HE1.out
      rw [numsOf_len] at hr1 hcc1 ⊢
      have HB4 := Lib.hid (bthen HBR1.out hb1)
      have HRD1 := Lib.hid hr1
      have HCC1 := Lib.hid hcc1
      have HST1 := Lib.hid (bthen HQR1.out hb1)
      clear hp1 hb1 hr1 hcc1
      go_wp2_with fail

      refine (bytesOf_any a0 len0 cap0 l0 _ (w0.below HB4.out) HN.out).mono ?_
      rintro e r2 ⟨⟨ra2, rc2, rfl, hrows2⟩, hbr2⟩
      have HRW2 := Lib.hid hrows2
      have HBR2 := Lib.hid ((bthen HB4.out hbr2).trans ((bytesWorld_below r2 5 a2).mono (bthen HB4.out hbr2).size))
      have HQR2 := Lib.hid (bthen hbr2 (bytesWorld_below r2 5 a2))
      clear hrows2 hbr2
      go_wp2_with fail
      refine (ends_str l0 a2 len0 rc2 ra2 r2 HRW2.out HSM.out.n (by omega) _ _ rfl).mono ?_
      have HE2 : Hid (ecode (pats l0) (numsOf a2) = 0) := Lib.hid (by rw [ecode_eq (by rw [numsOf_len]; omega)]; exact HC.out)
      rintro e x2 hp2
      obtain ⟨hb2, ea2, ec2, rfl, hcc2, hr2⟩ := hp2.ok HE2.out
      rw [numsOf_len] at hr2 hcc2 ⊢
      have HB5 := Lib.hid (bthen HBR2.out hb2)
      have HRD2 := Lib.hid hr2
      have HCC2 := Lib.hid hcc2
      have HST2 := Lib.hid (bthen HQR2.out hb2)
      clear hp2 hb2 hr2 hcc2
      go_wp2_with fail

      refine (bytesOf_any a0 len0 cap0 l0 _ (w0.below HB5.out) HN.out).mono ?_
      rintro e r3 ⟨⟨ra3, rc3, rfl, hrows3⟩, hbr3⟩
      have HRW3 := Lib.hid hrows3
      have HBR3 := Lib.hid ((bthen HB5.out hbr3).trans ((bytesWorld_below r3 5 (a1 ++ a2)).mono (bthen HB5.out hbr3).size))
      have HQR3 := Lib.hid (bthen hbr3 (bytesWorld_below r3 5 (a1 ++ a2)))
      clear hrows3 hbr3
      go_wp2_with fail
      refine (ends_str l0 (a1 ++ a2) len0 rc3 ra3 r3 HRW3.out HSM.out.n (by rw [ByteArray.size_append]; omega) _ _ (by rw [ByteArray.size_append])).mono ?_
      have HE3 : Hid (ecode (pats l0) (numsOf (a1 ++ a2)) = 0) := Lib.hid (by rw [ecode_eq (by rw [numsOf_len]; rw [ByteArray.size_append]; omega)]; exact HC.out)
      rintro e x3 hp3
      obtain ⟨hb3, ea3, ec3, rfl, hcc3, hr3⟩ := hp3.ok HE3.out
      rw [numsOf_len, ByteArray.size_append] at hr3 hcc3 ⊢
      have HB6 := Lib.hid (bthen HBR3.out hb3)
      have HRD3 := Lib.hid hr3
      have HCC3 := Lib.hid hcc3
      have HST3 := Lib.hid (bthen HQR3.out hb3)
      clear hp3 hb3 hr3 hcc3
      go_wp2_with fail

      refine (awake_any x3).mono ?_
      rintro e x7 ⟨rfl, hb7⟩
      have HB7 := Lib.hid (bthen HB6.out hb7)
      have HX1 := Lib.hid (((HRD1.out.below HST2.out).below HST3.out).below hb7)
      have HX2 := Lib.hid ((HRD2.out.below HST3.out).below hb7)
      have HX3 := Lib.hid (HRD3.out.below hb7)
      clear hb7
      go_wp2_with fail
      refine (num_nil x7).mono ?_
      rintro e x8 ⟨rfl, rfl⟩
      go_wp2_with fail
      refine (num_nil x7).mono ?_
      rintro e x8 ⟨rfl, rfl⟩
      go_wp2_with fail
      refine (num_nil x7).mono ?_
      rintro e x8 ⟨rfl, rfl⟩
      go_wp2_with fail
      refine (num_nil x7).mono ?_
      rintro e x8 ⟨rfl, rfl⟩
      go_wp2_with fail
      clear hcv hne0 hne4
      go_loopg [13, 14] len0 (fun gg mv iv wr => ∃ (k m : Nat), k ≤ len0 ∧ gg = len0 - k ∧ iv = .int .i64 k ∧ mv = .int .i64 m ∧ m ≤ 1000 ∧ (∀ i, i < k → (l0.getD i ByteArray.empty).size ≤ m) ∧ x7 = wr)
      case atStart => exact ⟨0, 0, by omega, rfl, rfl, rfl, by omega, fun i hi => by omega, rfl⟩
      case round =>
        obtain ⟨k, m, hk, rfl, rfl, rfl, hm, hmx, hw⟩ := hrel
        subst hw
        have HMX := Lib.hid hmx
        clear hmx
        by_cases hlt : k < len0
        · obtain ⟨b, off, rfl, hc⟩ := (w0.below HB7.out).cell k hlt
          have HSI := Lib.hid (HSM.out.len k)
          have hkz : (k : Int) < (len0 : Int) := by omega
          have HGS : Hid (∀ i, i < k + 1 → (l0.getD i ByteArray.empty).size ≤ max m (l0.getD k ByteArray.empty).size) := Lib.hid (fun i hi => by
            by_cases e : i < k
            · have := HMX.out i e; omega
            · have : i = k := by omega
              subst this; omega)
          generalize l0.getD k ByteArray.empty = s at *
          go_wp2
          all_goals
            go_roundg (len0 - (k + 1))
            case measure => omega
            case rel =>
              have h1 := HSI.out
              refine ⟨k + 1, max m s.size, by omega, rfl, by go_num, ?_, by omega, HGS.out, rfl⟩
              congr 1; omega
        · have hkn : k = len0 := by omega
          subst hkn
          have HLONG : Hid (∀ p ∈ pats l0, p.length ≤ m) := Lib.hid (fun p hp => by
            obtain ⟨q1, q2⟩ := mem_getD (d := []) hp
            rw [← q2, pats_getD, numsOf_len]
            exact HMX.out _ (by rw [← HL0.out, ← pats_len]; exact q1))
          clear HMX
          obtain ⟨cz, hcut, hrun⟩ := Rd.cutH (P := Try.prog) EI HX3.out (v := a1.size) (c := ec3) (by omega) HCC3.out
          have HIN : Hid (decide ((endsL (pats l0) (numsOf (a1 ++ a2))).take a1.size = endsL (pats l0) (numsOf a1)) = true) := Lib.hid (by
            rw [decide_eq_true_eq, numsOf_append, ← numsOf_len a1]; exact conc_ints _ _ _)
          have HCUT := Lib.hid hcut
          clear hcut
          go_wp2_with fail
          refine (ints_any _ _ a1.size a1.size _ _ _ _ x7 HCUT.out HX1.out).mono ?_
          rintro e x8 ⟨he, hb8⟩
          rw [HIN.out] at he
          subst he
          have HB8 := Lib.hid (bthen HB7.out hb8)
          have HY2 := Lib.hid (HX2.out.below hb8)
          have HY3 := Lib.hid (HX3.out.below hb8)
          clear hb8 hrun
          go_wp2
          go_loopg [15] a2.size (fun gg iv wr => ∃ (k : Nat), k ≤ a2.size ∧ gg = a2.size - k ∧ iv = .int .i64 k ∧ Below x8.heap.size x8 wr)
          case atStart => exact ⟨0, by omega, rfl, rfl, Below.refl _ _⟩
          case round =>
            obtain ⟨k, hk, rfl, rfl, hbl⟩ := hrel
            have HBL := Lib.hid hbl
            clear hbl
            by_cases hlt : k < a2.size
            · obtain ⟨g2, o2, rfl, hc2⟩ := (HY2.out.below HBL.out).cell k hlt
              obtain ⟨g3, o3, rfl, hc3⟩ := (HY3.out.below HBL.out).cell (a1.size + k) (by omega)
              have hv2 := endsL_getD (ps := pats l0) (t := numsOf a2) (i := k) (by rw [numsOf_len]; exact hlt)
              have hv3 := conc_at (pats l0) (numsOf a1) (numsOf a2) (i := k) (by rw [numsOf_len]; exact hlt)
              rw [numsOf_len, ← numsOf_append] at hv3
              rw [hv2] at hc2
              rw [hv3] at hc3
              have hmono := cnt_mono (ps := pats l0) (numsOf a1) ((numsOf a2).take (k + 1))
              have HLO : Hid (m ≤ k + 1 → cnt (pats l0) (numsOf a1 ++ (numsOf a2).take (k + 1)) = cnt (pats l0) ((numsOf a2).take (k + 1))) := Lib.hid (fun h => cnt_long _ _ fun p hp => by
                have := HLONG.out p hp
                rw [List.length_take, numsOf_len]; omega)
              generalize cnt (pats l0) (numsOf a1 ++ (numsOf a2).take (k + 1)) = p3 at *
              generalize cnt (pats l0) ((numsOf a2).take (k + 1)) = p2 at *
              have ht1 : decide ((p3 : Int) < (p2 : Int)) = false := by simp; omega
              have ht1n : decide (p3 < p2) = false := by simp; omega
              have hkz : (k : Int) < (a2.size : Int) := by omega
              obtain ⟨q, hq⟩ : ∃ q, q = a1.size + k := ⟨_, rfl⟩
              have heq : (a1.size : Int) + (k : Int) = (q : Int) := by omega
              have hkz2 : (q : Int) < (a1.size : Int) + (a2.size : Int) := by omega
              have hkz3 : (q : Int) < ((a1.size + a2.size : Nat) : Int) := by omega
              have hkw : IntKind.i64.wrap (q : Int) = (q : Int) := IntWalk.i64_in _ (by omega)
              rw [← hq] at hc3
              clear hq
              clear hv2 hv3 hmono
              by_cases hmk : m ≤ k + 1
              · have heq := HLO.out hmk
                subst heq
                have ht2 : decide ((m : Int) ≤ (k : Int) + 1) = true := by simp; omega
                go_wp2
                go_quiet (fail)
                go_wp2
                go_roundg (a2.size - (k + 1))
                case measure => omega
                case rel => exact ⟨k + 1, by omega, rfl, by go_num, bdrewN HBL.out _⟩
              · have ht2 : decide ((m : Int) ≤ (k : Int) + 1) = false := by simp; omega
                go_wp2
                go_quiet (fail)
                go_wp2
                go_roundg (a2.size - (k + 1))
                case measure => omega
                case rel => exact ⟨k + 1, by omega, rfl, by go_num, bdrewN HBL.out _⟩
            · have hk2 : k = a2.size := by omega
              subst hk2
              go_wp2
              go_ret
              exact ⟨rfl, bthen HB8.out HBL.out⟩
    · have HC := Lib.hid hc
      clear hc
      refine (bytesOf_any a0 len0 cap0 l0 _ (w0.below HW0.out) HN.out).mono ?_
      rintro e r1 ⟨⟨ra1, rc1, rfl, hrows1⟩, hbr1⟩
      have HRW1 := Lib.hid hrows1
      have HBR1 := Lib.hid ((bthen HW0.out hbr1).trans ((bytesWorld_below r1 5 a1).mono (bthen HW0.out hbr1).size))
      have HQR1 := Lib.hid (bthen hbr1 (bytesWorld_below r1 5 a1))
      clear hrows1 hbr1
      go_wp2_with fail
      refine (ends_str l0 a1 len0 rc1 ra1 r1 HRW1.out HSM.out.n (by omega) _ _ rfl).mono ?_
      have HE1 : Hid (ecode (pats l0) (numsOf a1) = 4) := Lib.hid (by rw [ecode_eq (by rw [numsOf_len]; omega)]; exact HC.out)
      rintro e x1 hp1
      obtain ⟨hb1, rfl⟩ := hp1.bad HE1.out (by decide)
      rw [show errV 4 = Value.iface 56 (.int .i64 4) from rfl]
      have HB4 := Lib.hid (bthen HBR1.out hb1)
      clear hp1 hb1
      go_wp2_with fail

      refine (bytesOf_any a0 len0 cap0 l0 _ (w0.below HB4.out) HN.out).mono ?_
      rintro e r2 ⟨⟨ra2, rc2, rfl, hrows2⟩, hbr2⟩
      have HRW2 := Lib.hid hrows2
      have HBR2 := Lib.hid ((bthen HB4.out hbr2).trans ((bytesWorld_below r2 5 a2).mono (bthen HB4.out hbr2).size))
      have HQR2 := Lib.hid (bthen hbr2 (bytesWorld_below r2 5 a2))
      clear hrows2 hbr2
      go_wp2_with fail
      refine (ends_str l0 a2 len0 rc2 ra2 r2 HRW2.out HSM.out.n (by omega) _ _ rfl).mono ?_
      have HE2 : Hid (ecode (pats l0) (numsOf a2) = 4) := Lib.hid (by rw [ecode_eq (by rw [numsOf_len]; omega)]; exact HC.out)
      rintro e x2 hp2
      obtain ⟨hb2, rfl⟩ := hp2.bad HE2.out (by decide)
      rw [show errV 4 = Value.iface 56 (.int .i64 4) from rfl]
      have HB5 := Lib.hid (bthen HBR2.out hb2)
      clear hp2 hb2
      go_wp2_with fail

      refine (bytesOf_any a0 len0 cap0 l0 _ (w0.below HB5.out) HN.out).mono ?_
      rintro e r3 ⟨⟨ra3, rc3, rfl, hrows3⟩, hbr3⟩
      have HRW3 := Lib.hid hrows3
      have HBR3 := Lib.hid ((bthen HB5.out hbr3).trans ((bytesWorld_below r3 5 (a1 ++ a2)).mono (bthen HB5.out hbr3).size))
      have HQR3 := Lib.hid (bthen hbr3 (bytesWorld_below r3 5 (a1 ++ a2)))
      clear hrows3 hbr3
      go_wp2_with fail
      refine (ends_str l0 (a1 ++ a2) len0 rc3 ra3 r3 HRW3.out HSM.out.n (by rw [ByteArray.size_append]; omega) _ _ (by rw [ByteArray.size_append])).mono ?_
      have HE3 : Hid (ecode (pats l0) (numsOf (a1 ++ a2)) = 4) := Lib.hid (by rw [ecode_eq (by rw [numsOf_len]; rw [ByteArray.size_append]; omega)]; exact HC.out)
      rintro e x3 hp3
      obtain ⟨hb3, rfl⟩ := hp3.bad HE3.out (by decide)
      rw [show errV 4 = Value.iface 56 (.int .i64 4) from rfl]
      have HB6 := Lib.hid (bthen HBR3.out hb3)
      clear hp3 hb3
      go_wp2_with fail

      refine (awake_any x3).mono ?_
      rintro e x7 ⟨rfl, hb7⟩
      have HB7 := Lib.hid (bthen HB6.out hb7)
      clear hb7
      go_wp2_with fail
      refine (num_errno 4 x7).mono ?_
      rintro e x8 ⟨rfl, rfl⟩
      go_wp2_with fail
      refine (num_errno 4 x7).mono ?_
      rintro e x8 ⟨rfl, rfl⟩
      go_wp2_with fail
      refine (num_errno 4 x7).mono ?_
      rintro e x8 ⟨rfl, rfl⟩
      go_wp2_with fail
      refine (num_errno 4 x7).mono ?_
      rintro e x8 ⟨rfl, rfl⟩
      go_wp2
      go_ret
      exact ⟨rfl, HB7.out⟩

end Go.Proofs.Ytfhoaehoccfadaa
