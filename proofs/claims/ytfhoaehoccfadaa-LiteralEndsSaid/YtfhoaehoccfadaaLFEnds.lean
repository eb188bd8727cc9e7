/-
  LiteralEnds: the walk.
-/
import Derived.Test.YtfhoaehoccfadaaLEndsS
import Derived.Test.YtfhoaehoccfadaaLErr
namespace Go.Proofs.Ytfhoaehoccfadaa
open Go.RowKit Go.Maps
set_option linter.unusedVariables false
set_option linter.unusedSimpArgs false

set_option maxRecDepth 100000 in
set_option maxHeartbeats 1500000 in
theorem walk_LiteralEnds (a0 : Option Addr) (len0 cap0 : Nat) (l0 : List ByteArray) (a1 : ByteArray) (W : World) (w0 : RdS W a0 len0 l0) (w1 : a1.size ≤ maxLen) (b1 : a1.size ≤ 140737488351232) :
    Calls Try.prog 4 #[.slice a0 len0 cap0, .string a1] W fun e w' => e = .returned (.bool true) ∧ Below W.heap.size W w' := by
  have HS0 := Lib.hid (small_any a0 len0 cap0 l0 W w0)
  have hne0 : ∀ w, (binOp .neq 30 .nilIface .nilIface).run Try.prog w = .ok (.bool false) w := fun w => by kernel_rfl
  have hne4 : ∀ w, (binOp .neq 30 (.iface 56 (.int .i64 4)) .nilIface).run Try.prog w = .ok (.bool true) w := fun w => by kernel_rfl
  have hcv := fun (w : World) (s : ByteArray) => Lib.run_convert_string_bytes (P := Try.prog) w 9 44 5 s Try.underlying9 Try.underlying44 Try.underlying5
  have HL0 := Lib.hid w0.len
  have hmax := w0.max
  have HW0 := Lib.hid (Below.refl W.heap.size W)
  by_cases hbig : 200 < a1.size
  · have hA1 : decide ((200 : Int) < (a1.size : Int)) = true := by simp; omega
    have hA1n : decide (200 < a1.size) = true := by simp; omega
    go_enter Try.func4, Try.ntmps4
    go_wp2_with fail
    refine HS0.out.mono ?_
    rintro e w3 ⟨⟨z, rfl, hz⟩, rfl⟩
    clear hz
    cases z with
    | false =>
      go_wp2
      go_ret
      exact ⟨rfl, Below.refl _ _⟩
    | true =>
      go_wp2
      go_ret
      exact ⟨rfl, Below.refl _ _⟩
  · have hA : a1.size ≤ 200 := by omega
    have hA1 : decide ((200 : Int) < (a1.size : Int)) = false := by simp; omega
    have hA1n : decide (200 < a1.size) = false := by simp; omega
    clear hbig
    go_enter Try.func4, Try.ntmps4
    go_wp2_with fail
    refine HS0.out.mono ?_
    rintro e w3 ⟨⟨z, rfl, hz⟩, rfl⟩
    cases z with
    | false =>
      clear hz
      go_wp2
      go_ret
      exact ⟨rfl, Below.refl _ _⟩
    | true =>
    have HSM := Lib.hid (small_of (hz rfl))
    have HN : Hid (len0 ≤ 100000) := Lib.hid (by have := HSM.out.n; have := HL0.out; omega)
    clear hz
    go_wp2_with fail
    rcases HSM.out.code with hc | hc
    · have HC := Lib.hid hc
      clear hc
      refine (bytesOf_any a0 len0 cap0 l0 _ (w0.below HW0.out) HN.out).mono ?_
      rintro e r1 ⟨⟨ra1, rc1, rfl, hrows1⟩, hbr1⟩
      have HRW1 := Lib.hid hrows1
      have HBR1 := Lib.hid ((bthen HW0.out hbr1).trans ((bytesWorld_below r1 5 a1).mono (bthen HW0.out hbr1).size))
      have HQR1 := Lib.hid (bthen hbr1 (bytesWorld_below r1 5 a1))
      clear hrows1 hbr1
      go_wp2_with fail
      refine (ends_str l0 a1 len0 rc1 ra1 r1 HRW1.out HSM.out.n (by omega) _ _ rfl).mono ?_
      have HE1 : Hid (ecode (pats l0) (numsOf a1) = 0) := Lib.hid (by rw [ecode_eq (by rw [numsOf_len]; omega)]; exact HC.out)
      rintro e x1 hp1
      obtain ⟨hb1, ea1, ec1, rfl, hcc1, hr1⟩ := hp1.ok HE1.out
      rw [numsOf_len] at hr1 hcc1 ⊢
      have HB4 := Lib.hid (bthen HBR1.out hb1)
      have HRD1 := Lib.hid hr1
      have HCC1 := Lib.hid hcc1
      have HST1 := Lib.hid (bthen HQR1.out hb1)
      clear hp1 hb1 hr1 hcc1
      go_wp2_with fail

      refine (error_any a0 len0 cap0 l0 _ (w0.below HB4.out) HSM.out).mono ?_
      rw [HC.out]
      rintro e x6 ⟨rfl, hb6⟩
      have HB6 := Lib.hid (bthen HB4.out hb6)
      have HY1 := Lib.hid (HRD1.out.below hb6)
      clear hb6
      go_wp2_with fail
      refine (awake_any x6).mono ?_
      rintro e x7 ⟨rfl, hb7⟩
      have HB7 := Lib.hid (bthen HB6.out hb7)
      have HX1 := Lib.hid (HY1.out.below hb7)
      have HW7 := Lib.hid (w0.below HB7.out)
      clear hb7
      go_wp2_with fail
      refine (num_nil x7).mono ?_
      rintro e x8 ⟨rfl, rfl⟩
      clear hcv hne0 hne4
      go_wp2
      go_loopg [8] a1.size (fun gg iv wr => ∃ (k : Nat), k ≤ a1.size ∧ gg = a1.size - k ∧ iv = .int .i64 k ∧ Below x7.heap.size x7 wr)
      case atStart => exact ⟨0, by omega, rfl, rfl, Below.refl _ _⟩
      case round =>
        obtain ⟨k, hk, rfl, rfl, hbl⟩ := hrel
        have HBL := Lib.hid hbl
        clear hbl
        by_cases hlt : k < a1.size
        · obtain ⟨g2, o2, rfl, hc2⟩ := (HX1.out.below HBL.out).cell k hlt
          have hv2 := endsL_getD (ps := pats l0) (t := numsOf a1) (i := k) (by rw [numsOf_len]; exact hlt)
          obtain ⟨K1, hK1⟩ : ∃ K1 : Nat, K1 = k + 1 := ⟨_, rfl⟩
          rw [hv2, ← hK1, ← take_nums] at hc2
          have hkc : ((k : Int) + 1) = (K1 : Int) := by omega
          have hKs : (K1 : Int) ≤ (a1.size : Int) := by omega
          have hKs2 : K1 ≤ a1.size := by omega
          have HRT := Lib.hid (HW7.out.below HBL.out)
          have hkz : (k : Int) < (a1.size : Int) := by omega
          have hex : (a1.extract 0 K1).size ≤ 9223372036854775807 := by rw [ByteArray.size_extract]; omega
          have HEX := Lib.hid hex
          have HK1 := Lib.hid hK1
          have HH := Lib.hid (fun (n : Nat) => (hits_any a0 len0 cap0 l0 (a1.extract 0 K1) (wr.drewN n) (HRT.out.below (bdrewN (Below.refl _ _) n)) HEX.out).mono (R' := fun r w' => r = .returned (.int .i64 (cnt (pats l0) (numsOf (a1.extract 0 K1)) : Nat)) ∧ w' = wr.drewN n) (fun _ _ h => ⟨h.1, h.2.symm⟩))
          clear hv2 hex hK1
          go_wp2
          go_quiet (first | (go_at_call 21; exact Calls.quiet_of_same (HH.out _)))
          go_wp2
          go_roundg (a1.size - (k + 1))
          case measure => omega
          case rel => exact ⟨k + 1, by omega, rfl, by first | go_num | (rw [← hkc]; rfl) | (rw [HK1.out]; rfl), bdrewN HBL.out _⟩
        · have hk2 : k = a1.size := by omega
          subst hk2
          go_wp2
          go_ret
          exact ⟨rfl, bthen HB7.out HBL.out⟩
    · have HC := Lib.hid hc
      clear hc
      refine (bytesOf_any a0 len0 cap0 l0 _ (w0.below HW0.out) HN.out).mono ?_
      rintro e r1 ⟨⟨ra1, rc1, rfl, hrows1⟩, hbr1⟩
      have HRW1 := Lib.hid hrows1
      have HBR1 := Lib.hid ((bthen HW0.out hbr1).trans ((bytesWorld_below r1 5 a1).mono (bthen HW0.out hbr1).size))
      have HQR1 := Lib.hid (bthen hbr1 (bytesWorld_below r1 5 a1))
      clear hrows1 hbr1
      go_wp2_with fail
      refine (ends_str l0 a1 len0 rc1 ra1 r1 HRW1.out HSM.out.n (by omega) _ _ rfl).mono ?_
      have HE1 : Hid (ecode (pats l0) (numsOf a1) = 4) := Lib.hid (by rw [ecode_eq (by rw [numsOf_len]; omega)]; exact HC.out)
      rintro e x1 hp1
      obtain ⟨hb1, rfl⟩ := hp1.bad HE1.out (by decide)
      rw [show errV 4 = Value.iface 56 (.int .i64 4) from rfl]
      have HB4 := Lib.hid (bthen HBR1.out hb1)
      clear hp1 hb1
      go_wp2_with fail

      refine (error_any a0 len0 cap0 l0 _ (w0.below HB4.out) HSM.out).mono ?_
      rw [HC.out]
      rintro e x6 ⟨rfl, hb6⟩
      have HB6 := Lib.hid (bthen HB4.out hb6)
      clear hb6
      go_wp2_with fail
      refine (awake_any x6).mono ?_
      rintro e x7 ⟨rfl, hb7⟩
      have HB7 := Lib.hid (bthen HB6.out hb7)
      clear hb7
      go_wp2_with fail
      refine (num_errno 4 x7).mono ?_
      rintro e x8 ⟨rfl, rfl⟩
      go_wp2
      go_ret
      exact ⟨rfl, HB7.out⟩

end Go.Proofs.Ytfhoaehoccfadaa
