/-
  LiteralRuns: the walk.
-/
import Derived.Test.YtfhoaehoccfadaaLChk
namespace Go.Proofs.Ytfhoaehoccfadaa
open Go.RowKit Go.Maps
set_option linter.unusedVariables false
set_option linter.unusedSimpArgs false

theorem OfPost.ok2 {ps w e w'} (h : OfPost ps w e w') (h0 : ocode ps = 0) : Below w.heap.size w w' ∧ ∃ ac an cn aa ca ah ch, e = .returned (.tuple #[.agg #[.int .i64 0, .slice ac 256 256, .slice an (prefs ps).length cn, .slice aa (prefs ps).length ca], .slice ah (prefs ps).length ch, .nilIface]) ∧
      RdM w' ac 256 an (prefs ps).length aa (prefs ps).length (litC ps) (litN ps) (litA ps) ∧ Rd w' .i64 ah (prefs ps).length (litH ps) := by
  obtain ⟨hb, ⟨h1, _⟩ | ⟨_, h2⟩⟩ := h
  · exact absurd h0 h1
  · exact ⟨hb, h2⟩
theorem OfPost.bad2 {ps w e w'} {k : Int} (h : OfPost ps w e w') (hk : ocode ps = k) (h0 : k ≠ 0) : Below w.heap.size w w' ∧ e = .returned (.tuple #[.agg #[.int .i64 0, .slice none 0 0, .slice none 0 0, .slice none 0 0], .slice none 0 0, errV k]) := by
  obtain ⟨hb, ⟨_, h2⟩ | ⟨h1, _⟩⟩ := h
  · rw [hk] at h2; exact ⟨hb, h2⟩
  · exact absurd (hk ▸ h1) h0

theorem litL_le (ps : List (List Int)) (hb : Byt ps) : (litL ps).length ≤ (ps.map List.length).foldr (· + ·) 0 := by
  have h1 : ps.flatten.length = (ps.map List.length).foldr (· + ·) 0 := by rw [List.length_flatten]; rfl
  rw [← h1]
  refine nodup_sub_len ((letsTo_sorted _ _).imp (fun {a b} h => by omega)) fun x hx => ?_
  obtain ⟨m, _, hu, rfl⟩ := mem_letsTo.1 hx
  unfold usedB at hu
  obtain ⟨p, hp, hc⟩ := List.any_eq_true.1 hu
  exact List.mem_flatten.2 ⟨p, hp, List.contains_iff_mem.1 hc⟩
theorem pats_byt (ss : List ByteArray) : Byt (pats ss) := by
  intro p hp b hb
  unfold pats at hp
  obtain ⟨s, _, rfl⟩ := List.mem_map.1 hp
  exact numsOf_bd s b hb
theorem Small.valid {ss} (h : Small ss) (h0 : ocode (pats ss) = 0) : Valid 0 (litC (pats ss)) (litN (pats ss)) (litA (pats ss)) :=
  lit_valid (ocode_small h0) (by have := litL_le (pats ss) (pats_byt ss); have := h.sum; omega)
/-- one letter on -/
theorem lit_one (ps : List (List Int)) (t : List Int) {b : Nat} (hb : b < 256) : mrun (litC ps) (litN ps) (litAt ps t : Int) [(b : Int)] = (litAt ps (t ++ [(b : Int)]) : Int) := litAt_snoc t hb
theorem numsOf_getD (s : ByteArray) {i : Nat} (hi : i < s.size) : (numsOf s).getD i 0 = ((s[i]'hi).toNat : Int) := by
  have hi2 : i < s.data.toList.length := hi
  unfold numsOf
  simp only [List.getD, List.getElem?_map, List.getElem?_eq_getElem hi2, Option.map_some, Option.getD_some]
  rfl

set_option maxRecDepth 100000 in
set_option maxHeartbeats 2500000 in
theorem walk_LiteralRuns (a0 : Option Addr) (len0 cap0 : Nat) (l0 : List ByteArray) (a1 : ByteArray) (W : World) (w0 : RdS W a0 len0 l0) (w1 : a1.size ≤ maxLen) (b1 : a1.size ≤ 140737488351232) :
    Calls Try.prog 9 #[.slice a0 len0 cap0, .string a1] W fun e w' => e = .returned (.bool true) ∧ Below W.heap.size W w' := by
  have HS0 := Lib.hid (small_any a0 len0 cap0 l0 W w0)
  have hne0 : ∀ w, (binOp .neq 30 .nilIface .nilIface).run Try.prog w = .ok (.bool false) w := fun w => by kernel_rfl
  have hne4 : ∀ w, (binOp .neq 30 (.iface 56 (.int .i64 4)) .nilIface).run Try.prog w = .ok (.bool true) w := fun w => by kernel_rfl
  have hcv := fun (w : World) (s : ByteArray) => Lib.run_convert_string_bytes (P := Try.prog) w 9 44 5 s Try.underlying9 Try.underlying44 Try.underlying5
  have HL0 := Lib.hid w0.len
  have hmax := w0.max
  have HW0 := Lib.hid (Below.refl W.heap.size W)
  by_cases hbig : 300 < a1.size
  · have hA1 : decide ((300 : Int) < (a1.size : Int)) = true := by simp; omega
    go_enter Try.func9, Try.ntmps9
    go_wp2_with fail
    refine HS0.out.mono ?_
    rintro e w3 ⟨⟨z, rfl, hz⟩, rfl⟩
    clear hz
    cases z with
    | false =>
      go_wp2
      go_ret
      exact ⟨rfl, Below.refl _ _⟩
    | true =>
      go_wp2
      go_ret
      exact ⟨rfl, Below.refl _ _⟩
  · have hA : a1.size ≤ 300 := by omega
    have hA1 : decide ((300 : Int) < (a1.size : Int)) = false := by simp; omega
    clear hbig
    go_enter Try.func9, Try.ntmps9
    go_wp2_with fail
    refine HS0.out.mono ?_
    rintro e w3 ⟨⟨z, rfl, hz⟩, rfl⟩
    cases z with
    | false =>
      clear hz
      go_wp2
      go_ret
      exact ⟨rfl, Below.refl _ _⟩
    | true =>
    have HSM := Lib.hid (small_of (hz rfl))
    have HN : Hid (len0 ≤ 100000) := Lib.hid (by have := HSM.out.n; have := HL0.out; omega)
    clear hz
    go_wp2_with fail
    refine (bytesOf_any a0 len0 cap0 l0 _ (w0.below HW0.out) HN.out).mono ?_
    rintro e r0 ⟨⟨ra0, rc0, rfl, hrows0⟩, hbr0⟩
    have HOF := Lib.hid (of_any ra0 len0 rc0 (pats l0) r0 hrows0 (by rw [pats_len]; have := HSM.out.n; omega))
    have HBR0 := Lib.hid hbr0
    clear hrows0 hbr0
    go_wp2_with fail
    refine HOF.out.mono ?_
    rcases HSM.out.code with hc | hc
    · have HC := Lib.hid hc
      clear hc
      rintro e q0 hp0
      obtain ⟨hbq0, ac, an, cn, aa, ca, ah, ch, rfl, hm0, hh0⟩ := hp0.ok2 HC.out
      have HBQ := Lib.hid (bthen HBR0.out hbq0)
      obtain ⟨q1, hq1⟩ : ∃ q1, q1 = q0.alloc (.cells #[.int .i64 0, .slice ac 256 256, .slice an (prefs (pats l0)).length cn, .slice aa (prefs (pats l0)).length ca] 28) := ⟨_, rfl⟩
      have HQ1 := Lib.hid hq1
      have HB1 := Lib.hid (bthen HBQ.out (show Below q0.heap.size q0 q1 by rw [hq1]; exact below_alloc _ _))
      have HM := Lib.hid (hm0.below (show Below q0.heap.size q0 q1 by rw [hq1]; exact below_alloc _ _))
      have HH := Lib.hid (hh0.below (show Below q0.heap.size q0 q1 by rw [hq1]; exact below_alloc _ _))
      have HX0 : Hid (q1.cell? ⟨q0.heap.size, 0, none⟩ = some (.int .i64 0)) := Lib.hid (by rw [hq1]; simp)
      have HX1 : Hid (q1.cell? ⟨q0.heap.size, 1, none⟩ = some (.slice ac 256 256)) := Lib.hid (by rw [hq1]; simp)
      have HX2 : Hid (q1.cell? ⟨q0.heap.size, 2, none⟩ = some (.slice an (prefs (pats l0)).length cn)) := Lib.hid (by rw [hq1]; simp)
      have HX3 : Hid (q1.cell? ⟨q0.heap.size, 3, none⟩ = some (.slice aa (prefs (pats l0)).length ca)) := Lib.hid (by rw [hq1]; simp)
      clear hp0 hbq0 hm0 hh0 hq1
      go_wp2_with fail
      rw [← HQ1.out]
      refine (bytesOf_any a0 len0 cap0 l0 _ (w0.below HB1.out) HN.out).mono ?_
      rintro e r1 ⟨⟨ra1, rc1, rfl, hrows1⟩, hbr1⟩
      have HRW1 := Lib.hid hrows1
      have HBR1 := Lib.hid ((bthen HB1.out hbr1).trans ((bytesWorld_below r1 5 a1).mono (bthen HB1.out hbr1).size))
      have HQR1 := Lib.hid (bthen hbr1 (bytesWorld_below r1 5 a1))
      clear hrows1 hbr1
      go_wp2_with fail
      refine (ends_str l0 a1 len0 rc1 ra1 r1 HRW1.out HSM.out.n (by omega) _ _ rfl).mono ?_
      have HE1 : Hid (ecode (pats l0) (numsOf a1) = 0) := Lib.hid (by rw [ecode_eq (by rw [numsOf_len]; omega)]; exact HC.out)
      rintro e x1 hp1
      obtain ⟨hb1, ea1, ec1, rfl, hcc1, hr1⟩ := hp1.ok HE1.out
      rw [numsOf_len] at hr1 hcc1 ⊢
      have HB4 := Lib.hid (bthen HBR1.out hb1)
      have HRD1 := Lib.hid hr1
      have HCC1 := Lib.hid hcc1
      have HST1 := Lib.hid (bthen HQR1.out hb1)
      clear hp1 hb1 hr1 hcc1
      go_wp2_with fail

      refine (awake_any x1).mono ?_
      rintro e x7 ⟨rfl, hb7⟩
      have HB7 := Lib.hid (bthen HB4.out hb7)
      have HQ7 := Lib.hid (bthen HST1.out hb7)
      have HE7 := Lib.hid (HRD1.out.below hb7)
      clear hb7
      go_wp2_with fail
      refine (num_nil x7).mono ?_
      rintro e x8 ⟨rfl, rfl⟩
      go_wp2_with fail
      refine (num_nil x7).mono ?_
      rintro e x8 ⟨rfl, rfl⟩
      have hx0 := below_cell HQ7.out HX0.out
      have hx1 := below_cell HQ7.out HX1.out
      have hx2 := below_cell HQ7.out HX2.out
      have hx3 := below_cell HQ7.out HX3.out
      have HV := Lib.hid (HSM.out.valid HC.out)
      have HM7 := Lib.hid (HM.out.below HQ7.out)
      clear hcv
      go_wp2_with fail
      refine (check_ok 0 ac 256 256 an (prefs (pats l0)).length cn aa (prefs (pats l0)).length ca _ _ _ x7 HM7.out HV.out).mono ?_
      rintro e x9 ⟨rfl, hb9⟩
      have HB9 := Lib.hid (bthen HB7.out hb9)
      have HQ9 := Lib.hid (bthen HQ7.out hb9)
      have HE9 := Lib.hid (HE7.out.below hb9)
      clear hb9 hx0 hx1 hx2 hx3
      have hx0 := below_cell HQ9.out HX0.out
      have hx1 := below_cell HQ9.out HX1.out
      have hx2 := below_cell HQ9.out HX2.out
      have hx3 := below_cell HQ9.out HX3.out
      have HY0 := Lib.hid hx0
      have HY1 := Lib.hid hx1
      have HY2 := Lib.hid hx2
      have HY3 := Lib.hid hx3
      go_wp2
      clear hx0 hx1 hx2 hx3
      go_loopg [10, 11] a1.size (fun gg sv iv wr => ∃ k : Nat, k ≤ a1.size ∧ gg = a1.size - k ∧ iv = .int .i64 k ∧ sv = .int .i64 (litAt (pats l0) ((numsOf a1).take k) : Nat) ∧ Below x9.heap.size x9 wr)
      case atStart => exact ⟨0, by omega, rfl, rfl, by rw [List.take_zero, litAt_nil]; rfl, Below.refl _ _⟩
      case round =>
        obtain ⟨k, hk, rfl, rfl, rfl, hbl⟩ := hrel
        have HBL := Lib.hid hbl
        clear hbl
        by_cases hlt : k < a1.size
        · obtain ⟨b, hb⟩ : ∃ b : Nat, b = (a1[k]'hlt).toNat := ⟨_, rfl⟩
          have hb256 : b < 256 := by rw [hb]; exact UInt8.toNat_lt _
          have hidx : ∀ w, (Instr.index 9 (.string a1) (.int .i64 (k : Int))).run Try.prog w = .ok (.int .u8 (b : Int)) w := by
            intro w
            have h0 : (0 : Int) ≤ (k : Int) := by omega
            unfold Instr.index
            simp [asIntOf, run_underlying Try.underlying9, Result.andThen, hb, hlt]
          have hnk : (numsOf a1).getD k 0 = (b : Int) := by rw [numsOf_getD a1 hlt, hb]
          have htk : (numsOf a1).take (k + 1) = (numsOf a1).take k ++ [(b : Int)] := by rw [getD_take_snoc (d := 0) (by rw [numsOf_len]; exact hlt), hnk]
          obtain ⟨q, hq⟩ : ∃ q, q = litAt (pats l0) ((numsOf a1).take k) := ⟨_, rfl⟩
          obtain ⟨r, hr⟩ : ∃ r, r = litAt (pats l0) ((numsOf a1).take (k + 1)) := ⟨_, rfl⟩
          have hrn : r < (prefs (pats l0)).length := by rw [hr]; exact litAt_lt _ _
          have hqn : q < (prefs (pats l0)).length := by rw [hq]; exact litAt_lt _ _
          have hone := lit_one (pats l0) ((numsOf a1).take k) hb256
          rw [← hq, ← htk, ← hr] at hone
          have HR := Lib.hid hr
          have HMW := Lib.hid ((HM.out.below HQ9.out).below HBL.out)
          have HBA := Lib.hid ((HBL.out.alloc HBL.out.size (.cells #[.int .u8 (b : Int)] 5)).drew)
          have HRO : Hid (Rd (wr.alloc (.cells #[.int .u8 (b : Int)] 5)).drew .u8 (some ⟨wr.heap.size, 0, none⟩) 1 [(b : Int)]) := Lib.hid ((Rd.one wr .u8 5 (b : Int) (wf_u8 (by omega) (by omega))).below (Below.drew (Below.refl _ _)))
          have HC5 := Lib.hid (run_ok 0 ac 256 256 an (prefs (pats l0)).length cn aa (prefs (pats l0)).length ca _ _ _ (q : Int) (some ⟨wr.heap.size, 0, none⟩) 1 1 [(b : Int)] _ ((HM.out.below HQ9.out).below HBA.out) HV.out (by omega) (by rw [litN_len]; omega) HRO.out)
          rw [hone] at HC5
          have hhit := litH_at (pats l0) ((numsOf a1).take (k + 1))
          have hacc := litA_at (pats l0) ((numsOf a1).take (k + 1))
          rw [← hr] at hhit hacc
          have hend := endsL_getD (ps := pats l0) (t := numsOf a1) (i := k) (by rw [numsOf_len]; exact hlt)
          rw [← hq]
          have HHC := Lib.hid hhit
          have HAC := Lib.hid hacc
          have HEC := Lib.hid hend
          have hx0 := below_cell HBL.out HY0.out
          have hx1 := below_cell HBL.out HY1.out
          have hx2 := below_cell HBL.out HY2.out
          have hx3 := below_cell HBL.out HY3.out
          have hkz : (k : Int) < (a1.size : Int) := by omega
          clear hb hnk htk hq hr hone hhit hacc hend
          go_wp2
          go_region_held3 (fun w' => w'.cell? ⟨q0.heap.size, 0, none⟩ = some (.int .i64 0) ∧ w'.cell? ⟨q0.heap.size, 1, none⟩ = some (.slice ac 256 256) ∧ w'.cell? ⟨q0.heap.size, 2, none⟩ = some (.slice an (prefs (pats l0)).length cn) ∧ w'.cell? ⟨q0.heap.size, 3, none⟩ = some (.slice aa (prefs (pats l0)).length ca)) (go_keep) (first
            | (go_at_call 23; refine HC5.out.mono ?_; rintro e w5 ⟨rfl, hb5⟩; have hbx := bthen HBA.out hb5; have y0 := below_cell hbx HY0.out; have y1 := below_cell hbx HY1.out; have y2 := below_cell hbx HY2.out; have y3 := below_cell hbx HY3.out; have hbx := Lib.hid hbx; have hb5 := Lib.hid hb5))
          clear hx0 hx1 hx2 hx3
          clear y0 y1 y2
          obtain ⟨v, hv⟩ : ∃ v : Nat, v = cnt (pats l0) ((numsOf a1).take (k + 1)) := ⟨_, rfl⟩
          obtain ⟨g1, o1, rfl, hch⟩ := ((HH.out.below HQ9.out).below hbx.out).cell r hrn
          obtain ⟨g2, o2, rfl, hce⟩ := (HE9.out.below hbx.out).cell k hlt
          obtain ⟨g3, o3, rfl, hca⟩ := ((HM.out.below HQ9.out).below hbx.out).a.cell r hrn
          rw [HHC.out, ← hv] at hch
          rw [HEC.out, ← hv] at hce
          rw [HAC.out, ← hv] at hca
          have hrz : (r : Int) < ((prefs (pats l0)).length : Int) := by omega
          have hrz0 : decide ((r : Int) < 0) = false := decide_eq_false (by omega)
          have hrz1 : decide (((prefs (pats l0)).length : Int) ≤ (r : Int)) = false := by simp; omega
          have hrz2 : decide ((prefs (pats l0)).length ≤ r) = false := by simp; omega
          have hkz2 : (k : Int) < (a1.size : Int) := by omega
          have HBX := Lib.hid hbx.out
          clear hv hb5 hbx
          by_cases hv0 : 0 < v
          · have hv1 : decide (0 < v) = true := decide_eq_true hv0
            have hv2 : decide ((0 : Int) < (v : Int)) = true := decide_eq_true (by omega)
            rw [hv1] at hca
            go_wp2
            go_quiet (fail)
            go_wp2
            go_roundg (a1.size - (k + 1))
            case measure => omega
            case rel => exact ⟨k + 1, by omega, rfl, by go_num, by rw [← HR.out], bdrewN HBX.out _⟩
          · have hv1 : decide (0 < v) = false := decide_eq_false hv0
            have hv2 : decide ((0 : Int) < (v : Int)) = false := decide_eq_false (by omega)
            rw [hv1] at hca
            go_wp2
            go_quiet (fail)
            go_wp2
            go_roundg (a1.size - (k + 1))
            case measure => omega
            case rel => exact ⟨k + 1, by omega, rfl, by go_num, by rw [← HR.out], bdrewN HBX.out _⟩
        · have hka : k = a1.size := by omega
          subst hka
          go_wp2
          go_ret
          exact ⟨rfl, bthen HB9.out HBL.out⟩
    · have HC := Lib.hid hc
      clear hc
      rintro e q0 hp0
      obtain ⟨hbq0, rfl⟩ := hp0.bad2 HC.out (by decide)
      rw [show errV 4 = Value.iface 56 (.int .i64 4) from rfl]
      have HB1 := Lib.hid ((bthen HBR0.out hbq0).trans ((below_alloc q0 (.cells #[.int .i64 0, .slice none 0 0, .slice none 0 0, .slice none 0 0] 28)).mono (bthen HBR0.out hbq0).size))
      clear hp0 hbq0
      go_wp2_with fail
      refine (bytesOf_any a0 len0 cap0 l0 _ (w0.below HB1.out) HN.out).mono ?_
      rintro e r1 ⟨⟨ra1, rc1, rfl, hrows1⟩, hbr1⟩
      have HRW1 := Lib.hid hrows1
      have HBR1 := Lib.hid ((bthen HB1.out hbr1).trans ((bytesWorld_below r1 5 a1).mono (bthen HB1.out hbr1).size))
      have HQR1 := Lib.hid (bthen hbr1 (bytesWorld_below r1 5 a1))
      clear hrows1 hbr1
      go_wp2_with fail
      refine (ends_str l0 a1 len0 rc1 ra1 r1 HRW1.out HSM.out.n (by omega) _ _ rfl).mono ?_
      have HE1 : Hid (ecode (pats l0) (numsOf a1) = 4) := Lib.hid (by rw [ecode_eq (by rw [numsOf_len]; omega)]; exact HC.out)
      rintro e x1 hp1
      obtain ⟨hb1, rfl⟩ := hp1.bad HE1.out (by decide)
      rw [show errV 4 = Value.iface 56 (.int .i64 4) from rfl]
      have HB4 := Lib.hid (bthen HBR1.out hb1)
      clear hp1 hb1
      go_wp2_with fail

      refine (awake_any x1).mono ?_
      rintro e x7 ⟨rfl, hb7⟩
      have HB7 := Lib.hid (bthen HB4.out hb7)
      clear hb7
      go_wp2_with fail
      refine (num_errno 4 x7).mono ?_
      rintro e x8 ⟨rfl, rfl⟩
      go_wp2_with fail
      refine (num_errno 4 x7).mono ?_
      rintro e x8 ⟨rfl, rfl⟩
      go_wp2
      go_ret
      exact ⟨rfl, HB7.out⟩

end Go.Proofs.Ytfhoaehoccfadaa
