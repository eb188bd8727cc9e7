/-
  LiteralFinds: the walk.
-/
import Derived.Test.YtfhoaehoccfadaaLRunsW
import Derived.Test.YtfhoaehoccfadaaLErr
import Derived.Deep.RegionWith
namespace Go.Proofs.Ytfhoaehoccfadaa
open Go.RowKit Go.Maps
set_option linter.unusedVariables false
set_option linter.unusedSimpArgs false

theorem lit_run (ps : List (List Int)) (l : List Int) (hb : ∀ x ∈ l, 0 ≤ x ∧ x ≤ 255) : mrun (litC ps) (litN ps) 0 l = (litAt ps l : Int) := by
  have key : ∀ k, k ≤ l.length → mrun (litC ps) (litN ps) 0 (l.take k) = (litAt ps (l.take k) : Int) := by
    intro k
    induction k with
    | zero => intro _; rw [List.take_zero, litAt_nil]; rfl
    | succ k ih =>
      intro hk
      have hm : l.getD k 0 ∈ l := getD_mem (by omega)
      obtain ⟨b, hbn⟩ := Int.eq_ofNat_of_zero_le (hb _ hm).1
      have h2 := (hb _ hm).2
      rw [getD_take_snoc (d := 0) (show k < l.length by omega), mrun_snoc, ih (by omega), hbn]
      rw [hbn] at h2
      have hb256 : b < 256 := by omega
      exact lit_one ps (l.take k) hb256
  have h := key l.length (by omega)
  rwa [List.take_of_length_le (by omega)] at h

theorem accepts_str (ss : List ByteArray) (T : ByteArray) (ac : Option Addr) (an : Option Addr) (cn : Nat) (aa : Option Addr) (ca : Nat) (w : World)
    (hm : RdM w ac 256 an (prefs (pats ss)).length aa (prefs (pats ss)).length (litC (pats ss)) (litN (pats ss)) (litA (pats ss))) (hv : Valid 0 (litC (pats ss)) (litN (pats ss)) (litA (pats ss))) (hT : T.size ≤ 65536) (cap m : Nat) (hmz : m = T.size) :
    Calls Try.prog 24 #[.agg #[.int .i64 0, .slice ac 256 256, .slice an (prefs (pats ss)).length cn, .slice aa (prefs (pats ss)).length ca], .slice (some ⟨w.heap.size, 0, none⟩) m cap] (Lib.bytesWorld w 5 T)
      fun e w' => e = .returned (.tuple #[.bool (decide (0 < cnt (pats ss) (numsOf T))), .nilIface]) ∧ Below w.heap.size w w' := by
  subst hmz
  refine (accepts_ok 0 ac 256 256 an _ cn aa _ ca _ _ _ (some ⟨w.heap.size, 0, none⟩) T.size cap (numsOf T) (Lib.bytesWorld w 5 T) (hm.below (bytesWorld_below _ _ _)) hv (bytesWorld_rd _ _ _ (by omega))).mono ?_
  rintro e w2 ⟨he, hb⟩
  rw [lit_run _ _ (numsOf_bd T), show ((litAt (pats ss) (numsOf T) : Nat) : Int).toNat = litAt (pats ss) (numsOf T) from rfl, litA_at] at he
  exact ⟨he, bthen (bytesWorld_below _ _ _) hb⟩

theorem neg_sub_wrap (a b : Nat) (ha : a ≤ 1000) (hb : b ≤ 1000) : IntKind.i64.wrap ((a : Int) - (b : Int)) = (a : Int) - (b : Int) := IntWalk.i64_in _ (by omega)

set_option maxRecDepth 100000 in
set_option maxHeartbeats 1500000 in
theorem walk_LiteralFinds (a0 : Option Addr) (len0 cap0 : Nat) (l0 : List ByteArray) (a1 : ByteArray) (W : World) (w0 : RdS W a0 len0 l0) (w1 : a1.size ≤ maxLen) (b1 : a1.size ≤ 140737488351232) :
    Calls Try.prog 10 #[.slice a0 len0 cap0, .string a1] W fun e w' => e = .returned (.bool true) ∧ Below W.heap.size W w' := by
  have HS0 := Lib.hid (small_any a0 len0 cap0 l0 W w0)
  have hne0 : ∀ w, (binOp .neq 30 .nilIface .nilIface).run Try.prog w = .ok (.bool false) w := fun w => by kernel_rfl
  have hne4 : ∀ w, (binOp .neq 30 (.iface 56 (.int .i64 4)) .nilIface).run Try.prog w = .ok (.bool true) w := fun w => by kernel_rfl
  have hcv := fun (w : World) (s : ByteArray) => Lib.run_convert_string_bytes (P := Try.prog) w 9 44 5 s Try.underlying9 Try.underlying44 Try.underlying5
  have HL0 := Lib.hid w0.len
  have hmax := w0.max
  have HW0 := Lib.hid (Below.refl W.heap.size W)
  by_cases hbig : 300 < a1.size
  · have hA1 : decide ((300 : Int) < (a1.size : Int)) = true := by simp; omega
    go_enter Try.func10, Try.ntmps10
    go_wp2_with fail
    refine HS0.out.mono ?_
    rintro e w3 ⟨⟨z, rfl, hz⟩, rfl⟩
    clear hz
    cases z with
    | false =>
      go_wp2
      go_ret
      exact ⟨rfl, Below.refl _ _⟩
    | true =>
      go_wp2
      go_ret
      exact ⟨rfl, Below.refl _ _⟩
  · have hA : a1.size ≤ 300 := by omega
    have hA1 : decide ((300 : Int) < (a1.size : Int)) = false := by simp; omega
    clear hbig
    go_enter Try.func10, Try.ntmps10
    go_wp2_with fail
    refine HS0.out.mono ?_
    rintro e w3 ⟨⟨z, rfl, hz⟩, rfl⟩
    cases z with
    | false =>
      clear hz
      go_wp2
      go_ret
      exact ⟨rfl, Below.refl _ _⟩
    | true =>
    have HSM := Lib.hid (small_of (hz rfl))
    have HN : Hid (len0 ≤ 100000) := Lib.hid (by have := HSM.out.n; have := HL0.out; omega)
    clear hz
    go_wp2_with fail
    refine (bytesOf_any a0 len0 cap0 l0 _ (w0.below HW0.out) HN.out).mono ?_
    rintro e r0 ⟨⟨ra0, rc0, rfl, hrows0⟩, hbr0⟩
    have HOF := Lib.hid (of_any ra0 len0 rc0 (pats l0) r0 hrows0 (by rw [pats_len]; have := HSM.out.n; omega))
    have HBR0 := Lib.hid hbr0
    clear hrows0 hbr0
    go_wp2_with fail
    refine HOF.out.mono ?_
    rcases HSM.out.code with hc | hc
    · have HC := Lib.hid hc
      clear hc
      rintro e q0 hp0
      obtain ⟨hbq0, ac, an, cn, aa, ca, ah, ch, rfl, hm0, hh0⟩ := hp0.ok2 HC.out
      have HBQ := Lib.hid (bthen HBR0.out hbq0)
      obtain ⟨q1, hq1⟩ : ∃ q1, q1 = q0.alloc (.cells #[.int .i64 0, .slice ac 256 256, .slice an (prefs (pats l0)).length cn, .slice aa (prefs (pats l0)).length ca] 28) := ⟨_, rfl⟩
      have HQ1 := Lib.hid hq1
      have HB1 := Lib.hid (bthen HBQ.out (show Below q0.heap.size q0 q1 by rw [hq1]; exact below_alloc _ _))
      have HM := Lib.hid (hm0.below (show Below q0.heap.size q0 q1 by rw [hq1]; exact below_alloc _ _))
      have HH := Lib.hid (hh0.below (show Below q0.heap.size q0 q1 by rw [hq1]; exact below_alloc _ _))
      have HX0 : Hid (q1.cell? ⟨q0.heap.size, 0, none⟩ = some (.int .i64 0)) := Lib.hid (by rw [hq1]; simp)
      have HX1 : Hid (q1.cell? ⟨q0.heap.size, 1, none⟩ = some (.slice ac 256 256)) := Lib.hid (by rw [hq1]; simp)
      have HX2 : Hid (q1.cell? ⟨q0.heap.size, 2, none⟩ = some (.slice an (prefs (pats l0)).length cn)) := Lib.hid (by rw [hq1]; simp)
      have HX3 : Hid (q1.cell? ⟨q0.heap.size, 3, none⟩ = some (.slice aa (prefs (pats l0)).length ca)) := Lib.hid (by rw [hq1]; simp)
      clear hp0 hbq0 hm0 hh0 hq1
      go_wp2_with fail
      rw [← HQ1.out]
      refine (awake_any q1).mono ?_
      rintro e x7 ⟨rfl, hb7⟩
      have HB7 := Lib.hid (bthen HB1.out hb7)
      have HV := Lib.hid (HSM.out.valid HC.out)
      have HM7 := Lib.hid (HM.out.below hb7)
      have HY0 := Lib.hid (below_cell hb7 HX0.out)
      have HY1 := Lib.hid (below_cell hb7 HX1.out)
      have HY2 := Lib.hid (below_cell hb7 HX2.out)
      have HY3 := Lib.hid (below_cell hb7 HX3.out)
      have HS7 := Lib.hid (w0.below HB7.out)
      clear hb7
      go_wp2
      go_loopg [8, 9] len0 (fun gg sv iv wr => ∃ k : Nat, k ≤ len0 ∧ gg = len0 - k ∧ iv = .int .i64 k ∧ sv = .bool (decide (0 < cnt ((pats l0).take k) (numsOf a1))) ∧ Below x7.heap.size x7 wr)
      case atStart => exact ⟨0, by omega, rfl, rfl, by simp [cnt], Below.refl _ _⟩
      case round =>
        obtain ⟨k, hk, rfl, rfl, rfl, hbl⟩ := hrel
        have HBL := Lib.hid hbl
        clear hbl
        by_cases hlt : k < len0
        · obtain ⟨b, off, rfl, hc⟩ := (HS7.out.below HBL.out).cell k hlt
          have HSI := Lib.hid (HSM.out.len k)
          have HTS := Lib.hid (cnt_take_succ l0 (numsOf a1) (i := k) (by rw [HL0.out]; exact hlt))
          have HPM : Hid (numsOf (l0.getD k ByteArray.empty) ∈ pats l0) := Lib.hid (by rw [← pats_getD]; exact getD_mem (by rw [pats_len, HL0.out]; exact hlt))
          have HRC : Hid (∀ w2, Below wr.heap.size wr w2 → ∃ b2 o2, (some (⟨b, off, none⟩ : Addr)) = some ⟨b2, o2, none⟩ ∧ w2.cell? ⟨b2, o2 + k, none⟩ = some (.string (l0.getD k ByteArray.empty))) := Lib.hid (fun w2 h => (HS7.out.below (bthen HBL.out h)).cell k hlt)
          have hkz : (k : Int) < (len0 : Int) := by omega
          generalize l0.getD k ByteArray.empty = s at *
          have hs120 : s.size ≤ 120 := HSI.out
          have HPOS : Hid (decide (0 < cnt (pats l0) (numsOf (a1 ++ s))) = true) := Lib.hid (by
            rw [decide_eq_true_eq, cnt_pos, numsOf_append]; exact ⟨_, HPM.out, List.suffix_append _ _⟩)
          have hx0 := below_cell HBL.out HY0.out
          have hx1 := below_cell HBL.out HY1.out
          have hx2 := below_cell HBL.out HY2.out
          have hx3 := below_cell HBL.out HY3.out
          obtain ⟨L, hL⟩ : ∃ L, L = a1.size + s.size := ⟨_, rfl⟩
          have HAC := Lib.hid (fun (w2 : World) (hb : Below wr.heap.size wr w2) (cap m : Nat) (hm : m = (a1 ++ s).size) => accepts_str l0 (a1 ++ s) ac an cn aa ca w2 ((HM7.out.below HBL.out).below hb) HV.out (by rw [ByteArray.size_append]; omega) cap m hm)
          rw [HPOS.out] at HAC
          have hd0 : ∀ s, (Lib.bytesWorld wr.drew 5 s).cell? ⟨q0.heap.size, 0, none⟩ = some (.int .i64 0) := fun s => below_cell (bytesWorld_below wr.drew 5 s) (by simpa using hx0)
          have hd1 : ∀ s, (Lib.bytesWorld wr.drew 5 s).cell? ⟨q0.heap.size, 1, none⟩ = some (.slice ac 256 256) := fun s => below_cell (bytesWorld_below wr.drew 5 s) (by simpa using hx1)
          have hd2 : ∀ s, (Lib.bytesWorld wr.drew 5 s).cell? ⟨q0.heap.size, 2, none⟩ = some (.slice an (prefs (pats l0)).length cn) := fun s => below_cell (bytesWorld_below wr.drew 5 s) (by simpa using hx2)
          have hd3 : ∀ s, (Lib.bytesWorld wr.drew 5 s).cell? ⟨q0.heap.size, 3, none⟩ = some (.slice aa (prefs (pats l0)).length ca) := fun s => below_cell (bytesWorld_below wr.drew 5 s) (by simpa using hx3)
          have hd4 : ∀ s2, (Lib.bytesWorld wr.drew 5 s2).cell? ⟨b, off + k, none⟩ = some (.string s) := fun s2 => below_cell (bytesWorld_below wr.drew 5 s2) (by simpa using hc)

          go_wp2
          go_region_with (first
            | (go_at_call 24; refine (HAC.out _ (Below.refl _ _).drew _ _ (by first | rfl | simp)).mono ?_; rintro e w5 ⟨rfl, hb5⟩; have hbx := bthen HBL.out ((Below.refl _ _).drew.trans hb5); have y0 := below_cell hbx HY0.out; have y1 := below_cell hbx HY1.out; have y2 := below_cell hbx HY2.out; have y3 := below_cell hbx HY3.out; have y4 := below_cell ((Below.refl _ _).drew.trans hb5) hc; have hbx := Lib.hid hbx; have hb5 := Lib.hid hb5))
          all_goals
            (try clear hd0)
            (try clear hd1)
            (try clear hd2)
            (try clear hd3)
            (try clear hd4)
            (try clear hx0)
            (try clear hx1)
            (try clear hx2)
            (try clear hx3)
            (try clear y0)
            (try clear y1)
            (try clear y2)
            (try clear y3)
            (try clear hc)
            (try clear HRC)
            (try clear HAC)
            have hwsub := neg_sub_wrap a1.size s.size (by omega) (by omega)
            obtain ⟨Z1, hZ1⟩ : ∃ Z1, Z1 = decide (0 < cnt ((pats l0).take (k + 1)) (numsOf a1)) := ⟨_, rfl⟩
            have hzz : Z1 = (decide (0 < cnt ((pats l0).take k) (numsOf a1)) || decide (numsOf s <:+ numsOf a1)) := by
              rw [hZ1, HTS.out]
              by_cases h1 : numsOf s <:+ numsOf a1 <;> simp [h1]
            have HZ1 := Lib.hid hZ1
            have HLE : Hid (numsOf s <:+ numsOf a1 → s.size ≤ a1.size) := Lib.hid (fun h => by have := h.length_le; rwa [numsOf_len, numsOf_len] at this)
            have HSF := Lib.hid (suffix_iff a1 s)
            clear hZ1 HTS HPM HPOS
            generalize decide (0 < cnt ((pats l0).take k) (numsOf a1)) = Z at *
            cases Z with
            | true =>
              have hz1 : Z1 = true := by rw [hzz]; rfl
              subst hz1
              clear hzz
              go_wp2
              go_quiet (fail)
              go_wp2
              go_roundg (len0 - (k + 1))
              case measure => omega
              case rel => exact ⟨k + 1, by omega, rfl, by go_num, by rw [← HZ1.out], bdrewN hbx.out _⟩
            | false =>
              rw [Bool.false_or] at hzz
              by_cases hle : s.size ≤ a1.size
              · have hsub : ((a1.size : Int) - (s.size : Int)) = ((a1.size - s.size : Nat) : Int) := by omega
                obtain ⟨D, hD⟩ : ∃ D, D = a1.size - s.size := ⟨_, rfl⟩
                have hsub2 : ((a1.size : Int) - (s.size : Int)) = (D : Int) := by omega
                have hDs : D ≤ a1.size := by omega
                have hDz : (D : Int) ≤ (a1.size : Int) := by omega
                have hge : decide ((0 : Int) ≤ (D : Int)) = true := decide_eq_true (by omega)
                have heq : ((a1.extract D a1.size).toList == s.toList) = Z1 := by
                  rw [beq_str, hzz, decide_eq_decide, hD]; exact HSF.out hle
                clear hzz hsub hD hwsub
                go_wp2
                go_quiet (fail)
                go_wp2
                go_roundg (len0 - (k + 1))
                case measure => omega
                case rel => exact ⟨k + 1, by omega, rfl, by go_num, by rw [← HZ1.out] <;> first | rfl | simp [heq], bdrewN hbx.out _⟩
              · have hz1 : Z1 = false := by rw [hzz]; exact decide_eq_false (fun h => hle (HLE.out h))
                subst hz1
                have hge : decide ((0 : Int) ≤ (a1.size : Int) - (s.size : Int)) = false := decide_eq_false (by omega)
                have hge2 : decide ((s.size : Int) ≤ (a1.size : Int)) = false := decide_eq_false (by omega)
                have hge3 : decide (s.size ≤ a1.size) = false := decide_eq_false (by omega)
                clear hzz
                go_wp2
                go_quiet (fail)
                go_wp2
                go_roundg (len0 - (k + 1))
                case measure => omega
                case rel => exact ⟨k + 1, by omega, rfl, by go_num, by rw [← HZ1.out], bdrewN hbx.out _⟩
        · have hkn : k = len0 := by omega
          subst hkn
          have HTK : Hid ((pats l0).take k = pats l0) := Lib.hid (List.take_of_length_le (by rw [pats_len, HL0.out]; omega))
          rw [HTK.out]
          have hx0 := below_cell HBL.out HY0.out
          have hx1 := below_cell HBL.out HY1.out
          have hx2 := below_cell HBL.out HY2.out
          have hx3 := below_cell HBL.out HY3.out
          have HAC := Lib.hid (fun (cap m : Nat) (hm : m = a1.size) => accepts_str l0 a1 ac an cn aa ca wr (HM7.out.below HBL.out) HV.out (by omega) cap m hm)
          have heq0 : ∀ w, (binOp .eql 30 .nilIface .nilIface).run Try.prog w = .ok (.bool true) w := fun w => by kernel_rfl
          generalize decide (0 < cnt (pats l0) (numsOf a1)) = Z at *
          go_wp2_with fail
          refine (HAC.out _ _ rfl).mono ?_
          rintro e w5 ⟨rfl, hb5⟩
          have HB5 := Lib.hid (bthen HB7.out (bthen HBL.out hb5))
          clear hb5
          go_wp2_with fail
          go_ret
          exact ⟨by cases Z <;> rfl, HB5.out⟩
    · have HC := Lib.hid hc
      clear hc
      rintro e q0 hp0
      obtain ⟨hbq0, rfl⟩ := hp0.bad2 HC.out (by decide)
      rw [show errV 4 = Value.iface 56 (.int .i64 4) from rfl]
      have HB1 := Lib.hid ((bthen HBR0.out hbq0).trans ((below_alloc q0 (.cells #[.int .i64 0, .slice none 0 0, .slice none 0 0, .slice none 0 0] 28)).mono (bthen HBR0.out hbq0).size))
      clear hp0 hbq0
      go_wp2_with fail
      refine (awake_any _).mono ?_
      rintro e x7 ⟨rfl, hb7⟩
      have HB7 := Lib.hid (bthen HB1.out hb7)
      clear hb7
      go_wp2_with fail
      refine (error_any a0 len0 cap0 l0 _ (w0.below HB7.out) HSM.out).mono ?_
      rw [HC.out]
      rintro e x8 ⟨rfl, hb8⟩
      have HB8 := Lib.hid (bthen HB7.out hb8)
      clear hb8
      go_wp2
      go_ret
      exact ⟨rfl, HB8.out⟩

end Go.Proofs.Ytfhoaehoccfadaa
