/-
  LiteralBuilds: the walk.
-/
import Derived.Test.YtfhoaehoccfadaaLRefOf
import Derived.Test.YtfhoaehoccfadaaLEqual
namespace Go.Proofs.Ytfhoaehoccfadaa
open Go.RowKit Go.Maps
set_option linter.unusedVariables false
set_option linter.unusedSimpArgs false

theorem OfPost.ok4 {ps w e w'} (h : OfPost ps w e w') (h0 : ocode ps = 0) : Below w.heap.size w w' ∧ ∃ ac an cn aa ca ah ch, e = .returned (.tuple #[.agg #[.int .i64 0, .slice ac 256 256, .slice an (prefs ps).length cn, .slice aa (prefs ps).length ca], .slice ah (prefs ps).length ch, .nilIface]) ∧
      RdM w' ac 256 an (prefs ps).length aa (prefs ps).length (litC ps) (litN ps) (litA ps) ∧ Rd w' .i64 ah (prefs ps).length (litH ps) := by
  obtain ⟨hb, ⟨h1, _⟩ | ⟨_, h2⟩⟩ := h
  · exact absurd h0 h1
  · exact ⟨hb, h2⟩
theorem OfPost.bad4 {ps w e w'} {k : Int} (h : OfPost ps w e w') (hk : ocode ps = k) (h0 : k ≠ 0) : Below w.heap.size w w' ∧ e = .returned (.tuple #[.agg #[.int .i64 0, .slice none 0 0, .slice none 0 0, .slice none 0 0], .slice none 0 0, errV k]) := by
  obtain ⟨hb, ⟨_, h2⟩ | ⟨h1, _⟩⟩ := h
  · rw [hk] at h2; exact ⟨hb, h2⟩
  · exact absurd (hk ▸ h1) h0

set_option maxRecDepth 100000 in
set_option maxHeartbeats 1500000 in
theorem walk_LiteralBuilds (a0 : Option Addr) (len0 cap0 : Nat) (l0 : List ByteArray) (W : World) (w0 : RdS W a0 len0 l0) :
    Calls Try.prog 3 #[.slice a0 len0 cap0] W fun e w' => e = .returned (.bool true) ∧ Below W.heap.size W w' := by
  have HS0 := Lib.hid (small_any a0 len0 cap0 l0 W w0)
  have HL0 := Lib.hid w0.len
  have hmax := w0.max
  have HW0 := Lib.hid (Below.refl W.heap.size W)
  go_enter Try.func3, Try.ntmps3
  go_wp2_with fail
  refine HS0.out.mono ?_
  rintro e w3 ⟨⟨z, rfl, hz⟩, rfl⟩
  cases z with
  | false =>
    clear hz
    go_wp2
    go_ret
    exact ⟨rfl, Below.refl _ _⟩
  | true =>
  have HSM := Lib.hid (small_of (hz rfl))
  have HN : Hid (len0 ≤ 100000) := Lib.hid (by have := HSM.out.n; have := HL0.out; omega)
  clear hz
  go_wp2_with fail
  refine (bytesOf_any a0 len0 cap0 l0 _ (w0.below HW0.out) HN.out).mono ?_
  rintro e r0 ⟨⟨ra0, rc0, rfl, hrows0⟩, hbr0⟩
  have HOF := Lib.hid (of_any ra0 len0 rc0 (pats l0) r0 hrows0 (by rw [pats_len]; have := HSM.out.n; omega))
  have HBR0 := Lib.hid hbr0
  clear hrows0 hbr0
  go_wp2_with fail
  refine HOF.out.mono ?_
  rcases HSM.out.code with hc | hc
  · have HC := Lib.hid hc
    clear hc
    rintro e q0 hp0
    obtain ⟨hbq0, ac, an, cn, aa, ca, ah, ch, rfl, hm0, hh0⟩ := hp0.ok4 HC.out
    have HBQ := Lib.hid (bthen HBR0.out hbq0)
    obtain ⟨q1, hq1⟩ : ∃ q1, q1 = q0.alloc (.cells #[.int .i64 0, .slice ac 256 256, .slice an (prefs (pats l0)).length cn, .slice aa (prefs (pats l0)).length ca] 28) := ⟨_, rfl⟩
    have HQ1 := Lib.hid hq1
    have HB1 := Lib.hid (bthen HBQ.out (show Below q0.heap.size q0 q1 by rw [hq1]; exact below_alloc _ _))
    have HM := Lib.hid (hm0.below (show Below q0.heap.size q0 q1 by rw [hq1]; exact below_alloc _ _))
    have HH := Lib.hid (hh0.below (show Below q0.heap.size q0 q1 by rw [hq1]; exact below_alloc _ _))
    have HX0 : Hid (q1.cell? ⟨q0.heap.size, 0, none⟩ = some (.int .i64 0)) := Lib.hid (by rw [hq1]; simp)
    have HX1 : Hid (q1.cell? ⟨q0.heap.size, 1, none⟩ = some (.slice ac 256 256)) := Lib.hid (by rw [hq1]; simp)
    have HX2 : Hid (q1.cell? ⟨q0.heap.size, 2, none⟩ = some (.slice an (prefs (pats l0)).length cn)) := Lib.hid (by rw [hq1]; simp)
    have HX3 : Hid (q1.cell? ⟨q0.heap.size, 3, none⟩ = some (.slice aa (prefs (pats l0)).length ca)) := Lib.hid (by rw [hq1]; simp)
    clear hp0 hbq0 hm0 hh0 hq1
    have HER := Lib.hid (error_any a0 len0 cap0 l0 q1 (w0.below HB1.out) HSM.out)
    rw [HC.out] at HER
    go_wp2_with fail
    rw [← HQ1.out]
    refine HER.out.mono ?_
    rintro e x1 ⟨rfl, hb2⟩
    have HB2 := Lib.hid (bthen HB1.out hb2)
    have HQ2 := Lib.hid hb2
    clear hb2
    go_wp2_with fail
    refine (awake_any x1).mono ?_
    rintro e x7 ⟨rfl, hb7⟩
    have HB7 := Lib.hid (bthen HB2.out hb7)
    have HQ7 := Lib.hid (bthen HQ2.out hb7)
    clear hb7
    go_wp2_with fail
    refine (num_nil x7).mono ?_
    rintro e x8 ⟨rfl, rfl⟩
    have HRO := Lib.hid (refof_any a0 len0 cap0 l0 x7 (w0.below HB7.out) HSM.out)
    go_wp2_with fail
    refine HRO.out.mono ?_
    rintro e x9 ⟨ac2, an2, cn2, aa2, ca2, ah2, ch2, rfl, hm2, hh2, hb9⟩
    obtain ⟨y1, hy1⟩ : ∃ y1, y1 = x9.alloc (.cells #[.int .i64 0, .slice ac2 256 256, .slice an2 (prefs (pats l0)).length cn2, .slice aa2 (prefs (pats l0)).length ca2] 28) := ⟨_, rfl⟩
    have hby : Below x9.heap.size x9 y1 := by rw [hy1]; exact below_alloc _ _
    have HB9 := Lib.hid (bthen (bthen HB7.out hb9) hby)
    have HQ9 := Lib.hid (bthen (bthen HQ7.out hb9) hby)
    have hx0 := below_cell HQ9.out HX0.out
    have hx1 := below_cell HQ9.out HX1.out
    have hx2 := below_cell HQ9.out HX2.out
    have hx3 := below_cell HQ9.out HX3.out
    have hz0 : y1.cell? ⟨x9.heap.size, 0, none⟩ = some (.int .i64 0) := by rw [hy1]; simp
    have hz1 : y1.cell? ⟨x9.heap.size, 1, none⟩ = some (.slice ac2 256 256) := by rw [hy1]; simp
    have hz2 : y1.cell? ⟨x9.heap.size, 2, none⟩ = some (.slice an2 (prefs (pats l0)).length cn2) := by rw [hy1]; simp
    have hz3 : y1.cell? ⟨x9.heap.size, 3, none⟩ = some (.slice aa2 (prefs (pats l0)).length ca2) := by rw [hy1]; simp
    have HEQ := Lib.hid (equal_same 0 ac ac2 256 256 256 an an2 (prefs (pats l0)).length cn cn2 aa aa2 (prefs (pats l0)).length ca ca2 _ _ _ y1 (HM.out.below HQ9.out) (hm2.below hby))
    have HIN : Hid (∀ w, Below y1.heap.size y1 w → Calls Try.prog 19 #[.slice ah (prefs (pats l0)).length ch, .slice ah2 (prefs (pats l0)).length ch2] w fun e w' => e = .returned (.bool true) ∧ Below w.heap.size w w') := Lib.hid (fun w hb => by
      have h := ints_any ah ah2 (prefs (pats l0)).length (prefs (pats l0)).length ch ch2 _ _ w ((HH.out.below HQ9.out).below hb) ((hh2.below hby).below hb)
      rw [decide_eq_true rfl] at h
      exact h)
    have HY1 := Lib.hid hy1
    clear hy1 hby hm2 hh2 hb9
    go_upto_region 10 with fail
    rw [← HY1.out]
    go_wp2_with fail
    refine HEQ.out.mono ?_
    rintro e z1 ⟨rfl, hb1⟩
    have HBZ := Lib.hid (bthen HB9.out hb1)
    have HIZ := Lib.hid (HIN.out z1 hb1)
    clear hb1
    go_wp2_with fail
    refine HIZ.out.mono ?_
    rintro e z2 ⟨rfl, hb2⟩
    have HBZ2 := Lib.hid (bthen HBZ.out hb2)
    clear hb2
    go_wp2
    go_ret
    exact ⟨rfl, HBZ2.out⟩
  · have HC := Lib.hid hc
    clear hc
    rintro e q0 hp0
    obtain ⟨hbq0, rfl⟩ := hp0.bad4 HC.out (by decide)
    rw [show errV 4 = Value.iface 56 (.int .i64 4) from rfl]
    obtain ⟨q1, hq1⟩ : ∃ q1, q1 = q0.alloc (.cells #[.int .i64 0, .slice none 0 0, .slice none 0 0, .slice none 0 0] 28) := ⟨_, rfl⟩
    have HQ1 := Lib.hid hq1
    have HB1 := Lib.hid (bthen (bthen HBR0.out hbq0) (show Below q0.heap.size q0 q1 by rw [hq1]; exact below_alloc _ _))
    have HX2 : Hid (q1.cell? ⟨q0.heap.size, 2, none⟩ = some (.slice none 0 0)) := Lib.hid (by rw [hq1]; simp)
    clear hp0 hbq0 hq1
    have HER := Lib.hid (error_any a0 len0 cap0 l0 q1 (w0.below HB1.out) HSM.out)
    rw [HC.out] at HER
    go_wp2_with fail
    rw [← HQ1.out]
    refine HER.out.mono ?_
    rintro e x1 ⟨rfl, hb2⟩
    have HB2 := Lib.hid (bthen HB1.out hb2)
    have HQ2 := Lib.hid hb2
    clear hb2
    go_wp2_with fail
    refine (awake_any x1).mono ?_
    rintro e x7 ⟨rfl, hb7⟩
    have HB7 := Lib.hid (bthen HB2.out hb7)
    have hx2 := below_cell (bthen HQ2.out hb7) HX2.out
    clear hb7
    go_wp2_with fail
    refine (num_errno 4 x7).mono ?_
    rintro e x8 ⟨rfl, rfl⟩
    go_wp2
    go_ret
    exact ⟨rfl, HB7.out⟩

end Go.Proofs.Ytfhoaehoccfadaa
