/-
  the walk of HistoryOrder.
-/
import Derived.Test.YtoakelgjofdmpaaHAlive
namespace Go.Proofs.Ytoakelgjofdmpaa
open Go.RowKit
set_option linter.unusedVariables false
set_option linter.unusedSimpArgs false

theorem order_pure {L : List Cm} (hL : GoodL L) (a b c : Nat) :
    (ancB L a a && (!ancB L a b || decide (a ≤ b)) && (!ancB L a b || !ancB L b a || (a == b)) && (!ancB L a b || !ancB L b c || ancB L a c)) = true := by
  rw [ancB_refl hL]
  have h1 : ancB L a b = true → a ≤ b := fun h => ((ancB_iff hL).1 h).le hL
  have h2 : ancB L b a = true → b ≤ a := fun h => ((ancB_iff hL).1 h).le hL
  have h3 : ancB L a b = true → ancB L b c = true → ancB L a c = true := fun h k => (ancB_iff hL).2 (((ancB_iff hL).1 h).trans ((ancB_iff hL).1 k))
  cases hab : ancB L a b with
  | false => simp
  | true =>
    cases hba : ancB L b a with
    | false =>
      cases hbc : ancB L b c with
      | false => simp [h1 hab]
      | true => simp [h1 hab, h3 hab hbc]
    | true =>
      have : a = b := by have := h1 hab; have := h2 hba; omega
      subst this
      cases hbc : ancB L a c with
      | false => simp
      | true => simp

set_option maxRecDepth 100000 in
set_option maxHeartbeats 8000000 in
theorem walk_HistoryOrder (a0 : Option Addr) (n cp : Nat) (list : List Cm) (a b c : Int) (w : World) (hr : RdC w (fun i => i < w.heap.size) a0 n list) :
    Calls Try.prog 5 #[.slice a0 n cp, .agg #[.int .i64 a, .int .i64 b, .int .i64 c]] w fun e w' => e = .returned (.bool true) ∧ Below w.heap.size w w' := by
  obtain ⟨w0, hw0⟩ : ∃ w0, w0 = w.alloc (.cells #[.int .i64 a, .int .i64 b, .int .i64 c] 45) := ⟨_, rfl⟩
  have HB0 := Lib.hid (show Below w.heap.size w w0 by rw [hw0]; exact below_alloc _ _)
  have x0 : w0.cell? ⟨w.heap.size, 0, none⟩ = some (.int .i64 a) := by rw [hw0]; simp
  have x1 : w0.cell? ⟨w.heap.size, 1, none⟩ = some (.int .i64 b) := by rw [hw0]; simp
  have x2 : w0.cell? ⟨w.heap.size, 2, none⟩ = some (.int .i64 c) := by rw [hw0]; simp
  have HW0 := Lib.hid hw0
  have HR := Lib.hid hr
  have HL := Lib.hid hr.len
  have hmx := hr.max
  have hne : ∀ w, (binOp .neq 33 .nilIface .nilIface).run Try.prog w = .ok (.bool false) w := fun w => by kernel_rfl
  have HGL := Lib.hid (buildL_good list)
  have HN1 := Lib.hid (buildL_len list)
  clear hw0 hr
  go_enter Try.func5, Try.ntmps5
  go_wp2_with fail
  rw [← HW0.out]
  go_quiet (fail)
  go_wp2_with fail
  obtain ⟨wq, hwq⟩ : ∃ wq, wq = w0.drewN nq := ⟨_, rfl⟩
  rw [← hwq]
  have HBQ : Hid (Below w.heap.size w wq) := Lib.hid (by rw [hwq]; exact bdrewN HB0.out _)
  clear hwq x0 x1 x2
  refine (alive_any _).mono ?_
  rintro e w1 ⟨rfl, hb1⟩
  have HB1 := Lib.hid (bthen HBQ.out hb1)
  clear hb1
  by_cases h40 : 40 < n
  · have h41 : (40 : Int) < (n : Int) := by omega
    go_wp2
    go_ret
    exact ⟨rfl, HB1.out⟩
  have h41 : (n : Int) ≤ 40 := by omega
  go_wp2_with fail
  refine (build_any (fun i => i < w.heap.size) a0 n cp list w1 (HR.out.below HB1.out) (fun i hi => Nat.lt_of_lt_of_le hi HB1.out.size)).mono ?_
  rintro e w2 ⟨bg, al, cl, S, T, rfl, htw⟩
  have HTW := Lib.hid htw
  have HB2 := Lib.hid (bthen HB1.out htw.bel)
  have HG := Lib.hid htw.g.rg
  have hn1 := htw.g.n1
  clear htw
  generalize buildL list = L at *
  have hM : L.length ≤ 9223372036854775807 := by omega
  clear hn1
  by_cases hin : (0 ≤ a ∧ a < (L.length : Int)) ∧ (0 ≤ b ∧ b < (L.length : Int)) ∧ (0 ≤ c ∧ c < (L.length : Int))
  · obtain ⟨⟨ha0, ha1⟩, ⟨hb0, hb1⟩, ⟨hc0, hc1⟩⟩ := hin
    obtain ⟨a, rfl⟩ := Int.eq_ofNat_of_zero_le ha0
    obtain ⟨b, rfl⟩ := Int.eq_ofNat_of_zero_le hb0
    obtain ⟨c, rfl⟩ := Int.eq_ofNat_of_zero_le hc0
    have Ha : Hid (a < L.length) := Lib.hid (by omega)
    have Hb : Hid (b < L.length) := Lib.hid (by omega)
    have Hc : Hid (c < L.length) := Lib.hid (by omega)
    have HK1 : Hid (ancB L a b = true → a ≤ b) := Lib.hid fun h => ((ancB_iff HGL.out).1 h).le HGL.out
    have HK2 : Hid (ancB L b a = true → b ≤ a) := Lib.hid fun h => ((ancB_iff HGL.out).1 h).le HGL.out
    have HK3 : Hid (ancB L a b = true → ancB L b c = true → ancB L a c = true) := Lib.hid fun h k => (ancB_iff HGL.out).2 (((ancB_iff HGL.out).1 h).trans ((ancB_iff HGL.out).1 k))
    have HC := Lib.hid (fun w (x y : Nat) (hx : x < L.length) (hy : y < L.length) (hg : RG w S bg L) => before_ok S bg L x y w hg HGL.out hx hy)
    have HAA := Lib.hid (ancB_refl HGL.out a)
    have hA1 := ha1
    go_wp2_with fail
    refine (HC.out _ a b Ha.out Hb.out HG.out).mono ?_
    rintro e w3 ⟨rfl, hb3⟩
    have HB3 := Lib.hid hb3
    clear hb3
    go_wp2_with fail
    refine (HC.out _ b c Hb.out Hc.out (HG.out.below HB3.out)).mono ?_
    rintro e w4 ⟨rfl, hb4⟩
    have HB4 := Lib.hid (bthen HB3.out hb4)
    clear hb4
    go_wp2_with fail
    refine (HC.out _ a c Ha.out Hc.out (HG.out.below HB4.out)).mono ?_
    rintro e w5 ⟨rfl, hb5⟩
    have HB5 := Lib.hid (bthen HB4.out hb5)
    clear hb5
    go_wp2_with fail
    refine (HC.out _ b a Hb.out Ha.out (HG.out.below HB5.out)).mono ?_
    rintro e w6 ⟨rfl, hb6⟩
    have HB6 := Lib.hid (bthen HB5.out hb6)
    clear hb6
    go_wp2_with fail
    refine (HC.out _ a a Ha.out Ha.out (HG.out.below HB6.out)).mono ?_
    rintro e w7 ⟨rfl, hb7⟩
    have HB7 := Lib.hid (bthen HB2.out (bthen HB6.out hb7))
    rw [HAA.out]
    clear hb7
    have hk1 := HK1.out
    have hk2 := HK2.out
    have hk3 := HK3.out
    clear HC HK1 HK2 HK3
    generalize ancB L a b = ab at *
    generalize ancB L b c = bc at *
    generalize ancB L a c = ac at *
    generalize ancB L b a = ba at *
    cases ab with
    | false =>
      clear hk1 hk2 hk3
      go_wp2
      go_ret
      exact ⟨ret_eq (by simp), HB7.out⟩
    | true =>
      have hle := hk1 rfl
      clear hk1
      cases bc with
      | false =>
        clear hk3
        cases ba with
        | false =>
          clear hk2
          go_wp2
          go_ret
          exact ⟨ret_eq (by simp), HB7.out⟩
        | true =>
          obtain rfl : a = b := by have := hk2 rfl; omega
          clear hk2
          go_wp2
          go_ret
          exact ⟨ret_eq (by simp), HB7.out⟩
      | true =>
        obtain rfl : ac = true := hk3 rfl rfl
        clear hk3
        cases ba with
        | false =>
          clear hk2
          go_wp2
          go_ret
          exact ⟨ret_eq (by simp), HB7.out⟩
        | true =>
          obtain rfl : a = b := by have := hk2 rfl; omega
          clear hk2
          go_wp2
          go_ret
          exact ⟨ret_eq (by simp), HB7.out⟩
  · go_wp2
    all_goals go_ret
    all_goals exact ⟨rfl, HB2.out⟩

end Go.Proofs.Ytoakelgjofdmpaa
