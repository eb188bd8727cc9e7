/-
  the walk of MachineCounts: for any machine that can be read it returns true and writes nothing that was there.
-/
import Derived.Test.YtajajkganamfiaaMCntP
import Derived.Test.YtajajkganamfiaaMShortW
namespace Go.Proofs.Ytajajkganamfiaa
open Go.RowKit
set_option linter.unusedVariables false
set_option linter.unusedSimpArgs false

theorem pow6 {k : Nat} (hk : k ≤ 6) : 256 ^ k ≤ 281474976710656 := Nat.le_trans (Nat.pow_le_pow_right (by omega) hk) (by decide)
theorem wcnt_small {s cls next acc} (hv : Valid s cls next acc) {k : Nat} (hk : k ≤ 6) {q : Nat} (hq : q < next.length) : wcnt cls next acc k q = pw next.length (lett cls next) k (cnt0 acc) q := by
  have h1 := pw_both hv k hq
  have h2 := pow6 hk
  exact cp_id (by unfold capM; omega)
theorem wordsV_small {c : Nat} (h : c ≤ 281474976710656) : wordsV c = .tuple #[.int .i64 (c : Nat), .nilIface] := by unfold wordsV; rw [if_neg (by omega)]

/-- the ways in which the shortest text and the count go together -/
theorem ways {st : Nat} {cls next acc} (hv : Valid (st : Int) cls next acc) (k : Nat) :
    (shortest st cls next acc = none ∧ pw next.length (lett cls next) k (cnt0 acc) st = 0) ∨
    (∃ t, shortest st cls next acc = some t ∧ ((0 < pw next.length (lett cls next) k (cnt0 acc) st ∧ t.length ≤ k) ∨ (pw next.length (lett cls next) k (cnt0 acc) st = 0 ∧ t.length ≠ k))) := by
  have h := shortest_count hv k
  cases hs : shortest st cls next acc with
  | none => rw [hs] at h; exact .inl ⟨rfl, h⟩
  | some t =>
    rw [hs] at h
    refine .inr ⟨t, rfl, ?_⟩
    rcases Nat.eq_zero_or_pos (pw next.length (lett cls next) k (cnt0 acc) st) with e | e
    · refine .inr ⟨e, fun hl => ?_⟩
      have := h.1
      rw [hl] at this
      omega
    · exact .inl ⟨e, h.2 e⟩

theorem shl_run : ∀ (k : Nat), k ≤ 6 → wrap64 ((2 : Int) ^ (8 * k)) = ((256 ^ k : Nat) : Int)
  | 0, _ => by kernel_rfl
  | 1, _ => by kernel_rfl
  | 2, _ => by kernel_rfl
  | 3, _ => by kernel_rfl
  | 4, _ => by kernel_rfl
  | 5, _ => by kernel_rfl
  | 6, _ => by kernel_rfl
  | n + 7, h => by omega

set_option maxRecDepth 100000 in
set_option maxHeartbeats 4000000 in
theorem walk_MachineCounts (s : Int) (ac : Option Addr) (nc cc : Nat) (an : Option Addr) (nn cn : Nat) (aa : Option Addr) (na ca : Nat) (cls : List Int) (next : List (List Int)) (acc : List Bool) (n : Int) (w : World)
    (hm : RdM w ac nc an nn aa na cls next acc) (wn : (Lit.int .u8 n).wf = true) :
    Calls Try.prog 8 #[.agg #[.int .i64 s, .slice ac nc cc, .slice an nn cn, .slice aa na ca], .int .u8 n] w fun e w' => e = .returned (.bool true) ∧ Below w.heap.size w w' := by
  obtain ⟨w0, hw0⟩ : ∃ w0, w0 = w.alloc (.cells #[.int .i64 s, .slice ac nc cc, .slice an nn cn, .slice aa na ca] 26) := ⟨_, rfl⟩
  have HB0 := Lib.hid (show Below w.heap.size w w0 by rw [hw0]; exact below_alloc _ _)
  have HM0 := Lib.hid (hm.below HB0.out)
  have hct : CT w0 w.heap.size s (.slice ac nc cc) (.slice an nn cn) (.slice aa na ca) := by rw [hw0]; exact alloc_ct _ _ _ _ _ _
  have HCT := Lib.hid hct
  have HW0 := Lib.hid hw0
  have hne : ∀ w, (binOp .neq 30 .nilIface .nilIface).run Try.prog w = .ok (.bool false) w := fun w => by kernel_rfl
  have hn9 := bd_u8 wn
  clear hm hw0 wn
  obtain ⟨x0, x1, x2, x3, -⟩ := hct
  cases hs : msmall s cls next acc with
  | false =>
    have HS := Lib.hid hs
    clear hs
    go_enter Try.func8, Try.ntmps8
    go_upto_region 1 with fail
    rw [← HW0.out]
    go_wp2_with fail
    refine (small_false _ _ _ _ _ _ _ _ _ _ _ _ _ _ HM0.out HS.out).mono ?_
    rintro e w1 ⟨rfl, hb1⟩
    have HB1 := Lib.hid hb1
    clear x0 x1 x2 x3 hb1
    go_wp2
    go_ret
    exact ⟨rfl, bthen HB0.out HB1.out⟩
  | true =>
    have HS := Lib.hid hs
    have hv := msmall_valid hs
    have HV := Lib.hid hv
    obtain ⟨st, rfl⟩ := Int.eq_ofNat_of_zero_le hv.s0
    obtain ⟨B, rfl⟩ := Int.eq_ofNat_of_zero_le hn9.1
    obtain ⟨k, hk⟩ : ∃ k, k = B % 7 := ⟨_, rfl⟩
    have hk6 : k ≤ 6 := by omega
    have hki : (k : Int) ≤ 6 := by omega
    have hmod : (B : Int) % 7 = (k : Int) := by omega
    have HST : Hid (st < next.length) := Lib.hid (by have := hv.s1; omega)
    have HBOTH := Lib.hid (pw_both hv k HST.out)
    have HWAY := Lib.hid (ways hv k)
    have HWO := Lib.hid (fun (wx : World) (hb : Below w0.heap.size w0 wx) => words_ok st ac nc cc an nn cn aa na ca cls next acc k wx (HM0.out.below hb) HV.out (by omega))
    obtain ⟨x, hx⟩ : ∃ x, x = pw next.length (lett cls next) k (cnt0 acc) st := ⟨_, rfl⟩
    obtain ⟨y, hy⟩ : ∃ y, y = pw next.length (lett cls next) k (cnt0 (acc.map not)) st := ⟨_, rfl⟩
    have HK6 := Lib.hid hk6
    have HY := Lib.hid hy
    obtain ⟨p, hp⟩ : ∃ p : Nat, p = 256 ^ k := ⟨_, rfl⟩
    have hp9 : p ≤ 281474976710656 := by rw [hp]; exact pow6 hk6
    rw [← hx, ← hy, ← hp] at HBOTH
    rw [← hx] at HWAY
    have hx9 : x ≤ 281474976710656 := by have := HBOTH.out; omega
    have hy9 : y ≤ 281474976710656 := by have := HBOTH.out; omega
    have HWO2 : Hid (∀ wx, Below w0.heap.size w0 wx → Calls Try.prog 23 #[.agg #[.int .i64 st, .slice ac nc cc, .slice an nn cn, .slice aa na ca], .int .i64 k] wx (fun e w' => e = .returned (.tuple #[.int .i64 (x : Nat), .nilIface]) ∧ Below wx.heap.size wx w')) := Lib.hid (fun wx hb => by
      have h := HWO.out wx hb
      rw [wcnt_small HV.out HK6.out HST.out, ← hx] at h
      unfold WordsPost at h
      rw [wordsV_small hx9] at h
      exact h)
    have hsh : wrap64 ((2 : Int) ^ (8 * k)) = (p : Int) := by rw [hp]; exact shl_run k hk6
    have hsum : ((x : Int) + (y : Int) == (p : Int)) = true := by have := HBOTH.out; rw [beq_iff_eq]; omega
    have hx9i : (x : Int) ≤ 281474976710656 := by omega
    have hy9i : (y : Int) ≤ 281474976710656 := by omega
    clear hs hv hk hk6 hx hy hp hp9 hx9 hy9
    go_enter Try.func8, Try.ntmps8
    go_upto_region 1 with fail
    rw [← HW0.out]
    go_wp2_with fail
    refine (small_true _ _ _ _ _ _ _ _ _ _ _ _ _ _ HM0.out HS.out).mono ?_
    rintro e w1 ⟨rfl, hb1⟩
    have HB1 := Lib.hid hb1
    clear x0 x1 x2 x3
    obtain ⟨x0, x1, x2, x3, -⟩ := HCT.out.below hb1
    clear hb1
    go_wp2_with fail
    refine (not_any st ac nc cc an nn cn aa na ca cls next acc w1 (HM0.out.below HB1.out) HV.out).mono ?_
    rintro e w2 ⟨v, rfl, hmp⟩
    obtain ⟨b, first, states, fs, clsv, cols, ord, W, R, accs, ac6, cc6, an6, cn6, aa6, ca6, hmf, hve, hrd, hb2⟩ := MinPost.f HV.out.not hmp
    simp only [Ending.returned.injEq] at hve
    subst hve
    have HB2 := Lib.hid (bthen HB1.out hb2)
    have HV6 := Lib.hid (hmf.valid HV.out.n1)
    have HY6 : Hid (pw (R.map nints).length (lett (nints clsv) (R.map nints)) k (cnt0 accs) 0 = y) := Lib.hid (by
      have h := hmf.start
      rw [HY.out, ← hmf.count k h.1 h.2.1, h.2.2])
    have HRD6 := Lib.hid (fun (wx : World) (hbx : Below w2.heap.size w2 wx) => hrd wx ((Fr.of_below (S := fun _ => False) hbx).mono (fun _ h => h.elim)))
    have HWN : Hid (∀ wx, Below w2.heap.size w2 wx → Calls Try.prog 23 #[.agg #[.int .i64 0, .slice ac6 256 cc6, .slice an6 ord.length cn6, .slice aa6 ord.length ca6], .int .i64 k] wx (fun e w' => e = .returned (.tuple #[.int .i64 (y : Nat), .nilIface]) ∧ Below wx.heap.size wx w')) := Lib.hid (fun wx hbx => by
      have h := words_ok 0 ac6 256 cc6 an6 ord.length cn6 aa6 ord.length ca6 (nints clsv) (R.map nints) accs k wx (HRD6.out wx hbx) HV6.out (by have := HK6.out; omega)
      rw [wcnt_small HV6.out HK6.out (by have := HV6.out.s1; omega), HY6.out] at h
      unfold WordsPost at h
      rw [wordsV_small (by omega)] at h
      exact h)
    clear x0 x1 x2 x3 hb2 hmp hmf hrd
    obtain ⟨x0, x1, x2, x3, -⟩ := HCT.out.below HB2.out
    obtain ⟨no, hno⟩ : ∃ no, no = ord.length := ⟨_, rfl⟩
    rw [← hno] at HWN ⊢
    clear hno
    go_upto_region 5 with fail
    obtain ⟨w3, hw3⟩ : ∃ w3, w3 = w2.alloc (.cells #[.int .i64 0, .slice ac6 256 cc6, .slice an6 no cn6, .slice aa6 no ca6] 26) := ⟨_, rfl⟩
    have hb3 : Below w2.heap.size w2 w3 := by rw [hw3]; exact below_alloc _ _
    have HCT3 : Hid (CT w3 w2.heap.size 0 (.slice ac6 256 cc6) (.slice an6 no cn6) (.slice aa6 no ca6)) := Lib.hid (by rw [hw3]; exact alloc_ct _ _ _ _ _ _)
    rw [← hw3]
    have HB3 := Lib.hid hb3
    have HB03 := Lib.hid (bthen HB2.out hb3)
    clear x0 x1 x2 x3 hw3 hb3
    obtain ⟨x0, x1, x2, x3, -⟩ := HCT.out.below HB03.out
    obtain ⟨y0, y1, y2, y3, -⟩ := HCT3.out
    go_wp2_with fail
    refine (HWO2.out w3 HB03.out).mono ?_
    rintro e w4 ⟨rfl, hb4⟩
    have HB04 := Lib.hid (bthen HB03.out hb4)
    have HB24 := Lib.hid (bthen HB3.out hb4)
    clear x0 x1 x2 x3 y0 y1 y2 y3
    obtain ⟨x0, x1, x2, x3, -⟩ := HCT.out.below HB04.out
    obtain ⟨y0, y1, y2, y3, -⟩ := HCT3.out.below hb4
    clear hb4
    go_wp2_with fail
    refine (HWN.out w4 HB24.out).mono ?_
    rintro e w5 ⟨rfl, hb5⟩
    have HB05 := Lib.hid (bthen HB04.out hb5)
    clear x0 x1 x2 x3 y0 y1 y2 y3
    obtain ⟨x0, x1, x2, x3, -⟩ := HCT.out.below HB05.out
    clear hb5
    go_wp2_with fail
    refine (short_any _ _ _ _ _ _ _ _ _ _ cls next acc w5 (HM0.out.below HB05.out) HV.out).mono ?_
    rintro e w6 ⟨hb6, h⟩
    have HB06 := Lib.hid (bthen HB05.out hb6)
    clear x0 x1 x2 x3 hb6
    rcases HWAY.out with ⟨hsh2, hx0⟩ | ⟨t, hsh2, hway⟩
    · rw [hsh2] at h
      simp only at h
      subst h
      subst hx0
      have hsum2 : ((y : Int) == (p : Int)) = true := by rw [beq_iff_eq] at hsum ⊢; omega
      clear hsum
      go_wp2_with fail
      refine (awake_any _).mono ?_
      rintro e w7 ⟨rfl, hb7⟩
      have HB07 := Lib.hid (bthen HB06.out hb7)
      clear hb7
      go_wp2
      go_ret
      exact ⟨rfl, bthen HB0.out HB07.out⟩
    · rw [hsh2] at h
      obtain ⟨a, c, rfl, -⟩ := h
      obtain ⟨L, hL⟩ : ∃ L, L = t.length := ⟨_, rfl⟩
      rw [← hL] at hway ⊢
      clear hL hsh2
      rcases hway with ⟨hx0, hle⟩ | ⟨hx0, hne2⟩
      · have hxp : (0 : Int) < (x : Int) := by omega
        have hxz : ((x : Int) != 0) = true := by rw [bne_iff_ne]; omega
        have hle1 : (L : Int) ≤ (k : Int) := by omega
        clear hx0 hle
        by_cases he : L = k
        · subst he
          go_wp2_with fail
          refine (awake_any _).mono ?_
          rintro e w7 ⟨rfl, hb7⟩
          have HB07 := Lib.hid (bthen HB06.out hb7)
          clear hb7
          go_wp2
          go_ret
          exact ⟨rfl, bthen HB0.out HB07.out⟩
        · have hLk : ((L : Int) != (k : Int)) = true := by rw [bne_iff_ne]; omega
          clear he
          go_wp2_with fail
          refine (awake_any _).mono ?_
          rintro e w7 ⟨rfl, hb7⟩
          have HB07 := Lib.hid (bthen HB06.out hb7)
          clear hb7
          go_wp2
          go_ret
          exact ⟨rfl, bthen HB0.out HB07.out⟩
      · subst hx0
        have hsum2 : ((y : Int) == (p : Int)) = true := by rw [beq_iff_eq] at hsum ⊢; omega
        have hLk : ((L : Int) != (k : Int)) = true := by rw [bne_iff_ne]; omega
        clear hsum
        by_cases he : L ≤ k
        · have hle1 : (L : Int) ≤ (k : Int) := by omega
          clear he hne2
          go_wp2_with fail
          refine (awake_any _).mono ?_
          rintro e w7 ⟨rfl, hb7⟩
          have HB07 := Lib.hid (bthen HB06.out hb7)
          clear hb7
          go_wp2
          go_ret
          exact ⟨rfl, bthen HB0.out HB07.out⟩
        · have hle1 : decide (L ≤ k) = false := decide_eq_false he
          clear he hne2
          go_wp2_with fail
          refine (awake_any _).mono ?_
          rintro e w7 ⟨rfl, hb7⟩
          have HB07 := Lib.hid (bthen HB06.out hb7)
          clear hb7
          go_wp2
          go_ret
          exact ⟨rfl, bthen HB0.out HB07.out⟩

end Go.Proofs.Ytajajkganamfiaa
