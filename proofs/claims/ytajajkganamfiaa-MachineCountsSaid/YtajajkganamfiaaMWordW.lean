/-
  machine.Words: one by one, or by halves.
-/
import Derived.Test.YtajajkganamfiaaMWordR
import Derived.Test.YtajajkganamfiaaMSqW
import Derived.Test.YtajajkganamfiaaMAcc
namespace Go.Proofs.Ytajajkganamfiaa
open Go.RowKit
set_option linter.unusedVariables false
set_option linter.unusedSimpArgs false

/-- the answer: a count, or too many -/
def wordsV (c : Nat) : Value := if 1152921504606846976 < c then .tuple #[.int .i64 0, .iface 43 (.int .i64 2)] else .tuple #[.int .i64 (c : Nat), .nilIface]
def WordsPost (c : Nat) (w : World) (e : Ending) (w' : World) : Prop := e = .returned (wordsV c) ∧ Below w.heap.size w w'

/-- counts in memory -/
def RdC (w : World) (a : Option Addr) (n : Nat) (c : Nat → Nat) : Prop := RdG w 1 a n (u64v ((List.range n).map c))
theorem RdC.below {w w' : World} {a n c} (h : RdC w a n c) (hb : Below w.heap.size w w') : RdC w' a n c := RdG.below h hb
theorem RdC.cell {w : World} {a n c q} (h : RdC w a n c) (hq : q < n) : ∃ b off, a = some ⟨b, off, none⟩ ∧ w.cell? ⟨b, off + q, none⟩ = some (.int .u64 ((c q : Nat) : Int)) :=
  RdG.cell h q _ (by simp [hq])

set_option maxRecDepth 100000 in
set_option maxHeartbeats 2000000 in
theorem words_ok (st : Nat) (ac : Option Addr) (nc cc : Nat) (an : Option Addr) (nn cn : Nat) (aa : Option Addr) (na ca : Nat) (cls : List Int) (next : List (List Int)) (acc : List Bool) (N : Nat) (w : World)
    (hm : RdM w ac nc an nn aa na cls next acc) (hv : Valid st cls next acc) (hN : N ≤ 65536) :
    Calls Try.prog 23 #[.agg #[.int .i64 st, .slice ac nc cc, .slice an nn cn, .slice aa na ca], .int .i64 N] w (WordsPost (wcnt cls next acc N st) w) := by
  obtain ⟨w1, hw1⟩ : ∃ w1, w1 = w.alloc (.cells #[.int .i64 st, .slice ac nc cc, .slice an nn cn, .slice aa na ca] 26) := ⟨_, rfl⟩
  have HW1 := Lib.hid hw1
  have hb1 : Below w.heap.size w w1 := by rw [hw1]; exact below_alloc _ _
  have hct : CT w1 w.heap.size st (.slice ac nc cc) (.slice an nn cn) (.slice aa na ca) := by rw [hw1]; exact alloc_ct _ _ _ _ _ _
  have HCT := Lib.hid hct
  have HB1 := Lib.hid hb1
  have HM := Lib.hid (fun (wx : World) (hb : Below w1.heap.size w1 wx) => (hm.below hb1).below hb)
  have HV := Lib.hid hv
  have hnn : next.length = nn := hm.n.len
  have hna : na = nn := by rw [← hm.a.len, hv.accL, hnn]
  subst hna
  have hn9 : na ≤ 256 := by rw [← hnn]; exact hv.n1
  have hni : (na : Int) ≤ 256 := by omega
  have hst : st < na := by have := hv.s1; omega
  have hsti : (st : Int) < (na : Int) := by omega
  have hNi : (N : Int) ≤ 65536 := by omega
  have HNN := Lib.hid hnn
  have HST := Lib.hid hst
  have HN9 := Lib.hid hn9
  have hne : ∀ w, (binOp .neq 30 .nilIface .nilIface).run Try.prog w = .ok (.bool false) w := fun w => by kernel_rfl
  obtain ⟨C, hC⟩ : ∃ C, C = wcnt cls next acc N st := ⟨_, rfl⟩
  have HC := Lib.hid hC
  have HC9 : Hid (C ≤ capM) := Lib.hid (by rw [hC]; exact wcnt_le ..)
  rw [← hC]
  obtain ⟨z0, z1, z2, z3, -⟩ := hct
  clear hm hv hw1 hb1 hnn hn9 hst hN hC
  go_enter Try.func23, Try.ntmps23
  go_upto_region 1 with fail
  rw [← HW1.out]
  go_wp2_with fail
  refine (check_any st ac nc cc an na cn aa na ca cls next acc w1 (HM.out w1 (Below.refl _ _))).mono ?_
  rintro e w2 ⟨rfl, hb2⟩
  have HB2 := Lib.hid hb2
  rw [show errV (mcode st cls next acc) = Value.nilIface by rw [code_of_valid HV.out]; rfl]
  obtain ⟨z0, z1, z2, z3, -⟩ := HCT.out.below hb2
  clear hb2
  go_wp2_with fail
  refine (single_any st ac nc cc an na cn aa na ca cls next acc w2 (HM.out w2 HB2.out) HV.out).mono ?_
  rintro e w3 ⟨sa, sc, k, rfl, hk, hrs, hb3⟩
  have HK := Lib.hid hk
  have HRS := Lib.hid hrs
  have HB3 := Lib.hid (bthen HB2.out hb3)
  obtain ⟨z0, z1, z2, z3, -⟩ := (HCT.out.below HB2.out).below hb3
  have HRF3 : Hid (RF w3.heap.size (fun _ => False) w3 [some (72, .slice none 0 0, [])]) := Lib.hid (RF.one (World.ownsRow_nil w3 w3.heap.size 72 1) (fun g hg => by cases hg) (fun b hb => hb.elim) (Nat.le_refl _))
  have hki : (k : Int) ≤ 65536 := by have := HN9.out; omega
  clear hk hrs hb3 z0 z1
  go_wp2_with (at_make; refine RF.make HRF3.out EU64 rfl rfl _ _ rfl _ _ _ _ na rfl rfl rfl rfl (by have := HN9.out; omega) (by have := HN9.out; omega) ?_; intro w4 hrf4 hb4 hsz4; have z2 := below_cell hb4 z2; have z3 := below_cell hb4 z3; have HRF4 := Lib.hid hrf4; have HB4 := Lib.hid hb4; clear hrf4 hb4 hsz4)
  obtain ⟨g, hg⟩ : ∃ g, g = w3.heap.size := ⟨_, rfl⟩
  have HG := Lib.hid hg
  rw [← hg] at HRF4 ⊢
  clear hg
  go_loopw [37] (fun jv wr => ∃ (i : Nat) (us : List Nat), jv = .int .i64 i ∧ i ≤ na ∧ us.length = na ∧ (∀ r, r < i → us.getD r 0 = cnt0 acc r) ∧ (∀ r, i ≤ r → us.getD r 0 = 0) ∧ RF g (fun _ => False) wr [some (72, .slice none 0 0, []), some (72, .slice (some ⟨g, 0, none⟩) na na, u64v us)] ∧ Below w3.heap.size w3 wr) (fun jv _ => na - (intOf jv).toNat)
  case atStart => exact ⟨0, List.replicate na 0, rfl, by omega, by simp, fun r hr => by omega, fun r hr => by simp [List.getD, List.getElem?_replicate]; split <;> rfl, by
    have h := HRF4.out
    rw [show u64v (List.replicate na 0) = List.replicate na (.int .u64 0) by simp [u64v]]
    exact h, HB4.out⟩
  case round =>
    obtain ⟨i, us, rfl, hi, hul, hdone, hrest, hrf, hb⟩ := hrel
    have HU := Lib.hid (And.intro hul (And.intro hdone hrest))
    have HRF := Lib.hid hrf
    have HB := Lib.hid hb
    by_cases hlt : i < na
    · obtain ⟨b, off, rfl, hc⟩ := ((HM.out wr (bthen HB3.out hb)).a).cell i hlt
      have HLT := Lib.hid hlt
      have hii : (i : Int) < (na : Int) := by omega
      have hi9 : (i : Int) ≤ 256 := by omega
      have HF := Lib.hid (fill_cnt (acc := acc) hul hlt hdone hrest rfl)
      clear hul hdone hrest hrf hb hi hlt
      cases hx : acc.getD i false with
      | true =>
        rw [hx] at hc
        have HF2 := Lib.hid HF.out
        rw [hx] at HF2
        have HPL : Hid (i < (u64v us).length) := Lib.hid (by rw [List.length_map, HU.out.1]; exact HLT.out)
        clear hx HF
        go_wp2_with (refine guard_op (.store 72 (.tmp 45) (.const (.int .u64 1))) rfl ?_; refine RF.store HRF.out (i := 1) rfl rfl 72 (.tmp 45) (.const (.int .u64 1)) rfl i rfl (.int .u64 1) rfl rfl rfl (by kernel_rfl) HPL.out ?_; intro w9 hrf9 hg9 hbl9 hfr9; have HRF9 := Lib.hid hrf9; have HB9 := Lib.hid (HB.out.trans (hbl9.mono (Nat.le_of_eq HG.out.symm))); clear hrf9 hg9 hbl9 hfr9)
        go_roundw
        case rel => exact ⟨i + 1, us.set i 1, by go_num, HLT.out, HF2.out.1, HF2.out.2.1, HF2.out.2.2, by
          have h := HRF9.out
          rw [show u64v (us.set i 1) = (u64v us).set i (.int .u64 1) by simp [u64v, List.map_set]]
          exact h, HB9.out⟩
        case measure => have := HLT.out; simp [intOf]; omega
      | false =>
        rw [hx] at hc
        have HF2 := Lib.hid HF.out
        rw [hx] at HF2
        clear hx HF
        go_wp2
        go_roundw
        case rel => exact ⟨i + 1, us, by go_num, HLT.out, HF2.out.1, HF2.out.2.1, HF2.out.2.2, HRF.out, HB.out⟩
        case measure => have := HLT.out; simp [intOf]; omega
    · obtain rfl : na = i := by omega
      have HCN : Hid (RdC wr (some ⟨g, 0, none⟩) na (wcnt cls next acc 0)) := Lib.hid (by
        have ho := hrf.own 1 _ _ _ rfl
        rw [show (u64v us).length = na by rw [List.length_map, hul]] at ho
        have h := ho.rdG
        rw [list_fun hul (fun r hr => (hdone r hr).trans (wcnt_zero cls next acc r).symm)] at h
        exact h)
      have HRSR := Lib.hid (HRS.out.below hb)
      have HBR := Lib.hid (bthen HB3.out hb)
      obtain ⟨z0, z1, z2, z3, -⟩ := HCT.out.below HBR.out
      have HLE := Lib.hid (Try.bits_Len (N : Int) wr (by omega) (by omega))
      obtain ⟨L, hL⟩ : ∃ L : Nat, L = Lib.bitLen (N : Int).toNat := ⟨_, rfl⟩
      rw [← hL] at HLE
      clear hul hdone hrest hrf hb hi hlt z1 z3 hL
      cases hd : decide (wrap64 ((N : Int) * (k : Int)) ≤ wrap64 (wrap64 (wrap64 ((L : Int) * (na : Int)) * (na : Int)) * (na : Int))) with
      | true =>
        go_wp2_with fail
        refine HLE.out.mono ?_
        rintro e w5 ⟨rfl, rfl⟩
        go_wp2_with fail
        clear z0 z2 hd
        obtain ⟨wo, hwo⟩ : ∃ wo : World, wo = w5 := ⟨_, rfl⟩
        subst hwo
        go_loopw [9, 64] (fun cv jv wr => ∃ (j : Nat) (a : Option Addr) (c : Nat), jv = .int .i64 j ∧ j ≤ N ∧ cv = .slice a na c ∧ RdC wr a na (wcnt cls next acc j) ∧ RdS wr sa na (lett cls next) ∧ Below w1.heap.size w1 wr) (fun _ jv _ => N - (intOf jv).toNat)
        case atStart => exact ⟨0, _, na, rfl, by omega, rfl, HCN.out, HRSR.out, HBR.out⟩
        case round =>
          obtain ⟨j, a, c, rfl, hj, rfl, hcn, hrs, hb⟩ := hrel
          by_cases hlt : j < N
          · have HAP := Lib.hid (apply_any sa sc na (lett cls next) a c (wcnt cls next acc j) wr hrs hcn (fun p _ => wcnt_le ..) HN9.out)
            have HLT := Lib.hid hlt
            have HRS6 := Lib.hid hrs
            have HB6 := Lib.hid hb
            have hji : (j : Int) < (N : Int) := by omega
            clear hj hcn hrs hb hlt
            go_wp2_with fail
            refine HAP.out.mono ?_
            rintro e w6 ⟨a6, c6, rfl, hrow, hb6⟩
            have HC6 : Hid (RdC w6 a6 na (wcnt cls next acc (j + 1))) := Lib.hid (by
              have h := hrow.rdG
              rw [show (fun q => cp (mv na (lett cls next) (wcnt cls next acc j) q)) = wcnt cls next acc (j + 1) by rw [← HNN.out]; funext q; exact wcnt_succ ..] at h
              exact h)
            have HRS7 := Lib.hid (HRS6.out.below hb6)
            have HB7 := Lib.hid (bthen HB6.out hb6)
            clear hrow hb6
            go_wp2
            go_roundw
            case rel => first | exact ⟨j + 1, a6, c6, by go_num, HLT.out, rfl, HC6.out, HRS7.out, HB7.out⟩ | ((repeat apply Exists.intro); refine ⟨?_, rfl⟩; exact ⟨j + 1, a6, c6, by go_num, HLT.out, rfl, HC6.out, HRS7.out, HB7.out⟩)
            case measure => have := HLT.out; simp [intOf]; omega
          · obtain rfl : N = j := by omega
            obtain ⟨b, off, rfl, hcell⟩ := hcn.cell HST.out
            rw [← HC.out] at hcell
            obtain ⟨z0, -, -, -, -⟩ := HCT.out.below hb
            have HBE := Lib.hid (bthen HB1.out hb)
            clear hcn hrs hb hj hlt
            by_cases hbig : (1152921504606846976 : Int) < (C : Int)
            · have HF : Hid (wordsV C = .tuple #[.int .i64 0, .iface 43 (.int .i64 2)]) := Lib.hid (by unfold wordsV; rw [if_pos (by omega)])
              go_wp2
              go_ret2
              exact ⟨by rw [HF.out]; rfl, HBE.out⟩
            · have HF : Hid (wordsV C = .tuple #[.int .i64 C, .nilIface]) := Lib.hid (by unfold wordsV; rw [if_neg (by omega)])
              have hc0 : (0 : Int) ≤ (C : Int) := by omega
              have hsm : (C : Int) ≤ 1152921504606846976 := by omega
              clear hbig
              go_wp2
              go_ret2
              exact ⟨by rw [HF.out]; rfl, HBE.out⟩
      | false =>
        go_wp2_with fail
        refine HLE.out.mono ?_
        rintro e w5 ⟨rfl, rfl⟩
        go_wp2_with fail
        clear z0 z2 hd
        obtain ⟨wo, hwo⟩ : ∃ wo : World, wo = w5 := ⟨_, rfl⟩
        subst hwo
        go_loopw [1, 7, 9] (fun nv sv cv wr => ∃ (m : Nat) (A : Nat → Nat → Nat) (v : Nat → Nat) (a a2 : Option Addr) (c c2 : Nat), nv = .int .i64 m ∧ m ≤ N ∧ sv = .slice a2 na c2 ∧ cv = .slice a na c ∧ RdC wr a na v ∧ RdS wr a2 na A ∧ Halves na (lett cls next) N (cnt0 acc) A m v ∧ Below w1.heap.size w1 wr) (fun nv _ _ _ => (intOf nv).toNat)
        case atStart => exact ⟨N, lett cls next, cnt0 acc, _, sa, na, sc, rfl, Nat.le_refl _, rfl, rfl, by
          have h := HCN.out
          rw [show wcnt cls next acc 0 = cnt0 acc from funext fun q => wcnt_zero ..] at h
          exact h, HRSR.out, Halves.start _ _ _ (fun q _ => cnt0_le acc q), HBR.out⟩
        case round =>
          obtain ⟨m, A, v, a, a2, c, c2, rfl, hmN, rfl, rfl, hcn, hrs, hh, hb⟩ := hrel
          rcases Nat.eq_zero_or_pos m with h0 | h0
          · subst h0
            obtain ⟨b, off, rfl, hcell⟩ := hcn.cell HST.out
            rw [hh.done HST.out, show cp (pw na (lett cls next) N (cnt0 acc) st) = C by rw [HC.out]; unfold wcnt; rw [HNN.out]] at hcell
            obtain ⟨z0, -, -, -, -⟩ := HCT.out.below hb
            have HBE := Lib.hid (bthen HB1.out hb)
            clear hcn hrs hb hmN hh
            by_cases hbig : (1152921504606846976 : Int) < (C : Int)
            · have HF : Hid (wordsV C = .tuple #[.int .i64 0, .iface 43 (.int .i64 2)]) := Lib.hid (by unfold wordsV; rw [if_pos (by omega)])
              go_wp2
              go_ret2
              exact ⟨by rw [HF.out]; rfl, HBE.out⟩
            · have HF : Hid (wordsV C = .tuple #[.int .i64 C, .nilIface]) := Lib.hid (by unfold wordsV; rw [if_neg (by omega)])
              have hc0 : (0 : Int) ≤ (C : Int) := by omega
              have hsm : (C : Int) ≤ 1152921504606846976 := by omega
              clear hbig
              go_wp2
              go_ret2
              exact ⟨by rw [HF.out]; rfl, HBE.out⟩
          · have HAP := Lib.hid (apply_any a2 c2 na A a c v wr hrs hcn (fun p hp => hh.le p hp) HN9.out)
            have HSQ := Lib.hid (fun (wx : World) (hbx : Below wr.heap.size wr wx) => square_any a2 c2 na A wx (hrs.below hbx) HN9.out)
            have HRS6 := Lib.hid hrs
            have HCN6 := Lib.hid hcn
            have HB6 := Lib.hid hb
            have HH := Lib.hid hh
            have HMN := Lib.hid hmN
            have hm9 : (m : Int) ≤ 65536 := by omega
            have hmp : (0 : Int) < (m : Int) := by omega
            obtain ⟨j, hj⟩ : ∃ j, j = m / 2 := ⟨_, rfl⟩
            have hdiv : (m : Int) / 2 = (j : Int) := by omega
            have HJ : Hid (m = 2 * j ∨ m = 2 * j + 1) := Lib.hid (by omega)
            have HJN : Hid (j ≤ N ∧ j < m) := Lib.hid (by omega)
            rcases Nat.mod_two_eq_zero_or_one m with hp | hp
            · have hev : ((m : Int) % 2 == 1) = false := by have : (m : Int) % 2 = 0 := by omega
                                                            rw [this]; rfl
              have HE : Hid (m = 2 * j) := Lib.hid (by omega)
              have hm1 : (1 : Int) < (m : Int) := by omega
              clear hp hj hcn hrs hb hh hmN h0
              go_wp2_with fail
              refine (HSQ.out wr (Below.refl _ _)).mono ?_
              rintro e w6 ⟨a6, c6, rfl, hrs6, hb6⟩
              have HRS7 := Lib.hid hrs6
              have HC7 := Lib.hid (HCN6.out.below hb6)
              have HB7 := Lib.hid (bthen HB6.out hb6)
              clear hrs6 hb6
              go_wp2
              go_roundw
              case rel => first | exact ⟨j, _, v, a, a6, c, c6, rfl, HJN.out.1, rfl, rfl, HC7.out, HRS7.out, Halves.even (by have h := HH.out; rwa [HE.out] at h), HB7.out⟩ | ((repeat apply Exists.intro); refine ⟨?_, rfl⟩; exact ⟨j, _, v, a, a6, c, c6, rfl, HJN.out.1, rfl, rfl, HC7.out, HRS7.out, Halves.even (by have h := HH.out; rwa [HE.out] at h), HB7.out⟩)
              case measure => have := HJN.out.2; simp [intOf]; omega
            · have hod : ((m : Int) % 2 == 1) = true := by have : (m : Int) % 2 = 1 := by omega
                                                           rw [this]; rfl
              have HE : Hid (m = 2 * j + 1) := Lib.hid (by omega)
              by_cases h1 : 1 < m
              · have hm1 : (1 : Int) < (m : Int) := by omega
                clear hp hj hcn hrs hb hh hmN h0 h1
                go_wp2_with fail
                refine HAP.out.mono ?_
                rintro e w6 ⟨a6, c6, rfl, hrow, hb6⟩
                have HC6 : Hid (RdC w6 a6 na (fun q => cp (mv na A v q))) := Lib.hid hrow.rdG
                have HQ := Lib.hid (HSQ.out w6 hb6)
                have HB7 := Lib.hid (bthen HB6.out hb6)
                clear hrow hb6
                go_wp2_with fail
                refine HQ.out.mono ?_
                rintro e w7 ⟨a7, c7, rfl, hrs7, hb7⟩
                have HRS7 := Lib.hid hrs7
                have HC7 := Lib.hid (HC6.out.below hb7)
                have HB8 := Lib.hid (bthen HB7.out hb7)
                clear hrs7 hb7
                go_wp2
                go_roundw
                case rel => first | exact ⟨j, _, _, a6, a7, c6, c7, rfl, HJN.out.1, rfl, rfl, HC7.out, HRS7.out, Halves.odd (by have h := HH.out; rwa [HE.out] at h) (fun q _ => rfl), HB8.out⟩ | ((repeat apply Exists.intro); refine ⟨?_, rfl⟩; exact ⟨j, _, _, a6, a7, c6, c7, rfl, HJN.out.1, rfl, rfl, HC7.out, HRS7.out, Halves.odd (by have h := HH.out; rwa [HE.out] at h) (fun q _ => rfl), HB8.out⟩)
                case measure => have := HJN.out.2; simp [intOf]; omega
              · obtain rfl : m = 1 := by omega
                obtain rfl : j = 0 := by omega
                clear hp hj hcn hrs hb hh hmN h0 h1
                go_wp2_with fail
                refine HAP.out.mono ?_
                rintro e w6 ⟨a6, c6, rfl, hrow, hb6⟩
                have HC6 : Hid (RdC w6 a6 na (fun q => cp (mv na A v q))) := Lib.hid hrow.rdG
                have HRS7 := Lib.hid (HRS6.out.below hb6)
                have HB7 := Lib.hid (bthen HB6.out hb6)
                clear hrow hb6
                go_wp2
                go_roundw
                case rel => first | exact ⟨0, A, _, a6, a2, c6, c2, rfl, HJN.out.1, rfl, rfl, HC6.out, HRS7.out, Halves.one HH.out (fun q _ => rfl), HB7.out⟩ | ((repeat apply Exists.intro); refine ⟨?_, rfl⟩; exact ⟨0, A, _, a6, a2, c6, c2, rfl, HJN.out.1, rfl, rfl, HC6.out, HRS7.out, Halves.one HH.out (fun q _ => rfl), HB7.out⟩)
                case measure => simp [intOf]

end Go.Proofs.Ytajajkganamfiaa
