/-
  Joined texts: WholeCounts: the walk. · arguments of types [2][]byte and [2]int, opened. · WholeCounts, for every input: the frame round its walk: what the arguments are read as, the call, what is read behind it.
-/
import Derived.Test.YtflgmodofemifaaWC15
import Derived.Test.YtflgmodofemifaaWC9
import Derived.Deep.Matrix
import Derived.Deep.Grids
import Derived.Lib.SmallJoins
import Derived.ProofKit
import Derived.OpenShut
import Derived.ShutString
import Derived.ChangeOld
import Derived.Below
import Derived.SizedLaws
import Derived.JoinedCond

/- WholeCounts: the walk. -/
namespace Go.Proofs.Ytflgmodofemifaa
open Go.RowKit Go.Maps
set_option linter.unusedVariables false
set_option linter.unusedSimpArgs false

set_option maxRecDepth 100000 in
set_option maxHeartbeats 4000000 in
theorem walk_WholeCounts (aa : Option Addr) (na ca : Nat) (la : List Int) (ab : Option Addr) (nb cb : Nat) (lb : List Int) (ta tb : Int) (ap : Option Addr) (np cp : Nat) (ps : List (List Int)) (W : World)
    (ha : Rd W .u8 aa na la) (hca : na ≤ ca) (hb : Rd W .u8 ab nb lb) (hcb : nb ≤ cb) (hp : RdRows W .u8 ap np ps) (hcp : np ≤ cp) :
    Calls Try.prog 3 #[.agg #[.slice aa na ca, .slice ab nb cb], .agg #[.int .i64 ta, .int .i64 tb], .slice ap np cp] W fun e w' => e = .returned (.bool true) ∧ Below W.heap.size W w' := by
  obtain ⟨w1, hw1⟩ : ∃ w1, w1 = (W.alloc (.cells [.slice aa na ca, .slice ab nb cb].toArray 23)).alloc (.cells [.int .i64 ta, .int .i64 tb].toArray 24) := ⟨_, rfl⟩
  have HB1 := Lib.hid (show Below W.heap.size W w1 by rw [hw1]; exact (below_alloc _ _).alloc (by simp) _)
  have HX1 := Lib.hid (show BX w1 W.heap.size [.slice aa na ca, .slice ab nb cb] by rw [hw1]; exact BX.alloc2 _ _ _ _)
  have HY1 := Lib.hid (show BX w1 (W.heap.size + 1) [.int .i64 ta, .int .i64 tb] by rw [hw1]; exact BX.allocAt (by simp) _ _)
  have HFI := Lib.hid (finds_any w1)
  have HA := Lib.hid ha
  have HBB := Lib.hid hb
  have HP := Lib.hid hp
  have HCA := Lib.hid (And.intro hca (And.intro hcb hcp))
  have HGA := Lib.hid (fun w => greatly_any aa na ca ta w)
  have HGB := Lib.hid (fun w => greatly_any ab nb cb tb w)
  have hne : ∀ w, (binOp .neq 34 .nilIface .nilIface).run Try.prog w = .ok (.bool false) w := fun w => by kernel_rfl
  have hnp := hp.max
  have HW1 := Lib.hid hw1
  clear hw1 ha hb hp hca hcb hcp
  go_enter Try.func3, Try.ntmps3
  go_upto_region 1 with fail
  rw [← HW1.out]
  go_wp2_with fail
  refine HFI.out.mono ?_
  rintro e w2 ⟨rfl, hb2⟩
  have HB2 := Lib.hid (HB1.out.trans (hb2.mono HB1.out.size))
  have HX2 := Lib.hid (HX1.out.below hb2)
  have HY2 := Lib.hid (HY1.out.below hb2)
  have x0 := HX2.out.cell (j := 0) rfl
  have x1 := HX2.out.cell (j := 1) rfl
  have y0 := HY2.out.cell (j := 0) rfl
  have y1 := HY2.out.cell (j := 1) rfl
  have HG1 := Lib.hid (HGA.out w2)
  have HG2 := Lib.hid (HGB.out w2)
  clear hb2
  cases g1 : gr na ta with
  | false =>
    rw [g1] at HG1
    clear g1
    go_wp2_with fail
    refine HG1.out.mono ?_
    rintro e w3 ⟨rfl, rfl⟩
    go_wp2
    go_ret
    exact ⟨rfl, HB2.out⟩
  | true =>
  have HG1T := Lib.hid g1
  rw [g1] at HG1
  clear g1
  cases g2 : gr nb tb with
  | false =>
    rw [g2] at HG2
    clear g2
    go_wp2_with fail
    refine HG1.out.mono ?_
    rintro e w3 ⟨rfl, rfl⟩
    go_wp2_with fail
    refine HG2.out.mono ?_
    rintro e w3 ⟨rfl, rfl⟩
    go_wp2
    go_ret
    exact ⟨rfl, HB2.out⟩
  | true =>
  have HG2T := Lib.hid g2
  rw [g2] at HG2
  clear g2
  go_wp2_with fail
  refine HG1.out.mono ?_
  rintro e w3 ⟨rfl, rfl⟩
  by_cases h4 : 4 < np
  · have h4' : decide ((4 : Int) < (np : Int)) = true := by rw [decide_eq_true_iff]; omega
    go_wp2_with fail
    refine HG2.out.mono ?_
    rintro e w3 ⟨rfl, rfl⟩
    go_wp2
    go_ret
    exact ⟨rfl, HB2.out⟩
  have H4 := Lib.hid h4
  have h4' : ¬ (4 : Int) < (np : Int) := by omega
  have h4i : decide ((4 : Int) < (np : Int)) = false := by rw [decide_eq_false_iff_not]; omega
  clear h4
  cases q1 : decide ((1099511627776 : Int) < ta) with
  | true =>
    go_wp2_with fail
    refine HG2.out.mono ?_
    rintro e w3 ⟨rfl, rfl⟩
    go_wp2
    go_ret
    exact ⟨rfl, HB2.out⟩
  | false =>
  cases q2 : decide ((1099511627776 : Int) < tb) with
  | true =>
    go_wp2_with fail
    refine HG2.out.mono ?_
    rintro e w3 ⟨rfl, rfl⟩
    go_wp2
    go_ret
    exact ⟨rfl, HB2.out⟩
  | false =>
  have HQ := Lib.hid (And.intro q1 q2)
  go_wp2_with fail
  refine HG2.out.mono ?_
  rintro e w3 ⟨rfl, rfl⟩
  clear HGA HGB HG1 HG2
  go_upto_region 5 with fail
  clear h4i h4' q1 q2
  obtain ⟨ka, hka⟩ := Int.eq_ofNat_of_zero_le (show 0 ≤ ta by have h := HG1T.out; unfold gr at h; simp only [Bool.and_eq_true, decide_eq_true_eq] at h; omega)
  obtain ⟨kb, hkb⟩ := Int.eq_ofNat_of_zero_le (show 0 ≤ tb by have h := HG2T.out; unfold gr at h; simp only [Bool.and_eq_true, decide_eq_true_eq] at h; omega)
  subst hka
  subst hkb
  have HK : Hid ((0 < na ∧ na ≤ 40 ∧ 1 ≤ ka ∧ ka ≤ 1099511627776) ∧ (0 < nb ∧ nb ≤ 40 ∧ 1 ≤ kb ∧ kb ≤ 1099511627776)) := Lib.hid (by
    have h := HG1T.out
    have h2 := HG2T.out
    have h3 := HQ.out
    unfold gr at h h2
    simp only [Bool.and_eq_true, decide_eq_true_eq, decide_eq_false_iff_not] at h h2 h3
    omega)
  have HOF := Lib.hid (of_any ap np cp ps w3 (HP.out.below HB2.out) (by have h1 := HP.out.len; have h2 := H4.out; omega))
  have HP4 : Hid (ps.length ≤ 4) := Lib.hid (by have h1 := HP.out.len; have h2 := H4.out; omega)
  clear HG1T HG2T HQ x0 x1 y0 y1
  have hcases : ocode ps = 0 ∨ ocode ps = 4 ∨ ocode ps = 9 := by
    unfold ocode; split; exact .inr (.inl rfl); split; exact .inr (.inr rfl); exact .inl rfl
  rcases hcases with hz | hz | hz
  rotate_left
  · have HZ := Lib.hid hz
    have hne4 : ∀ w, (binOp .neq 34 (.iface 51 (.int .i64 4)) .nilIface).run Try.prog w = .ok (.bool true) w := fun w => by kernel_rfl
    clear hz
    go_wp2_with fail
    refine HOF.out.mono ?_
    rintro r w4 hof
    obtain ⟨hb4, rfl⟩ := of_bad hof HZ.out (by decide)
    rw [show errV 4 = .iface 51 (.int .i64 4) from rfl]
    have HB4 := Lib.hid (HB2.out.trans (hb4.mono HB2.out.size))
    clear hof hb4
    go_wp2
    go_ret
    exact ⟨rfl, HB4.out.alloc HB4.out.size _⟩
  · have HZ := Lib.hid hz
    have hne9 : ∀ w, (binOp .neq 34 (.iface 51 (.int .i64 9)) .nilIface).run Try.prog w = .ok (.bool true) w := fun w => by kernel_rfl
    clear hz
    go_wp2_with fail
    refine HOF.out.mono ?_
    rintro r w4 hof
    obtain ⟨hb4, rfl⟩ := of_bad hof HZ.out (by decide)
    rw [show errV 9 = .iface 51 (.int .i64 9) from rfl]
    have HB4 := Lib.hid (HB2.out.trans (hb4.mono HB2.out.size))
    clear hof hb4
    go_wp2
    go_ret
    exact ⟨rfl, HB4.out.alloc HB4.out.size _⟩
  · have HZ := Lib.hid hz
    clear hz
    go_wp2_with fail
    refine HOF.out.mono ?_
    rintro r w4 hof
    obtain ⟨hb4, ac, an, cn, ac2, ca2, ah, ch, rfl, hrd, hh⟩ := of_ok hof HZ.out
    obtain ⟨m, hm⟩ : ∃ m, m = litM ps := ⟨_, rfl⟩
    rw [← hm] at hrd hh ⊢
    have HMO : Hid (McOk m) := Lib.hid (by rw [hm]; exact lit_mc HP4.out (ocode_small' HZ.out))
    have HV : Hid (Valid 0 m.cls m.next (litA ps)) := Lib.hid (by rw [hm]; exact lit_valid' (ocode_small' HZ.out))
    obtain ⟨acc, hacc⟩ : ∃ acc, acc = litA ps := ⟨_, rfl⟩
    rw [← hacc] at HV hrd
    have HB4 := Lib.hid (HB2.out.trans (hb4.mono HB2.out.size))
    have HX4 := Lib.hid (HX2.out.below hb4)
    have HY4 := Lib.hid (HY2.out.below hb4)
    have HRD := Lib.hid hrd
    have HH := Lib.hid hh
    obtain ⟨n, hn⟩ : ∃ n, n = m.next.length := ⟨_, rfl⟩
    have HN := Lib.hid hn
    have hnm : n ≤ 9223372036854775807 := by have h1 := HMO.out.n9; omega
    rw [← hn]
    clear hof hb4 hm hrd hh hn hacc
    go_upto_region 8 with fail
    obtain ⟨w5, hw5⟩ : ∃ w5, w5 = w4.alloc (.cells #[.int .i64 0, .slice ac 256 256, .slice an n cn, .slice ac2 n ca2] 32) := ⟨_, rfl⟩
    obtain ⟨b5, hb5⟩ : ∃ b5, b5 = w4.heap.size := ⟨_, rfl⟩
    have HM5 := Lib.hid (show BX w5 b5 [.int .i64 0, .slice ac 256 256, .slice an n cn, .slice ac2 n ca2] by rw [hw5, hb5]; exact BX.alloc _ _ _)
    have hb45 : Below w4.heap.size w4 w5 := by rw [hw5]; exact below_alloc _ _
    have HB5 := Lib.hid (HB4.out.trans (hb45.mono HB4.out.size))
    have HX5 := Lib.hid (HX4.out.below hb45)
    have HY5 := Lib.hid (HY4.out.below hb45)
    have HRD5 := Lib.hid (HRD.out.below hb45)
    have HH5 := Lib.hid (HH.out.below hb45)
    rw [← hw5, ← hb5]
    clear hw5 hb5 hb45
    have hnw := storeNew_any 1048576 (by decide) w5
    rw [show ((1048576 : Nat) : Int) = 1048576 from rfl] at hnw
    have HNW := Lib.hid hnw
    clear hnw
    go_wp2_with fail
    refine HNW.out.mono ?_
    rintro r w6 ⟨bs, rfl, hs6, hb6⟩
    have HS6 := Lib.hid hs6
    have HB56 := Lib.hid hb6
    have x0 := (HX5.out.below hb6).cell (j := 0) rfl
    have HTA := Lib.hid (Text_any w5.heap.size bs 1048576 na aa ca la [] w6 HK.out.1.1 (by have := HK.out.1.2.1; omega) HCA.out.1 (PR.of HA.out HB5.out.size (HB5.out.trans (hb6.mono HB5.out.size))) hs6 hb6.size (by have := HK.out.1.2.1; simp; omega))
    clear hs6 hb6
    go_wp2_with fail
    refine HTA.out.mono ?_
    rintro r w7 ⟨ia, La, rfl, hs7, hx7, hl7, hi7, hj7, ht7, hk7⟩
    have HS7 := Lib.hid hs7
    have HB57 := Lib.hid (HB56.out.trans hk7.1)
    have HL7 := Lib.hid (And.intro hl7 (And.intro hi7 (And.intro hj7 ht7)))
    have x1 := (HX5.out.below HB57.out).cell (j := 1) rfl
    have HTB := Lib.hid (Text_any w5.heap.size bs 1048576 nb ab cb lb La w7 HK.out.2.1 (by have := HK.out.2.2.1; omega) HCA.out.2.1 (PR.of HBB.out HB5.out.size (HB5.out.trans (HB57.out.mono HB5.out.size))) hs7 HB57.out.size (by have h1 := HK.out; simp at hl7; omega))
    clear hs7 hx7 hl7 hi7 hj7 ht7 hk7 x0
    go_wp2_with fail
    refine HTB.out.mono ?_
    rintro r w8 ⟨ib, Lb, rfl, hs8, hx8, hl8, hi8, hj8, ht8, hk8⟩
    have HS8 := Lib.hid hs8
    have HB58 := Lib.hid (HB57.out.trans hk8.1)
    have HX8 := Lib.hid hx8
    have HL8 := Lib.hid (And.intro hl8 (And.intro hi8 (And.intro hj8 ht8)))
    have y0 := (HY5.out.below HB58.out).cell (j := 0) rfl
    have hla : (la.map Int.toNat).length = na := by rw [List.length_map, HA.out.len]
    have hlb : (lb.map Int.toNat).length = nb := by rw [List.length_map, HBB.out.len]
    have HLEN := Lib.hid (And.intro hla hlb)
    have hta : tx Lb ia = la.map Int.toNat := by rw [hx8.tx HL7.out.2.1 HL7.out.2.2.1]; exact HL7.out.2.2.2
    have HTA8 := Lib.hid hta
    have HIA8 : Hid (ia ≤ Lb.length) := Lib.hid (Nat.le_trans HL7.out.2.2.1 hx8.len)
    have HMULA : Hid (na * ka ≤ 43980465111040 ∧ nb * kb ≤ 43980465111040) := Lib.hid (by
      have h := HK.out
      have h1 : na * ka ≤ 40 * 1099511627776 := Nat.mul_le_mul h.1.2.1 h.1.2.2.2
      have h2 : nb * kb ≤ 40 * 1099511627776 := Nat.mul_le_mul h.2.2.1 h.2.2.2.2
      omega)
    have HROOM : Hid (Lb.length + 4 ≤ 1048576) := Lib.hid (by
      have h := HK.out
      have h1 := HL7.out.1
      have h2 := HL8.out.1
      simp only [List.length_nil] at h1
      omega)
    have HPA := Lib.hid (power_all HS8.out ia ka HL7.out.2.1 HIA8.out HK.out.1.2.2.1 (by rw [hta, hla, ML_val]; have := HMULA.out; omega) (by have := HROOM.out; omega) HB58.out.size)
    rw [hta] at HPA
    clear hla hlb hta hs8 hx8 hl8 hi8 hj8 ht8 hk8 x1
    go_wp2_with fail
    refine HPA.out.mono ?_
    rintro r w9 ⟨iA, L9, rfl, hs9, hx9, hl9, hi9, hj9, ht9, hk9⟩
    have HB59 := Lib.hid (HB58.out.trans hk9.1)
    have HS9 := Lib.hid hs9
    have HX9 := Lib.hid hx9
    have HL9 := Lib.hid (And.intro hl9 (And.intro hi9 (And.intro hj9 ht9)))
    have htb : tx L9 ib = lb.map Int.toNat := by rw [hx9.tx HL8.out.2.1 HL8.out.2.2.1]; exact HL8.out.2.2.2
    have HIB9 : Hid (ib ≤ L9.length) := Lib.hid (Nat.le_trans HL8.out.2.2.1 hx9.len)
    have y1 := (HY5.out.below HB59.out).cell (j := 1) rfl
    have HPB := Lib.hid (power_all hs9 ib kb HL8.out.2.1 HIB9.out HK.out.2.2.2.1 (by rw [htb, HLEN.out.2, ML_val]; have := HMULA.out; omega) (by have := HROOM.out; omega) HB59.out.size)
    rw [htb] at HPB
    clear htb hs9 hx9 hl9 hi9 hj9 ht9 hk9 y0
    go_wp2_with fail
    refine HPB.out.mono ?_
    rintro r wa ⟨iB, La', rfl, hsa, hxa, hl10, hi10, hj10, ht10, hk10⟩
    have HB5a := Lib.hid (HB59.out.trans hk10.1)
    have HXa := Lib.hid hxa
    obtain ⟨A, hA⟩ : ∃ A, A = rep ka (la.map Int.toNat) := ⟨_, rfl⟩
    obtain ⟨D, hD⟩ : ∃ D, D = rep kb (lb.map Int.toNat) := ⟨_, rfl⟩
    have HLA : Hid (A.length ≤ 43980465111040 ∧ D.length ≤ 43980465111040) := Lib.hid (by
      rw [hA, hD, rep_len, rep_len, HLEN.out.1, HLEN.out.2]
      have h := HMULA.out
      rw [Nat.mul_comm na, Nat.mul_comm nb] at h
      exact h)
    have hAa : tx La' iA = A := by rw [hxa.tx HL9.out.2.1 HL9.out.2.2.1, hA]; exact HL9.out.2.2.2
    have hDa : tx La' iB = D := by rw [hD]; exact ht10
    have HIAa : Hid (iA ≤ La'.length) := Lib.hid (Nat.le_trans HL9.out.2.2.1 hxa.len)
    have HIBa := Lib.hid (And.intro hi10 hj10)
    have HPP := Lib.hid (pair_all hsa iA iB HL9.out.2.1 hi10 HIAa.out hj10 (by rw [hAa, hDa, ML_val]; have := HLA.out; omega) (by have h1 := HROOM.out; have h2 := HL9.out.1; omega) HB5a.out.size)
    rw [hAa, hDa] at HPP
    have HAD := Lib.hid (And.intro hAa hDa)
    clear hAa hDa hA hD hsa hxa hl10 hi10 hj10 ht10 hk10 y1
    go_wp2_with fail
    refine HPP.out.mono ?_
    rintro r wb ⟨iC, Lc, rfl, hsc, hxc, hlc, hic, hjc, htc, hkc⟩
    have HB5b := Lib.hid (HB5a.out.trans hkc.1)
    have HM5b := HM5.out.below HB5b.out
    have HTN := Lib.hid (tabNew_any wb m HMO.out acc HV.out ac an ac2 ah 256 cn ca2 ch w5.heap.size bs 1048576 Lc (HRD5.out.below HB5b.out) (HH5.out.below HB5b.out) hsc)
    rw [← HN.out] at HTN
    have HIC := Lib.hid (And.intro hic hjc)
    have HTX : Hid ((tx Lc iA = A ∧ tx Lc iB = D) ∧ tx Lc iC = A ++ D) := Lib.hid ⟨⟨by rw [hxc.tx HL9.out.2.1 HIAa.out]; exact HAD.out.1, by rw [hxc.tx HIBa.out.1 HIBa.out.2]; exact HAD.out.2⟩, htc⟩
    have HII : Hid (iA ≤ Lc.length ∧ iB ≤ Lc.length) := Lib.hid ⟨Nat.le_trans HIAa.out hxc.len, Nat.le_trans HIBa.out.2 hxc.len⟩
    have HMB := Lib.hid HM5b
    have d0 := HM5b.cell (j := 0) rfl
    have d1 := HM5b.cell (j := 1) rfl
    have d2 := HM5b.cell (j := 2) rfl
    have d3 := HM5b.cell (j := 3) rfl
    clear hsc hxc hlc hic hjc htc hkc HM5b
    go_wp2_with fail
    refine HTN.out.mono ?_
    rintro r wc ⟨tb, x, rfl, ht, hbc, hbk⟩
    have HT := Lib.hid ht
    have HBc := Lib.hid hbc
    have HBK := Lib.hid hbk
    have HMC := Lib.hid (HMB.out.below hbc)
    clear ht hbc hbk d0 d1 d2 d3
    go_upto_region 18 with fail
    go_loopg [23] n (fun gg iv wr => ∃ (q nk : Nat) (K : Nat → Option Value), q ≤ n ∧ gg = n - q ∧ iv = .int .i64 (q : Nat) ∧ TB m acc w5.heap.size bs 1048576 Lc x wr tb nk K ∧ Fr (fun b => b = x.bk) wc wr)
    case atStart => exact ⟨0, 0, _, by omega, rfl, rfl, HT.out, Fr.refl _ _⟩
    case round =>
      obtain ⟨q, nk, K, hq, rfl, rfl, ht, hf⟩ := hrel
      have HT0 := Lib.hid ht
      have HF0 := Lib.hid hf
      have hbx := HMC.out.fr hf (fun e => by have h1 := HBK.out; have h2 := HMB.out.lt; omega)
      have d2 := hbx.cell (j := 2) rfl
      clear ht hf hbx
      by_cases hlt : q < n
      · have HQN : Hid (q < m.next.length) := Lib.hid (by rw [← HN.out]; exact hlt)
        have hqi : (q : Int) < (n : Int) := by omega
        have HLT := Lib.hid hlt
        have hs1 : 8 * (tx Lc iA).length ≤ ML := by rw [HTX.out.1.1, ML_val]; have := HLA.out; omega
        have hs2 : 8 * (tx Lc iB).length ≤ ML := by rw [HTX.out.1.2, ML_val]; have := HLA.out; omega
        have hs3 : 8 * (tx Lc iC).length ≤ ML := by rw [HTX.out.2, List.length_append, ML_val]; have := HLA.out; omega
        obtain ⟨q1, hq1⟩ : ∃ q1, q1 = m.st q A := ⟨_, rfl⟩
        obtain ⟨q2, hq2⟩ : ∃ q2, q2 = m.st q1 D := ⟨_, rfl⟩
        obtain ⟨z1, hz1⟩ : ∃ z, z = m.hs q A := ⟨_, rfl⟩
        obtain ⟨z2, hz2⟩ : ∃ z, z = m.hs q1 D := ⟨_, rfl⟩
        obtain ⟨z3, hz3⟩ : ∃ z, z = m.hs q (A ++ D) := ⟨_, rfl⟩
        have hq3 : m.st q (A ++ D) = q2 := by rw [Mc.st_app, ← hq1, ← hq2]
        have hz4 : z3 = z1 + z2 := by rw [hz3, Mc.hs_app, ← hq1, ← hz1, ← hz2]
        have HQ1 : Hid (q1 < m.next.length) := Lib.hid (by
          rw [hq1, ← HTX.out.1.1]
          exact HMO.out.st_lt _ q HQN.out (tx_bts HT0.out.si.good _ iA (Nat.le_refl _) HL9.out.2.1 HII.out.1))
        have hzs : (z1 : Int) + (z2 : Int) = (z3 : Int) := by omega
        have hz9 : z3 ≤ 9223372036854775807 := by
          have h1 := HMO.out.hs_le (A ++ D) q
          have h2 := HLA.out
          rw [← hz3, List.length_append] at h1
          omega
        have HS3 := Lib.hid (And.intro hs1 (And.intro hs2 hs3))
        have hc1 : ∀ (w : World) (nk : Nat) (K : Nat → Option Value), TB m acc w5.heap.size bs 1048576 Lc x w tb nk K → Calls Try.prog 12 #[.pointer (some ⟨tb, 0, none⟩), .int .i64 (iA : Nat), .int .i64 (q : Nat)] w (AskPost m acc w5.heap.size bs 1048576 Lc x tb (.int .i64 (q1 : Nat)) w) := fun w nk K h => by
          have h1 := end_any h HV.out iA q HL9.out.2.1 HII.out.1 HQN.out HS3.out.1
          rw [HTX.out.1.1, ← hq1] at h1; exact h1
        have hc2 : ∀ (w : World) (nk : Nat) (K : Nat → Option Value), TB m acc w5.heap.size bs 1048576 Lc x w tb nk K → Calls Try.prog 12 #[.pointer (some ⟨tb, 0, none⟩), .int .i64 (iB : Nat), .int .i64 (q1 : Nat)] w (AskPost m acc w5.heap.size bs 1048576 Lc x tb (.int .i64 (q2 : Nat)) w) := fun w nk K h => by
          have h1 := end_any h HV.out iB q1 HIBa.out.1 HII.out.2 HQ1.out HS3.out.2.1
          rw [HTX.out.1.2, ← hq2] at h1; exact h1
        have hc3 : ∀ (w : World) (nk : Nat) (K : Nat → Option Value), TB m acc w5.heap.size bs 1048576 Lc x w tb nk K → Calls Try.prog 12 #[.pointer (some ⟨tb, 0, none⟩), .int .i64 (iC : Nat), .int .i64 (q : Nat)] w (AskPost m acc w5.heap.size bs 1048576 Lc x tb (.int .i64 (q2 : Nat)) w) := fun w nk K h => by
          have h1 := end_any h HV.out iC q HIC.out.1 HIC.out.2 HQN.out HS3.out.2.2
          rw [HTX.out.2, hq3] at h1; exact h1
        have hc4 : ∀ (w : World) (nk : Nat) (K : Nat → Option Value), TB m acc w5.heap.size bs 1048576 Lc x w tb nk K → Calls Try.prog 13 #[.pointer (some ⟨tb, 0, none⟩), .int .i64 (iA : Nat), .int .i64 (q : Nat)] w (AskPost m acc w5.heap.size bs 1048576 Lc x tb (.int .i64 (z1 : Nat)) w) := fun w nk K h => by
          have h1 := hits_any' h HV.out iA q HL9.out.2.1 HII.out.1 HQN.out HS3.out.1
          rw [HTX.out.1.1, ← hz1] at h1; exact h1
        have hc5 : ∀ (w : World) (nk : Nat) (K : Nat → Option Value), TB m acc w5.heap.size bs 1048576 Lc x w tb nk K → Calls Try.prog 13 #[.pointer (some ⟨tb, 0, none⟩), .int .i64 (iB : Nat), .int .i64 (q1 : Nat)] w (AskPost m acc w5.heap.size bs 1048576 Lc x tb (.int .i64 (z2 : Nat)) w) := fun w nk K h => by
          have h1 := hits_any' h HV.out iB q1 HIBa.out.1 HII.out.2 HQ1.out HS3.out.2.1
          rw [HTX.out.1.2, ← hz2] at h1; exact h1
        have hc6 : ∀ (w : World) (nk : Nat) (K : Nat → Option Value), TB m acc w5.heap.size bs 1048576 Lc x w tb nk K → Calls Try.prog 13 #[.pointer (some ⟨tb, 0, none⟩), .int .i64 (iC : Nat), .int .i64 (q : Nat)] w (AskPost m acc w5.heap.size bs 1048576 Lc x tb (.int .i64 (z3 : Nat)) w) := fun w nk K h => by
          have h1 := hits_any' h HV.out iC q HIC.out.1 HIC.out.2 HQN.out HS3.out.2.2
          rw [HTX.out.2, ← hz3] at h1; exact h1
        have HC1 := Lib.hid hc1
        have HC2 := Lib.hid hc2
        have HC3 := Lib.hid hc3
        have HC4 := Lib.hid hc4
        have HC5 := Lib.hid hc5
        have HC6 := Lib.hid hc6
        clear hc1 hc2 hc3 hc4 hc5 hc6 hs1 hs2 hs3 hq1 hq2 hz1 hz2 hz3 hq3 hz4 hlt
        go_wp2_with fail
        refine (HC1.out _ _ _ HT0.out).mono ?_
        rintro r v1 ⟨rfl, nk1, K1, ht, hf⟩
        have HT1 := Lib.hid ht
        have HF1 := Lib.hid (HF0.out.trans hf)
        clear ht hf d2
        go_wp2_with fail
        refine (HC2.out _ _ _ HT1.out).mono ?_
        rintro r v2 ⟨rfl, nk2, K2, ht, hf⟩
        have HT2 := Lib.hid ht
        have HF2 := Lib.hid (HF1.out.trans hf)
        clear ht hf
        go_wp2_with fail
        refine (HC3.out _ _ _ HT2.out).mono ?_
        rintro r v3 ⟨rfl, nk3, K3, ht, hf⟩
        have HT3 := Lib.hid ht
        have HF3 := Lib.hid (HF2.out.trans hf)
        clear ht hf
        go_wp2_with fail
        refine (HC4.out _ _ _ HT3.out).mono ?_
        rintro r v4 ⟨rfl, nk4, K4, ht, hf⟩
        have HT4 := Lib.hid ht
        have HF4 := Lib.hid (HF3.out.trans hf)
        clear ht hf
        go_wp2_with fail
        refine (HC5.out _ _ _ HT4.out).mono ?_
        rintro r v5 ⟨rfl, nk5, K5, ht, hf⟩
        have HT5 := Lib.hid ht
        have HF5 := Lib.hid (HF4.out.trans hf)
        clear ht hf
        go_wp2_with fail
        refine (HC6.out _ _ _ HT5.out).mono ?_
        rintro r v6 ⟨rfl, nk6, K6, ht, hf⟩
        have HT6 := Lib.hid ht
        have HF6 := Lib.hid (HF5.out.trans hf)
        clear ht hf
        go_wp2
        go_roundg (n - (q + 1))
        case measure => have := HLT.out; omega
        case rel => exact ⟨q + 1, nk6, K6, HLT.out, rfl, by go_num, HT6.out, HF6.out⟩
      · obtain rfl : q = n := by omega
        go_wp2
        go_ret
        refine ⟨rfl, ?_⟩
        have h1 : Below W.heap.size W wb := HB5.out.trans (HB5b.out.mono HB5.out.size)
        have h2 : Below W.heap.size W wc := h1.trans (HBc.out.mono h1.size)
        exact h2.trans (HF0.out.below (fun i hi => by have h3 := HBK.out; have h4 := h1.size; omega) h2.size)

end Go.Proofs.Ytflgmodofemifaa

/- arguments of types [2][]byte and [2]int, opened. -/
namespace Go.Proofs.Ytflgmodofemifaa
open Go.RowKit Go.ChangeShapes Go.WideShapes Go.Deep Go.Joins
set_option linter.unusedVariables false
set_option linter.unusedSimpArgs false

theorem spot_none {w : World} {a : Addr} {v : Value} (h : w.cell? (a.add 0) = some v) : ∃ b off, a = ⟨b, off, none⟩ := by
  have hs := World.cell?_spot h
  obtain ⟨b, off, spot⟩ := a
  have : spot = none := by simpa [Addr.add] using hs
  subst this
  exact ⟨b, off, rfl⟩

section
variable {H : Type} {enc : TypeId × Value → H} {P : Program} {W : World} {n : Nat} {v : Value} {y : DataW H × List MemPlace}

theorem open_rd1 {t e : TypeId} {k : IntKind} (ht : P.underlying t = some (.slice e)) (he : P.underlying e = some (.int k)) (hc : P.cellsOf e = 1)
    (h : DataW.trod enc P W 0 (fun _ => true) true n t [v] = some y) : ∃ a len cap l, v = .slice a len cap ∧ Rd W k a len l ∧ len ≤ cap := by
  have h2 : ∃ a len cap, v = .slice a len cap := by
    rcases open_ints ht he hc h with ⟨hcs, _⟩ | ⟨x, l, c', zs, hcs, _⟩
    · exact ⟨_, _, _, by simpa using hcs⟩
    · exact ⟨_, _, _, by simpa using hcs⟩
  obtain ⟨a, len, cap, rfl⟩ := h2
  obtain ⟨l, h3, h4, _⟩ := open_rd (d := y.1) (p := y.2) ht he hc ⟨n, by simpa [Value.cells] using h⟩
  exact ⟨a, len, cap, l, rfl, h3, h4⟩

theorem open_rows1 {t e q : TypeId} {k : IntKind} (ht : P.underlying t = some (.slice e)) (he : P.underlying e = some (.slice q)) (hq : P.underlying q = some (.int k)) (ce : P.cellsOf e = 1) (cq : P.cellsOf q = 1)
    (h : DataW.trod enc P W 0 (fun _ => true) true n t [v] = some y) : ∃ a len cap ll, v = .slice a len cap ∧ RdRows W k a len ll ∧ len ≤ cap := by
  rcases open_int_rows ht he hq ce cq h with ⟨hcs, _⟩ | ⟨a, len, cap, A, L, C, Z, hcs, _, hl, hm, _, hrow⟩
  · exact ⟨none, 0, 0, [], by simpa using hcs, ⟨rfl, by omega, fun i hi => by omega⟩, Nat.le_refl _⟩
  · refine ⟨some a, len, cap, (List.range len).map fun r => (Z r).take (L r), by simpa using hcs, ⟨by simp, by unfold maxLen at hm; omega, fun i hi => ?_⟩, hl⟩
    obtain ⟨h1, h2, h3, h4, h5, h6, h7⟩ := hrow i (by omega)
    obtain ⟨b, off, rfl⟩ := spot_none (hrow 0 (by omega)).1
    refine ⟨b, off, A i, L i, C i, rfl, by rw [Addr.add_lit] at h1; exact h1, ?_, h2⟩
    have e : ((List.range len).map fun r => (Z r).take (L r)).getD i [] = (Z i).take (L i) := by simp [List.getD, hi]
    rw [e]
    refine ⟨by rw [List.length_take]; omega, by unfold maxLen at h3; omega, fun j hj => ?_, fun x hx => h5 x (List.mem_of_mem_take hx)⟩
    cases hA : A i with
    | none => have := h6 hA; omega
    | some a' =>
      have h8 := (h7 a' hA).2 j (by omega)
      obtain ⟨b', off', rfl⟩ := spot_none ((h7 a' hA).2 0 (by omega))
      refine ⟨b', off', rfl, ?_⟩
      rw [Addr.add_lit] at h8
      rw [h8]
      simp [List.getD, hj]

end

set_option maxRecDepth 100000 in
theorem open_bytes2 {H : Type} {enc : TypeId × Value → H} {W : World} {r : Reach} {b0 : Nat} {v : Value} {d : DataW H} {p : List MemPlace}
    (hv : Value.okWide Try.prog W r b0 23 v) (h : DataW.Trod enc Try.prog W 0 (fun _ => true) true 23 v d p) :
    ∃ a n c l a' n' c' l', v = .agg #[.slice a n c, .slice a' n' c'] ∧ Rd W .u8 a n l ∧ n ≤ c ∧ Rd W .u8 a' n' l' ∧ n' ≤ c' := by
  simp only [Value.okWide, Try.underlying23] at hv
  obtain ⟨cs, rfl, hsz, _⟩ := hv
  rw [show Try.prog.cellsOf 23 = 2 by kernel_rfl] at hsz
  obtain ⟨fuel, hf⟩ := h
  obtain ⟨xs, m, _, _, _, hxl, hel⟩ := DataW.trod_array Try.underlying23 hf
  rw [show Try.prog.cellsOf 22 = 1 by kernel_rfl] at hel
  obtain ⟨l⟩ := cs
  match l, hsz with
  | [c0, c1], _ =>
    have g : ∀ i (hi : i < 2) c, (([c0, c1] : List Value).drop (i * 1)).take 1 = [c] → ∃ a len cap l, c = .slice a len cap ∧ Rd W .u8 a len l ∧ len ≤ cap := by
      intro i hi c hc
      have h1 := hel i hi
      rw [show (Value.agg { toList := [c0, c1] }).cells.toList = [c0, c1] from rfl, hc] at h1
      have hx : xs[i]? = some (xs[i]'(by omega)) := List.getElem?_eq_getElem (by omega)
      rw [hx] at h1
      exact open_rd1 Try.underlying22 Try.underlying5 (by kernel_rfl) h1
    obtain ⟨a, n, c, l, rfl, h1, h2⟩ := g 0 (by omega) c0 rfl
    obtain ⟨a', n', c', l', rfl, h3, h4⟩ := g 1 (by omega) c1 rfl
    exact ⟨a, n, c, l, a', n', c', l', rfl, h1, h2, h3, h4⟩

set_option maxRecDepth 100000 in
theorem open_int2 {H : Type} {enc : TypeId × Value → H} {W : World} {r : Reach} {b0 : Nat} {v : Value} {d : DataW H} {p : List MemPlace}
    (hv : Value.okWide Try.prog W r b0 24 v) (h : DataW.Trod enc Try.prog W 0 (fun _ => true) true 24 v d p) :
    ∃ a b, v = .agg #[.int .i64 a, .int .i64 b] := by
  simp only [Value.okWide, Try.underlying24] at hv
  obtain ⟨cs, rfl, hsz, _⟩ := hv
  rw [show Try.prog.cellsOf 24 = 2 by kernel_rfl] at hsz
  obtain ⟨fuel, hf⟩ := h
  obtain ⟨xs, m, _, _, _, hxl, hel⟩ := DataW.trod_array Try.underlying24 hf
  rw [show Try.prog.cellsOf 3 = 1 by kernel_rfl] at hel
  obtain ⟨l⟩ := cs
  match l, hsz with
  | [c0, c1], _ =>
    have g : ∀ i (hi : i < 2) c, (([c0, c1] : List Value).drop (i * 1)).take 1 = [c] → ∃ k, c = .int .i64 k := by
      intro i hi c hc
      have h1 := hel i hi
      rw [show (Value.agg { toList := [c0, c1] }).cells.toList = [c0, c1] from rfl, hc] at h1
      have hx : xs[i]? = some (xs[i]'(by omega)) := List.getElem?_eq_getElem (by omega)
      rw [hx] at h1
      obtain ⟨k, e1, _, _⟩ := DataW.trod_int Try.underlying3 h1
      exact ⟨k, by simpa using e1⟩
    obtain ⟨a, rfl⟩ := g 0 (by omega) c0 rfl
    obtain ⟨b, rfl⟩ := g 1 (by omega) c1 rfl
    exact ⟨a, b, rfl⟩

theorem open_rowsT {H : Type} {enc : TypeId × Value → H} {W : World} {a : Option Addr} {n c : Nat} {d : DataW H} {p : List MemPlace}
    (h : DataW.Trod enc Try.prog W 0 (fun _ => true) true 25 (.slice a n c) d p) : ∃ ll, RdRows W .u8 a n ll ∧ n ≤ c := by
  obtain ⟨fuel, hf⟩ := h
  obtain ⟨a', n', c', ll, e, h1, h2⟩ := open_rows1 Try.underlying25 Try.underlying22 Try.underlying5 (by kernel_rfl) (by kernel_rfl) (v := .slice a n c) (by simpa [Value.cells] using hf)
  obtain ⟨rfl, rfl, rfl⟩ := Value.slice.inj e
  exact ⟨ll, h1, h2⟩

end Go.Proofs.Ytflgmodofemifaa

/- WholeCounts, for every input: the frame round its walk: what the arguments are read as, the call, what is read behind it. -/
namespace Go.Proofs.Ytflgmodofemifaa.wholeCounts
open Go.ChangeShapes Go.WideShapes Go.ChangeAt Go.RowKit
open Go.ChangeMaps (open_string shut_string)
set_option linter.unusedVariables false
set_option linter.unusedSimpArgs false

theorem own : ownKnob Try.prog.godebug = none := by kernel_rfl
theorem laidOut : laidOutB Try.prog = true := by kernel_rfl

set_option maxRecDepth 100000 in
theorem contract (H : Type) (enc : TypeId × Value → H) (W : World) (base : Nat) (args : Array Value) (ds gs : List (DataW H)) (before : List MemPlace)
    (hval0 : ∀ (j : Nat) t v, Try.f3.params[j]? = some t → args[j]? = some v → Value.okWide Try.prog W .any base t v)
    (hW : DataW.Whole enc Try.prog Try.f3.params.toList Rows.wholeCountsSpec.vars false W args.toList ds gs before) (hsz : (DataW.weightsEach Try.prog (Try.f3.params.toList ++ Rows.wholeCountsSpec.plain.varTypes Try.prog) (ds ++ gs)).all (· ≤ reachBytes) = true) :
    Calls Try.prog 3 args W fun e W' => ∃ v, e = .returned v ∧ Rows.wholeCountsSpec.post enc Try.prog Try.f3 false true false false W args v W' := by
  have hval : ∀ (j : Nat) t v, Try.f3.params[j]? = some t → args[j]? = some v → Value.okWide Try.prog W .any base t v := hval0
  have hW' := hW
  obtain ⟨p, q, hA0, hV, rfl, hfz, hnd⟩ := hW
  have hA : DataW.TrodAll enc Try.prog W 0 (fun _ => true) true Try.f3.params.toList args.toList ds p := hA0
  rw [Try.params3] at hA hval
  obtain ⟨v0, vs0, d0, ds0, p0, q0, hargs, rfl, rfl, h0, r0⟩ := trodAll_cons hA
  obtain ⟨v1, vs1, d1, ds1, p1, q1, rfl, rfl, rfl, h1, r1⟩ := trodAll_cons r0
  obtain ⟨v2, vs2, d2, ds2, p2, q2, rfl, rfl, rfl, h2, r2⟩ := trodAll_cons r1
  obtain ⟨rfl, rfl, rfl⟩ := trodAll_nil r2
  obtain rfl : args = #[v0, v1, v2] := by cases args; simp_all
  obtain ⟨rfl, rfl⟩ := trodVars_none hV
  have k0 := h0
  have lt0 : ∀ x ∈ p0, x.block < W.heap.size := by obtain ⟨m, hm⟩ := k0; exact DataW.trod_lt m _ _ _ hm
  obtain ⟨aa0, na0, ca0, la0, ab0, nb0, cb0, lb0, rfl, w0, x0, y0, z0⟩ := open_bytes2 (hval 0 23 v0 rfl rfl) h0
  have k1 := h1
  have lt1 : ∀ x ∈ p1, x.block < W.heap.size := by obtain ⟨m, hm⟩ := k1; exact DataW.trod_lt m _ _ _ hm
  obtain ⟨ta1, tb1, rfl⟩ := open_int2 (hval 1 24 v1 rfl rfl) h1
  have k2 := h2
  have lt2 : ∀ x ∈ p2, x.block < W.heap.size := by obtain ⟨m, hm⟩ := k2; exact DataW.trod_lt m _ _ _ hm
  obtain ⟨a2, len2, cap2, rfl⟩ := okWide_slice Try.underlying25 (hval 2 25 v2 rfl rfl)
  obtain ⟨l2, w2, c2⟩ := open_rowsT h2
  clear hA0 hval0
  refine (walk_WholeCounts aa0 na0 ca0 la0 ab0 nb0 cb0 lb0 ta1 tb1 a2 len2 cap2 l2 W w0 x0 y0 z0  w2 c2).mono fun e W' ⟨he, bel⟩ => ?_
  subst he
  exact ⟨_, rfl, _, _, _, [], _, [], hW', trodAll_mk1 (shut_bool Try.underlying4 _), (trodAll_cons_mk (Below.trod laidOut (by kernel_rfl) (of_decide_eq_true (by kernel_rfl)) k0 bel lt0) (trodAll_cons_mk (Below.trod laidOut (by kernel_rfl) (of_decide_eq_true (by kernel_rfl)) k1 bel lt1) (trodAll_cons_mk (Below.trod laidOut (by kernel_rfl) (of_decide_eq_true (by kernel_rfl)) k2 bel lt2) trodAll_mk0))), rfl, bel.frame _, fun h => by cases h⟩

set_option maxRecDepth 100000 in
theorem lifted (os : Os) (started : os.Started) (H : Type) (enc : TypeId × Value → H) :
    ReturnsInHanded {} Try.checked os 3 .any (Rows.wholeCountsSpec.pre6 enc Try.prog Try.f3 Rows.wholeCountsRow.domain false) (Rows.wholeCountsSpec.post enc Try.prog Try.f3 false true false false) := by
  refine returnsInHanded_of_change_sized (C := Try.checked) own started (by kernel_rfl) Try.func3
    (ChangeSpec.witness6 (enc := enc) (C := Try.checked) false ⟨#[], #[.agg #[.slice none 0 0, .slice none 0 0], .agg #[.int .i64 0, .int .i64 0], .slice none 0 0], []⟩ 8 (by kernel_rfl) (by kernel_rfl) (by kernel_rfl) (by kernel_rfl)) ?_
  intro W base args ds gs before hval hW _ hsz _
  exact contract H enc W base args ds gs before hval hW hsz

theorem over : Rows.wholeCountsRow.holds Try.pinned (OpenSpec.ofChange Rows.wholeCountsSpec) :=
  OpenClaim.holds_of_wide 3 Try.f3 rfl rfl rfl rfl rfl rfl rfl ⟨rfl, rfl, rfl, rfl, rfl⟩ rfl rfl rfl rfl rfl (by kernel_rfl) Try.func3 (by kernel_rfl)
    (of_decide_eq_true (by kernel_rfl)) (by unfold Func.isWrapper; first | (rw [if_pos (by decide +kernel)]; kernel_rfl) | (rw [if_neg (by decide +kernel)]; exact ⟨rfl, rfl⟩))
    (fun os started H enc _ => lifted os started H enc)

end Go.Proofs.Ytflgmodofemifaa.wholeCounts
namespace Go.Proofs.Ytflgmodofemifaa
theorem wholeCounts_proved : Rows.WholeCountsSaid := wholeCounts.over
#print axioms wholeCounts_proved
end Go.Proofs.Ytflgmodofemifaa
