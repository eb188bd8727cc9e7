/-
  minimize and Minimize: the walks.
-/
import Derived.Test.YtajajkganamfiaaMNumW
import Derived.Test.YtajajkganamfiaaMCheck
namespace Go.Proofs.Ytajajkganamfiaa
open Go.RowKit Go.Maps
set_option linter.unusedVariables false
set_option linter.unusedSimpArgs false

def MinPost (st : Nat) (cls : List Int) (next : List (List Int)) (acc : List Bool) (w : World) (e : Ending) (w' : World) : Prop :=
  ∃ (b first states : List Nat), RcI next st (dd (nats cls)) states states.length ∧ first ≠ [] ∧ Part (fun q => acc.getD q false) states (fun q => b.getD q 0) first ∧ Stable (nxN next) (dd (nats cls)) states (fun q => b.getD q 0) ∧ NumPost st cls next acc b first w e w'

theorem NumPost.value {st cls next acc b first w e w'} (h : NumPost st cls next acc b first w e w') : ∃ v1 v2 v3, e = .returned (.agg #[.int .i64 0, v1, v2, v3]) ∧ Below w.heap.size w w' := by
  obtain ⟨ac, cc, an, nn, cn, aa, ca, fs, clsv, cols, ord, W, R, accs, rfl, -, -, -, -, -, -, hb⟩ := h
  exact ⟨_, _, _, rfl, hb⟩

/-- the answer is written into a block that stood ahead of the call -/
theorem NumPost.stored {st cls next acc b first w w2 w3 w4 e} (h : NumPost st cls next acc b first w2 e w3) (hb : Below w.heap.size w w2) (hf : Fr (fun x => w.heap.size ≤ x ∧ x < w2.heap.size) w3 w4) : NumPost st cls next acc b first w e w4 := by
  obtain ⟨ac, cc, an, nn, cn, aa, ca, fs, clsv, cols, ord, W, R, accs, h1, h2, h3, h4, h5, h6, h7, h8⟩ := h
  have hs := hb.size
  have hs2 := h8.size
  refine ⟨ac, cc, an, nn, cn, aa, ca, fs, clsv, cols, ord, W, R, accs, h1, fun wg hg => h2 wg ((hf.mono (fun i hi => hi.2)).trans (hg.mono (fun i hi => by omega))), h3, h4, h5, h6, h7, (bthen hb h8).trans (hf.below (fun i hi => hi.1) (by omega))⟩

set_option maxRecDepth 100000 in
set_option maxHeartbeats 2000000 in
theorem minimize_any (st : Nat) (ac : Option Addr) (nc cc : Nat) (an : Option Addr) (nn cn : Nat) (aa : Option Addr) (na ca : Nat) (cls : List Int) (next : List (List Int)) (acc : List Bool) (w : World)
    (hm : RdM w ac nc an nn aa na cls next acc) (hv : Valid st cls next acc) :
    Calls Try.prog 33 #[.agg #[.int .i64 st, .slice ac nc cc, .slice an nn cn, .slice aa na ca]] w (MinPost st cls next acc w) := by
  obtain ⟨w1, hw1⟩ : ∃ w1, w1 = w.alloc (.cells #[.int .i64 st, .slice ac nc cc, .slice an nn cn, .slice aa na ca] 26) := ⟨_, rfl⟩
  obtain ⟨w2, hw2⟩ : ∃ w2, w2 = w1.alloc (.cells #[.int .i64 0, .slice none 0 0, .slice none 0 0, .slice none 0 0] 26) := ⟨_, rfl⟩
  have hb1 : Below w.heap.size w w1 := by rw [hw1]; exact below_alloc _ _
  have hs1 : w1.heap.size = w.heap.size + 1 := by rw [hw1]; simp
  have hb12 : Below w1.heap.size w1 w2 := by rw [hw2]; exact below_alloc _ _
  have hb2 : Below w.heap.size w w2 := bthen hb1 hb12
  have hct : CT w2 w.heap.size st (.slice ac nc cc) (.slice an nn cn) (.slice aa na ca) := (show CT w1 w.heap.size st (.slice ac nc cc) (.slice an nn cn) (.slice aa na ca) by rw [hw1]; exact alloc_ct _ _ _ _ _ _).below hb12
  have hres : CT w2 (w.heap.size + 1) 0 (.slice none 0 0) (.slice none 0 0) (.slice none 0 0) := by rw [← hs1, hw2]; exact alloc_ct _ _ _ _ _ _
  have HW2 : Hid (w2 = _) := Lib.hid (hw2.trans (by rw [hw1]))
  have hs2 : w2.heap.size = w.heap.size + 2 := by rw [hw2]; simp [hs1]
  have HS2 := Lib.hid hs2
  have HV := Lib.hid hv
  have HM := Lib.hid (fun (wx : World) (hb : Below w2.heap.size w2 wx) => (hm.below hb2).below hb)
  have HCT := Lib.hid hct
  have HRES := Lib.hid hres
  have HB2 := Lib.hid hb2
  have HNN := Lib.hid (show next.length = nn from hm.n.len)
  have HCL : Hid (∀ c ∈ dd (nats cls), c < ncls next) := Lib.hid (fun c hc => by
    rw [dd_mem] at hc
    obtain ⟨x, hx, rfl⟩ := List.mem_map.1 hc
    have := hv.let_ x hx
    omega)
  have HC9 : Hid ((dd (nats cls)).length ≤ 256) := Lib.hid (by
    have := dd_len (nats cls)
    have h : (nats cls).length = 256 := by simp [nats, hv.clsL]
    omega)
  clear hm hv hw1 hw2 hb1 hb12 hb2 hs1 hs2 hres
  obtain ⟨z0, z1, z2, z3, -⟩ := hct
  go_enter Try.func33, Try.ntmps33
  go_upto_region 1 with fail
  rw [← HW2.out]
  go_wp2_with fail
  refine (occ_any st ac nc cc an nn cn aa na ca cls next acc w2 (HM.out w2 (Below.refl _ _)) HV.out).mono ?_
  rintro e w3 ⟨oa, oc, rfl, hro, hb3⟩
  have HRO := Lib.hid hro
  have HB3 := Lib.hid hb3
  obtain ⟨z0, z1, z2, z3, -⟩ := HCT.out.below hb3
  obtain ⟨K, hK⟩ : ∃ K, K = dd (nats cls) := ⟨_, rfl⟩
  have HK := Lib.hid hK
  rw [← hK] at HRO HCL HC9 ⊢
  clear hro hb3 hK
  go_wp2_with fail
  refine (reach_any st ac nc cc an nn cn aa na ca cls next acc oa oc K w3 (HM.out w3 HB3.out) HV.out HRO.out.rdG HCL.out HC9.out).mono ?_
  rintro e w4 ⟨us, ra, rc, rfl, hrr, hrc, hb4⟩
  have HRR := Lib.hid hrr
  have HRC := Lib.hid hrc
  have HB4 := Lib.hid (HB3.out.trans (hb4.mono HB3.out.size))
  have HRO4 := Lib.hid (HRO.out.below hb4)
  obtain ⟨z0, z1, z2, z3, -⟩ := HCT.out.below HB4.out
  clear hrr hrc hb4
  go_wp2_with fail
  refine (refine_any st ac nc cc an nn cn aa na ca cls next acc oa oc K ra rc us w4 (HM.out w4 HB4.out) HV.out HRO4.out.rdG HCL.out HC9.out HRR.out.rdG HRC.out).mono ?_
  rintro e w5 ⟨b, first, ga, gc, fa, fc, rfl, hbl, hne, hpart, hstab, hrg, hrf, hb5⟩
  have HP := Lib.hid (And.intro hbl (And.intro hne (And.intro hpart hstab)))
  have HRG := Lib.hid hrg
  have HRF := Lib.hid hrf
  have HB5 := Lib.hid (HB4.out.trans (hb5.mono HB4.out.size))
  obtain ⟨z0, z1, z2, z3, -⟩ := HCT.out.below HB5.out
  clear hbl hne hpart hstab hrg hrf hb5
  go_wp2_with fail
  refine (number_any st ac nc cc an nn cn aa na ca cls next acc ga gc b fa fc first w5 (HM.out w5 HB5.out) HV.out HRG.out.rdG HP.out.1 HRF.out.rdG ?_ ?_ ?_ ?_ ?_).mono ?_
  · intro q hq
    obtain ⟨i, hi, e⟩ := List.getElem_of_mem hq
    have := HRC.out.lt _ (HP.out.2.2.1.rep i hi).1
    rw [e, HNN.out] at this
    exact this
  · exact List.length_pos_iff.2 HP.out.2.1
  · have h1 := HP.out.2.2.1.len
    have h2 := nodup_lt (n := nn) HRC.out.nd (fun q hq => by rw [← HNN.out]; exact HRC.out.lt q hq)
    have h3 := HV.out.n1
    have h4 := HNN.out
    omega
  · intro q hq c hc
    obtain ⟨i, hi, e⟩ := List.getElem_of_mem hq
    have hqs := (HP.out.2.2.1.rep i hi).1
    rw [e] at hqs
    obtain ⟨j, hj, ej⟩ := List.getElem_of_mem hqs
    have hns := HRC.out.cl j q hj (by rw [List.getElem?_eq_getElem hj, ej]) c (by rw [HK.out, dd_mem]; exact hc)
    rcases HP.out.2.2.1.bd with ⟨h, _⟩ | h
    · exact absurd h HP.out.2.1
    · exact h _ hns
  · rcases HP.out.2.2.1.bd with ⟨h, _⟩ | h
    · exact absurd h HP.out.2.1
    · exact h _ HRC.out.st
  intro e w6 hnp
  obtain ⟨v1, v2, v3, rfl, hb6⟩ := hnp.value
  have HNP := Lib.hid hnp
  have HB6 := Lib.hid (HB5.out.trans (hb6.mono HB5.out.size))
  obtain ⟨r0, r1, r2, r3, rf⟩ := HRES.out.below HB6.out
  have rf0 := rf 0
  have rf1 := rf 1
  have rf2 := rf 2
  have rf3 := rf 3
  have HFIN : Hid (∀ wf, Fr (fun x => x = w.heap.size + 1) w6 wf → MinPost st cls next acc w (.returned (.agg #[.int .i64 0, v1, v2, v3])) wf) := Lib.hid (fun wf hf =>
    ⟨b, first, us, by rw [← HK.out]; exact HRC.out, HP.out.2.1, HP.out.2.2.1, by rw [← HK.out]; exact HP.out.2.2.2, HNP.out.stored (HB2.out.trans (HB5.out.mono HB2.out.size)) (hf.mono (fun x e => by have h1 := HS2.out; have h2 := HB5.out.size; omega))⟩)
  clear rf hnp hb6 z0 z1 z2 z3
  obtain ⟨ac6, cc6, an6, nn6, cn6, aa6, ca6, -, -, -, -, -, -, -, hve, -⟩ := HNP.out
  simp only [Ending.returned.injEq, Value.agg.injEq, Array.mk.injEq, List.cons.injEq, and_true, true_and] at hve
  obtain ⟨rfl, rfl, rfl⟩ := hve
  go_wp2
  exact bodyPost_ret (v := .agg #[.int .i64 0, .slice ac6 256 cc6, .slice an6 nn6 cn6, .slice aa6 nn6 ca6]) (by simp [results, Try.results33, go_sem, r0, r1, r2, r3]) rfl (HFIN.out _ (fr4 w6 (w.heap.size + 1) (.int .i64 0) (.slice ac6 256 cc6) (.slice an6 nn6 cn6) (.slice aa6 nn6 ca6)))

set_option maxRecDepth 100000 in
set_option maxHeartbeats 2000000 in
/-- Minimize: the error of Check, or the canonical machine -/
theorem minimizeE_any (s : Int) (ac : Option Addr) (nc cc : Nat) (an : Option Addr) (nn cn : Nat) (aa : Option Addr) (na ca : Nat) (cls : List Int) (next : List (List Int)) (acc : List Bool) (w : World)
    (hm : RdM w ac nc an nn aa na cls next acc) :
    Calls Try.prog 19 #[.agg #[.int .i64 s, .slice ac nc cc, .slice an nn cn, .slice aa na ca]] w fun e w' => ∃ v, e = .returned (.tuple #[v, errV (mcode s cls next acc)]) ∧ Below w.heap.size w w' := by
  obtain ⟨w1, hw1⟩ : ∃ w1, w1 = w.alloc (.cells #[.int .i64 s, .slice ac nc cc, .slice an nn cn, .slice aa na ca] 26) := ⟨_, rfl⟩
  obtain ⟨w2, hw2⟩ : ∃ w2, w2 = w1.alloc (.cells #[.int .i64 0, .slice none 0 0, .slice none 0 0, .slice none 0 0] 26) := ⟨_, rfl⟩
  have hb1 : Below w.heap.size w w1 := by rw [hw1]; exact below_alloc _ _
  have hs1 : w1.heap.size = w.heap.size + 1 := by rw [hw1]; simp
  have hb12 : Below w1.heap.size w1 w2 := by rw [hw2]; exact below_alloc _ _
  have hb2 : Below w.heap.size w w2 := bthen hb1 hb12
  have hct : CT w2 w.heap.size s (.slice ac nc cc) (.slice an nn cn) (.slice aa na ca) := (show CT w1 w.heap.size s (.slice ac nc cc) (.slice an nn cn) (.slice aa na ca) by rw [hw1]; exact alloc_ct _ _ _ _ _ _).below hb12
  have hres : CT w2 (w.heap.size + 1) 0 (.slice none 0 0) (.slice none 0 0) (.slice none 0 0) := by rw [← hs1, hw2]; exact alloc_ct _ _ _ _ _ _
  have HW2 : Hid (w2 = _) := Lib.hid (hw2.trans (by rw [hw1]))
  have hs2 : w2.heap.size = w.heap.size + 2 := by rw [hw2]; simp [hs1]
  have HS2 := Lib.hid hs2
  have HM := Lib.hid (fun (wx : World) (hb : Below w2.heap.size w2 wx) => (hm.below hb2).below hb)
  have HCT := Lib.hid hct
  have HRES := Lib.hid hres
  have HB2 := Lib.hid hb2
  obtain ⟨k, hk⟩ : ∃ k, k = mcode s cls next acc := ⟨_, rfl⟩
  have HK := Lib.hid hk
  clear hm hw1 hw2 hb1 hb12 hb2 hs1 hs2 hres hk
  obtain ⟨z0, z1, z2, z3, -⟩ := hct
  have hnn : ∀ w, (binOp .neq 30 .nilIface .nilIface).run Try.prog w = .ok (.bool false) w := fun w => by kernel_rfl
  have hne : ∀ w, (binOp .neq 30 (.iface 43 (.int .i64 k)) .nilIface).run Try.prog w = .ok (.bool true) w := fun w => by kernel_rfl
  go_enter Try.func19, Try.ntmps19
  go_upto_region 1 with fail
  rw [← HW2.out]
  go_wp2_with fail
  refine (check_any s ac nc cc an nn cn aa na ca cls next acc w2 (HM.out w2 (Below.refl _ _))).mono ?_
  rintro e w3 ⟨rfl, hb3⟩
  have HB3 := Lib.hid hb3
  obtain ⟨z0, z1, z2, z3, -⟩ := HCT.out.below hb3
  obtain ⟨r0, r1, r2, r3, rf⟩ := HRES.out.below hb3
  have rf0 := rf 0
  have rf1 := rf 1
  have rf2 := rf 2
  have rf3 := rf 3
  rw [← HK.out]
  have hfr : ∀ (wx wf : World), Below w2.heap.size w2 wx → Fr (fun x => x = w.heap.size + 1) wx wf → Below w.heap.size w wf := fun wx wf hx hf => (HB2.out.trans (hx.mono HB2.out.size)).trans (hf.below (fun x e => by omega) (by have h1 := HB2.out.size; have h2 := hx.size; omega))
  have HFR := Lib.hid hfr
  clear rf hb3 hfr
  by_cases hk0 : k = 0
  · have HK0 := Lib.hid hk0
    subst hk0
    clear hne
    obtain ⟨st, hst⟩ : ∃ st : Nat, s = (st : Int) := Int.eq_ofNat_of_zero_le (valid_of_code HK.out.symm).s0
    subst hst
    have HV := Lib.hid (valid_of_code HK.out.symm)
    rw [show errV 0 = Value.nilIface from rfl]
    clear r0 r1 r2 r3 rf0 rf1 rf2 rf3
    go_wp2_with fail
    refine (minimize_any st ac nc cc an nn cn aa na ca cls next acc w3 (HM.out w3 HB3.out) HV.out).mono ?_
    rintro e w4 ⟨b, first, states, -, -, -, -, hnp⟩
    obtain ⟨v1, v2, v3, hve, hb4⟩ := hnp.value
    have HB4 := Lib.hid (HB3.out.trans (hb4.mono HB3.out.size))
    obtain ⟨ac6, cc6, an6, nn6, cn6, aa6, ca6, -, -, -, -, -, -, -, rfl, -⟩ := hnp
    obtain ⟨r0, r1, r2, r3, rf⟩ := HRES.out.below HB4.out
    have rf0 := rf 0
    have rf1 := rf 1
    have rf2 := rf 2
    have rf3 := rf 3
    clear rf hve hb4 z0 z1 z2 z3
    go_wp2
    exact bodyPost_ret (v := .tuple #[.agg #[.int .i64 0, .slice ac6 256 cc6, .slice an6 nn6 cn6, .slice aa6 nn6 ca6], .nilIface]) (by simp [results, Try.results19, go_sem, r0, r1, r2, r3]) rfl ⟨_, by rw [← HK.out]; rfl, HFR.out _ _ HB4.out (fr4 w4 (w.heap.size + 1) (.int .i64 0) (.slice ac6 256 cc6) (.slice an6 nn6 cn6) (.slice aa6 nn6 ca6))⟩
  · have he : errV k = .iface 43 (.int .i64 k) := by unfold errV; rw [if_neg hk0]
    rw [he]
    clear hk0
    go_wp2
    exact bodyPost_ret (v := .tuple #[.agg #[.int .i64 0, .slice none 0 0, .slice none 0 0, .slice none 0 0], .iface 43 (.int .i64 k)]) (by simp [results, Try.results19, go_sem, r0, r1, r2, r3]) rfl ⟨_, by rw [← HK.out, he], HFR.out _ _ HB3.out (fr4 w3 (w.heap.size + 1) (.int .i64 0) (.slice none 0 0) (.slice none 0 0) (.slice none 0 0))⟩

end Go.Proofs.Ytajajkganamfiaa
