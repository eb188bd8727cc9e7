/-
  Minimize, with all that is known of its answer.
-/
import Derived.Test.YtajajkganamfiaaMMinH
namespace Go.Proofs.Ytajajkganamfiaa
open Go.RowKit Go.Maps
set_option linter.unusedVariables false
set_option linter.unusedSimpArgs false

def MinEPost (s : Int) (cls : List Int) (next : List (List Int)) (acc : List Bool) (w : World) (e : Ending) (w' : World) : Prop :=
  ∃ a1 n1 c1 a2 n2 c2 a3 n3 c3, e = .returned (.tuple #[.agg #[.int .i64 0, .slice a1 n1 c1, .slice a2 n2 c2, .slice a3 n3 c3], errV (mcode s cls next acc)]) ∧ Below w.heap.size w w' ∧
    ∀ st : Nat, s = st → mcode s cls next acc = 0 → MinPost st cls next acc w (.returned (.agg #[.int .i64 0, .slice a1 n1 c1, .slice a2 n2 c2, .slice a3 n3 c3])) w'

set_option maxRecDepth 100000 in
set_option maxHeartbeats 2000000 in
/-- Minimize: the error of Check, or the canonical machine -/
theorem minimizeF_any (s : Int) (ac : Option Addr) (nc cc : Nat) (an : Option Addr) (nn cn : Nat) (aa : Option Addr) (na ca : Nat) (cls : List Int) (next : List (List Int)) (acc : List Bool) (w : World)
    (hm : RdM w ac nc an nn aa na cls next acc) :
    Calls Try.prog 19 #[.agg #[.int .i64 s, .slice ac nc cc, .slice an nn cn, .slice aa na ca]] w (MinEPost s cls next acc w) := by
  obtain ⟨w1, hw1⟩ : ∃ w1, w1 = w.alloc (.cells #[.int .i64 s, .slice ac nc cc, .slice an nn cn, .slice aa na ca] 26) := ⟨_, rfl⟩
  obtain ⟨w2, hw2⟩ : ∃ w2, w2 = w1.alloc (.cells #[.int .i64 0, .slice none 0 0, .slice none 0 0, .slice none 0 0] 26) := ⟨_, rfl⟩
  have hb1 : Below w.heap.size w w1 := by rw [hw1]; exact below_alloc _ _
  have hs1 : w1.heap.size = w.heap.size + 1 := by rw [hw1]; simp
  have hb12 : Below w1.heap.size w1 w2 := by rw [hw2]; exact below_alloc _ _
  have hb2 : Below w.heap.size w w2 := bthen hb1 hb12
  have hct : CT w2 w.heap.size s (.slice ac nc cc) (.slice an nn cn) (.slice aa na ca) := (show CT w1 w.heap.size s (.slice ac nc cc) (.slice an nn cn) (.slice aa na ca) by rw [hw1]; exact alloc_ct _ _ _ _ _ _).below hb12
  have hres : CT w2 (w.heap.size + 1) 0 (.slice none 0 0) (.slice none 0 0) (.slice none 0 0) := by rw [← hs1, hw2]; exact alloc_ct _ _ _ _ _ _
  have HW2 : Hid (w2 = _) := Lib.hid (hw2.trans (by rw [hw1]))
  have hs2 : w2.heap.size = w.heap.size + 2 := by rw [hw2]; simp [hs1]
  have HS2 := Lib.hid hs2
  have HM := Lib.hid (fun (wx : World) (hb : Below w2.heap.size w2 wx) => (hm.below hb2).below hb)
  have HCT := Lib.hid hct
  have HRES := Lib.hid hres
  have HB2 := Lib.hid hb2
  obtain ⟨k, hk⟩ : ∃ k, k = mcode s cls next acc := ⟨_, rfl⟩
  have HK := Lib.hid hk
  clear hm hw1 hw2 hb1 hb12 hb2 hs1 hs2 hres hk
  obtain ⟨z0, z1, z2, z3, -⟩ := hct
  have hnn : ∀ w, (binOp .neq 30 .nilIface .nilIface).run Try.prog w = .ok (.bool false) w := fun w => by kernel_rfl
  have hne : ∀ w, (binOp .neq 30 (.iface 43 (.int .i64 k)) .nilIface).run Try.prog w = .ok (.bool true) w := fun w => by kernel_rfl
  go_enter Try.func19, Try.ntmps19
  go_upto_region 1 with fail
  rw [← HW2.out]
  go_wp2_with fail
  refine (check_any s ac nc cc an nn cn aa na ca cls next acc w2 (HM.out w2 (Below.refl _ _))).mono ?_
  rintro e w3 ⟨rfl, hb3⟩
  have HB3 := Lib.hid hb3
  obtain ⟨z0, z1, z2, z3, -⟩ := HCT.out.below hb3
  obtain ⟨r0, r1, r2, r3, rf⟩ := HRES.out.below hb3
  have rf0 := rf 0
  have rf1 := rf 1
  have rf2 := rf 2
  have rf3 := rf 3
  rw [← HK.out]
  have hfr : ∀ (wx wf : World), Below w2.heap.size w2 wx → Fr (fun x => x = w.heap.size + 1) wx wf → Below w.heap.size w wf := fun wx wf hx hf => (HB2.out.trans (hx.mono HB2.out.size)).trans (hf.below (fun x e => by omega) (by have h1 := HB2.out.size; have h2 := hx.size; omega))
  have HFR := Lib.hid hfr
  clear rf hb3 hfr
  by_cases hk0 : k = 0
  · have HK0 := Lib.hid hk0
    subst hk0
    clear hne
    obtain ⟨st, hst⟩ : ∃ st : Nat, s = (st : Int) := Int.eq_ofNat_of_zero_le (valid_of_code HK.out.symm).s0
    subst hst
    have HV := Lib.hid (valid_of_code HK.out.symm)
    rw [show errV 0 = Value.nilIface from rfl]
    clear r0 r1 r2 r3 rf0 rf1 rf2 rf3
    go_wp2_with fail
    refine (minimize_any st ac nc cc an nn cn aa na ca cls next acc w3 (HM.out w3 HB3.out) HV.out).mono ?_
    rintro e w4 ⟨b, first, states, h1, h2, h3, h4, hnp⟩
    obtain ⟨v1, v2, v3, hve, hb4⟩ := hnp.value
    have HNP := Lib.hid (And.intro h1 (And.intro h2 (And.intro h3 (And.intro h4 hnp))))
    have HB4 := Lib.hid (HB3.out.trans (hb4.mono HB3.out.size))
    obtain ⟨ac6, cc6, an6, nn6, cn6, aa6, ca6, -, -, -, -, -, -, -, rfl, -⟩ := hnp
    obtain ⟨r0, r1, r2, r3, rf⟩ := HRES.out.below HB4.out
    have rf0 := rf 0
    have rf1 := rf 1
    have rf2 := rf 2
    have rf3 := rf 3
    clear rf hve hb4 z0 z1 z2 z3 h1 h2 h3 h4
    go_wp2
    exact bodyPost_ret (v := .tuple #[.agg #[.int .i64 0, .slice ac6 256 cc6, .slice an6 nn6 cn6, .slice aa6 nn6 ca6], .nilIface]) (by simp [results, Try.results19, go_sem, r0, r1, r2, r3]) rfl ⟨ac6, 256, cc6, an6, nn6, cn6, aa6, nn6, ca6, by rw [← HK.out]; rfl, HFR.out _ _ HB4.out (fr4 w4 (w.heap.size + 1) (.int .i64 0) (.slice ac6 256 cc6) (.slice an6 nn6 cn6) (.slice aa6 nn6 ca6)), fun st' hst' _ => by
      obtain rfl : st = st' := by omega
      exact ⟨b, first, states, HNP.out.1, HNP.out.2.1, HNP.out.2.2.1, HNP.out.2.2.2.1, HNP.out.2.2.2.2.stored (bthen HB2.out HB3.out) ((fr4 w4 (w.heap.size + 1) (.int .i64 0) (.slice ac6 256 cc6) (.slice an6 nn6 cn6) (.slice aa6 nn6 ca6)).mono (fun x e => by have h1 := HS2.out; have h2 := HB3.out.size; omega))⟩⟩
  · have he : errV k = .iface 43 (.int .i64 k) := by unfold errV; rw [if_neg hk0]
    rw [he]
    have HKN := Lib.hid hk0
    clear hk0
    go_wp2
    exact bodyPost_ret (v := .tuple #[.agg #[.int .i64 0, .slice none 0 0, .slice none 0 0, .slice none 0 0], .iface 43 (.int .i64 k)]) (by simp [results, Try.results19, go_sem, r0, r1, r2, r3]) rfl ⟨none, 0, 0, none, 0, 0, none, 0, 0, by rw [← HK.out, he], HFR.out _ _ HB3.out (fr4 w3 (w.heap.size + 1) (.int .i64 0) (.slice none 0 0) (.slice none 0 0) (.slice none 0 0)), fun st' _ h0 => absurd (HK.out.trans h0) HKN.out⟩

end Go.Proofs.Ytajajkganamfiaa
