/-
  alike: a tree and the reference's tree with the same nodes.
-/
import Derived.Test.YtjajlnhobchkgaaUTexts
import Derived.Test.YtjajlnhobchkgaaURefK
import Derived.Test.YtjajlnhobchkgaaUNo
import Derived.BigQuiet
namespace Go.Proofs.Ytjajlnhobchkgaa
open Go.RowKit
set_option linter.unusedVariables false
set_option linter.unusedSimpArgs false

set_option maxRecDepth 100000 in
set_option maxHeartbeats 8000000 in
theorem alike_any (S T : Nat → Prop) (bt : Nat) (l : List Nd) (now : Nat) (m : Value) (w : World) (ht : TI w S bt l now) (hr : RT w T m l now) (hw : WfT l) (hlen : l.length ≤ 1000) :
    Calls Try.prog 27 #[.pointer (some ⟨bt, 0, none⟩), m] w fun e w' => e = .returned (.bool true) ∧ Below w.heap.size w w' := by
  have hpos := hw.pos
  have hr0 := hr
  obtain ⟨ta, tc, pa, pc, fa, fc, rfl, h1, h2, h3⟩ := hr.ex
  obtain ⟨n, hn⟩ : ∃ n, n = l.length := ⟨_, rfl⟩
  obtain ⟨w1, hw1⟩ : ∃ w1, w1 = w.alloc (.cells #[.slice ta n tc, .slice pa n pc, .slice fa n fc, .int .i64 now] 36) := ⟨_, rfl⟩
  have HW1 := Lib.hid hw1
  have hb1 : Below w.heap.size w w1 := by rw [hw1]; exact below_alloc _ _
  have hct : CT w1 w.heap.size (.slice ta n tc) (.slice pa n pc) (.slice fa n fc) now := by rw [hw1]; exact ⟨by simp, by simp, by simp, by simp, fun j => by simp⟩
  have HCT := Lib.hid hct
  have HCC := Lib.hid (hct.below ((Below.refl _ w1).drew))
  have hbw : Below w.heap.size w w1.drew := hb1.drew
  obtain ⟨d0, d1, d2, d3, df⟩ := hct.below ((Below.refl _ w1).drew)
  have hwf : ∀ x ∈ l.map (·.text), (Lit.int .i64 x).wf = true := h1.rd.wf
  have HNOW := Lib.hid (fun (wx : World) (hb : Below w.heap.size w wx) => now_ti S bt l now wx (ht.below hb) hpos)
  have HLEN := Lib.hid (fun (wx : World) (hb : Below w.heap.size w wx) => len_ti S bt l now wx (ht.below hb) hpos)
  have HTX := Lib.hid (fun (wx : World) (hb : Below w.heap.size w wx) => texts_any S bt l now wx (ht.below hb) hpos hlen)
  have HMT := Lib.hid (fun (wx : World) (hb : Below w.heap.size w wx) => h1.rd.below hb)
  have HTI := Lib.hid (fun (wx : World) (hb : Below w.heap.size w wx) => ht.below hb)
  have HMP := Lib.hid (fun (wx : World) (hb : Below w.heap.size w wx) => h2.rd.below hb)
  have HWF := Lib.hid hwf
  have HW := Lib.hid hw
  have HL := Lib.hid (And.intro hlen hpos)
  rw [← hn] at HLEN HMT HMP
  have hn9 : (n : Int) ≤ 1000 := by omega
  have HN := Lib.hid hn
  rw [← hn]
  clear ht hr h1 h2 h3 hw1 hb1 hct df hwf hw hlen hpos hr0 hn
  go_enter Try.func27, Try.ntmps27
  go_upto_region 1 with fail
  rw [← HW1.out]
  go_region_held3 (fun w' => w'.cell? ⟨w.heap.size, 0, none⟩ = some (.slice ta n tc) ∧ w'.cell? ⟨w.heap.size, 1, none⟩ = some (.slice pa n pc) ∧ w'.cell? ⟨w.heap.size, 2, none⟩ = some (.slice fa n fc) ∧ w'.cell? ⟨w.heap.size, 3, none⟩ = some (.int .i64 now)) (go_keep) (first
    | (go_at_call 9; refine (HNOW.out _ hbw).mono ?_; rintro e w5 ⟨rfl, rfl⟩)
    | (go_at_call 21; refine (HLEN.out _ hbw).mono ?_; rintro e w5 ⟨rfl, rfl⟩)
    | (go_at_call 31; refine (HTX.out _ hbw).mono ?_; rintro e w5 ⟨xa, xc, rfl, ho5, hb5⟩; have HX := Lib.hid (Own.rd ho5 HWF.out); have HCC := Lib.hid (HCC.out.below hb5); obtain ⟨x0, x1, x2, x3, _⟩ := HCC.out; have hbw := hbw.trans (hb5.mono hbw.size); clear ho5 hb5)
    | (go_at_call 47; refine (ids_any xa ta _ _ xc tc _ _ _ HX.out (HMT.out _ hbw)).mono ?_; rintro e w6 ⟨rfl, hb6⟩; rw [decide_eq_true rfl]; have HCC := Lib.hid (HCC.out.below hb6); obtain ⟨x0, x1, x2, x3, _⟩ := HCC.out; have hbw := hbw.trans (hb6.mono hbw.size); clear hb6))
  obtain ⟨wA, hwA⟩ : ∃ wA : World, wA = w6 := ⟨_, rfl⟩
  subst hwA
  have HBA := Lib.hid hbw
  have HCA : Hid (CT wA w.heap.size (.slice ta n tc) (.slice pa n pc) (.slice fa n fc) now) := Lib.hid HCC.out
  clear d0 d1 d2 d3 x0 x1 x2 x3 hbw
  go_wp2
  go_loopw [5] (fun iv wr => ∃ j : Int, iv = .int .i64 j ∧ -1 ≤ j ∧ j ≤ (n : Int) + 1 ∧ Below wA.heap.size wA wr) (fun iv _ => ((n : Int) + 1 - intOf iv).toNat)
  case atStart => exact ⟨-1, rfl, by omega, by omega, Below.refl _ _⟩
  case round =>
    obtain ⟨j, rfl, hj0, hj1, hbr⟩ := hrel
    have HBR : Hid (Below w.heap.size w wr) := Lib.hid (HBA.out.trans (hbr.mono HBA.out.size))
    have HB6 := Lib.hid hbr
    have HCR := Lib.hid (HCA.out.below hbr)
    obtain ⟨x0, x1, x2, x3, -⟩ := HCR.out
    clear hbr
    by_cases hjn : j ≤ (n : Int)
    · have HJ := Lib.hid (And.intro hj0 (And.intro hj1 hjn))
      cases hm : hasN n j with
      | false =>
        have HM := Lib.hid hm
        have hout : j < 0 ∨ (0 ≤ j ∧ (l.length : Int) ≤ j) := by rw [← HN.out]; exact has_out hm
        have HT := Lib.hid (text_no S bt l now j wr (HTI.out wr HBR.out) HL.out.2 hout)
        have HP := Lib.hid (parent_no S bt l now j wr (HTI.out wr HBR.out) HL.out.2 hout)
        have HC := Lib.hid (children_no S bt l now j wr (HTI.out wr HBR.out) HL.out.2 hout)
        have HPA := Lib.hid (path_no S bt l now j wr (HTI.out wr HBR.out) HL.out.2 hout)
        clear hm hout hj0 hj1
        go_wp2_with fail
        refine HT.out.mono ?_
        rintro e w7 ⟨rfl, rfl⟩
        go_wp2_with fail
        refine HP.out.mono ?_
        rintro e w7 ⟨rfl, rfl⟩
        go_wp2_with fail
        refine HC.out.mono ?_
        rintro e w7 ⟨rfl, rfl⟩
        go_wp2_with fail
        refine HPA.out.mono ?_
        rintro e w7 ⟨rfl, rfl⟩
        go_wp2_with fail
        refine (rhas_any ta pa fa n tc n pc n fc now j wr).mono ?_
        rintro e w7 ⟨rfl, hb7⟩
        rw [HM.out]
        have HB7 := Lib.hid (HB6.out.trans (hb7.mono HB6.out.size))
        clear hb7 x0 x1 x2 x3
        go_wp2_with fail
        refine (is_errno 1 (by decide) w7).mono ?_
        rintro e w8 ⟨rfl, rfl⟩
        go_wp2_with fail
        refine (is_errno 1 (by decide) w7).mono ?_
        rintro e w8 ⟨rfl, rfl⟩
        go_wp2_with fail
        refine (is_errno 1 (by decide) w7).mono ?_
        rintro e w8 ⟨rfl, rfl⟩
        go_wp2_with fail
        refine (is_errno 1 (by decide) w7).mono ?_
        rintro e w8 ⟨rfl, rfl⟩
        have hjw : IntKind.i64.wrap (j + 1) = j + 1 := IntWalk.i64_in _ (by have := HJ.out; omega)
        go_wp2
        go_roundw
        case rel => exact ⟨j + 1, by go_num, by have := HJ.out; omega, by have := HJ.out; omega, HB7.out⟩
        case measure => have := HJ.out; simp [intOf]; omega
      | true =>
        have HM := Lib.hid hm
        obtain ⟨k, rfl, hk⟩ := has_in hm
        have hkl : k < l.length := by rw [← HN.out]; exact hk
        obtain ⟨x, hx⟩ : ∃ x, l[k]? = some x := ⟨_, List.getElem?_eq_getElem hkl⟩
        obtain ⟨us, hus⟩ := path_ex HW.out k hkl
        have HT := Lib.hid (text_ok S bt l now k wr (HTI.out wr HBR.out) x hx HL.out.1)
        have HP := Lib.hid (parent_ok S bt l now k wr (HTI.out wr HBR.out) x hx HL.out.1)
        have HC := Lib.hid (children_ok S bt l now k wr (HTI.out wr HBR.out) HW.out x hx HL.out.1)
        have HPA := Lib.hid (fun (wx : World) (hb : Below w.heap.size w wx) => path_ok S bt l now k wx (HTI.out wx hb) HW.out us hus hkl HL.out.1)
        have HRK := Lib.hid (fun (wx : World) (hb : Below w.heap.size w wx) => rchildren_any ta pa fa n tc pc n fc n now k (l.map (·.parent)) wx (HMP.out wx hb) (by have := HL.out.1; rw [← HN.out] at this; exact this))
        have HKA : Hid (kidsR (l.map (·.parent)) k n = x.kids) := Lib.hid (by rw [HN.out]; exact kids_are HW.out hx)
        have HRP := Lib.hid (fun (wx : World) (hb : Below w.heap.size w wx) => rpath_any ta pa fa n tc pc n fc now l k us wx hus HW.out hkl HL.out.1 (by have h := HMP.out wx hb; rw [HN.out] at h; exact h))
        rw [← HN.out] at HRP
        have HUW : Hid (∀ u ∈ us, u ≤ 1000) := Lib.hid (fun u hu => by have := hus.le u hu; have := HL.out.1; omega)
        have HKW : Hid (∀ y ∈ x.kids, (Lit.int .i64 y).wf = true) := Lib.hid (fun y hy => by
          obtain ⟨i, z, rfl, hz, _⟩ := ((HW.out.kids k x hx).2 y).1 hy
          have := WfT.lt hz
          have := HL.out.1
          exact WalkArith.wf_i64 (by omega))
        obtain ⟨b1, o1, hta, hc1⟩ := (HMT.out wr HBR.out).cell k hk
        obtain ⟨b2, o2, hpa, hc2⟩ := (HMP.out wr HBR.out).cell k hk
        rw [show (l.map (·.text)).getD k 0 = x.text by simp [List.getD, hx]] at hc1
        rw [show (l.map (·.parent)).getD k 0 = x.parent by simp [List.getD, hx]] at hc2
        subst hta
        subst hpa
        rw [HKA.out] at HRK
        have HC1 := Lib.hid hc1
        have HC2 := Lib.hid hc2
        have hkn : (k : Int) < (n : Int) := by omega
        have hk9 : (k : Int) ≤ 1000 := by omega
        clear hm hj0 hj1 hk hkl hx hus hc1 hc2 hjn
        generalize x.text = xt at *
        generalize x.parent = xp at *
        generalize x.kids = xk at *
        go_wp2_with fail
        refine HT.out.mono ?_
        rintro e w7 ⟨rfl, rfl⟩
        go_wp2_with fail
        refine HP.out.mono ?_
        rintro e w7 ⟨rfl, rfl⟩
        go_wp2_with fail
        refine HC.out.mono ?_
        rintro e w7 ⟨ka, kc, rfl, ho7, hb7⟩
        have HK7 := Lib.hid (Own.rd ho7 HKW.out)
        have HB7 := Lib.hid (HBR.out.trans (hb7.mono HBR.out.size))
        have HCR7 := Lib.hid (HCR.out.below hb7)
        have HD1 := Lib.hid (below_cell hb7 HC1.out)
        have HD2 := Lib.hid (below_cell hb7 HC2.out)
        have HE7 := Lib.hid (HB6.out.trans (hb7.mono HB6.out.size))
        clear ho7 hb7 x0 x1 x2 x3
        go_wp2_with fail
        refine (HPA.out w7 HB7.out).mono ?_
        rintro e w8 ⟨qa, qc, rfl, ho8, hb8⟩
        have HQ8 := Lib.hid (Own.rd ho8 (ints_wf (v := 1000) HUW.out (Nat.le_refl _)))
        have HB8 := Lib.hid (HB7.out.trans (hb8.mono HB7.out.size))
        have HCR8 := Lib.hid (HCR7.out.below hb8)
        have HF1 := Lib.hid (below_cell hb8 HD1.out)
        have HF2 := Lib.hid (below_cell hb8 HD2.out)
        have HE8 := Lib.hid (HE7.out.trans (hb8.mono HE7.out.size))
        have HK8 := Lib.hid (HK7.out.below hb8)
        clear ho8 hb8
        obtain ⟨x0, x1, x2, x3, -⟩ := HCR8.out
        go_wp2_with fail
        refine (rhas_any (some ⟨b1, o1, none⟩) (some ⟨b2, o2, none⟩) fa n tc n pc n fc now k w8).mono ?_
        rintro e w9 ⟨rfl, hb9⟩
        rw [HM.out]
        have HB9 := Lib.hid (HB8.out.trans (hb9.mono HB8.out.size))
        have HCR9 := Lib.hid (HCR8.out.below hb9)
        have g1 := below_cell hb9 HF1.out
        have g2 := below_cell hb9 HF2.out
        have HE9 := Lib.hid (HE8.out.trans (hb9.mono HE8.out.size))
        have HK9 := Lib.hid (HK8.out.below hb9)
        have HQ9 := Lib.hid (HQ8.out.below hb9)
        clear hb9 x0 x1 x2 x3
        obtain ⟨x0, x1, x2, x3, -⟩ := HCR9.out
        go_wp2_with fail
        refine (HRK.out w9 HB9.out).mono ?_
        rintro e w10 ⟨ra, rc, rfl, hr10, hb10⟩
        have HR10 := Lib.hid hr10
        have HK10 := Lib.hid (HK9.out.below hb10)
        have HQ10 := Lib.hid (HQ9.out.below hb10)
        have HB10 := Lib.hid (HB9.out.trans (hb10.mono HB9.out.size))
        have HE10 := Lib.hid (HE9.out.trans (hb10.mono HE9.out.size))
        have HCR10 := Lib.hid (HCR9.out.below hb10)
        clear hb10 hr10 x0 x1 x2 x3 g1 g2
        go_wp2_with fail
        refine (ints_any ka ra _ _ kc rc _ _ w10 HK10.out HR10.out).mono ?_
        rintro e w11 ⟨rfl, hb11⟩
        rw [decide_eq_true rfl]
        have HQ11 := Lib.hid (HQ10.out.below hb11)
        have HB11 := Lib.hid (HB10.out.trans (hb11.mono HB10.out.size))
        have HE11 := Lib.hid (HE10.out.trans (hb11.mono HE10.out.size))
        have HCR11 := Lib.hid (HCR10.out.below hb11)
        clear hb11
        obtain ⟨x0, x1, x2, x3, -⟩ := HCR11.out
        go_wp2_with fail
        refine (HRP.out w11 HB11.out).mono ?_
        rintro e w12 ⟨ya, yc, rfl, ho12, hb12⟩
        have HY12 := Lib.hid (Own.rd ho12 (ints_wf (v := 1000) HUW.out (Nat.le_refl _)))
        have HQ12 := Lib.hid (HQ11.out.below hb12)
        have HE12 := Lib.hid (HE11.out.trans (hb12.mono HE11.out.size))
        clear ho12 hb12 x0 x1 x2 x3
        go_wp2_with fail
        refine (ints_any qa ya _ _ qc yc _ _ w12 HQ12.out HY12.out).mono ?_
        rintro e w13 ⟨rfl, hb13⟩
        rw [decide_eq_true rfl]
        have HE13 := Lib.hid (HE12.out.trans (hb13.mono HE12.out.size))
        clear hb13
        go_wp2
        go_roundw
        case rel => exact ⟨(k : Int) + 1, by go_num, by omega, by have := HJ.out; omega, HE13.out⟩
        case measure => have := HJ.out; simp [intOf]; omega
    · have hgt : decide (j ≤ (n : Int)) = false := decide_eq_false hjn
      clear hjn hj0 hj1
      go_wp2
      go_ret
      exact ⟨rfl, HBR.out⟩

end Go.Proofs.Ytjajlnhobchkgaa
