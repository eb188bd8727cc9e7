/-
  Not: the canonical machine of all other texts.
-/
import Derived.Test.YtajajkganamfiaaMMinH
namespace Go.Proofs.Ytajajkganamfiaa
open Go.RowKit
set_option linter.unusedVariables false
set_option linter.unusedSimpArgs false

theorem Valid.not {s cls next acc} (h : Valid s cls next acc) : Valid s cls next (acc.map not) := ⟨h.clsL, by rw [List.length_map]; exact h.accL, h.s0, h.s1, h.c0, h.c1, h.n1, h.row, h.let_⟩

theorem fillN {L : List Bool} {i : Nat} {x : Bool} (hx : L[i]? = some x) : ((L.take i).map not ++ List.replicate (L.length - i) false).set i (!x) = (L.take (i + 1)).map not ++ List.replicate (L.length - (i + 1)) false := by
  have hi : i < L.length := (List.getElem?_eq_some_iff.1 hx).1
  rw [take_snoc hx, List.set_append_right _ _ (by simp; omega)]
  rw [List.length_map, List.length_take, Nat.min_eq_left (Nat.le_of_lt hi), Nat.sub_self, show L.length - i = (L.length - (i + 1)) + 1 by omega, List.replicate_succ, List.set_cons_zero, List.map_append, List.append_assoc]
  rfl

def NotPost (st : Nat) (cls : List Int) (next : List (List Int)) (acc : List Bool) (w : World) (e : Ending) (w' : World) : Prop :=
  ∃ v, e = .returned (.tuple #[v, .nilIface]) ∧ MinPost st cls next (acc.map not) w (.returned v) w'

set_option maxRecDepth 100000 in
set_option maxHeartbeats 2000000 in
theorem not_any (st : Nat) (ac : Option Addr) (nc cc : Nat) (an : Option Addr) (nn cn : Nat) (aa : Option Addr) (na ca : Nat) (cls : List Int) (next : List (List Int)) (acc : List Bool) (w : World)
    (hm : RdM w ac nc an nn aa na cls next acc) (hv : Valid st cls next acc) :
    Calls Try.prog 29 #[.agg #[.int .i64 st, .slice ac nc cc, .slice an nn cn, .slice aa na ca]] w (NotPost st cls next acc w) := by
  obtain ⟨w1, hw1⟩ : ∃ w1, w1 = w.alloc (.cells #[.int .i64 st, .slice ac nc cc, .slice an nn cn, .slice aa na ca] 26) := ⟨_, rfl⟩
  obtain ⟨w2, hw2⟩ : ∃ w2, w2 = w1.alloc (.cells #[.int .i64 0, .slice none 0 0, .slice none 0 0, .slice none 0 0] 26) := ⟨_, rfl⟩
  have hb1 : Below w.heap.size w w1 := by rw [hw1]; exact below_alloc _ _
  have hs1 : w1.heap.size = w.heap.size + 1 := by rw [hw1]; simp
  have hb12 : Below w1.heap.size w1 w2 := by rw [hw2]; exact below_alloc _ _
  have hb2 : Below w.heap.size w w2 := bthen hb1 hb12
  have hct : CT w2 w.heap.size st (.slice ac nc cc) (.slice an nn cn) (.slice aa na ca) := (show CT w1 w.heap.size st (.slice ac nc cc) (.slice an nn cn) (.slice aa na ca) by rw [hw1]; exact alloc_ct _ _ _ _ _ _).below hb12
  have hres : CT w2 (w.heap.size + 1) 0 (.slice none 0 0) (.slice none 0 0) (.slice none 0 0) := by rw [← hs1, hw2]; exact alloc_ct _ _ _ _ _ _
  have HW2 : Hid (w2 = _) := Lib.hid (hw2.trans (by rw [hw1]))
  have hs2 : w2.heap.size = w.heap.size + 2 := by rw [hw2]; simp [hs1]
  have HS2 := Lib.hid hs2
  have HV := Lib.hid hv
  have HM := Lib.hid (fun (wx : World) (hb : Below w.heap.size w wx) => hm.below hb)
  have HCT := Lib.hid hct
  have HRES := Lib.hid hres
  have HB2 := Lib.hid hb2
  have hna : na = acc.length := hm.a.len.symm
  have hna9 : na ≤ 256 := by rw [hna, hv.accL]; exact hv.n1
  have hnai : (na : Int) ≤ 256 := by omega
  have HNA := Lib.hid (And.intro hna hna9)
  have hnn : ∀ w, (binOp .neq 30 .nilIface .nilIface).run Try.prog w = .ok (.bool false) w := fun w => by kernel_rfl
  clear hm hv hw1 hw2 hb1 hb12 hb2 hs1 hs2 hres hna hna9
  obtain ⟨z0, z1, z2, z3, -⟩ := hct
  go_enter Try.func29, Try.ntmps29
  go_upto_region 1 with fail
  rw [← HW2.out]
  go_wp2_with fail
  refine (check_any st ac nc cc an nn cn aa na ca cls next acc w2 (HM.out w2 HB2.out)).mono ?_
  rintro e w3 ⟨rfl, hb3⟩
  have HB3 := Lib.hid hb3
  rw [show errV (mcode st cls next acc) = Value.nilIface by rw [code_of_valid HV.out]; rfl]
  obtain ⟨z0, z1, z2, z3, -⟩ := HCT.out.below hb3
  have HRF3 : Hid (RF w3.heap.size (fun _ => False) w3 [some (3, .slice none 0 0, [])]) := Lib.hid (RF.one (Own.nil w3 w3.heap.size 3 .i64) (fun g hg => by cases hg) (fun b hb => hb.elim) (Nat.le_refl _))
  clear hb3
  go_wp2_with (at_make; refine RF.make HRF3.out EBG rfl rfl _ _ rfl _ _ _ _ na rfl rfl rfl rfl (by have := HNA.out.2; omega) (by have := HNA.out.2; omega) ?_; intro w4 hrf4 hb4 hsz4; have z3 := below_cell hb4 z3; have HRF4 := Lib.hid hrf4; have HB4 := Lib.hid hb4; clear hrf4 hb4 hsz4)
  obtain ⟨g, hg⟩ : ∃ g, g = w3.heap.size := ⟨_, rfl⟩
  have HG := Lib.hid hg
  rw [← hg] at HRF4 ⊢
  clear hg z0 z1 z2
  go_loopw [21] (fun jv wr => ∃ i : Nat, jv = .int .i64 i ∧ i ≤ na ∧ RF g (fun _ => False) wr [some (3, .slice none 0 0, []), some (4, .slice (some ⟨g, 0, none⟩) na na, ((acc.take i).map not ++ List.replicate (acc.length - i) false).map Value.bool)] ∧ Below w3.heap.size w3 wr) (fun jv _ => na - (intOf jv).toNat)
  case atStart => exact ⟨0, rfl, by omega, by
    have h := HRF4.out
    rw [show (((acc.take 0).map not ++ List.replicate (acc.length - 0) false).map Value.bool) = List.replicate na (Value.bool false) by simp [HNA.out.1]]
    exact h, HB4.out⟩
  case round =>
    obtain ⟨i, rfl, hi, hrf, hb⟩ := hrel
    have HRF := Lib.hid hrf
    have HB := Lib.hid hb
    by_cases hlt : i < na
    · obtain ⟨x, hx⟩ : ∃ x, acc[i]? = some x := ⟨_, List.getElem?_eq_getElem (by rw [← HNA.out.1]; exact hlt)⟩
      obtain ⟨b, off, rfl, hc⟩ := ((HM.out wr (HB2.out.trans ((HB3.out.trans (hb.mono HB3.out.size)).mono HB2.out.size))).a).cell i hlt
      rw [show acc.getD i false = x by simp [List.getD, hx]] at hc
      have HX := Lib.hid hx
      have HLT := Lib.hid hlt
      have hii : (i : Int) < (na : Int) := by omega
      have hi9 : (i : Int) ≤ 256 := by omega
      clear hx hlt hrf hb hi
      go_wp2_with (refine guard_op (.store 4 (.tmp 30) (.tmp 29)) rfl ?_; refine RF.store HRF.out (i := 1) rfl rfl 4 (.tmp 30) (.tmp 29) rfl i rfl (.bool (!x)) rfl rfl rfl (by kernel_rfl) (by have := HNA.out.1; have := HLT.out; simp; omega) ?_; intro w9 hrf9 hg9 hbl9 hfr9; have HRF9 := Lib.hid hrf9; have HB9 := Lib.hid (HB.out.trans (hbl9.mono (Nat.le_of_eq HG.out.symm))); clear hrf9 hg9 hbl9 hfr9)
      go_roundw
      case rel => exact ⟨i + 1, by go_num, HLT.out, by
        have h := HRF9.out
        rw [← fillN HX.out, List.map_set]
        exact h, HB9.out⟩
      case measure => have := HLT.out; simp [intOf]; omega
    · obtain rfl : i = na := by omega
      have hfull : (acc.take i).map not ++ List.replicate (acc.length - i) false = acc.map not := by
        rw [HNA.out.1, List.take_length, Nat.sub_self]; simp
      rw [hfull] at hrf
      have HRFE := Lib.hid hrf
      obtain ⟨z0, z1, z2, z3, zf⟩ := (HCT.out.below HB3.out).below hb
      have zf3 := zf 3
      clear hrf hb hlt hi zf hfull z0 z1 z2 z3
      obtain ⟨z0, z1, z2, z3, -⟩ := (HCT.out.below HB3.out).below HB.out
      go_wp2_with fail
      have hbr : Below w.heap.size w wr := HB2.out.trans ((HB3.out.trans (HB.out.mono HB3.out.size)).mono HB2.out.size)
      have hgt : w.heap.size + 1 < g := by have h1 := HS2.out; have h2 := HB3.out.size; have h3 := HG.out; omega
      have H6 : Fr (fun x => x = w.heap.size) wr (wr.setCell ⟨w.heap.size, 3, none⟩ (.slice (some ⟨g, 0, none⟩) i i)) := (Fr.refl (fun x => x = w.heap.size) wr).setCell (p := ⟨w.heap.size, 3, none⟩) rfl _
      obtain ⟨w6, hw6⟩ : ∃ w6, w6 = wr.setCell ⟨w.heap.size, 3, none⟩ (.slice (some ⟨g, 0, none⟩) i i) := ⟨_, rfl⟩
      rw [← hw6] at H6 ⊢
      have hb6 : Below w.heap.size w w6 := hbr.trans (H6.below (fun x e => by omega) hbr.size)
      have hrf6 := HRFE.out.fr H6 (fun j e v xs g' hj hg' hx => by have := (HRFE.out.lt hj hg').2; omega)
      have hres6 : CT w6 (w.heap.size + 1) 0 (.slice none 0 0) (.slice none 0 0) (.slice none 0 0) := by
        obtain ⟨q0, q1, q2, q3, qf⟩ := (HRES.out.below HB3.out).below HB.out
        have hlt : w.heap.size + 1 < wr.heap.size := by have h1 := HS2.out; have h2 := HB3.out.size; have h3 := HB.out.size; omega
        exact ⟨H6.cell q0 (by simp), H6.cell q1 (by simp), H6.cell q2 (by simp), H6.cell q3 (by simp), fun j => (H6.frozen (by exact hlt) (by simp)).trans (qf j)⟩
      have HB6 := Lib.hid hb6
      have HRES6 := Lib.hid hres6
      have hm6 : RdM w6 ac nc an nn (some ⟨g, 0, none⟩) i cls next (acc.map not) := ⟨(HM.out w6 hb6).c, (HM.out w6 hb6).n, hrf6.rdB (i := 1) rfl (by have := HNA.out.2; omega)⟩
      clear hbr H6 hb6 hrf6 hres6 z0 z1 z2 z3
      refine (minimize_any st ac nc cc an nn cn (some ⟨g, 0, none⟩) i i cls next (acc.map not) w6 hm6 HV.out.not).mono ?_
      rintro e w7 ⟨b, first, states, h1, h2, h3, h4, hnp⟩
      obtain ⟨v1, v2, v3, rfl, hb7⟩ := hnp.value
      have hs6 : w.heap.size + 2 ≤ w6.heap.size := by rw [hw6]; have h1 := HS2.out; have h2 := HB3.out.size; have h3 := HB.out.size; simp [World.setCell]; omega
      have HFIN : Hid (∀ wf, Fr (fun x => x = w.heap.size + 1) w7 wf → NotPost st cls next acc w (.returned (.tuple #[.agg #[.int .i64 0, v1, v2, v3], .nilIface])) wf) := Lib.hid (fun wf hf =>
        ⟨_, rfl, b, first, states, h1, h2, h3, h4, hnp.stored HB6.out (hf.mono (fun x e => by omega))⟩)
      obtain ⟨r0, r1, r2, r3, rf⟩ := HRES6.out.below hb7
      have rf0 := rf 0
      have rf1 := rf 1
      have rf2 := rf 2
      have rf3 := rf 3
      obtain ⟨ac6, cc6, an6, nn6, cn6, aa6, ca6, -, -, -, -, -, -, -, hve, -⟩ := hnp
      simp only [Ending.returned.injEq, Value.agg.injEq, Array.mk.injEq, List.cons.injEq, and_true, true_and] at hve
      obtain ⟨rfl, rfl, rfl⟩ := hve
      clear rf hb7 hs6 h1 h2 h3 h4 hm6 hw6 hgt
      go_wp2
      exact bodyPost_ret (v := .tuple #[.agg #[.int .i64 0, .slice ac6 256 cc6, .slice an6 nn6 cn6, .slice aa6 nn6 ca6], .nilIface]) (by simp [results, Try.results29, go_sem, r0, r1, r2, r3]) rfl (HFIN.out _ (fr4 w7 (w.heap.size + 1) (.int .i64 0) (.slice ac6 256 cc6) (.slice an6 nn6 cn6) (.slice aa6 nn6 ca6)))

end Go.Proofs.Ytajajkganamfiaa
