/-
  Graph.Bases.
-/
import Derived.Test.YtoakelgjofdmpaaHBefW
import Derived.Test.YtoakelgjofdmpaaHBasP
import Derived.Test.YtoakelgjofdmpaaRevI
namespace Go.Proofs.Ytoakelgjofdmpaa
open Go.RowKit
set_option linter.unusedVariables false
set_option linter.unusedSimpArgs false

def BasesPost (L : List Cm) (a b : Nat) (w : World) (e : Ending) (w' : World) : Prop :=
  ∃ la lc, e = .returned (.tuple #[.slice la (bases L a b).length lc, .nilIface]) ∧ Own w' w.heap.size 3 .i64 (.slice la (bases L a b).length lc) (bases L a b) ∧ Below w.heap.size w w'

set_option maxRecDepth 100000 in
set_option maxHeartbeats 8000000 in
theorem bases_le (T : Nat → Prop) (bg : Nat) (L : List Cm) (a b : Nat) (w : World) (hg : RG w T bg L) (hL : GoodL L) (ha : a < L.length) (hb : b < L.length) (hab : a ≤ b) :
    Calls Try.prog 16 #[.pointer (some ⟨bg, 0, none⟩), .int .i64 a, .int .i64 b] w (BasesPost L a b w) := by
  obtain ⟨ga, gc, hgc0, hgl0⟩ := hg.ex
  have HGC0 := Lib.hid hgc0
  have HGL0 := Lib.hid hgl0
  have HG := Lib.hid hg
  have HGL := Lib.hid hL
  have HN1 := Lib.hid hg.n1
  have Ha := Lib.hid ha
  have Hb := Lib.hid hb
  have HLE := Lib.hid hab
  have hka : (a : Int) + 1 ≤ 9223372036854775807 := by have := hg.n1; omega
  have hkb : (b : Int) + 1 ≤ 9223372036854775807 := by have := hg.n1; omega
  have HA1 : Hid (hasB L.length (a : Int) = true) := Lib.hid (by simp [hasB]; omega)
  have HB1' : Hid (hasB L.length (b : Int) = true) := Lib.hid (by simp [hasB]; omega)
  obtain ⟨N, hN⟩ : ∃ N, N = L.length := ⟨_, rfl⟩
  have HNN := Lib.hid hN
  rw [← hN] at HGC0 HGL0
  clear hg hL ha hb hgc0 hgl0 hN
  have HSP : Hid (∀ x, hasB L.length x = hasB N x) := Lib.hid fun x => by rw [HNN.out]
  go_enter Try.func16, Try.ntmps16
  go_wp2_with fail
  refine (has_any bg ga N gc a w HGC0.out).mono ?_
  rw [← HSP.out, HA1.out]
  rintro e w2 ⟨rfl, rfl⟩
  go_wp2_with fail
  refine (has_any bg ga N gc b w HGC0.out).mono ?_
  rw [← HSP.out, HB1'.out]
  rintro e w2 ⟨rfl, rfl⟩
  have hcond : decide (b < a) = false := by simp; omega
  clear hab
  go_wp2_with fail
  refine (ancestors_any T bg L a w HG.out HGL.out Ha.out).mono ?_
  rintro e w1 ⟨g1, rfl, ho1, hb1⟩
  have HO1 := Lib.hid ho1
  have HB1 := Lib.hid hb1
  clear ho1 hb1
  go_wp2_with fail
  refine (ancestors_any T bg L b w1 (HG.out.below HB1.out) HGL.out Hb.out).mono ?_
  rintro e w2 ⟨g2, rfl, ho2, hb2⟩
  have HO2 := Lib.hid ho2
  have HB2 := Lib.hid hb2
  have HO12 := Lib.hid (Row.below HO1.out hb2)
  have HB02 : Hid (Below w.heap.size w w2) := Lib.hid (bthen HB1.out hb2)
  clear ho2 hb2
  go_wp2_with (at_make; refine make_bools EB rfl _ _ rfl w2.heap.size _ _ _ _ (a + 1) rfl rfl (by push_cast; rfl) (by push_cast; rfl) (by have := Ha.out; have := HN1.out; omega) (Nat.le_refl _) ?_)
  intro w3 ho3 hg3
  obtain ⟨g, hgg⟩ : ∃ g, g = w2.heap.size := ⟨_, rfl⟩
  have HB3 : Hid (Below g w2 w3) := Lib.hid (by rw [hgg]; exact grown_below' hg3 (base := w2.heap.size) (Nat.le_refl _))
  rw [← hgg] at ho3 ⊢
  have HO3 : Hid (OwnB w3 g (.slice (some ⟨g, 0, none⟩) (a + 1) (a + 1)) (covM L a b 0)) := Lib.hid ho3
  have HGG := Lib.hid hgg
  clear ho3 hg3 hgg
  go_wp2
  go_loopw [11, 12] (fun lv iv wr => ((∃ q : Nat, q ≤ a ∧ iv = .int .i64 q ∧ OwnB wr g (.slice (some ⟨g, 0, none⟩) (a + 1) (a + 1)) (covM L a b (a - q)) ∧ Own wr g 3 .i64 lv (listM L a b (a - q))) ∨ (iv = .int .i64 (-1) ∧ Own wr g 3 .i64 lv (listM L a b (a + 1)))) ∧ Below g w2 wr) (fun _ iv _ => (intOf iv + 1).toNat)
  case atStart => exact ⟨.inl ⟨a, Nat.le_refl _, rfl, by rw [Nat.sub_self]; exact HO3.out, by rw [Nat.sub_self]; exact Own.nil _ _ _ _⟩, HB3.out⟩
  case round =>
    obtain ⟨⟨q, hq, rfl, ho, hol⟩ | ⟨rfl, hol⟩, hbw⟩ := hrel
    · obtain ⟨la, lc, rfl⟩ := hol.form
      have HO := Lib.hid ho
      have HOL := Lib.hid hol
      have HBW := Lib.hid hbw
      have HBW2 : Hid (Below w2.heap.size w2 wr) := Lib.hid (by rw [← HGG.out]; exact hbw)
      have HBL : Hid (Below w.heap.size w wr) := Lib.hid (bthen HB02.out HBW2.out)
      have hsz : g ≤ wr.heap.size := by rw [HGG.out]; exact HBW2.out.size
      have HSZ := Lib.hid hsz
      have HCL : Hid ((covM L a b (a - q)).length = a + 1) := Lib.hid (covM_len _ _ _ _)
      have HQ := Lib.hid hq
      have hqa : (q : Int) < ((a + 1 : Nat) : Int) := by have := HLE.out; omega
      have hqb : (q : Int) < ((b + 1 : Nat) : Int) := by have := HLE.out; omega
      have hqa2 : (q : Int) < (a : Int) + 1 := by have := HLE.out; omega
      have hqb2 : (q : Int) < (b : Int) + 1 := by have := HLE.out; omega
      have c1 := OwnB.cell (Row.below HO12.out HBW2.out) (j := q) (by rw [marks_len]; have := HQ.out; omega)
      rw [marks_eq HGL.out (by omega) (Nat.le_refl _) (by omega) (by have := HQ.out; omega)] at c1
      have c2 := OwnB.cell (Row.below HO2.out HBW2.out) (j := q) (by rw [marks_len]; have := HQ.out; have := HLE.out; omega)
      rw [marks_eq HGL.out (by omega) (Nat.le_refl _) (by omega) (by have := HQ.out; have := HLE.out; omega)] at c2
      have c3 := HO.out.cell (j := q) (by rw [HCL.out]; have := HQ.out; omega)
      rw [covM_eq HGL.out HQ.out] at c3
      have HNC : Hid (covM L a b (a - q + 1) = if com L a b q then markP (covM L a b (a - q)) (parsOf L q) else covM L a b (a - q)) := Lib.hid (by
        show (if com L a b (a - (a - q)) then markP (covM L a b (a - q)) (parsOf L (a - (a - q))) else _) = _
        rw [show a - (a - q) = q by have := HQ.out; omega])
      have HNL : Hid (listM L a b (a - q + 1) = if baseB L a b q then listM L a b (a - q) ++ [(q : Int)] else listM L a b (a - q)) := Lib.hid (by
        show (if baseB L a b (a - (a - q)) then _ ++ [((a - (a - q) : Nat) : Int)] else _) = _
        rw [show a - (a - q) = q by have := HQ.out; omega])
      have HCOM : Hid (com L a b q = (ancB L q a && ancB L q b)) := Lib.hid rfl
      have HBAS : Hid (baseB L a b q = (com L a b q && !covered L a b q)) := Lib.hid rfl
      clear ho hol hbw hsz
      generalize ancB L q a = x1 at *
      generalize ancB L q b = x2 at *
      generalize covered L a b q = x3 at *
      generalize com L a b q = xc at *
      generalize baseB L a b q = xb at *
      by_cases hcom : x1 = true ∧ x2 = true
      · obtain ⟨rfl, rfl⟩ := hcom
        obtain rfl : xc = true := HCOM.out
        have hgc := below_cell HBL.out HGC0.out
        obtain ⟨b0, off, pa, pn, pc, rfl, hpc0, hpr, hpn⟩ := HGL0.out.pars (i := q) (by have := HQ.out; have := Ha.out; have := HNN.out; omega)
        have hpc := below_cell HBL.out hpc0
        have HPR := Lib.hid hpr
        have HPN := Lib.hid hpn
        have HPC := Lib.hid hpc0
        have hqN : (q : Int) < (N : Int) := by have := HQ.out; have := Ha.out; have := HNN.out; omega
        have HPL : Hid (∀ p ∈ parsOf L q, 0 ≤ p ∧ p < (q : Int)) := Lib.hid fun p hp => by have := pars_lt HGL.out hp; omega
        have hmxp := hpr.max
        clear hpr hpn hpc0
        cases x3 with
        | true =>
          obtain rfl : xb = false := HBAS.out
          obtain ⟨wo, hwo⟩ : ∃ wo : World, wo = wr := ⟨_, rfl⟩
          subst hwo
          have HO' := Lib.hid HO.out
          have HOL' : Hid (Own wo g 3 .i64 (.slice la (listM L a b (a - q)).length lc) (listM L a b (a - q + 1))) := Lib.hid (by rw [HNL.out]; exact HOL.out)
          have HBW' := Lib.hid HBW.out
          go_wp2
          clear c1 c2 c3 hgc hpc
          go_loopw [78] (fun jv wr => ∃ j : Nat, j ≤ pn ∧ jv = .int .i64 j ∧ OwnB wr g (.slice (some ⟨g, 0, none⟩) (a + 1) (a + 1)) (markP (covM L a b (a - q)) ((parsOf L q).take j)) ∧ Own wr g 3 .i64 (.slice la (listM L a b (a - q)).length lc) (listM L a b (a - q + 1)) ∧ Below g w2 wr) (fun jv _ => pn - (intOf jv).toNat)
          case atStart => exact ⟨0, by omega, rfl, HO'.out, HOL'.out, HBW'.out⟩
          case round =>
            obtain ⟨j, hj, rfl, hoj, hlj, hbj⟩ := hrel
            have HOJ := Lib.hid hoj
            have HLJ := Lib.hid hlj
            have HBJ := Lib.hid hbj
            have HSZJ : Hid (g ≤ wr.heap.size) := Lib.hid (by have := hbj.size; have := HGG.out; omega)
            clear hoj hlj hbj
            by_cases hlt : j < pn
            · have hjl : j < (parsOf L q).length := by rw [← HPN.out]; exact hlt
              obtain ⟨pb, po, rfl, h1⟩ := (HPR.out.below (bthen HB02.out (by rw [← HGG.out]; exact HBJ.out))).cell j hlt
              have hp := HPL.out _ (getD_mem (d := 0) hjl)
              have HTK := Lib.hid (markP_take (covM L a b (a - q)) (parsOf L q) hjl)
              generalize hpe : (parsOf L q).getD j 0 = p at *
              clear hpe
              obtain ⟨p, rfl⟩ := Int.eq_ofNat_of_zero_le hp.1
              rw [Int.toNat_natCast] at HTK
              have hpk : (p : Int) < ((a + 1 : Nat) : Int) := by have := HQ.out; omega
              have hpk2 : (p : Int) < (a : Int) + 1 := by have := HQ.out; omega
              have HML : Hid ((markP (covM L a b (a - q)) ((parsOf L q).take j)).length = a + 1) := Lib.hid (by rw [markP_len]; exact HCL.out)
              go_wp2_with (refine store_bool rfl _ _ rfl g p rfl true rfl (by kernel_rfl) g (a + 1) (a + 1) _ HOJ.out HML.out.symm (by rw [HML.out]; have := HQ.out; omega) ?_)
              intro w5 ho5 hg5
              have HO5 := Lib.hid ho5
              have HL5 : Hid (Own w5 g 3 .i64 (.slice la (listM L a b (a - q)).length lc) (listM L a b (a - q + 1))) := Lib.hid (Row.keep HLJ.out HOJ.out (by decide) hg5)
              have HB5 := Lib.hid (HBJ.out.trans (Row.grown HOJ.out hg5 HSZJ.out))
              clear ho5 hg5 h1
              go_wp2
              go_roundw
              case rel => exact ⟨j + 1, by omega, by go_num, by rw [HTK.out]; exact HO5.out, HL5.out, HB5.out⟩
              case measure => simp [intOf]; omega
            · have HTA : Hid ((parsOf L q).take j = parsOf L q) := Lib.hid (List.take_of_length_le (by rw [← HPN.out]; omega))
              have HSTEP : Hid (OwnB wr g (.slice (some ⟨g, 0, none⟩) (a + 1) (a + 1)) (covM L a b (a - q + 1))) := Lib.hid (by
                have := HOJ.out
                rw [HTA.out] at this
                rw [HNC.out]; exact this)
              rcases (show q = 0 ∨ 1 ≤ q by omega) with rfl | hq1
              · go_wp2
                go_roundw
                case rel => exact ⟨.inr ⟨rfl, HLJ.out⟩, HBJ.out⟩
                case measure => simp [intOf]
              · go_wp2
                go_roundw
                case rel => exact ⟨.inl ⟨q - 1, by have := HQ.out; omega, by rw [show ((q - 1 : Nat) : Int) = (q : Int) - 1 by omega], by rw [show a - (q - 1) = a - q + 1 by have := HQ.out; omega]; exact HSTEP.out, by rw [show a - (q - 1) = a - q + 1 by have := HQ.out; omega]; exact HLJ.out⟩, HBJ.out⟩
                case measure => simp [intOf]
        | false =>
          obtain rfl : xb = true := HBAS.out
          have HK := Lib.hid (Rd.one wr .i64 3 (q : Int) (WalkArith.wf_i64 (by have := HQ.out; have := Ha.out; have := HN1.out; omega)))
          have HLL : Hid ((listM L a b (a - q)).length ≤ 65536) := Lib.hid (by have := listM_len L a b (a - q); have := Ha.out; have := HN1.out; omega)
          go_wp2_with (at_builtin; refine app_rd (.tmp 65) (.tmp 67) EI rfl rfl g _ _ rfl (HOL.out.alloc _) _ _ _ [(q : Int)] rfl HK.out (by have := HLL.out; simp; omega) (by omega) (by simp; have := HSZ.out; omega) ?_; intro a7 c7 w7 ho7 hg7; have HB7 := Lib.hid ((Below.alloc (Below.refl g wr) HSZ.out (.cells #[.int .i64 (q : Int)] 3)).trans (grown_below (HOL.out.alloc _) hg7 (by simp; have := HSZ.out; omega))); have HO' : Hid (OwnB w7 g (.slice (some ⟨g, 0, none⟩) (a + 1) (a + 1)) (covM L a b (a - q))) := Lib.hid (Row.keep (World.ownsRow.alloc HO.out _) (HOL.out.alloc _) (by decide) hg7); have HOL' : Hid (Own w7 g 3 .i64 (.slice a7 ((listM L a b (a - q)).length + 1) c7) (listM L a b (a - q + 1))) := Lib.hid (by rw [HNL.out]; have ho8 := ho7; rw [show (listM L a b (a - q) ++ [(q : Int)]).length = (listM L a b (a - q)).length + 1 by simp] at ho8; exact ho8); have HBW' := Lib.hid (HBW.out.trans HB7.out); have hgc7 := below_cell (bthen HB02.out (by rw [← HGG.out]; exact HBW'.out)) HGC0.out; have hpc7 := below_cell (bthen HB02.out (by rw [← HGG.out]; exact HBW'.out)) HPC.out; clear ho7 hg7 hgc hpc c1 c2 c3)
          obtain ⟨wo, hwo⟩ : ∃ wo : World, wo = w7 := ⟨_, rfl⟩
          subst hwo
          have c1 : True := trivial
          have c2 : True := trivial
          have c3 : True := trivial
          have hgc : True := trivial
          have hpc : True := trivial
          clear c1 c2 c3 hgc hpc
          go_loopw [78] (fun jv wr => ∃ j : Nat, j ≤ pn ∧ jv = .int .i64 j ∧ OwnB wr g (.slice (some ⟨g, 0, none⟩) (a + 1) (a + 1)) (markP (covM L a b (a - q)) ((parsOf L q).take j)) ∧ Own wr g 3 .i64 (.slice a7 ((listM L a b (a - q)).length + 1) c7) (listM L a b (a - q + 1)) ∧ Below g w2 wr) (fun jv _ => pn - (intOf jv).toNat)
          case atStart => exact ⟨0, by omega, rfl, HO'.out, HOL'.out, HBW'.out⟩
          case round =>
            obtain ⟨j, hj, rfl, hoj, hlj, hbj⟩ := hrel
            have HOJ := Lib.hid hoj
            have HLJ := Lib.hid hlj
            have HBJ := Lib.hid hbj
            have HSZJ : Hid (g ≤ wr.heap.size) := Lib.hid (by have := hbj.size; have := HGG.out; omega)
            clear hoj hlj hbj
            by_cases hlt : j < pn
            · have hjl : j < (parsOf L q).length := by rw [← HPN.out]; exact hlt
              obtain ⟨pb, po, rfl, h1⟩ := (HPR.out.below (bthen HB02.out (by rw [← HGG.out]; exact HBJ.out))).cell j hlt
              have hp := HPL.out _ (getD_mem (d := 0) hjl)
              have HTK := Lib.hid (markP_take (covM L a b (a - q)) (parsOf L q) hjl)
              generalize hpe : (parsOf L q).getD j 0 = p at *
              clear hpe
              obtain ⟨p, rfl⟩ := Int.eq_ofNat_of_zero_le hp.1
              rw [Int.toNat_natCast] at HTK
              have hpk : (p : Int) < ((a + 1 : Nat) : Int) := by have := HQ.out; omega
              have hpk2 : (p : Int) < (a : Int) + 1 := by have := HQ.out; omega
              have HML : Hid ((markP (covM L a b (a - q)) ((parsOf L q).take j)).length = a + 1) := Lib.hid (by rw [markP_len]; exact HCL.out)
              go_wp2_with (refine store_bool rfl _ _ rfl g p rfl true rfl (by kernel_rfl) g (a + 1) (a + 1) _ HOJ.out HML.out.symm (by rw [HML.out]; have := HQ.out; omega) ?_)
              intro w5 ho5 hg5
              have HO5 := Lib.hid ho5
              have HL5 : Hid (Own w5 g 3 .i64 (.slice a7 ((listM L a b (a - q)).length + 1) c7) (listM L a b (a - q + 1))) := Lib.hid (Row.keep HLJ.out HOJ.out (by decide) hg5)
              have HB5 := Lib.hid (HBJ.out.trans (Row.grown HOJ.out hg5 HSZJ.out))
              clear ho5 hg5 h1
              go_wp2
              go_roundw
              case rel => exact ⟨j + 1, by omega, by go_num, by rw [HTK.out]; exact HO5.out, HL5.out, HB5.out⟩
              case measure => simp [intOf]; omega
            · have HTA : Hid ((parsOf L q).take j = parsOf L q) := Lib.hid (List.take_of_length_le (by rw [← HPN.out]; omega))
              have HSTEP : Hid (OwnB wr g (.slice (some ⟨g, 0, none⟩) (a + 1) (a + 1)) (covM L a b (a - q + 1))) := Lib.hid (by
                have := HOJ.out
                rw [HTA.out] at this
                rw [HNC.out]; exact this)
              rcases (show q = 0 ∨ 1 ≤ q by omega) with rfl | hq1
              · go_wp2
                go_roundw
                case rel => exact ⟨.inr ⟨rfl, HLJ.out⟩, HBJ.out⟩
                case measure => simp [intOf]
              · go_wp2
                go_roundw
                case rel => exact ⟨.inl ⟨q - 1, by have := HQ.out; omega, by rw [show ((q - 1 : Nat) : Int) = (q : Int) - 1 by omega], by rw [show a - (q - 1) = a - q + 1 by have := HQ.out; omega]; exact HSTEP.out, by rw [show a - (q - 1) = a - q + 1 by have := HQ.out; omega]; exact HLJ.out⟩, HBJ.out⟩
                case measure => simp [intOf]
      · have hx : xc = false := by rw [HCOM.out]; cases x1 <;> cases x2 <;> simp_all
        subst hx
        have hxb : xb = false := by rw [HBAS.out]; rfl
        subst hxb
        have HSTEP : Hid (OwnB wr g (.slice (some ⟨g, 0, none⟩) (a + 1) (a + 1)) (covM L a b (a - q + 1)) ∧ Own wr g 3 .i64 (.slice la (listM L a b (a - q)).length lc) (listM L a b (a - q + 1))) := Lib.hid ⟨by rw [HNC.out]; exact HO.out, by rw [HNL.out]; exact HOL.out⟩
        cases x1 with
        | false =>
          rcases (show q = 0 ∨ 1 ≤ q by omega) with rfl | hq1
          · go_wp2
            go_roundw
            case rel => exact ⟨.inr ⟨rfl, HSTEP.out.2⟩, HBW.out⟩
            case measure => simp [intOf]
          · go_wp2
            go_roundw
            case rel => exact ⟨.inl ⟨q - 1, by have := HQ.out; omega, by rw [show ((q - 1 : Nat) : Int) = (q : Int) - 1 by omega], by rw [show a - (q - 1) = a - q + 1 by have := HQ.out; omega]; exact HSTEP.out⟩, HBW.out⟩
            case measure => simp [intOf]
        | true =>
          obtain rfl : x2 = false := by cases x2 <;> simp_all
          rcases (show q = 0 ∨ 1 ≤ q by omega) with rfl | hq1
          · go_wp2
            go_roundw
            case rel => exact ⟨.inr ⟨rfl, HSTEP.out.2⟩, HBW.out⟩
            case measure => simp [intOf]
          · go_wp2
            go_roundw
            case rel => exact ⟨.inl ⟨q - 1, by have := HQ.out; omega, by rw [show ((q - 1 : Nat) : Int) = (q : Int) - 1 by omega], by rw [show a - (q - 1) = a - q + 1 by have := HQ.out; omega]; exact HSTEP.out⟩, HBW.out⟩
            case measure => simp [intOf]
    · obtain ⟨la, lc, rfl⟩ := hol.form
      have HOL := Lib.hid hol
      have HBW2 : Hid (Below w2.heap.size w2 wr) := Lib.hid (by rw [← HGG.out]; exact hbw)
      clear hol hbw
      have HLEN := Lib.hid (listM_bases HGL.out (b := b) Ha.out)
      have HLL : Hid ((listM L a b (a + 1)).length ≤ 65537) := Lib.hid (by have := listM_len L a b (a + 1); have := Ha.out; have := HN1.out; omega)
      have hfin : ∀ lv (l2 : List Int) w9, Own w9 g 3 .i64 lv l2 → l2 = bases L a b → ∃ a2 c2, lv = .slice a2 (bases L a b).length c2 ∧ Own w9 w.heap.size 3 .i64 (.slice a2 (bases L a b).length c2) (bases L a b) := by
        rintro lv l2 w9 ho rfl
        obtain ⟨a, c, rfl⟩ := ho.form
        exact ⟨a, c, rfl, ho.mono (by have := HB02.out.size; have := HGG.out; omega)⟩
      have HFIN := Lib.hid hfin
      clear hfin
      rcases HOL.out.2 with ⟨hv, h0⟩ | ⟨gl, cap, cur, hv, hbl, _⟩
      · have hnil : listM L a b (a + 1) = [] := List.eq_nil_of_length_eq_zero h0
        have HBN : Hid (bases L a b = []) := Lib.hid (by rw [← HLEN.out, hnil]; rfl)
        simp only [Value.slice.injEq] at hv
        obtain ⟨hv1, hv2, hv3⟩ := hv
        subst hv1 hv3
        rw [hv2]
        clear h0 hnil hv2
        go_wp2_with fail
        refine (revnil_any _).mono ?_
        rintro e w5 ⟨rfl, rfl⟩
        go_wp2
        go_ret2
        exact ⟨none, 0, ret_eq (by rw [HBN.out]; rfl), by rw [HBN.out]; exact Own.nil _ _ _ _, bthen HB02.out HBW2.out⟩
      · have hlb := listM_len L a b (a + 1)
        have HREV := Lib.hid (revi_any g gl (listM L a b (a + 1)).length cap (listM L a b (a + 1)) wr (by rw [← hv]; exact HOL.out) rfl (by have := HLL.out; omega))
        simp only [Value.slice.injEq] at hv
        obtain ⟨hv1, _, hv3⟩ := hv
        subst hv1 hv3
        have HLN : Hid ((listM L a b (a + 1)).length = (bases L a b).length) := Lib.hid (by rw [← HLEN.out, List.length_reverse])
        rw [HLN.out] at HREV ⊢
        clear hlb
        go_wp2_with fail
        refine HREV.out.mono ?_
        rintro e w5 ⟨rfl, ho5, hg5⟩
        rw [HLEN.out] at ho5
        have HO5 := Lib.hid ho5
        have HB5 : Hid (Below w.heap.size w w5) := Lib.hid (bthen HB02.out ((HBW2.out).grown hg5 (by exact HBW2.out.size) (fun k hk => by cases hk; have := HGG.out; omega)))
        clear ho5 hg5
        go_wp2
        go_ret2
        exact ⟨some ⟨gl, 0, none⟩, lc, rfl, by exact HO5.out.mono (by have := HB02.out.size; have := HGG.out; omega), HB5.out⟩

set_option maxRecDepth 100000 in
set_option maxHeartbeats 8000000 in
theorem bases_gt (T : Nat → Prop) (bg : Nat) (L : List Cm) (a b : Nat) (w : World) (hg : RG w T bg L) (hL : GoodL L) (ha : a < L.length) (hb : b < L.length) (hab : b < a) :
    Calls Try.prog 16 #[.pointer (some ⟨bg, 0, none⟩), .int .i64 a, .int .i64 b] w (BasesPost L a b w) := by
  obtain ⟨ga, gc, hgc0, hgl0⟩ := hg.ex
  have HGC0 := Lib.hid hgc0
  have HGL0 := Lib.hid hgl0
  have HG := Lib.hid hg
  have HGL := Lib.hid hL
  have HN1 := Lib.hid hg.n1
  have Ha := Lib.hid ha
  have Hb := Lib.hid hb
  have HLE : Hid (b ≤ a) := Lib.hid (by omega)
  have HSY := Lib.hid (bases_symm L a b)
  have hka : (a : Int) + 1 ≤ 9223372036854775807 := by have := hg.n1; omega
  have hkb : (b : Int) + 1 ≤ 9223372036854775807 := by have := hg.n1; omega
  have HA1 : Hid (hasB L.length (a : Int) = true) := Lib.hid (by simp [hasB]; omega)
  have HB1' : Hid (hasB L.length (b : Int) = true) := Lib.hid (by simp [hasB]; omega)
  obtain ⟨N, hN⟩ : ∃ N, N = L.length := ⟨_, rfl⟩
  have HNN := Lib.hid hN
  rw [← hN] at HGC0 HGL0
  clear hg hL ha hb hgc0 hgl0 hN
  have HSP : Hid (∀ x, hasB L.length x = hasB N x) := Lib.hid fun x => by rw [HNN.out]
  go_enter Try.func16, Try.ntmps16
  go_wp2_with fail
  refine (has_any bg ga N gc a w HGC0.out).mono ?_
  rw [← HSP.out, HA1.out]
  rintro e w2 ⟨rfl, rfl⟩
  go_wp2_with fail
  refine (has_any bg ga N gc b w HGC0.out).mono ?_
  rw [← HSP.out, HB1'.out]
  rintro e w2 ⟨rfl, rfl⟩
  have hcond : decide (b < a) = true := by simp; omega
  clear hab
  go_wp2_with fail
  refine (ancestors_any T bg L b w HG.out HGL.out Hb.out).mono ?_
  rintro e w1 ⟨g1, rfl, ho1, hb1⟩
  have HO1 := Lib.hid ho1
  have HB1 := Lib.hid hb1
  clear ho1 hb1
  go_wp2_with fail
  refine (ancestors_any T bg L a w1 (HG.out.below HB1.out) HGL.out Ha.out).mono ?_
  rintro e w2 ⟨g2, rfl, ho2, hb2⟩
  have HO2 := Lib.hid ho2
  have HB2 := Lib.hid hb2
  have HO12 := Lib.hid (Row.below HO1.out hb2)
  have HB02 : Hid (Below w.heap.size w w2) := Lib.hid (bthen HB1.out hb2)
  clear ho2 hb2
  go_wp2_with (at_make; refine make_bools EB rfl _ _ rfl w2.heap.size _ _ _ _ (b + 1) rfl rfl (by push_cast; rfl) (by push_cast; rfl) (by have := Hb.out; have := HN1.out; omega) (Nat.le_refl _) ?_)
  intro w3 ho3 hg3
  obtain ⟨g, hgg⟩ : ∃ g, g = w2.heap.size := ⟨_, rfl⟩
  have HB3 : Hid (Below g w2 w3) := Lib.hid (by rw [hgg]; exact grown_below' hg3 (base := w2.heap.size) (Nat.le_refl _))
  rw [← hgg] at ho3 ⊢
  have HO3 : Hid (OwnB w3 g (.slice (some ⟨g, 0, none⟩) (b + 1) (b + 1)) (covM L b a 0)) := Lib.hid ho3
  have HGG := Lib.hid hgg
  clear ho3 hg3 hgg
  go_wp2
  go_loopw [11, 12] (fun lv iv wr => ((∃ q : Nat, q ≤ b ∧ iv = .int .i64 q ∧ OwnB wr g (.slice (some ⟨g, 0, none⟩) (b + 1) (b + 1)) (covM L b a (b - q)) ∧ Own wr g 3 .i64 lv (listM L b a (b - q))) ∨ (iv = .int .i64 (-1) ∧ Own wr g 3 .i64 lv (listM L b a (b + 1)))) ∧ Below g w2 wr) (fun _ iv _ => (intOf iv + 1).toNat)
  case atStart => exact ⟨.inl ⟨b, Nat.le_refl _, rfl, by rw [Nat.sub_self]; exact HO3.out, by rw [Nat.sub_self]; exact Own.nil _ _ _ _⟩, HB3.out⟩
  case round =>
    obtain ⟨⟨q, hq, rfl, ho, hol⟩ | ⟨rfl, hol⟩, hbw⟩ := hrel
    · obtain ⟨la, lc, rfl⟩ := hol.form
      have HO := Lib.hid ho
      have HOL := Lib.hid hol
      have HBW := Lib.hid hbw
      have HBW2 : Hid (Below w2.heap.size w2 wr) := Lib.hid (by rw [← HGG.out]; exact hbw)
      have HBL : Hid (Below w.heap.size w wr) := Lib.hid (bthen HB02.out HBW2.out)
      have hsz : g ≤ wr.heap.size := by rw [HGG.out]; exact HBW2.out.size
      have HSZ := Lib.hid hsz
      have HCL : Hid ((covM L b a (b - q)).length = b + 1) := Lib.hid (covM_len _ _ _ _)
      have HQ := Lib.hid hq
      have hqa : (q : Int) < ((b + 1 : Nat) : Int) := by have := HLE.out; omega
      have hqb : (q : Int) < ((a + 1 : Nat) : Int) := by have := HLE.out; omega
      have hqa2 : (q : Int) < (b : Int) + 1 := by have := HLE.out; omega
      have hqb2 : (q : Int) < (a : Int) + 1 := by have := HLE.out; omega
      have c1 := OwnB.cell (Row.below HO12.out HBW2.out) (j := q) (by rw [marks_len]; have := HQ.out; omega)
      rw [marks_eq HGL.out (by omega) (Nat.le_refl _) (by omega) (by have := HQ.out; omega)] at c1
      have c2 := OwnB.cell (Row.below HO2.out HBW2.out) (j := q) (by rw [marks_len]; have := HQ.out; have := HLE.out; omega)
      rw [marks_eq HGL.out (by omega) (Nat.le_refl _) (by omega) (by have := HQ.out; have := HLE.out; omega)] at c2
      have c3 := HO.out.cell (j := q) (by rw [HCL.out]; have := HQ.out; omega)
      rw [covM_eq HGL.out HQ.out] at c3
      have HNC : Hid (covM L b a (b - q + 1) = if com L b a q then markP (covM L b a (b - q)) (parsOf L q) else covM L b a (b - q)) := Lib.hid (by
        show (if com L b a (b - (b - q)) then markP (covM L b a (b - q)) (parsOf L (b - (b - q))) else _) = _
        rw [show b - (b - q) = q by have := HQ.out; omega])
      have HNL : Hid (listM L b a (b - q + 1) = if baseB L b a q then listM L b a (b - q) ++ [(q : Int)] else listM L b a (b - q)) := Lib.hid (by
        show (if baseB L b a (b - (b - q)) then _ ++ [((b - (b - q) : Nat) : Int)] else _) = _
        rw [show b - (b - q) = q by have := HQ.out; omega])
      have HCOM : Hid (com L b a q = (ancB L q b && ancB L q a)) := Lib.hid rfl
      have HBAS : Hid (baseB L b a q = (com L b a q && !covered L b a q)) := Lib.hid rfl
      clear ho hol hbw hsz
      generalize ancB L q b = x1 at *
      generalize ancB L q a = x2 at *
      generalize covered L b a q = x3 at *
      generalize com L b a q = xc at *
      generalize baseB L b a q = xb at *
      by_cases hcom : x1 = true ∧ x2 = true
      · obtain ⟨rfl, rfl⟩ := hcom
        obtain rfl : xc = true := HCOM.out
        have hgc := below_cell HBL.out HGC0.out
        obtain ⟨b0, off, pa, pn, pc, rfl, hpc0, hpr, hpn⟩ := HGL0.out.pars (i := q) (by have := HQ.out; have := Hb.out; have := HNN.out; omega)
        have hpc := below_cell HBL.out hpc0
        have HPR := Lib.hid hpr
        have HPN := Lib.hid hpn
        have HPC := Lib.hid hpc0
        have hqN : (q : Int) < (N : Int) := by have := HQ.out; have := Hb.out; have := HNN.out; omega
        have HPL : Hid (∀ p ∈ parsOf L q, 0 ≤ p ∧ p < (q : Int)) := Lib.hid fun p hp => by have := pars_lt HGL.out hp; omega
        have hmxp := hpr.max
        clear hpr hpn hpc0
        cases x3 with
        | true =>
          obtain rfl : xb = false := HBAS.out
          obtain ⟨wo, hwo⟩ : ∃ wo : World, wo = wr := ⟨_, rfl⟩
          subst hwo
          have HO' := Lib.hid HO.out
          have HOL' : Hid (Own wo g 3 .i64 (.slice la (listM L b a (b - q)).length lc) (listM L b a (b - q + 1))) := Lib.hid (by rw [HNL.out]; exact HOL.out)
          have HBW' := Lib.hid HBW.out
          go_wp2
          clear c1 c2 c3 hgc hpc
          go_loopw [78] (fun jv wr => ∃ j : Nat, j ≤ pn ∧ jv = .int .i64 j ∧ OwnB wr g (.slice (some ⟨g, 0, none⟩) (b + 1) (b + 1)) (markP (covM L b a (b - q)) ((parsOf L q).take j)) ∧ Own wr g 3 .i64 (.slice la (listM L b a (b - q)).length lc) (listM L b a (b - q + 1)) ∧ Below g w2 wr) (fun jv _ => pn - (intOf jv).toNat)
          case atStart => exact ⟨0, by omega, rfl, HO'.out, HOL'.out, HBW'.out⟩
          case round =>
            obtain ⟨j, hj, rfl, hoj, hlj, hbj⟩ := hrel
            have HOJ := Lib.hid hoj
            have HLJ := Lib.hid hlj
            have HBJ := Lib.hid hbj
            have HSZJ : Hid (g ≤ wr.heap.size) := Lib.hid (by have := hbj.size; have := HGG.out; omega)
            clear hoj hlj hbj
            by_cases hlt : j < pn
            · have hjl : j < (parsOf L q).length := by rw [← HPN.out]; exact hlt
              obtain ⟨pb, po, rfl, h1⟩ := (HPR.out.below (bthen HB02.out (by rw [← HGG.out]; exact HBJ.out))).cell j hlt
              have hp := HPL.out _ (getD_mem (d := 0) hjl)
              have HTK := Lib.hid (markP_take (covM L b a (b - q)) (parsOf L q) hjl)
              generalize hpe : (parsOf L q).getD j 0 = p at *
              clear hpe
              obtain ⟨p, rfl⟩ := Int.eq_ofNat_of_zero_le hp.1
              rw [Int.toNat_natCast] at HTK
              have hpk : (p : Int) < ((b + 1 : Nat) : Int) := by have := HQ.out; omega
              have hpk2 : (p : Int) < (b : Int) + 1 := by have := HQ.out; omega
              have HML : Hid ((markP (covM L b a (b - q)) ((parsOf L q).take j)).length = b + 1) := Lib.hid (by rw [markP_len]; exact HCL.out)
              go_wp2_with (refine store_bool rfl _ _ rfl g p rfl true rfl (by kernel_rfl) g (b + 1) (b + 1) _ HOJ.out HML.out.symm (by rw [HML.out]; have := HQ.out; omega) ?_)
              intro w5 ho5 hg5
              have HO5 := Lib.hid ho5
              have HL5 : Hid (Own w5 g 3 .i64 (.slice la (listM L b a (b - q)).length lc) (listM L b a (b - q + 1))) := Lib.hid (Row.keep HLJ.out HOJ.out (by decide) hg5)
              have HB5 := Lib.hid (HBJ.out.trans (Row.grown HOJ.out hg5 HSZJ.out))
              clear ho5 hg5 h1
              go_wp2
              go_roundw
              case rel => exact ⟨j + 1, by omega, by go_num, by rw [HTK.out]; exact HO5.out, HL5.out, HB5.out⟩
              case measure => simp [intOf]; omega
            · have HTA : Hid ((parsOf L q).take j = parsOf L q) := Lib.hid (List.take_of_length_le (by rw [← HPN.out]; omega))
              have HSTEP : Hid (OwnB wr g (.slice (some ⟨g, 0, none⟩) (b + 1) (b + 1)) (covM L b a (b - q + 1))) := Lib.hid (by
                have := HOJ.out
                rw [HTA.out] at this
                rw [HNC.out]; exact this)
              rcases (show q = 0 ∨ 1 ≤ q by omega) with rfl | hq1
              · go_wp2
                go_roundw
                case rel => exact ⟨.inr ⟨rfl, HLJ.out⟩, HBJ.out⟩
                case measure => simp [intOf]
              · go_wp2
                go_roundw
                case rel => exact ⟨.inl ⟨q - 1, by have := HQ.out; omega, by rw [show ((q - 1 : Nat) : Int) = (q : Int) - 1 by omega], by rw [show b - (q - 1) = b - q + 1 by have := HQ.out; omega]; exact HSTEP.out, by rw [show b - (q - 1) = b - q + 1 by have := HQ.out; omega]; exact HLJ.out⟩, HBJ.out⟩
                case measure => simp [intOf]
        | false =>
          obtain rfl : xb = true := HBAS.out
          have HK := Lib.hid (Rd.one wr .i64 3 (q : Int) (WalkArith.wf_i64 (by have := HQ.out; have := Hb.out; have := HN1.out; omega)))
          have HLL : Hid ((listM L b a (b - q)).length ≤ 65536) := Lib.hid (by have := listM_len L b a (b - q); have := Hb.out; have := HN1.out; omega)
          go_wp2_with (at_builtin; refine app_rd (.tmp 65) (.tmp 67) EI rfl rfl g _ _ rfl (HOL.out.alloc _) _ _ _ [(q : Int)] rfl HK.out (by have := HLL.out; simp; omega) (by omega) (by simp; have := HSZ.out; omega) ?_; intro a7 c7 w7 ho7 hg7; have HB7 := Lib.hid ((Below.alloc (Below.refl g wr) HSZ.out (.cells #[.int .i64 (q : Int)] 3)).trans (grown_below (HOL.out.alloc _) hg7 (by simp; have := HSZ.out; omega))); have HO' : Hid (OwnB w7 g (.slice (some ⟨g, 0, none⟩) (b + 1) (b + 1)) (covM L b a (b - q))) := Lib.hid (Row.keep (World.ownsRow.alloc HO.out _) (HOL.out.alloc _) (by decide) hg7); have HOL' : Hid (Own w7 g 3 .i64 (.slice a7 ((listM L b a (b - q)).length + 1) c7) (listM L b a (b - q + 1))) := Lib.hid (by rw [HNL.out]; have ho8 := ho7; rw [show (listM L b a (b - q) ++ [(q : Int)]).length = (listM L b a (b - q)).length + 1 by simp] at ho8; exact ho8); have HBW' := Lib.hid (HBW.out.trans HB7.out); have hgc7 := below_cell (bthen HB02.out (by rw [← HGG.out]; exact HBW'.out)) HGC0.out; have hpc7 := below_cell (bthen HB02.out (by rw [← HGG.out]; exact HBW'.out)) HPC.out; clear ho7 hg7 hgc hpc c1 c2 c3)
          obtain ⟨wo, hwo⟩ : ∃ wo : World, wo = w7 := ⟨_, rfl⟩
          subst hwo
          have c1 : True := trivial
          have c2 : True := trivial
          have c3 : True := trivial
          have hgc : True := trivial
          have hpc : True := trivial
          clear c1 c2 c3 hgc hpc
          go_loopw [78] (fun jv wr => ∃ j : Nat, j ≤ pn ∧ jv = .int .i64 j ∧ OwnB wr g (.slice (some ⟨g, 0, none⟩) (b + 1) (b + 1)) (markP (covM L b a (b - q)) ((parsOf L q).take j)) ∧ Own wr g 3 .i64 (.slice a7 ((listM L b a (b - q)).length + 1) c7) (listM L b a (b - q + 1)) ∧ Below g w2 wr) (fun jv _ => pn - (intOf jv).toNat)
          case atStart => exact ⟨0, by omega, rfl, HO'.out, HOL'.out, HBW'.out⟩
          case round =>
            obtain ⟨j, hj, rfl, hoj, hlj, hbj⟩ := hrel
            have HOJ := Lib.hid hoj
            have HLJ := Lib.hid hlj
            have HBJ := Lib.hid hbj
            have HSZJ : Hid (g ≤ wr.heap.size) := Lib.hid (by have := hbj.size; have := HGG.out; omega)
            clear hoj hlj hbj
            by_cases hlt : j < pn
            · have hjl : j < (parsOf L q).length := by rw [← HPN.out]; exact hlt
              obtain ⟨pb, po, rfl, h1⟩ := (HPR.out.below (bthen HB02.out (by rw [← HGG.out]; exact HBJ.out))).cell j hlt
              have hp := HPL.out _ (getD_mem (d := 0) hjl)
              have HTK := Lib.hid (markP_take (covM L b a (b - q)) (parsOf L q) hjl)
              generalize hpe : (parsOf L q).getD j 0 = p at *
              clear hpe
              obtain ⟨p, rfl⟩ := Int.eq_ofNat_of_zero_le hp.1
              rw [Int.toNat_natCast] at HTK
              have hpk : (p : Int) < ((b + 1 : Nat) : Int) := by have := HQ.out; omega
              have hpk2 : (p : Int) < (b : Int) + 1 := by have := HQ.out; omega
              have HML : Hid ((markP (covM L b a (b - q)) ((parsOf L q).take j)).length = b + 1) := Lib.hid (by rw [markP_len]; exact HCL.out)
              go_wp2_with (refine store_bool rfl _ _ rfl g p rfl true rfl (by kernel_rfl) g (b + 1) (b + 1) _ HOJ.out HML.out.symm (by rw [HML.out]; have := HQ.out; omega) ?_)
              intro w5 ho5 hg5
              have HO5 := Lib.hid ho5
              have HL5 : Hid (Own w5 g 3 .i64 (.slice a7 ((listM L b a (b - q)).length + 1) c7) (listM L b a (b - q + 1))) := Lib.hid (Row.keep HLJ.out HOJ.out (by decide) hg5)
              have HB5 := Lib.hid (HBJ.out.trans (Row.grown HOJ.out hg5 HSZJ.out))
              clear ho5 hg5 h1
              go_wp2
              go_roundw
              case rel => exact ⟨j + 1, by omega, by go_num, by rw [HTK.out]; exact HO5.out, HL5.out, HB5.out⟩
              case measure => simp [intOf]; omega
            · have HTA : Hid ((parsOf L q).take j = parsOf L q) := Lib.hid (List.take_of_length_le (by rw [← HPN.out]; omega))
              have HSTEP : Hid (OwnB wr g (.slice (some ⟨g, 0, none⟩) (b + 1) (b + 1)) (covM L b a (b - q + 1))) := Lib.hid (by
                have := HOJ.out
                rw [HTA.out] at this
                rw [HNC.out]; exact this)
              rcases (show q = 0 ∨ 1 ≤ q by omega) with rfl | hq1
              · go_wp2
                go_roundw
                case rel => exact ⟨.inr ⟨rfl, HLJ.out⟩, HBJ.out⟩
                case measure => simp [intOf]
              · go_wp2
                go_roundw
                case rel => exact ⟨.inl ⟨q - 1, by have := HQ.out; omega, by rw [show ((q - 1 : Nat) : Int) = (q : Int) - 1 by omega], by rw [show b - (q - 1) = b - q + 1 by have := HQ.out; omega]; exact HSTEP.out, by rw [show b - (q - 1) = b - q + 1 by have := HQ.out; omega]; exact HLJ.out⟩, HBJ.out⟩
                case measure => simp [intOf]
      · have hx : xc = false := by rw [HCOM.out]; cases x1 <;> cases x2 <;> simp_all
        subst hx
        have hxb : xb = false := by rw [HBAS.out]; rfl
        subst hxb
        have HSTEP : Hid (OwnB wr g (.slice (some ⟨g, 0, none⟩) (b + 1) (b + 1)) (covM L b a (b - q + 1)) ∧ Own wr g 3 .i64 (.slice la (listM L b a (b - q)).length lc) (listM L b a (b - q + 1))) := Lib.hid ⟨by rw [HNC.out]; exact HO.out, by rw [HNL.out]; exact HOL.out⟩
        cases x1 with
        | false =>
          rcases (show q = 0 ∨ 1 ≤ q by omega) with rfl | hq1
          · go_wp2
            go_roundw
            case rel => exact ⟨.inr ⟨rfl, HSTEP.out.2⟩, HBW.out⟩
            case measure => simp [intOf]
          · go_wp2
            go_roundw
            case rel => exact ⟨.inl ⟨q - 1, by have := HQ.out; omega, by rw [show ((q - 1 : Nat) : Int) = (q : Int) - 1 by omega], by rw [show b - (q - 1) = b - q + 1 by have := HQ.out; omega]; exact HSTEP.out⟩, HBW.out⟩
            case measure => simp [intOf]
        | true =>
          obtain rfl : x2 = false := by cases x2 <;> simp_all
          rcases (show q = 0 ∨ 1 ≤ q by omega) with rfl | hq1
          · go_wp2
            go_roundw
            case rel => exact ⟨.inr ⟨rfl, HSTEP.out.2⟩, HBW.out⟩
            case measure => simp [intOf]
          · go_wp2
            go_roundw
            case rel => exact ⟨.inl ⟨q - 1, by have := HQ.out; omega, by rw [show ((q - 1 : Nat) : Int) = (q : Int) - 1 by omega], by rw [show b - (q - 1) = b - q + 1 by have := HQ.out; omega]; exact HSTEP.out⟩, HBW.out⟩
            case measure => simp [intOf]
    · obtain ⟨la, lc, rfl⟩ := hol.form
      have HOL := Lib.hid hol
      have HBW2 : Hid (Below w2.heap.size w2 wr) := Lib.hid (by rw [← HGG.out]; exact hbw)
      clear hol hbw
      have HLEN := Lib.hid (listM_bases HGL.out (b := a) Hb.out)
      have HLL : Hid ((listM L b a (b + 1)).length ≤ 65537) := Lib.hid (by have := listM_len L b a (b + 1); have := Hb.out; have := HN1.out; omega)
      have hfin : ∀ lv (l2 : List Int) w9, Own w9 g 3 .i64 lv l2 → l2 = bases L b a → ∃ a2 c2, lv = .slice a2 (bases L b a).length c2 ∧ Own w9 w.heap.size 3 .i64 (.slice a2 (bases L b a).length c2) (bases L b a) := by
        rintro lv l2 w9 ho rfl
        obtain ⟨a, c, rfl⟩ := ho.form
        exact ⟨a, c, rfl, ho.mono (by have := HB02.out.size; have := HGG.out; omega)⟩
      have HFIN := Lib.hid hfin
      clear hfin
      rcases HOL.out.2 with ⟨hv, h0⟩ | ⟨gl, cap, cur, hv, hbl, _⟩
      · have hnil : listM L b a (b + 1) = [] := List.eq_nil_of_length_eq_zero h0
        have HBN : Hid (bases L b a = []) := Lib.hid (by rw [← HLEN.out, hnil]; rfl)
        simp only [Value.slice.injEq] at hv
        obtain ⟨hv1, hv2, hv3⟩ := hv
        subst hv1 hv3
        rw [hv2]
        clear h0 hnil hv2
        go_wp2_with fail
        refine (revnil_any _).mono ?_
        rintro e w5 ⟨rfl, rfl⟩
        go_wp2
        go_ret2
        exact ⟨none, 0, ret_eq (by rw [HSY.out, HBN.out]; rfl), by rw [HSY.out, HBN.out]; exact Own.nil _ _ _ _, bthen HB02.out HBW2.out⟩
      · have hlb := listM_len L b a (b + 1)
        have HREV := Lib.hid (revi_any g gl (listM L b a (b + 1)).length cap (listM L b a (b + 1)) wr (by rw [← hv]; exact HOL.out) rfl (by have := HLL.out; omega))
        simp only [Value.slice.injEq] at hv
        obtain ⟨hv1, _, hv3⟩ := hv
        subst hv1 hv3
        have HLN : Hid ((listM L b a (b + 1)).length = (bases L b a).length) := Lib.hid (by rw [← HLEN.out, List.length_reverse])
        rw [HLN.out] at HREV ⊢
        clear hlb
        go_wp2_with fail
        refine HREV.out.mono ?_
        rintro e w5 ⟨rfl, ho5, hg5⟩
        rw [HLEN.out] at ho5
        have HO5 := Lib.hid ho5
        have HB5 : Hid (Below w.heap.size w w5) := Lib.hid (bthen HB02.out ((HBW2.out).grown hg5 (by exact HBW2.out.size) (fun k hk => by cases hk; have := HGG.out; omega)))
        clear ho5 hg5
        go_wp2
        go_ret2
        exact ⟨some ⟨gl, 0, none⟩, lc, ret_eq (by rw [HSY.out]; rfl), by rw [HSY.out]; exact HO5.out.mono (by have := HB02.out.size; have := HGG.out; omega), HB5.out⟩

theorem bases_ok (T : Nat → Prop) (bg : Nat) (L : List Cm) (a b : Nat) (w : World) (hg : RG w T bg L) (hL : GoodL L) (ha : a < L.length) (hb : b < L.length) :
    Calls Try.prog 16 #[.pointer (some ⟨bg, 0, none⟩), .int .i64 a, .int .i64 b] w (BasesPost L a b w) := by
  rcases Nat.lt_or_ge b a with h | h
  · exact bases_gt T bg L a b w hg hL ha hb h
  · exact bases_le T bg L a b w hg hL ha hb h

end Go.Proofs.Ytoakelgjofdmpaa
