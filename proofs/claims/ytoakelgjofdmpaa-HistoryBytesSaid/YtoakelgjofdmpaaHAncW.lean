/-
  Graph.ancestors and Before; the reference's Before.
-/
import Derived.Test.YtoakelgjofdmpaaBools
import Derived.Test.YtoakelgjofdmpaaHAnc
namespace Go.Proofs.Ytoakelgjofdmpaa
open Go.RowKit
set_option linter.unusedVariables false
set_option linter.unusedSimpArgs false

def AncPost (L : List Cm) (k : Nat) (w : World) (e : Ending) (w' : World) : Prop :=
  ∃ g, e = .returned (.slice (some ⟨g, 0, none⟩) (k + 1) (k + 1)) ∧ OwnB w' w.heap.size (.slice (some ⟨g, 0, none⟩) (k + 1) (k + 1)) (marks L (k + 1) k (k + 1)) ∧ Below w.heap.size w w'

set_option maxRecDepth 100000 in
set_option maxHeartbeats 4000000 in
theorem ancestors_any (T : Nat → Prop) (bg : Nat) (L : List Cm) (k : Nat) (w : World) (hg : RG w T bg L) (hL : GoodL L) (hk : k < L.length) :
    Calls Try.prog 43 #[.pointer (some ⟨bg, 0, none⟩), .int .i64 k] w (AncPost L k w) := by
  obtain ⟨ga, gc, hgc0, hgl0⟩ := hg.ex
  have HGC0 := Lib.hid hgc0
  have HGL0 := Lib.hid hgl0
  have HGL := Lib.hid hL
  have hn1 := hg.n1
  have HN1 := Lib.hid hn1
  have hk2 : (k : Int) + 1 ≤ 65537 := by omega
  have HK := Lib.hid hk
  obtain ⟨N, hN⟩ : ∃ N, N = L.length := ⟨_, rfl⟩
  have HNN := Lib.hid hN
  have hkN : k < N := by omega
  rw [← hN] at HGC0 HGL0
  clear hg hL hn1 hk hN hgc0 hgl0
  go_enter Try.func43, Try.ntmps43
  go_wp2_with (at_make; refine make_bools EB rfl _ _ rfl w.heap.size _ _ _ _ (k + 1) rfl rfl (by push_cast; rfl) (by push_cast; rfl) (by have := HK.out; have := HN1.out; omega) (Nat.le_refl _) ?_)
  intro w1 ho1 hg1
  have HO1 := Lib.hid ho1
  have HB1 := Lib.hid (grown_below' hg1 (base := w.heap.size) (Nat.le_refl _))
  clear ho1 hg1
  obtain ⟨g, hgg⟩ : ∃ g, g = w.heap.size := ⟨_, rfl⟩
  rw [← hgg] at HO1 ⊢
  have HGG := Lib.hid hgg
  clear hgg
  have hlr : (List.replicate (k + 1) false).length = k + 1 := List.length_replicate
  have HLR := Lib.hid hlr
  clear hlr
  have hkk : (k : Int) < ((k + 1 : Nat) : Int) := by omega
  go_wp2_with (refine store_bool rfl _ _ rfl g k rfl true rfl (by kernel_rfl) g (k + 1) (k + 1) (List.replicate (k + 1) false) HO1.out HLR.out.symm (by rw [HLR.out]; omega) ?_)
  intro w2 ho2 hg2
  have HO2 : Hid (OwnB w2 g (.slice (some ⟨g, 0, none⟩) (k + 1) (k + 1)) (marks L (k + 1) k 0)) := Lib.hid ho2
  have HB2 : Hid (Below g w w2) := Lib.hid ((by rw [HGG.out]; exact HB1.out : Below g w w1).trans (Row.grown HO1.out hg2 (by have := HB1.out.size; have := HGG.out; omega)))
  clear ho2 hg2
  go_wp2
  go_loopw [6] (fun iv wr => ((∃ q : Nat, q ≤ k ∧ iv = .int .i64 q ∧ OwnB wr g (.slice (some ⟨g, 0, none⟩) (k + 1) (k + 1)) (marks L (k + 1) k (k - q))) ∨ (iv = .int .i64 (-1) ∧ OwnB wr g (.slice (some ⟨g, 0, none⟩) (k + 1) (k + 1)) (marks L (k + 1) k (k + 1)))) ∧ Below g w wr) (fun iv _ => (intOf iv + 1).toNat)
  case atStart => exact ⟨.inl ⟨k, Nat.le_refl _, rfl, by rw [Nat.sub_self]; exact HO2.out⟩, HB2.out⟩
  case round =>
    obtain ⟨⟨q, hq, rfl, ho⟩ | ⟨rfl, ho⟩, hbw⟩ := hrel
    · have HO := Lib.hid ho
      have HBW := Lib.hid hbw
      have hqm : (marks L (k + 1) k (k - q)).length = k + 1 := marks_len _ _ _ _
      have HQM := Lib.hid hqm
      have hcell := HO.out.cell (j := q) (by rw [hqm]; omega)
      have hbelow : Below w.heap.size w wr := by rw [← HGG.out]; exact hbw
      have HBL := Lib.hid hbelow
      have HNX : Hid (marks L (k + 1) k (k - q + 1) = if (marks L (k + 1) k (k - q)).getD q false then markP (marks L (k + 1) k (k - q)) (parsOf L q) else marks L (k + 1) k (k - q)) := Lib.hid (by
        show markStep L (marks L (k + 1) k (k - q)) (k - (k - q)) = _
        rw [show k - (k - q) = q by omega]; rfl)
      clear ho hbw hqm hbelow
      have hqk : (q : Int) < ((k + 1 : Nat) : Int) := by omega
      have HQK := Lib.hid hq
      cases hm : (marks L (k + 1) k (k - q)).getD q false with
      | false =>
        rw [hm] at hcell HNX
        clear hm
        rcases (show q = 0 ∨ 1 ≤ q by omega) with rfl | hq1
        · go_wp2
          go_roundw
          case rel => exact ⟨.inr ⟨rfl, by rw [show marks L (k + 1) k (k + 1) = marks L (k + 1) k (k - 0 + 1) from rfl, HNX.out]; exact HO.out⟩, HBW.out⟩
          case measure => simp [intOf]
        · go_wp2
          go_roundw
          case rel => exact ⟨.inl ⟨q - 1, by omega, by rw [show ((q - 1 : Nat) : Int) = (q : Int) - 1 by omega], by rw [show k - (q - 1) = k - q + 1 by omega, HNX.out]; exact HO.out⟩, HBW.out⟩
          case measure => simp [intOf]
      | true =>
        rw [hm] at hcell HNX
        clear hm
        have hgc := below_cell HBL.out HGC0.out
        obtain ⟨b, off, pa, pn, pc, rfl, hpc0, hpr, hpn⟩ := HGL0.out.pars (i := q) (by omega)
        have hpc := below_cell HBL.out hpc0
        have HPR := Lib.hid hpr
        have HPN := Lib.hid hpn
        have hqN : (q : Int) < (N : Int) := by omega
        have HPL : Hid (∀ p ∈ parsOf L q, 0 ≤ p ∧ p < (q : Int)) := Lib.hid fun p hp => by have := pars_lt HGL.out hp; omega
        have hmxp := hpr.max
        clear hpr hpn hpc0
        obtain ⟨wo, hwo⟩ : ∃ wo : World, wo = wr := ⟨_, rfl⟩
        subst hwo
        go_wp2
        clear hcell hgc hpc
        go_loopw [33] (fun jv wr => ∃ j : Nat, j ≤ pn ∧ jv = .int .i64 j ∧ OwnB wr g (.slice (some ⟨g, 0, none⟩) (k + 1) (k + 1)) (markP (marks L (k + 1) k (k - q)) ((parsOf L q).take j)) ∧ Below g wo wr) (fun jv _ => pn - (intOf jv).toNat)
        case atStart => exact ⟨0, by omega, rfl, HO.out, Below.refl _ _⟩
        case round =>
          obtain ⟨j, hj, rfl, hoj, hbj⟩ := hrel
          have HOJ := Lib.hid hoj
          have HBJ := Lib.hid hbj
          clear hoj hbj
          by_cases hlt : j < pn
          · have hjl : j < (parsOf L q).length := by rw [← HPN.out]; exact hlt
            have hbj : Below w.heap.size w wr := HBL.out.trans (by rw [← HGG.out]; exact HBJ.out)
            obtain ⟨pb, po, rfl, h1⟩ := (HPR.out.below hbj).cell j hlt
            clear hbj
            have hp := HPL.out _ (getD_mem (d := 0) hjl)
            have HTK := Lib.hid (markP_take (marks L (k + 1) k (k - q)) (parsOf L q) hjl)
            generalize hpe : (parsOf L q).getD j 0 = p at *
            clear hpe
            obtain ⟨p, rfl⟩ := Int.eq_ofNat_of_zero_le hp.1
            rw [Int.toNat_natCast] at HTK
            have hpk : (p : Int) < ((k + 1 : Nat) : Int) := by omega
            have hml : (markP (marks L (k + 1) k (k - q)) ((parsOf L q).take j)).length = k + 1 := by rw [markP_len]; exact HQM.out
            have HML := Lib.hid hml
            clear hml
            go_wp2_with (refine store_bool rfl _ _ rfl g p rfl true rfl (by kernel_rfl) g (k + 1) (k + 1) _ HOJ.out HML.out.symm (by rw [HML.out]; omega) ?_)
            intro w5 ho5 hg5
            have HO5 := Lib.hid ho5
            have HB5 := Lib.hid (HBJ.out.trans (Row.grown HOJ.out hg5 (by have := HBJ.out.size; have := HBW.out.size; have := HGG.out; omega)))
            clear ho5 hg5 h1
            go_wp2
            go_roundw
            case rel => exact ⟨j + 1, by omega, by go_num, by rw [HTK.out]; exact HO5.out, HB5.out⟩
            case measure => simp [intOf]; omega
          · have HTA : Hid ((parsOf L q).take j = parsOf L q) := Lib.hid (List.take_of_length_le (by rw [← HPN.out]; omega))
            rcases (show q = 0 ∨ 1 ≤ q by omega) with rfl | hq1
            · go_wp2
              go_roundw
              case rel => exact ⟨.inr ⟨rfl, by
                have := HOJ.out
                rw [HTA.out] at this
                rw [show marks L (k + 1) k (k + 1) = marks L (k + 1) k (k - 0 + 1) from rfl, HNX.out]; exact this⟩, HBW.out.trans HBJ.out⟩
              case measure => simp [intOf]
            · go_wp2
              go_roundw
              case rel => exact ⟨.inl ⟨q - 1, by omega, by rw [show ((q - 1 : Nat) : Int) = (q : Int) - 1 by omega], by
                have := HOJ.out
                rw [HTA.out] at this
                rw [show k - (q - 1) = k - q + 1 by omega, HNX.out]; exact this⟩, HBW.out.trans HBJ.out⟩
              case measure => simp [intOf]
    · have HO := Lib.hid ho
      have HBW := Lib.hid hbw
      clear ho hbw
      go_wp2
      go_ret
      exact ⟨g, rfl, by rw [← HGG.out]; exact HO.out, by rw [← HGG.out]; exact HBW.out⟩

end Go.Proofs.Ytoakelgjofdmpaa
