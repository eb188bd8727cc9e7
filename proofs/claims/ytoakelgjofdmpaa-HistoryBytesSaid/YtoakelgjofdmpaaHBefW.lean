/-
  Graph.Before and the reference's Before.
-/
import Derived.Test.YtoakelgjofdmpaaHAncW
namespace Go.Proofs.Ytoakelgjofdmpaa
open Go.RowKit
set_option linter.unusedVariables false
set_option linter.unusedSimpArgs false

theorem ancB_ge {L : List Cm} (hL : GoodL L) {a b : Nat} (h : b ≤ a) : ancB L a b = ((a : Int) == (b : Int)) := by
  by_cases hab : a = b
  · subst hab; rw [ancB_refl hL]; simp
  · rw [ancB_gt hL (by omega)]; symm; simp; omega

set_option maxRecDepth 100000 in
set_option maxHeartbeats 2000000 in
theorem before_ok (T : Nat → Prop) (bg : Nat) (L : List Cm) (a b : Nat) (w : World) (hg : RG w T bg L) (hL : GoodL L) (ha : a < L.length) (hb : b < L.length) :
    Calls Try.prog 19 #[.pointer (some ⟨bg, 0, none⟩), .int .i64 a, .int .i64 b] w fun e w' => e = .returned (.tuple #[.bool (ancB L a b), .nilIface]) ∧ Below w.heap.size w w' := by
  obtain ⟨ga, gc, hgc0, hgl0⟩ := hg.ex
  have HGC0 := Lib.hid hgc0
  have HANC := Lib.hid (ancestors_any T bg L b w hg hL hb)
  have ha1 : hasB L.length (a : Int) = true := by simp [hasB]; omega
  have hb1 : hasB L.length (b : Int) = true := by simp [hasB]; omega
  have HA1 := Lib.hid ha1
  have HB1 := Lib.hid hb1
  by_cases hab : b ≤ a
  · have HE := Lib.hid (ancB_ge hL hab)
    have hab2 : (b : Int) ≤ (a : Int) := by omega
    clear hg hL ha hb ha1 hb1 hgc0 hgl0 hab
    go_enter Try.func19, Try.ntmps19
    go_wp2_with fail
    refine (has_any bg ga L.length gc a w HGC0.out).mono ?_
    rw [HA1.out]
    rintro e w2 ⟨rfl, rfl⟩
    go_wp2_with fail
    refine (has_any bg ga L.length gc b w HGC0.out).mono ?_
    rw [HB1.out]
    rintro e w2 ⟨rfl, rfl⟩
    go_wp2
    go_ret2
    exact ⟨ret_eq (by rw [HE.out]; simp), Below.refl _ _⟩
  · have HE : Hid ((marks L (b + 1) b (b + 1)).getD a false = ancB L a b) := Lib.hid rfl
    have hab2 : decide ((b : Int) ≤ (a : Int)) = false := by simp; omega
    have hab3 : (a : Int) < ((b + 1 : Nat) : Int) := by omega
    have hab4 : (a : Int) < (b : Int) + 1 := by omega
    have HAB := Lib.hid hab
    clear hg hL ha hb ha1 hb1 hgc0 hgl0 hab
    go_enter Try.func19, Try.ntmps19
    go_wp2_with fail
    refine (has_any bg ga L.length gc a w HGC0.out).mono ?_
    rw [HA1.out]
    rintro e w2 ⟨rfl, rfl⟩
    go_wp2_with fail
    refine (has_any bg ga L.length gc b w HGC0.out).mono ?_
    rw [HB1.out]
    rintro e w2 ⟨rfl, rfl⟩
    go_wp2_with fail
    refine HANC.out.mono ?_
    rintro e w3 ⟨g, rfl, ho, hb3⟩
    have hc := OwnB.cell ho (j := a) (by rw [marks_len]; have := HAB.out; omega)
    rw [HE.out] at hc
    have HB3 := Lib.hid hb3
    clear ho hb3
    generalize hz : ancB L a b = z at *
    have HZ := Lib.hid hz
    clear hz
    go_wp2
    go_ret2
    exact ⟨ret_eq (by rw [HZ.out]; rfl), HB3.out⟩

set_option maxRecDepth 100000 in
set_option maxHeartbeats 2000000 in
theorem before_range (T : Nat → Prop) (bg : Nat) (L : List Cm) (a b : Int) (w : World) (hg : RG w T bg L) (hab : hasB L.length a = false ∨ hasB L.length b = false) :
    Calls Try.prog 19 #[.pointer (some ⟨bg, 0, none⟩), .int .i64 a, .int .i64 b] w fun e w' => e = .returned (.tuple #[.bool false, .iface 63 (.int .i64 1)]) ∧ Below w.heap.size w w' := by
  obtain ⟨ga, gc, hgc0, hgl0⟩ := hg.ex
  have HGC0 := Lib.hid hgc0
  have HAB := Lib.hid hab
  cases ha : hasB L.length a with
  | false =>
    have HA1 := Lib.hid ha
    clear hg hab hgc0 hgl0 ha
    go_enter Try.func19, Try.ntmps19
    go_wp2_with fail
    refine (has_any bg ga L.length gc a w HGC0.out).mono ?_
    rw [HA1.out]
    rintro e w2 ⟨rfl, rfl⟩
    go_wp2
    go_ret2
    exact ⟨rfl, Below.refl _ _⟩
  | true =>
    have HA1 := Lib.hid ha
    have HB1 : Hid (hasB L.length b = false) := Lib.hid (by rcases hab with h | h; · rw [ha] at h; cases h
                                                            · exact h)
    clear hg hab hgc0 hgl0 ha
    go_enter Try.func19, Try.ntmps19
    go_wp2_with fail
    refine (has_any bg ga L.length gc a w HGC0.out).mono ?_
    rw [HA1.out]
    rintro e w2 ⟨rfl, rfl⟩
    go_wp2_with fail
    refine (has_any bg ga L.length gc b w HGC0.out).mono ?_
    rw [HB1.out]
    rintro e w2 ⟨rfl, rfl⟩
    go_wp2
    go_ret2
    exact ⟨rfl, Below.refl _ _⟩

theorem markP_keep (m : List Bool) (ps : List Int) (j : Nat) (hj : j < m.length) (h0 : ∀ p ∈ ps, 0 ≤ p) (h : m.getD j false = true) : (markP m ps).getD j false = true := (markP_get ps m j hj h0).2 (.inl h)

set_option maxRecDepth 100000 in
set_option maxHeartbeats 4000000 in
theorem rbefore_any (T : Nat → Prop) (al : Option Addr) (N cl : Nat) (L : List Cm) (a b : Nat) (w : World) (hl : RdC w T al N L) (hL : GoodL L) (hN : N ≤ 65536) (ha : a < N) (hb : b < N) :
    Calls Try.prog 34 #[.slice al N cl, .int .i64 a, .int .i64 b] w fun e w' => e = .returned (.bool (ancB L a b)) ∧ Below w.heap.size w w' := by
  by_cases hab : b ≤ a
  · have HE := Lib.hid (ancB_ge hL hab)
    rcases (show a = b ∨ b < a by omega) with rfl | hlt
    · clear hl hL hab
      go_enter Try.func34, Try.ntmps34
      go_wp2
      go_ret
      exact ⟨ret_eq (by rw [HE.out]; simp), Below.refl _ _⟩
    · have h1 : ((a : Int) == (b : Int)) = false := by simp; omega
      have h2 : (b : Int) < (a : Int) := by omega
      have HE2 : Hid (ancB L a b = false) := Lib.hid (by rw [HE.out]; simp; omega)
      clear hl hL hab hlt HE
      go_enter Try.func34, Try.ntmps34
      go_wp2
      go_ret
      exact ⟨ret_eq (by rw [HE2.out]; rfl), Below.refl _ _⟩
  · have HL := Lib.hid hl
    have HGL := Lib.hid hL
    have hnn : (N : Int) ≤ 65536 := by omega
    have HNN := Lib.hid hN
    have HBN := Lib.hid hb
    have hbN : (b : Int) < (N : Int) := by omega
    have haN : (a : Int) < (N : Int) := by omega
    have hba : (a : Int) < (b : Int) := by omega
    have h1 : ((a : Int) == (b : Int)) = false := by simp; omega
    have h2 : decide ((b : Int) < (a : Int)) = false := by simp; omega
    have HAB := Lib.hid hab
    clear hl hL hab hN
    go_enter Try.func34, Try.ntmps34
    go_wp2_with (at_make; refine make_bools EB rfl _ _ rfl w.heap.size _ _ _ _ N rfl rfl rfl rfl (by have := HNN.out; omega) (Nat.le_refl _) ?_)
    intro w1 ho1 hg1
    have HO1 := Lib.hid ho1
    have HB1 := Lib.hid (grown_below' hg1 (base := w.heap.size) (Nat.le_refl _))
    clear ho1 hg1
    obtain ⟨g, hgg⟩ : ∃ g, g = w.heap.size := ⟨_, rfl⟩
    rw [← hgg] at HO1 ⊢
    have HGG := Lib.hid hgg
    clear hgg
    have HLR : Hid ((List.replicate N false).length = N) := Lib.hid List.length_replicate
    go_wp2_with (refine store_bool rfl _ _ rfl g b rfl true rfl (by kernel_rfl) g N N (List.replicate N false) HO1.out HLR.out.symm (by rw [HLR.out]; have := HBN.out; omega) ?_)
    intro w2 ho2 hg2
    have HO2 : Hid (OwnB w2 g (.slice (some ⟨g, 0, none⟩) N N) (marks L N b 0)) := Lib.hid ho2
    have HB2 : Hid (Below g w w2) := Lib.hid ((by rw [HGG.out]; exact HB1.out : Below g w w1).trans (Row.grown HO1.out hg2 (by have := HB1.out.size; have := HGG.out; omega)))
    clear ho2 hg2
    go_wp2
    go_loopw [8] (fun iv wr => (∃ q : Nat, q ≤ b ∧ a ≤ q ∧ iv = .int .i64 q ∧ OwnB wr g (.slice (some ⟨g, 0, none⟩) N N) (marks L N b (b - q))) ∧ Below g w wr) (fun iv _ => (intOf iv).toNat)
    case atStart => exact ⟨⟨b, Nat.le_refl _, by omega, rfl, by rw [Nat.sub_self]; exact HO2.out⟩, HB2.out⟩
    case round =>
      obtain ⟨⟨q, hq, haq, rfl, ho⟩, hbw⟩ := hrel
      have HO := Lib.hid ho
      have HBW := Lib.hid hbw
      have HQM : Hid ((marks L N b (b - q)).length = N) := Lib.hid (marks_len _ _ _ _)
      have HBL : Hid (Below w.heap.size w wr) := Lib.hid (by rw [← HGG.out]; exact hbw)
      clear ho hbw
      by_cases hqa : a < q
      · have HNX : Hid (marks L N b (b - q + 1) = if (marks L N b (b - q)).getD q false then markP (marks L N b (b - q)) (parsOf L q) else marks L N b (b - q)) := Lib.hid (by
          show markStep L (marks L N b (b - q)) (b - (b - q)) = _
          rw [show b - (b - q) = q by omega]; rfl)
        have hqN : (q : Int) < (N : Int) := by omega
        have hq1 : 1 ≤ q := by omega
        obtain ⟨bb, off, pa, pn, pc, rfl, hpc0, hpr, hpn⟩ := HL.out.pars (i := q) (by omega)
        have HPC0 := Lib.hid hpc0
        have HPR := Lib.hid hpr
        have HPN := Lib.hid hpn
        have HPL : Hid (∀ p ∈ parsOf L q, 0 ≤ p ∧ p < (q : Int)) := Lib.hid fun p hp => by have := pars_lt HGL.out hp; omega
        have hmxp := hpr.max
        clear hpc0 hpr hpn
        obtain ⟨wo, hwo⟩ : ∃ wo : World, wo = wr := ⟨_, rfl⟩
        subst hwo
        cases hm : (marks L N b (b - q)).getD q false with
        | false =>
          rw [hm] at HNX
          have HM := Lib.hid hm
          clear hm
          go_wp2
          go_loopw [9] (fun jv wr => jv = .int .i64 0 ∧ wr = wo) (fun _ _ => 0)
          case atStart => exact ⟨rfl, rfl⟩
          case round =>
            obtain ⟨rfl, rfl⟩ := hrel
            have hcell := HO.out.cell (j := q) (by rw [HQM.out]; omega)
            rw [HM.out] at hcell
            go_wp2
            go_roundw
            case rel => exact ⟨⟨q - 1, by omega, by omega, by rw [show ((q - 1 : Nat) : Int) = (q : Int) - 1 by omega], by rw [show b - (q - 1) = b - q + 1 by omega, HNX.out]; exact HO.out⟩, HBW.out⟩
            case measure => simp [intOf]; omega
        | true =>
          rw [hm] at HNX
          have HM := Lib.hid hm
          clear hm
          go_wp2
          go_loopw [9] (fun jv wr => ∃ j : Nat, j ≤ pn ∧ jv = .int .i64 j ∧ OwnB wr g (.slice (some ⟨g, 0, none⟩) N N) (markP (marks L N b (b - q)) ((parsOf L q).take j)) ∧ Below g wo wr) (fun jv _ => pn - (intOf jv).toNat)
          case atStart => exact ⟨0, by omega, rfl, HO.out, Below.refl _ _⟩
          case round =>
            obtain ⟨j, hj, rfl, hoj, hbj⟩ := hrel
            have HOJ := Lib.hid hoj
            have HBJ := Lib.hid hbj
            have HBLJ : Hid (Below w.heap.size w wr) := Lib.hid (HBL.out.trans (by rw [← HGG.out]; exact hbj))
            have HML : Hid ((markP (marks L N b (b - q)) ((parsOf L q).take j)).length = N) := Lib.hid (by rw [markP_len]; exact HQM.out)
            have hcell := HOJ.out.cell (j := q) (by rw [HML.out]; omega)
            rw [markP_keep _ _ _ (by rw [HQM.out]; omega) (fun p hp => (HPL.out p (List.mem_of_mem_take hp)).1) HM.out] at hcell
            have hpc := below_cell HBLJ.out HPC0.out
            clear hoj hbj
            by_cases hlt : j < pn
            · have hjl : j < (parsOf L q).length := by rw [← HPN.out]; exact hlt
              obtain ⟨pb, po, rfl, h1⟩ := (HPR.out.below HBLJ.out).cell j hlt
              have hp := HPL.out _ (getD_mem (d := 0) hjl)
              have HTK := Lib.hid (markP_take (marks L N b (b - q)) (parsOf L q) hjl)
              generalize hpe : (parsOf L q).getD j 0 = p at *
              clear hpe
              obtain ⟨p, rfl⟩ := Int.eq_ofNat_of_zero_le hp.1
              rw [Int.toNat_natCast] at HTK
              have hpk : (p : Int) < (N : Int) := by omega
              go_wp2_with (refine store_bool rfl _ _ rfl g p rfl true rfl (by kernel_rfl) g N N _ HOJ.out HML.out.symm (by rw [HML.out]; omega) ?_)
              intro w5 ho5 hg5
              have HO5 := Lib.hid ho5
              have HB5 := Lib.hid (HBJ.out.trans (Row.grown HOJ.out hg5 (by have := HBJ.out.size; have := HBW.out.size; have := HGG.out; omega)))
              clear ho5 hg5 h1 hpc hcell
              go_wp2
              go_roundw
              case rel => exact ⟨j + 1, by omega, by go_num, by rw [HTK.out]; exact HO5.out, HB5.out⟩
              case measure => simp [intOf]; omega
            · have HTA : Hid ((parsOf L q).take j = parsOf L q) := Lib.hid (List.take_of_length_le (by rw [← HPN.out]; omega))
              go_wp2
              go_roundw
              case rel => exact ⟨⟨q - 1, by omega, by omega, by rw [show ((q - 1 : Nat) : Int) = (q : Int) - 1 by omega], by
                have := HOJ.out
                rw [HTA.out] at this
                rw [show b - (q - 1) = b - q + 1 by omega, HNX.out]; exact this⟩, HBW.out.trans HBJ.out⟩
              case measure => simp [intOf]; omega
      · obtain rfl : q = a := by omega
        have hcell := HO.out.cell (j := q) (by rw [HQM.out]; omega)
        rw [marks_eq HGL.out HBN.out (by omega) (by omega) (by omega)] at hcell
        generalize hz : ancB L q b = z at *
        have HZ := Lib.hid hz
        clear hz
        go_wp2
        go_ret
        exact ⟨ret_eq (by rw [HZ.out]; rfl), HBL.out⟩

end Go.Proofs.Ytoakelgjofdmpaa
