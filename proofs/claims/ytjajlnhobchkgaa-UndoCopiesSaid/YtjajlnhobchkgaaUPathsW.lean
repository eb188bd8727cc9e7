/-
  the walk of UndoPaths.
-/
import Derived.Test.YtjajlnhobchkgaaUPath
import Derived.Test.YtjajlnhobchkgaaSmall
namespace Go.Proofs.Ytjajlnhobchkgaa
open Go.RowKit
set_option linter.unusedVariables false
set_option linter.unusedSimpArgs false

/-- an operation whose guard is met, as one without a guard -/
theorem wpList_unguard {P : Program} {w : World} {ops : Array Oper} {rest : List Oper} {o : Oper} {a : Act} {Q : Exit → Act → World → Prop} (hw : Region.wanted o (yielded ops a.tmps) = true) (h : wpList P ops Q ({ o with guard := none } :: rest) a w) : wpList P ops Q (o :: rest) a w := by
  unfold wpList at h ⊢
  rw [if_pos hw]
  rw [if_pos (by simp [Region.wanted])] at h
  exact h

theorem IsPath.le {l : List Nd} {v : Nat} {us : List Nat} (h : IsPath l v us) : ∀ u ∈ us, u ≤ v := by
  induction h with
  | root => intro u hu; simp at hu; omega
  | step _ _ h3 _ ih =>
    intro u hu
    rcases List.mem_append.1 hu with hu | hu
    · have := ih u hu; omega
    · simp at hu; omega
theorem ints_wf {us : List Nat} {v : Nat} (h : ∀ u ∈ us, u ≤ v) (hv : v ≤ 1000) : ∀ x ∈ ints us, (Lit.int .i64 x).wf = true := by
  intro x hx
  obtain ⟨u, hu, rfl⟩ := List.mem_map.1 hx
  have := h u hu
  exact WalkArith.wf_i64 (by omega)

theorem Own.rd' {w : World} {B e a c us} (h : Own w B e .i64 (.slice a us.length c) (ints us)) (hwf : ∀ x ∈ ints us, (Lit.int .i64 x).wf = true) : Rd w .i64 a us.length (ints us) := by
  have h2 : Own w B e .i64 (.slice a us.length c) (ints us) := h
  exact h2.rd hwf

theorem after {B : Nat} {a w w' : World} (h : Below B a w) (hb : Below w.heap.size w w') (hB : B ≤ w.heap.size) : Below B a w' := h.trans (hb.mono hB)

set_option maxRecDepth 100000 in
set_option maxHeartbeats 8000000 in
theorem walk_UndoPaths (a : Option Addr) (len cap : Nat) (L : List Ac) (w : World) (hr : RdA w a len L) :
    Calls Try.prog 5 #[.slice a len cap] w fun e w' => e = .returned (.bool true) ∧ Below w.heap.size w w' := by
  have HR := Lib.hid hr
  have hp : ∀ (p : Addr) (w : World), (binOp .eql 23 (.pointer (some p)) (.pointer none)).run Try.prog w = .ok (.bool false) w := fun p w => by kernel_rfl
  have hnn : ∀ w, (binOp .neq 28 .nilIface .nilIface).run Try.prog w = .ok (.bool false) w := fun w => by kernel_rfl
  clear hr
  by_cases h1 : 100 < len
  · have h1' : (100 : Int) < (len : Int) := by omega
    go_enter Try.func5, Try.ntmps5
    go_wp2
    go_ret
    exact ⟨rfl, Below.refl _ _⟩
  have h1' : (len : Int) ≤ 100 := by omega
  have H1 : Hid (len ≤ 150) := Lib.hid (by omega)
  clear h1
  go_enter Try.func5, Try.ntmps5
  go_wp2_with fail
  refine (begun_any a len cap L w HR.out H1.out).mono ?_
  rintro e w2 ⟨bt, rfl, S, l0, now0, hti0, hwf0, _, hnow0, hlen0, hS0, hb2⟩
  obtain ⟨N, hN⟩ : ∃ N, N = l0.length := ⟨_, rfl⟩
  have HTI0 := Lib.hid hti0
  have HWF0 := Lib.hid hwf0
  have HSL := Lib.hid hS0
  have HB2 := Lib.hid hb2
  have HN0 := Lib.hid hN
  have HNL : Hid (0 < N ∧ N ≤ 151) := Lib.hid (by omega)
  have hN9 : (N : Int) ≤ 151 := by omega
  clear hti0 hwf0 hS0 hb2 hnow0 hlen0 hN
  go_wp2
  go_loopw [4] (fun iv wr => ∃ (k now : Nat) (l : List Nd), iv = .int .i64 k ∧ 1 ≤ k ∧ k ≤ N ∧ l.length = N ∧ WfT l ∧ TI wr S bt l now ∧ Below w.heap.size w wr) (fun iv _ => N - (intOf iv).toNat)
  case atStart => exact ⟨1, now0, l0, rfl, Nat.le_refl _, HNL.out.1, HN0.out.symm, HWF0.out, HTI0.out, HB2.out⟩
  case round =>
    obtain ⟨k, now, l, rfl, hk1, hkN, hl, hwf, hti, hbel⟩ := hrel
    have HTI := Lib.hid hti
    have HWF := Lib.hid hwf
    have HBEL := Lib.hid hbel
    have HL := Lib.hid hl
    have HK1 := Lib.hid hk1
    have hk9 : (k : Int) ≤ 151 := by omega
    have HLEN := Lib.hid (len_ti S bt l now wr hti (by have := HNL.out; omega))
    rw [hl] at HLEN
    by_cases hlt : k < N
    · have HKN := Lib.hid hlt
      obtain ⟨x, hx⟩ : ∃ x, l[k]? = some x := ⟨_, List.getElem?_eq_getElem (by omega)⟩
      obtain ⟨p, y, e1, e2, e3, _⟩ := hwf.par k x hx hk1
      obtain ⟨us2, hp2⟩ := path_ex hwf p (WfT.lt e3)
      have hp1 := IsPath.step hx e1 e2 hp2
      have HX := Lib.hid hx
      have HY := Lib.hid e3
      have HE1 := Lib.hid e1
      have HE2 := Lib.hid e2
      have HP1 := Lib.hid hp1
      have HP2 := Lib.hid hp2
      have HPAR := Lib.hid (parent_ok S bt l now k wr hti x hx (by have := HNL.out; omega))
      rw [e1] at HPAR
      have hlt' : (k : Int) < (N : Int) := by omega
      have hpk : decide (k ≤ p) = false := by simpa using e2
      have hp0 : (0 : Int) ≤ (p : Int) := by omega
      have HMEM : Hid ((k : Int) ∈ y.kids) := Lib.hid (((hwf.kids p y e3).2 k).2 ⟨k, x, rfl, hx, e1⟩)
      have HSORT := Lib.hid (hwf.kids p y e3).1
      have HKWF : Hid (∀ z ∈ y.kids, (Lit.int .i64 z).wf = true) := Lib.hid (fun z hz => by
        obtain ⟨i, q, rfl, hq, _⟩ := ((hwf.kids p y e3).2 z).1 hz
        have := WfT.lt hq
        exact WalkArith.wf_i64 (by omega))
      have HKL : Hid (y.kids.length ≤ 151) := Lib.hid (by have := hwf.kids_len e3; omega)
      clear hti hwf hbel hl hk1 hkN hlt hx e1 e2 e3 hp1 hp2
      go_wp2_with fail
      refine HLEN.out.mono ?_
      rintro e w3 ⟨rfl, rfl⟩
      go_wp2_with fail
      refine HPAR.out.mono ?_
      rintro e w3 ⟨rfl, rfl⟩
      go_wp2_with fail
      refine (path_ok S bt l now k wr HTI.out HWF.out _ HP1.out (by rw [HL.out]; exact HKN.out) (by have := HNL.out; have := HL.out; omega)).mono ?_
      rintro e w3 ⟨a3, c3, rfl, ho3, hb3⟩
      generalize (us2 ++ [k]).length = M1 at ho3 ⊢
      have HO3 := Lib.hid ho3
      have HB3 := Lib.hid hb3
      clear ho3 hb3
      go_wp2_with fail
      refine (path_ok S bt l now p w3 (HTI.out.below HB3.out) HWF.out _ HP2.out (WfT.lt HY.out) (by have := HNL.out; have := HL.out; omega)).mono ?_
      rintro e w4 ⟨a4, c4, rfl, ho4, hb4⟩
      generalize hM2 : us2.length = M2 at ho4 ⊢
      have HM2 := Lib.hid hM2
      clear hM2
      have HO4 := Lib.hid ho4
      have HB4 := Lib.hid hb4
      have HT4 : Hid (TI w4 S bt l now) := Lib.hid ((HTI.out.below HB3.out).below hb4)
      clear ho4 hb4
      go_wp2_with fail
      refine (children_ok S bt l now p w4 HT4.out HWF.out y HY.out (by have := HNL.out; have := HL.out; omega)).mono ?_
      rintro e w5 ⟨a5, c5, rfl, ho5, hb5⟩
      generalize hM5 : y.kids.length = M5 at ho5 ⊢
      have HM5 := Lib.hid hM5
      clear hM5
      have HT5 : Hid (TI w5 S bt l now) := Lib.hid (HT4.out.below hb5)
      have HBW5 : Hid (Below w.heap.size w w5) := Lib.hid (after (after (after HBEL.out HB3.out HBEL.out.size) HB4.out (Nat.le_trans HBEL.out.size HB3.out.size)) hb5 (Nat.le_trans HBEL.out.size (Nat.le_trans HB3.out.size HB4.out.size)))
      have HR1 : Hid (Rd w5 .i64 a3 M1 (ints us2 ++ [(k : Int)])) := Lib.hid (by
        have h := ((HO3.out.below HB4.out).below hb5).rd (ints_wf HP1.out.le (by have := HKN.out; have := HNL.out; omega))
        rwa [show ints (us2 ++ [k]) = ints us2 ++ [(k : Int)] by simp] at h)
      have HR2 : Hid (Rd w5 .i64 a4 M2 (ints us2)) := Lib.hid ((HO4.out.below hb5).rd (ints_wf HP2.out.le (by have := HE2.out; have := HKN.out; have := HNL.out; omega)))
      have HRK : Hid (Rd w5 .i64 a5 M5 y.kids) := Lib.hid (ho5.rd HKWF.out)
      have HK9 : Hid ((Lit.int .i64 (k : Int)).wf = true) := Lib.hid (WalkArith.wf_i64 (by omega))
      have HL2W : Hid (∀ x ∈ ints us2 ++ [(k : Int)], (Lit.int .i64 x).wf = true) := Lib.hid HR1.out.wf
      have HL2 : Hid ((ints us2).length = M2) := Lib.hid (by rw [List.length_map, HM2.out])
      have HM29 : Hid (M2 ≤ 1000) := Lib.hid (by
        have h := (HP2.out.facts HWF.out).2.2.2.2 y HY.out
        have h2 := HWF.out.dep p y HY.out
        have := HM2.out; have := HE2.out; have := HKN.out; have := HNL.out
        omega)
      clear ho5 hb5 HO3 HO4 HB3 HB4 HT4
      generalize ints us2 = L2 at *
      go_wp2_with (first
        | (at_builtin; go_loud (refine wpList_unguard (by rfl) ?_); go_loud (refine app_rd (.tmp 78) (.tmp 79) EI rfl rfl w5.heap.size _ [] rfl (Own.lits w5 .i64 _ [] _ (Nat.le_refl _) (by simp)) _ _ _ L2 rfl (HR2.out.below (below_alloc _ _)) (by rw [HL2.out]; have := HM29.out; simp; omega) (by omega) (by simp) ?_); intro a7 c7 w7 ho7 hg7; go_loud (have HB7 := Lib.hid ((Below.alloc (Below.refl w5.heap.size w5) (Nat.le_refl _) _).trans (grown_below (Own.lits w5 .i64 3 [] w5.heap.size (Nat.le_refl _) (by simp)) hg7 (by simp)))); go_loud (rw [show (([] : List Int) ++ L2).length = M2 from HL2.out] at ho7 ⊢); have HO7 : Hid (Own w7 w5.heap.size 3 .i64 (.slice a7 M2 c7) L2) := Lib.hid ho7; clear ho7 hg7)
        | (at_builtin; refine wpList_unguard (by rfl) ?_; refine app_rd (.tmp 80) (.tmp 82) EI rfl rfl w5.heap.size _ L2 rfl (HO7.out.alloc _) _ _ _ [(k : Int)] rfl (Rd.one w7 .i64 3 k HK9.out) (by rw [HL2.out]; have := HM29.out; simp; omega) (by omega) (by have := HB7.out.size; simp; omega) ?_; intro a8 c8 w8 ho8 hg8; have HB8 := Lib.hid ((HB7.out.alloc HB7.out.size _).trans (grown_below (HO7.out.alloc _) hg8 (by have := HB7.out.size; simp; omega))); rw [show (L2 ++ [(k : Int)]).length = M2 + 1 by rw [List.length_append, HL2.out]; rfl] at ho8 ⊢; have HO8 := Lib.hid ho8; clear ho8 hg8)
        | fail)
      have HII := Lib.hid (ints_any a3 a8 M1 (M2 + 1) c3 c8 _ _ w8 (HR1.out.below HB8.out) (HO8.out.rd HL2W.out))
      rw [show decide (L2 ++ [(k : Int)] = L2 ++ [(k : Int)]) = true by simp] at HII
      go_wp2_with fail
      refine HII.out.mono ?_
      rintro e w9 ⟨rfl, hb9⟩
      have HT9 : Hid (TI w9 S bt l now) := Lib.hid ((HT5.out.below HB8.out).below hb9)
      have HB9 : Hid (Below w.heap.size w w9) := Lib.hid (after (after HBW5.out HB8.out HBW5.out.size) hb9 (Nat.le_trans HBW5.out.size HB8.out.size))
      have HRK9 : Hid (Rd w9 .i64 a5 M5 y.kids) := Lib.hid ((HRK.out.below HB8.out).below hb9)
      clear hb9 HII HO7 HO8 HB7 HB8 HR1 HR2 HT5 HBW5 HRK
      have hkl : k < l.length := by rw [HL.out]; exact HKN.out
      obtain ⟨g1, g2⟩ := gotoP_wf k HWF.out k hkl
      obtain ⟨q, hq, _⟩ := gotoP_at k HWF.out k hkl k x HX.out
      rcases (gotoP_lead k HWF.out k hkl (Nat.le_refl _)).inv with h0 | ⟨p', x', y', i1, i2, i3, i4, i5, i6⟩
      · have := HK1.out; omega
      have hxx : x'.parent = x.parent := by rw [hq] at i1; cases i1; rfl
      have hpp : p' = p := Int.ofNat.inj (i2.symm.trans (hxx.trans HE1.out))
      subst hpp
      have HGO := Lib.hid (goto_ok S bt l now k w9 HT9.out HWF.out (by have := HNL.out; have := HL.out; omega) hkl)
      have HL2N : Hid ((gotoP k l k).length = N) := Lib.hid (by rw [g2]; exact HL.out)
      have HW2 := Lib.hid g1
      have HI1 := Lib.hid i1
      have HI2 := Lib.hid i2
      have HI3 := Lib.hid i3
      have HI4 := Lib.hid i4
      clear hkl g1 g2 hq hxx i1 i2 i3 i4 i5 i6
      generalize gotoP k l k = l2 at *
      generalize y.kids = K at *
      go_wp2
      go_loop [13, 89] (fun bv iv => ∃ (i : Nat) (b : Bool), i ≤ M5 ∧ iv = .int .i64 i ∧ bv = .bool b ∧ (b = true ↔ (k : Int) ∈ K.take i)) (fun _ iv => M5 - (intOf iv).toNat)
      case atStart => exact ⟨0, false, by omega, rfl, rfl, by simp⟩
      case round =>
        obtain ⟨i, b, hi, rfl, rfl, hb⟩ := hrel
        by_cases hlt : i < M5
        · obtain ⟨b1, o1, e5, hc⟩ := HRK9.out.cell i hlt
          subst e5
          have hiK : i < K.length := by rw [HM5.out]; exact hlt
          have HSPEC : Hid (∀ b', b' = (b || decide (K.getD i 0 = (k : Int))) → (b' = true ↔ (k : Int) ∈ K.take (i + 1))) := Lib.hid (by
            intro b' hb'
            subst hb'
            have e9 : K.take (i + 1) = K.take i ++ [K.getD i 0] := by
              rw [List.take_add_one, List.getD_eq_getElem?_getD, List.getElem?_eq_getElem hiK]; rfl
            rw [e9, List.mem_append, List.mem_singleton, Bool.or_eq_true, hb, decide_eq_true_iff]
            exact ⟨fun h => h.imp id Eq.symm, fun h => h.imp id Eq.symm⟩)
          have hM9 : (M5 : Int) ≤ 151 := by have := HKL.out; have := HM5.out; omega
          have HLT := Lib.hid hlt
          clear hb hi
          rcases Nat.eq_zero_or_pos i with e | e
          · subst e
            have hlt' : (0 : Int) < (M5 : Int) := by omega
            rw [Nat.add_zero] at hc
            clear hiK
            generalize K.getD 0 0 = z at *
            by_cases hz : z = (k : Int)
            · have HZ : Hid (decide (z = (k : Int)) = true) := Lib.hid (by simpa using hz)
              rw [hz] at hc
              clear hz
              cases b <;> go_wp2 <;> go_round
              all_goals first
                | exact ⟨1, true, HLT.out, rfl, rfl, HSPEC.out true (by rw [HZ.out]; rfl)⟩
                | (have := HLT.out; simp [intOf] <;> omega)
            · have HZ : Hid (decide (z = (k : Int)) = false) := Lib.hid (by simpa using hz)
              have hzb : (z == (k : Int)) = false := by simpa using hz
              clear hz
              cases b <;> go_wp2 <;> go_round
              all_goals first
                | exact ⟨1, _, HLT.out, rfl, rfl, HSPEC.out _ (by rw [HZ.out]; rfl)⟩
                | (have := HLT.out; simp [intOf] <;> omega)
          · obtain ⟨j, rfl⟩ : ∃ j, i = j + 1 := ⟨i - 1, by omega⟩
            obtain ⟨b2, o2, e6, hc2⟩ := HRK9.out.cell j (by omega)
            cases e6
            have hzz := sorted_get HSORT.out (i := j) (j := j + 1) (by omega) hiK
            have hj1 : (j : Int) + 1 < (M5 : Int) := by omega
            have hj2 : (j : Int) < (M5 : Int) := by omega
            have hj0 : (0 : Int) ≤ (j : Int) := by omega
            have hjn : j < M5 := by omega
            clear hiK e
            generalize K.getD (j + 1) 0 = z at *
            generalize K.getD j 0 = z0 at *
            by_cases hz : z = (k : Int)
            · have HZ : Hid (decide (z = (k : Int)) = true) := Lib.hid (by simpa using hz)
              rw [hz] at hc
              have hle : decide ((k : Int) ≤ z0) = false := by simp; omega
              clear hz hzz
              cases b <;> go_wp2 <;> go_round
              all_goals first
                | exact ⟨j + 1 + 1, true, HLT.out, by go_num, rfl, HSPEC.out true (by rw [HZ.out]; rfl)⟩
                | (have := HLT.out; simp [intOf] <;> omega)
            · have HZ : Hid (decide (z = (k : Int)) = false) := Lib.hid (by simpa using hz)
              have hzb : (z == (k : Int)) = false := by simpa using hz
              have hle : decide (z ≤ z0) = false := by simp; omega
              clear hz hzz
              cases b <;> go_wp2 <;> go_round
              all_goals first
                | exact ⟨j + 1 + 1, _, HLT.out, by go_num, rfl, HSPEC.out _ (by rw [HZ.out]; rfl)⟩
                | (have := HLT.out; simp [intOf] <;> omega)
        · obtain rfl : i = M5 := by omega
          have hb1 : b = true := hb.2 (by rw [List.take_of_length_le (by rw [HM5.out]; exact Nat.le_refl _)]; exact HMEM.out)
          subst hb1
          clear hb hi hlt
          go_wp2_with fail
          refine HGO.out.mono ?_
          rintro e w10 ⟨rfl, ht10, hf10⟩
          have HT10 := Lib.hid ht10
          have HF10 := Lib.hid hf10
          clear ht10 hf10
          go_wp2_with fail
          refine (undo_ok S bt l2 k w10 HT10.out x' HI1.out (by have := HNL.out; have := HL2N.out; omega) (by have := HK1.out; omega)).mono ?_
          rintro e w11 ⟨rfl, ht11, hf11⟩
          rw [HI2.out] at ht11
          have HT11 := Lib.hid ht11
          have HF11 := Lib.hid hf11
          clear ht11 hf11
          go_wp2_with fail
          refine (now_ti S bt l2 _ w11 HT11.out (by have := HNL.out; have := HL2N.out; omega)).mono ?_
          rintro e w12 ⟨rfl, rfl⟩
          go_wp2_with fail
          refine (redo_ok S bt l2 _ w11 HT11.out y' HI3.out (by have := HNL.out; have := HL2N.out; omega) (by rw [HI4.out]; omega)).mono ?_
          rintro e w13 ⟨rfl, ht13, hf13⟩
          rw [HI4.out] at ht13
          have HT13 := Lib.hid ht13
          have HF13 := Lib.hid hf13
          clear ht13 hf13
          go_wp2_with fail
          refine (now_ti S bt l2 _ w13 HT13.out (by have := HNL.out; have := HL2N.out; omega)).mono ?_
          rintro e w14 ⟨rfl, rfl⟩
          go_wp2
          go_roundw
          case rel => exact ⟨k + 1, k, l2, by go_num, by omega, HKN.out, HL2N.out, HW2.out, HT13.out, ((HB9.out.trans (HF10.out.below HSL.out HB9.out.size)).trans (HF11.out.below HSL.out (Nat.le_trans HB9.out.size HF10.out.size))).trans (HF13.out.below HSL.out (Nat.le_trans HB9.out.size (Nat.le_trans HF10.out.size HF11.out.size)))⟩
          case measure => have := HKN.out; simp [intOf] <;> omega
    · have hlt' : decide (k < N) = false := by simpa using hlt
      clear hti hwf hbel hl hk1 hkN hlt
      go_wp2_with fail
      refine HLEN.out.mono ?_
      rintro e w3 ⟨rfl, rfl⟩
      go_wp2
      go_ret
      exact ⟨rfl, HBEL.out⟩

end Go.Proofs.Ytjajlnhobchkgaa
