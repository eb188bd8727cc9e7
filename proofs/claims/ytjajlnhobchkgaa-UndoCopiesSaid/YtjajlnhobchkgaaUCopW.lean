/-
  UndoCopies: the walk.
-/
import Derived.Test.YtjajlnhobchkgaaUSTr
import Derived.Test.YtjajlnhobchkgaaUAlike
namespace Go.Proofs.Ytjajlnhobchkgaa
open Go.RowKit
set_option linter.unusedVariables false
set_option linter.unusedSimpArgs false

theorem runA_bd2 {s : Sn} (hs : Inv s.1 s.2) (L : List Ac) {i n m : Nat} (hm : s.1.length ≤ m + 1) (hL : L.length = n) (hmn : m + n ≤ 150) (hi : i ≤ n) : Inv (runA (L.take i) s).1 (runA (L.take i) s).2 ∧ (runA (L.take i) s).1.length ≤ 151 := by
  have h := runA_inv (L.take i) s hs
  refine ⟨h.1, ?_⟩
  have := h.2
  rw [List.length_take] at this
  omega

set_option maxRecDepth 100000 in
set_option maxHeartbeats 2500000 in
theorem walk_UndoCopies (a : Option Addr) (len cap : Nat) (L : List Ac) (a2 : Option Addr) (len2 cap2 : Nat) (L2 : List Ac) (w : World) (hr : RdA w a len L) (hz : len * 24 ≤ 140737488351232) (hr2 : RdA w a2 len2 L2) (hz2 : len2 * 24 ≤ 140737488351232) :
    Calls Try.prog 6 #[.slice a len cap, .slice a2 len2 cap2] w fun e w' => e = .returned (.bool true) ∧ Below w.heap.size w w' := by
  have HR := Lib.hid hr
  have HR2 := Lib.hid hr2
  have hp : ∀ (p : Addr) (w : World), (binOp .eql 23 (.pointer (some p)) (.pointer none)).run Try.prog w = .ok (.bool false) w := fun p w => by kernel_rfl
  have hsum : IntKind.i64.wrap ((len : Int) + (len2 : Int)) = (len : Int) + (len2 : Int) := IntWalk.i64_in _ (by omega)
  clear hr hr2 hz hz2
  by_cases h1 : 150 < len + len2
  · have h1' : decide ((150 : Int) < (len : Int) + (len2 : Int)) = true := decide_eq_true (by omega)
    go_enter Try.func6, Try.ntmps6
    go_wp2
    go_ret
    exact ⟨rfl, Below.refl _ _⟩
  have h1' : decide ((150 : Int) < (len : Int) + (len2 : Int)) = false := decide_eq_false (by omega)
  have hl9 : (len : Int) ≤ 150 := by omega
  have hl29 : (len2 : Int) ≤ 150 := by omega
  have H1 : Hid (len + len2 ≤ 150) := Lib.hid (Nat.not_lt.1 h1)
  clear h1
  go_enter Try.func6, Try.ntmps6
  go_wp2_with fail
  refine (begun_st a len cap L w HR.out (by have := H1.out; omega)).mono ?_
  rintro e w1 ⟨bt, S0, rfl, hti1, hS1, hb1⟩
  have HT1 := Lib.hid hti1.cut
  have HS1 := Lib.hid hS1
  have HB1 := Lib.hid hb1
  clear hti1 hb1 hS1 hsum h1'
  go_wp2_with fail
  refine (rnew_any 1 w1 (by decide)).mono ?_
  rintro e w3 ⟨m, rfl, hrt3, hb3⟩
  have HRT3 := Lib.hid hrt3
  have HB3 := Lib.hid hb3
  obtain ⟨ta, tc, pa, pc, fa, fc, rfl, -, -, -⟩ := hrt3.ex
  clear hrt3 hb3
  go_upto_region 7 with fail
  obtain ⟨mb, hmb⟩ : ∃ mb, mb = w3.heap.size := ⟨_, rfl⟩
  obtain ⟨w4, hw4⟩ : ∃ w4, w4 = w3.alloc (.cells #[.slice ta 1 tc, .slice pa 1 pc, .slice fa 1 fc, .int .i64 0] 36) := ⟨_, rfl⟩
  have HCT : Hid (CT w4 mb (.slice ta 1 tc) (.slice pa 1 pc) (.slice fa 1 fc) 0) := Lib.hid (by rw [hw4, hmb]; exact alloc_ct _ _ _ _ _ _)
  have HST : Hid (ST w w4 mb [(bt, runA L newS)] (.agg #[.slice ta 1 tc, .slice pa 1 pc, .slice fa 1 fc, .int .i64 0]) newS) := Lib.hid (by
    have hb4 : Below w3.heap.size w3 w4 := by rw [hw4]; exact below_alloc _ _
    have s1 := HB1.out.size
    have s3 := HB3.out.size
    have s4 : w4.heap.size = w3.heap.size + 1 := by rw [hw4]; simp
    refine ⟨⟨fun j b => j = 0 ∧ S0 b ∧ b < w1.heap.size, fun b => w1.heap.size ≤ b ∧ b < w3.heap.size, fun i t ht => ?_, HRT3.out.lt.below hb4, fun i j b h1 h2 => h1.1.trans h2.1.symm, fun i b h => ⟨fun e => by omega, by omega, HS1.out b h.2.1⟩, fun e => by omega⟩, by omega, by omega, bthen (bthen HB1.out HB3.out) hb4⟩
    have h0 := (List.getElem?_eq_some_iff.1 ht).1
    simp at h0
    subst h0
    simp at ht
    subst ht
    simpa using (HT1.out.below HB3.out).below hb4)
  rw [← hw4, ← hmb]
  clear hw4 hmb
  go_wp2
  go_loopw [28] (fun iv wr => ∃ (i : Nat) (v0 v1 v2 : Value), iv = .int .i64 i ∧ i ≤ len ∧ ST w wr mb [(bt, runA L newS)] (.agg #[v0, v1, v2, .int .i64 (runA (L.take i) newS).2]) (runA (L.take i) newS) ∧ CT wr mb v0 v1 v2 (runA (L.take i) newS).2) (fun iv _ => len - (intOf iv).toNat)
  case atStart => exact ⟨0, _, _, _, rfl, by omega, HST.out, HCT.out⟩
  case round =>
    obtain ⟨i, v0, v1, v2, rfl, hi, hst, hct⟩ := hrel
    have HST2 := Lib.hid hst
    have HCT2 := Lib.hid hct
    by_cases hlt : i < len
    · obtain ⟨⟨k, d, t⟩, hx⟩ : ∃ x, L[i]? = some x := ⟨_, List.getElem?_eq_getElem (show i < L.length by rw [HR.out.len]; exact hlt)⟩
      have hwf : Hid ((Lit.int .i64 t).wf = true) := Lib.hid (HR.out.wf _ (List.mem_of_getElem? hx)).2.2
      obtain ⟨b, off, rfl, c0, c1, c2⟩ := (HR.out.below hst.bel).cell i _ hx
      simp only at c0 c1 c2
      have hlt2 : (i : Int) < (len : Int) := by omega
      have HLT := Lib.hid hlt
      have HX := Lib.hid (runA_take L newS hx)
      have hi9 : (i : Int) ≤ 150 := by omega
      have HIV := Lib.hid (runA_bd L (i := i) (by rw [HR.out.len]; have := H1.out; omega) (by rw [HR.out.len]; omega))
      generalize runA (L.take i) newS = s at *
      clear hx hst hct
      go_upto_region 10 with fail
      obtain ⟨wq, hwq⟩ : ∃ wq, wq = wr.alloc (.cells #[.int .i64 k, .int .i64 d, .int .i64 t] 39) := ⟨_, rfl⟩
      have HBQ : Hid (Below wr.heap.size wr wq) := Lib.hid (by rw [hwq]; exact below_alloc _ _)
      have ha0 : wq.cell? ⟨wr.heap.size, 0, none⟩ = some (.int .i64 k) := by rw [hwq]; exact acell rfl rfl
      have ha1 : wq.cell? ⟨wr.heap.size, 1, none⟩ = some (.int .i64 d) := by rw [hwq]; exact acell rfl rfl
      have ha2 : wq.cell? ⟨wr.heap.size, 2, none⟩ = some (.int .i64 t) := by rw [hwq]; exact acell rfl rfl
      rw [← hwq]
      have HSTQ := Lib.hid ((HST2.out.below HBQ.out).below (Below.refl _ wq).drew)
      have HCTQ := Lib.hid ((HCT2.out.below HBQ.out).below (Below.refl _ wq).drew)
      have HNEW := Lib.hid (new_any 1 wq.drew)
      obtain ⟨y0, y1, y2, y3, -⟩ := HCT2.out.below HBQ.out
      obtain ⟨d0, d1, d2, d3, -⟩ := HCTQ.out
      have e0 := below_cell (Below.refl wq.heap.size wq).drew ha0
      have e1 := below_cell (Below.refl wq.heap.size wq).drew ha1
      have e2 := below_cell (Below.refl wq.heap.size wq).drew ha2
      have HAC := Lib.hid (And.intro e0 (And.intro e1 e2))
      clear c0 c1 c2 hwq
      go_wp2_with fail
      go_region_law (first
        | (go_simp; go_at_call 12; refine HNEW.out.mono ?_; rintro e w5 ⟨rfl, hf5, hb5⟩; have HF5 := Lib.hid hf5; have HB5 := Lib.hid hb5; obtain ⟨x0, x1, x2, x3, _⟩ := HCTQ.out.below hb5; have g0 := below_cell hb5 HAC.out.1; have g1 := below_cell hb5 HAC.out.2.1; have g2 := below_cell hb5 HAC.out.2.2; clear hf5 hb5)
        | (go_simp; go_at_call 15; refine (HSTQ.out.stepm HB5.out HF5.out HIV.out.1 (by have := HIV.out.2; omega) k d t hwf.out).mono ?_; rintro e w6 ⟨m', bb, rfl, hst6, hct6⟩; obtain ⟨ta6, tc6, pa6, pc6, fa6, fc6, rfl⟩ := hst6.form; have HST6 := Lib.hid hst6; have HCT6 := Lib.hid (hct6 _ _ _ _ HCTQ.out); obtain ⟨z0, z1, z2, z3, zf⟩ := HCT6.out; have zf0 := zf 0; have zf1 := zf 1; have zf2 := zf 2; have zf3 := zf 3; clear hst6 hct6 zf))
      all_goals
        (try go_wp2)
        go_roundw
        case rel => exact ⟨i + 1, _, _, _, by go_num, HLT.out, by rw [HX.out]; exact HST6.out.st _ _ _ _, by rw [HX.out]; exact HCT6.out.st⟩
        case measure => have := HLT.out; simp [intOf]; omega
    · obtain rfl : i = len := by omega
      have HTK : Hid (L.take i = L) := Lib.hid (List.take_of_length_le (by rw [HR.out.len]; exact Nat.le_refl _))
      have HIV := Lib.hid (runA_bd L (i := i) (by rw [HR.out.len]; have := H1.out; omega) (by rw [HR.out.len]; omega))
      have HIL : Hid ((runA (L.take i) newS).1.length ≤ i + 1) := Lib.hid (by
        have h := (runA_inv (L.take i) newS newS_inv).2
        rw [List.length_take, HR.out.len, Nat.min_self] at h
        have e : newS.1.length = 1 := rfl
        omega)
      have hge : decide ((i : Int) < (i : Int)) = false := by simp
      obtain ⟨y0, y1, y2, y3, -⟩ := hct
      rw [HTK.out] at HIV HIL HST2 HCT2 y3
      clear hst hlt hi
      generalize runA L newS = s at *
      obtain ⟨Sa, hta⟩ := HST2.out.at (i := 0) rfl
      have HCP := Lib.hid (copy_any Sa bt s.1 s.2 wr hta HIV.out.1.wf (by have := HIV.out.2; omega))
      clear hta
      go_wp2_with fail
      refine HCP.out.mono ?_
      rintro e w5 ⟨bc, rfl, htc, hb5⟩
      have HST5 : Hid (ST w w5 mb [(bt, s), (bc, s)] _ s) := Lib.hid (HST2.out.push (bt := bc) (s := s) htc hb5)
      have HCT5 := Lib.hid (HCT2.out.below hb5)
      have y0 := below_cell hb5 y0
      have y1 := below_cell hb5 y1
      have y2 := below_cell hb5 y2
      have y3 := below_cell hb5 y3
      have HA5 := Lib.hid (show Calls Try.prog 27 #[.pointer (some ⟨bc, 0, none⟩), .agg #[v0, v1, v2, .int .i64 s.2]] w5 fun e w' => e = .returned (.bool true) ∧ Below w5.heap.size w5 w' from by
        obtain ⟨Sc, h1⟩ := HST5.out.at (i := 1) rfl
        obtain ⟨T, h2⟩ := HST5.out.rt
        exact alike_any Sc T bc s.1 s.2 _ w5 h1 h2 HIV.out.1.wf (by have := HIV.out.2; omega))
      clear htc hb5
      go_wp2_with fail
      refine HA5.out.mono ?_
      rintro e w6 ⟨rfl, hb6⟩
      have HST6 := Lib.hid (HST5.out.below hb6)
      have HCT6 := Lib.hid (HCT5.out.below hb6)
      clear hb6 y0 y1 y2 y3
      go_wp2
      go_loopw [52] (fun iv wr => ∃ i : Nat, iv = .int .i64 i ∧ i ≤ len2 ∧ ST w wr mb [(bt, s), (bc, runA (L2.take i) s)] (.agg #[v0, v1, v2, .int .i64 s.2]) s ∧ CT wr mb v0 v1 v2 s.2) (fun iv _ => len2 - (intOf iv).toNat)
      case atStart => exact ⟨0, rfl, by omega, HST6.out, HCT6.out⟩
      case round =>
        obtain ⟨j, rfl, hj, hst, hct⟩ := hrel
        have HSTR := Lib.hid hst
        have HCTR := Lib.hid hct
        by_cases hlt : j < len2
        · obtain ⟨⟨k, d, t⟩, hx⟩ : ∃ x, L2[j]? = some x := ⟨_, List.getElem?_eq_getElem (show j < L2.length by rw [HR2.out.len]; exact hlt)⟩
          obtain ⟨b, off, rfl, c0, c1, c2⟩ := (HR2.out.below hst.bel).cell j _ hx
          simp only at c0 c1 c2
          have hlt2 : (j : Int) < (len2 : Int) := by omega
          have HLT := Lib.hid hlt
          have HX := Lib.hid (runA_take L2 s hx)
          have hj9 : (j : Int) ≤ 150 := by omega
          have HIV2 := Lib.hid (runA_bd2 HIV.out.1 L2 (i := j) HIL.out HR2.out.len H1.out (by omega))
          generalize runA (L2.take j) s = q at *
          clear hx hst hct
          go_wp2_with fail
          obtain ⟨wq, hwq⟩ : ∃ wq, wq = wr.alloc (.cells #[.int .i64 k, .int .i64 d, .int .i64 t] 39) := ⟨_, rfl⟩
          have HBQ : Hid (Below wr.heap.size wr wq) := Lib.hid (by rw [hwq]; exact below_alloc _ _)
          rw [← hwq]
          obtain ⟨Sq, htq, hq⟩ := (HSTR.out.below HBQ.out).act (i := 1) rfl
          have HTQ := Lib.hid htq
          have HQ := Lib.hid hq
          clear htq hq hwq
          refine (act_st k d t Sq bc q.1 q.2 wq HTQ.out HIV2.out.1 (by have := HIV2.out.2; omega)).mono ?_
          rintro e w8 ⟨rfl, hps⟩
          have HQ8 := Lib.hid (HQ.out w8 (stA q (k, d, t)) hps)
          clear hps
          go_wp2
          go_roundw
          case rel => exact ⟨j + 1, by go_num, HLT.out, by rw [HX.out]; exact HQ8.out.1, HQ8.out.2 _ _ _ _ (HCTR.out.below HBQ.out)⟩
          case measure => have := HLT.out; simp [intOf]; omega
        · obtain ⟨N2, hN2⟩ : ∃ N2, N2 = len2 := ⟨_, rfl⟩
          obtain rfl : j = len2 := by omega
          have HTK2 : Hid (L2.take j = L2) := Lib.hid (List.take_of_length_le (by rw [HR2.out.len]; exact Nat.le_refl _))
          have HIV2 := Lib.hid (runA_bd2 HIV.out.1 L2 (i := j) HIL.out HR2.out.len H1.out (Nat.le_refl _))
          rw [HTK2.out] at HSTR HIV2
          have hge2 : decide ((j : Int) < (j : Int)) = false := by simp
          obtain ⟨y0, y1, y2, y3, -⟩ := hct
          obtain ⟨s2, hs2⟩ : ∃ s2, s2 = runA L2 s := ⟨_, rfl⟩
          have HS2 := Lib.hid hs2
          rw [← hs2] at HSTR HIV2
          clear hst hlt hj hN2 hs2
          have HA := Lib.hid (show Calls Try.prog 27 #[.pointer (some ⟨bt, 0, none⟩), .agg #[v0, v1, v2, .int .i64 s.2]] wr fun e w' => e = .returned (.bool true) ∧ Below wr.heap.size wr w' from by
            obtain ⟨Sc, h1⟩ := HSTR.out.at (i := 0) rfl
            obtain ⟨T, h2⟩ := HSTR.out.rt
            exact alike_any Sc T bt s.1 s.2 _ wr h1 h2 HIV.out.1.wf (by have := HIV.out.2; omega))
          go_wp2_with fail
          refine HA.out.mono ?_
          rintro e w7 ⟨rfl, hb7⟩
          have HST7 := Lib.hid (HSTR.out.below hb7)
          have HCT7 := Lib.hid (HCTR.out.below hb7)
          clear hb7 y0 y1 y2 y3
          obtain ⟨Sb, htb⟩ := HST7.out.at (i := 0) rfl
          have HCP2 := Lib.hid (copy_any Sb bt s.1 s.2 w7 htb HIV.out.1.wf (by have := HIV.out.2; omega))
          clear htb
          go_wp2_with fail
          refine HCP2.out.mono ?_
          rintro e w8 ⟨bd, rfl, htd, hb8⟩
          have HST8 : Hid (ST w w8 mb [(bt, s), (bc, s2), (bd, s)] _ s) := Lib.hid (HST7.out.push (bt := bd) (s := s) htd hb8)
          have HCT8 := Lib.hid (HCT7.out.below hb8)
          obtain ⟨len2, hlen2⟩ : ∃ len2, len2 = j := ⟨_, rfl⟩
          subst hlen2
          clear htd hb8
          go_wp2
          go_loopw [68] (fun iv wr => ∃ j : Nat, iv = .int .i64 j ∧ j ≤ len2 ∧ ST w wr mb [(bt, runA (L2.take j) s), (bc, s2), (bd, s)] (.agg #[v0, v1, v2, .int .i64 s.2]) s ∧ CT wr mb v0 v1 v2 s.2) (fun iv _ => len2 - (intOf iv).toNat)
          case atStart => exact ⟨0, rfl, by omega, HST8.out, HCT8.out⟩
          case round =>
            obtain ⟨j, rfl, hj, hst, hct⟩ := hrel
            have HSTR := Lib.hid hst
            have HCTR := Lib.hid hct
            by_cases hlt : j < len2
            · obtain ⟨⟨k, d, t⟩, hx⟩ : ∃ x, L2[j]? = some x := ⟨_, List.getElem?_eq_getElem (show j < L2.length by rw [HR2.out.len]; exact hlt)⟩
              obtain ⟨b, off, rfl, c0, c1, c2⟩ := (HR2.out.below hst.bel).cell j _ hx
              simp only at c0 c1 c2
              have hlt2 : (j : Int) < (len2 : Int) := by omega
              have HLT := Lib.hid hlt
              have HX := Lib.hid (runA_take L2 s hx)
              have hj9 : (j : Int) ≤ 150 := by omega
              have HIV2 := Lib.hid (runA_bd2 HIV.out.1 L2 (i := j) HIL.out HR2.out.len H1.out (by omega))
              generalize runA (L2.take j) s = q at *
              clear hx hst hct
              go_wp2_with fail
              obtain ⟨wq, hwq⟩ : ∃ wq, wq = wr.alloc (.cells #[.int .i64 k, .int .i64 d, .int .i64 t] 39) := ⟨_, rfl⟩
              have HBQ : Hid (Below wr.heap.size wr wq) := Lib.hid (by rw [hwq]; exact below_alloc _ _)
              rw [← hwq]
              obtain ⟨Sq, htq, hq⟩ := (HSTR.out.below HBQ.out).act (i := 0) rfl
              have HTQ := Lib.hid htq
              have HQ := Lib.hid hq
              clear htq hq hwq
              refine (act_st k d t Sq bt q.1 q.2 wq HTQ.out HIV2.out.1 (by have := HIV2.out.2; omega)).mono ?_
              rintro e w8 ⟨rfl, hps⟩
              have HQ8 := Lib.hid (HQ.out w8 (stA q (k, d, t)) hps)
              clear hps
              go_wp2
              go_roundw
              case rel => exact ⟨j + 1, by go_num, HLT.out, by rw [HX.out]; exact HQ8.out.1, HQ8.out.2 _ _ _ _ (HCTR.out.below HBQ.out)⟩
              case measure => have := HLT.out; simp [intOf]; omega
            · obtain rfl : j = len2 := by omega
              have HTK3 : Hid (runA (L2.take j) s = s2) := Lib.hid (by rw [HTK2.out, HS2.out])
              rw [HTK3.out] at HSTR
              have hge3 : decide ((j : Int) < (j : Int)) = false := by simp
              obtain ⟨y0, y1, y2, y3, -⟩ := hct
              have HP2 : Hid (0 < s2.1.length) := Lib.hid HIV2.out.1.wf.pos
              have HA3 := Lib.hid (show Calls Try.prog 27 #[.pointer (some ⟨bd, 0, none⟩), .agg #[v0, v1, v2, .int .i64 s.2]] wr fun e w' => e = .returned (.bool true) ∧ Below wr.heap.size wr w' from by
                obtain ⟨Sc, h1⟩ := HSTR.out.at (i := 2) rfl
                obtain ⟨T, h2⟩ := HSTR.out.rt
                exact alike_any Sc T bd s.1 s.2 _ wr h1 h2 HIV.out.1.wf (by have := HIV.out.2; omega))
              clear hst hlt hj
              go_wp2_with fail
              refine HA3.out.mono ?_
              rintro e w9 ⟨rfl, hb9⟩
              have HST9 := Lib.hid (HSTR.out.below hb9)
              clear hb9 y0 y1 y2 y3
              obtain ⟨Sx, htx⟩ := HST9.out.at (i := 0) rfl
              obtain ⟨Sy, hty⟩ := HST9.out.at (i := 1) rfl
              have HN1 := Lib.hid (now_ti Sx bt s2.1 s2.2 w9 htx HP2.out)
              have HN2 := Lib.hid (now_ti Sy bc s2.1 s2.2 w9 hty HP2.out)
              have HL1 := Lib.hid (len_ti Sx bt s2.1 s2.2 w9 htx HP2.out)
              have HL2 := Lib.hid (len_ti Sy bc s2.1 s2.2 w9 hty HP2.out)
              clear htx hty
              go_wp2_with fail
              refine HN1.out.mono ?_
              rintro e w10 ⟨rfl, rfl⟩
              go_wp2_with fail
              refine HN2.out.mono ?_
              rintro e w10 ⟨rfl, rfl⟩
              go_wp2_with fail
              refine HL1.out.mono ?_
              rintro e w10 ⟨rfl, rfl⟩
              go_wp2_with fail
              refine HL2.out.mono ?_
              rintro e w10 ⟨rfl, rfl⟩
              go_wp2
              go_ret
              exact ⟨rfl, HST9.out.bel⟩

end Go.Proofs.Ytjajlnhobchkgaa
