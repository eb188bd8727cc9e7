/-
  evergreenref45.Keep: the commits of a list alone, renumbered, or the error's number.
-/
import Derived.Test.YtoakelgjofdmpaaHKeepR
namespace Go.Proofs.Ytoakelgjofdmpaa
open Go.RowKit
set_option linter.unusedVariables false
set_option linter.unusedSimpArgs false

def RKeepPost (L : List Cm) (l : List Int) (w : World) (e : Ending) (w' : World) : Prop :=
  Below w.heap.size w w' ∧ ((keepCode L l ≠ 0 ∧ e = .returned (.tuple #[.slice none 0 0, .slice none 0 0, .int .i64 (keepCode L l)])) ∨
    (keepCode L l = 0 ∧ ∃ ma mc ta tc, e = .returned (.tuple #[.slice ma (keepTo L l L.length).length mc, .slice ta L.length tc, .int .i64 0]) ∧ RdC w' (fun b => w.heap.size ≤ b) ma (keepTo L l L.length).length (keepTo L l L.length) ∧ Rd w' .i64 ta L.length (toL l L.length L.length)))

theorem count_pos {l : List Int} {x : Int} (h : ¬ l.count x = 0) : x ∈ l := Classical.byContradiction fun hn => h (List.count_eq_zero.2 hn)

set_option maxRecDepth 100000 in
set_option maxHeartbeats 4000000 in
theorem refKeep_any (S : Nat → Prop) (al : Option Addr) (cl : Nat) (L : List Cm) (la : Option Addr) (ln lc : Nat) (l : List Int) (w : World) (hg : RdC w S al L.length L) (hn1 : L.length ≤ 65536) (hL : GoodL L) (hl : Rd w .i64 la ln l) (hln : ln ≤ 200) :
    Calls Try.prog 26 #[.slice al L.length cl, .slice la ln lc] w (RKeepPost L l w) := by
  have HGL0 := Lib.hid hg
  have HGL := Lib.hid hL
  have HLL := Lib.hid hl
  have HLEN := Lib.hid hl.len
  obtain ⟨N, hN⟩ : ∃ N, N = L.length := ⟨_, rfl⟩
  have HN := Lib.hid hN
  rw [← hN] at hn1 HGL0 ⊢
  clear hg hL hl hN
  go_enter Try.func26, Try.ntmps26
  go_wp2_with (at_make; refine make_ints EIG rfl _ _ rfl w.heap.size _ _ _ _ N rfl rfl rfl rfl (by omega) (Nat.le_refl _) ?_; intro w1 ho1 hg1; have HO1 := Lib.hid ho1; have HB1 := Lib.hid (grown_below' hg1 (base := w.heap.size) (Nat.le_refl _)); clear ho1 hg1)
  obtain ⟨gm, hgm⟩ : ∃ gm, gm = w.heap.size := ⟨_, rfl⟩
  have HGM := Lib.hid hgm
  have HO1b : Hid (Own w1 w.heap.size 3 .i64 (.slice (some ⟨gm, 0, none⟩) N N) (timesL l N 0)) := Lib.hid (by rw [hgm, timesL_zero]; exact HO1.out)
  rw [← hgm]
  clear hgm HO1
  go_loopg [8] ln (fun gg iv wr => ∃ i : Nat, i ≤ ln ∧ gg = ln - i ∧ iv = .int .i64 i ∧ Own wr w.heap.size 3 .i64 (.slice (some ⟨gm, 0, none⟩) N N) (timesL l N i) ∧ (∀ j, j < i → 0 ≤ l.getD j 0 ∧ l.getD j 0 < (N : Int)) ∧ Below w.heap.size w wr)
  case atStart => exact ⟨0, by omega, rfl, rfl, HO1b.out, fun j hj => by omega, HB1.out⟩
  case round =>
    clear HO1b HB1
    obtain ⟨i, hi, rfl, rfl, ho, hall, hb⟩ := hrel
    have HO := Lib.hid ho
    have HALL := Lib.hid hall
    have HB := Lib.hid hb
    clear ho hall hb
    by_cases hlt : i < ln
    · have hiz : (i : Int) < (ln : Int) := by omega
      have hil : i < l.length := by rw [HLEN.out]; exact hlt
      obtain ⟨b, off, rfl, hc⟩ := (HLL.out.below HB.out).cell i hlt
      have HMEM : Hid (l.getD i 0 ∈ l) := Lib.hid (getD_mem hil)
      obtain ⟨p, hp⟩ : ∃ p, p = l.getD i 0 := ⟨_, rfl⟩
      have HP := Lib.hid hp
      rw [← hp] at hc
      have HIL := Lib.hid hil
      clear hp hil
      by_cases hp0 : p < 0
      · have hd0 : decide (p < 0) = true := decide_eq_true hp0
        have HCODE : Hid (keepCode L l = 1) := Lib.hid (keepCode_range ⟨l.getD i 0, HMEM.out, by rw [← HP.out]; exact .inl hp0⟩)
        go_wp2
        go_ret3
        exact ⟨HB.out, .inl ⟨by rw [HCODE.out]; decide, by rw [HCODE.out]; rfl⟩⟩
      · have hd0 : decide (p < 0) = false := decide_eq_false hp0
        by_cases hpN : (N : Int) ≤ p
        · have HCODE : Hid (keepCode L l = 1) := Lib.hid (keepCode_range ⟨l.getD i 0, HMEM.out, by rw [← HP.out, ← HN.out]; exact .inr hpN⟩)
          go_wp2
          go_ret3
          exact ⟨HB.out, .inl ⟨by rw [HCODE.out]; decide, by rw [HCODE.out]; rfl⟩⟩
        · obtain ⟨r, rfl⟩ := Int.eq_ofNat_of_zero_le (show 0 ≤ p by omega)
          have hrN : r < N := by omega
          have hrz : (r : Int) < (N : Int) := by omega
          have HTS := Lib.hid (timesL_succ l (N := N) HIL.out HP.out.symm hrN)
          have htc := HO.out.icell (j := r) (by rw [timesL_len]; exact hrN)
          have hcb : (timesL l N i).getD r 0 = ((l.take i).count (r : Int) : Int) := timesL_get l i hrN
          have hcl : (l.take i).count (r : Int) ≤ ln := Nat.le_trans List.count_le_length (by rw [List.length_take]; have := HLEN.out; omega)
          obtain ⟨cn, hcn⟩ : ∃ cn, cn = (l.take i).count (r : Int) := ⟨_, rfl⟩
          rw [← hcn] at hcb hcl
          rw [hcb] at htc HTS
          have hcn2 : (cn : Int) ≤ 200 := by omega
          clear hcb hcn
          go_wp2_with (refine store_int rfl _ _ rfl gm r rfl ((cn : Int) + 1) rfl (by kernel_rfl) w.heap.size N N _ HO.out (timesL_len _ _ _).symm (by rw [timesL_len]; exact hrN) ?_; intro w5 ho5 hg5; have HO5 := Lib.hid ho5; have HB5 := Lib.hid (Row.grown HO.out hg5 HB.out.size); clear ho5 hg5 htc)
          go_roundg (ln - (i + 1))
          case measure => omega
          case rel =>
            refine ⟨i + 1, by omega, rfl, by go_num, by rw [← HTS.out]; exact HO5.out, fun j hj => ?_, HB.out.trans HB5.out⟩
            by_cases e : j < i
            · exact HALL.out j e
            · obtain rfl : j = i := by omega
              rw [← HP.out]; omega
    · have hin := show i = ln by omega
      have HA : Hid (∀ k ∈ l, 0 ≤ k ∧ k < (N : Int)) := Lib.hid (fun k hk => by
        obtain ⟨j, hj, rfl⟩ := List.getElem_of_mem hk
        have := HALL.out j (by rw [hin, ← HLEN.out]; exact hj)
        simpa [List.getD, hj] using this)
      have HCT : Hid (∀ n, n < N → (timesL l N i).getD n 0 = (l.count (n : Int) : Int)) := Lib.hid (fun n hn => by
        rw [timesL_get l i hn, hin, List.take_of_length_le (by rw [HLEN.out]; exact Nat.le_refl _)])
      have HTL : Hid ((timesL l N i).length = N) := Lib.hid (timesL_len _ _ _)
      have HCL : Hid (∀ n : Nat, l.count (n : Int) ≤ 200) := Lib.hid (fun n => Nat.le_trans List.count_le_length (by have := HLEN.out; omega))
      clear hin HALL
      generalize timesL l N i = M at *
      go_wp2_with (at_make; refine make_ints EIG rfl _ _ rfl w.heap.size _ _ _ _ N rfl rfl rfl rfl (by omega) HB.out.size ?_; intro w3 ho3 hg3; have HO3 := Lib.hid ho3; have HB3 := Lib.hid (grown_below' hg3 (base := wr.heap.size) (Nat.le_refl _)); clear ho3 hg3)
      obtain ⟨gt, hgt⟩ : ∃ gt, gt = wr.heap.size := ⟨_, rfl⟩
      obtain ⟨B, hBB⟩ : ∃ B, B = w3.heap.size := ⟨_, rfl⟩
      have HKM : Hid (KR w w3 gm gt B w3.heap.size N M (toL l N 0) none (rank l 0) 0 []) := Lib.hid (by
        have h3 := (Row.block_lt HO3.out (g := wr.heap.size) rfl).1
        have h4 := (Row.block_lt HO.out (g := gm) rfl)
        have h6 := HB.out.size
        refine ⟨Row.below HO.out HB3.out, by rw [toL_zero, hgt]; exact HO3.out, CpI.nil _ _, ⟨fun g hg => (by cases hg), fun x hx => (by simp at hx)⟩, ?_, Nat.le_refl _, bthen HB.out HB3.out⟩
        rw [hgt, hBB]; omega)
      rw [← hgt]
      clear hgt hBB HO3
      go_loopg [10, 11] N (fun gg ov iv wr => ∃ (i : Nat) (a : Option Addr) (c : Nat) (vs : List (Value × Cm)), i ≤ N ∧ gg = N - i ∧ iv = .int .i64 i ∧ ov = .slice a (rank l i) c ∧ KR w wr gm gt B wr.heap.size N M (toL l N i) a (rank l i) c vs ∧ vs.map (·.2) = keepTo L l i ∧ Kept L l i ∧ ∀ n, n < i → l.count (n : Int) ≤ 1)
      case atStart => exact ⟨0, none, 0, [], by omega, rfl, rfl, by rw [rank_zero], HKM.out, rfl, fun n hn => by omega, fun n hn => by omega⟩
      case round =>
        clear HKM HO HB HB3
        obtain ⟨i, a, c, vs, hi, rfl, rfl, rfl, hkm, hvs, hkp, hct⟩ := hrel
        have HVS := Lib.hid hvs
        have HKP := Lib.hid hkp
        have HCO := Lib.hid hct
        clear hvs hkp hct
        by_cases hlt : i < N
        · have hiz : (i : Int) < (N : Int) := by omega
          have HTN : Hid ((toL l N i).length = N) := Lib.hid (toL_len _ _ _)
          obtain ⟨nn, hnn⟩ : ∃ nn, nn = rank l i := ⟨_, rfl⟩
          have hrk : nn ≤ 65536 := by rw [hnn]; have := rank_le l i; omega
          have HNN := Lib.hid hnn
          rw [← hnn] at hkm ⊢
          have HK0 := Lib.hid hkm
          clear hnn hkm
          obtain ⟨ct, hct⟩ : ∃ ct, ct = l.count (i : Int) := ⟨_, rfl⟩
          have HMI : Hid (M.getD i 0 = (ct : Int)) := Lib.hid (by rw [HCT.out i hlt, hct])
          have hctb : ct ≤ 200 := by rw [hct]; exact HCL.out i
          have HCTI := Lib.hid hct
          clear hct
          by_cases hc2 : 1 < ct
          · have hd2 : decide ((1 : Int) < (ct : Int)) = true := decide_eq_true (by omega)
            have HCODE : Hid (keepCode L l = 4) := Lib.hid (keepCode_dup (fun k hk => by rw [← HN.out]; exact HA.out k hk) (fun hnd => by
              have := List.nodup_iff_count.1 hnd (i : Int)
              have := HCTI.out
              omega))
            go_wp2_with (refine store_int rfl _ _ rfl gt i rfl (-1) rfl (by kernel_rfl) w.heap.size N N _ HK0.out.tn HTN.out.symm (by rw [HTN.out]; exact hlt) ?_; intro w3 ho3 hg3; have HK3 := Lib.hid (HK0.out.num ho3 hg3); have hmc := HK3.out.kcell (p := i) (by rw [HTL.out]; exact hlt); rw [HMI.out] at hmc; clear ho3 hg3)
            go_ret3
            exact ⟨HK3.out.bel, .inl ⟨by rw [HCODE.out]; decide, by rw [HCODE.out]; rfl⟩⟩
          have hd2 : decide ((1 : Int) < (ct : Int)) = false := decide_eq_false (by omega)
          by_cases hc0 : ct = 0
          · have HZ1 : Hid (toV l i = -1 ∧ rank l (i + 1) = nn ∧ keepTo L l (i + 1) = keepTo L l i ∧ ¬ (i : Int) ∈ l) := Lib.hid (by
              have hm : ¬ (i : Int) ∈ l := List.count_eq_zero.1 (by rw [← HCTI.out]; exact hc0)
              have hz : l.contains (i : Int) = false := by rw [← Bool.not_eq_true]; exact fun h => hm (List.contains_iff_mem.1 h)
              exact ⟨by unfold toV; rw [hz]; rfl, by rw [rank_succ, hz, HNN.out]; rfl, by rw [keepTo_succ, hz]; rfl, hm⟩)
            subst hc0
            go_wp2_with (refine store_int rfl _ _ rfl gt i rfl (-1) rfl (by kernel_rfl) w.heap.size N N _ HK0.out.tn HTN.out.symm (by rw [HTN.out]; exact hlt) ?_; intro w3 ho3 hg3; have HK3 := Lib.hid (HK0.out.num ho3 hg3); have hmc := HK3.out.kcell (p := i) (by rw [HTL.out]; exact hlt); rw [HMI.out] at hmc; clear ho3 hg3)
            go_roundg (N - (i + 1))
            case measure => omega
            case rel =>
              obtain ⟨e1, e2, e3, e4⟩ := HZ1.out
              refine ⟨i + 1, a, c, vs, by omega, rfl, by go_num, by rw [e2], ?_, by rw [e3]; exact HVS.out, HKP.out.step fun hm => absurd hm e4, fun n hn => ?_⟩
              · rw [e2, ← toL_step1 l hlt e1]
                exact HK3.out.mono rfl
              · by_cases e : n = i
                · subst e; have := HCTI.out; omega
                · exact HCO.out n (by omega)
          · have hc1 : ct = 1 := by omega
            subst hc1
            clear hc0 hc2
            have HZ1 : Hid (toV l i = (nn : Int) ∧ rank l (i + 1) = nn + 1 ∧ (i : Int) ∈ l) := Lib.hid (by
              have hm : (i : Int) ∈ l := count_pos (by have := HCTI.out; omega)
              have hz := List.contains_iff_mem.2 hm
              exact ⟨by unfold toV; rw [if_pos hz, HNN.out], by rw [rank_succ, if_pos hz, HNN.out], hm⟩)
            have HBW := Lib.hid HK0.out.bel
            obtain ⟨b, off, pa, pn, pc, x, hx, hxp, rfl, h1, h2, h3, hpr, hpn⟩ := HGL0.out.parsN hlt
            have HXG : Hid (L.getD i ([], 0, .empty) = x) := Lib.hid (by simp [List.getD, hx])
            have HP8 := Lib.hid ((HGL.out i x hx).1)
            obtain ⟨ps, t, s⟩ := x
            simp only at hxp h2 h3 HP8
            rw [← hxp] at hpr hpn
            subst hpn
            have HPS : Hid (parsOf L i = ps) := Lib.hid hxp.symm
            have HPR := Lib.hid hpr
            have hp8 := HP8.out
            have HH := Lib.hid (And.intro h1 (And.intro h2 h3))
            have HPB : Hid (∀ p ∈ ps, ∃ r : Nat, p = (r : Int) ∧ r < i) := Lib.hid (fun p hp => by
              have h := pars_lt HGL.out (i := i) (p := p) (by rw [← hxp]; exact hp)
              obtain ⟨r, rfl⟩ := Int.eq_ofNat_of_zero_le h.1
              exact ⟨r, rfl, by omega⟩)
            have HKT : Hid (keepTo L l (i + 1) = keepTo L l i ++ [(mapP l ps, t, s)]) := Lib.hid (by
              rw [keepTo_succ, if_pos (List.contains_iff_mem.2 HZ1.out.2.2), HPS.out, HXG.out])
            clear hx hxp hpr h1 h2 h3
            go_wp2_with (refine store_int rfl _ _ rfl gt i rfl (-1) rfl (by kernel_rfl) w.heap.size N N _ HK0.out.tn HTN.out.symm (by rw [HTN.out]; exact hlt) ?_; intro w3 ho3 hg3; have HK3 := Lib.hid (HK0.out.num ho3 hg3); have hmc := HK3.out.kcell (p := i) (by rw [HTL.out]; exact hlt); rw [HMI.out] at hmc; have k2 := below_cell HK3.out.bel HH.out.2.1; have k3 := below_cell HK3.out.bel HH.out.2.2; have d2 : w3.drew.cell? _ = some _ := k2; have d3 : w3.drew.cell? _ = some _ := k3; have e2 : ∀ o, (w3.alloc o).drew.cell? _ = some _ := fun o => below_cell ((below_alloc w3 o).drew) k2; have e3 : ∀ o, (w3.alloc o).drew.cell? _ = some _ := fun o => below_cell ((below_alloc w3 o).drew) k3; clear ho3 hg3)
            go_cut [12] (fun s12 wc => s12 = Value.pointer (some ⟨w3.heap.size, 0, none⟩) ∧ wc = (w3.alloc (.cells #[.slice none 0 0, .int .i64 t, .string s] 27)).drew)
            case first =>
              go_region_law (fail)
              all_goals
                clear e2 e3
                go_wp2
                go_meet
                exact ⟨rfl, rfl⟩
            case rest =>
              obtain ⟨hs12, hwc⟩ := hcut
              subst hs12
              obtain ⟨q, hq⟩ : ∃ q, q = w3.heap.size := ⟨_, rfl⟩
              have hb4 : Below w3.heap.size w3 wc := by rw [hwc]; exact (below_alloc _ _).drew
              have HK4 : Hid (KR w wc gm gt B q N M ((toL l N i).set i (-1)) a nn c vs) := Lib.hid ((HK3.out.mono hq).below hb4)
              have hz0 : wc.cell? ⟨q, 0, none⟩ = some (.slice none 0 0) := by rw [hwc, hq]; simp
              have hz1 : wc.cell? ⟨q, 1, none⟩ = some (.int .i64 t) := by rw [hwc, hq]; simp
              have hz2 : wc.cell? ⟨q, 2, none⟩ = some (.string s) := by rw [hwc, hq]; simp
              have hzf : wc.frozen? ⟨q, 0, none⟩ = false := by rw [hwc, hq]; simp
              have hq4 : q < wc.heap.size := World.block_lt_of_cell? wc _ hz0
              have HZ4 := Lib.hid (And.intro hz0 (And.intro hz1 (And.intro hz2 (And.intro hzf hq4))))
              rw [← hq]
              clear hwc hq hb4 hz0 hz1 hz2 hzf hq4 k2 k3 d2 d3 e2 e3 hmc
              clear HK3 HK0
              have l1 := below_cell HK4.out.bel HH.out.1
              have L1 := Lib.hid l1
              clear l1
              go_wp2
              go_loopg [13] ps.length (fun gg jv wr => ∃ (j : Nat) (ra : Option Addr) (rc : Nat), j ≤ ps.length ∧ gg = ps.length - j ∧ jv = .int .i64 j ∧ KR w wr gm gt B q N M ((toL l N i).set i (-1)) a nn c vs ∧ Own wr (q + 1) 3 .i64 (.slice ra j rc) (mapP l (ps.take j)) ∧ wr.cell? ⟨q, 0, none⟩ = some (.slice ra j rc) ∧ wr.cell? ⟨q, 1, none⟩ = some (.int .i64 t) ∧ wr.cell? ⟨q, 2, none⟩ = some (.string s) ∧ wr.frozen? ⟨q, 0, none⟩ = false ∧ (∀ p ∈ ps.take j, p ∈ l) ∧ q < wr.heap.size)
              case atStart => exact ⟨0, none, 0, by omega, rfl, rfl, HK4.out, Own.nil _ _ _ _, HZ4.out.1, HZ4.out.2.1, HZ4.out.2.2.1, HZ4.out.2.2.2.1, fun p hp => by simp at hp, HZ4.out.2.2.2.2⟩
              case round =>
                clear HK4 HZ4 L1
                obtain ⟨j, ra, rc, hj, rfl, rfl, hkm, hoc, c0, c1, c2, cf, hin, hqs⟩ := hrel
                have HK := Lib.hid hkm
                have HOC := Lib.hid hoc
                have HIN := Lib.hid hin
                have HC := Lib.hid (And.intro c0 (And.intro c1 (And.intro c2 cf)))
                have HQS := Lib.hid hqs
                have l1 := below_cell hkm.bel HH.out.1
                have HML : Hid ((mapP l (ps.take j)).length = j) := Lib.hid (by rw [mapP, List.length_map, List.length_take]; omega)
                clear hin hqs
                by_cases hjl : j < ps.length
                · have hjz : (j : Int) < (ps.length : Int) := by omega
                  have hpm : ps.getD j 0 ∈ ps := getD_mem hjl
                  obtain ⟨r, hr, hri⟩ := HPB.out _ hpm
                  have hrN : r < N := by omega
                  have hrz : (r : Int) < (N : Int) := by omega
                  obtain ⟨pb, po, rfl, hcp⟩ := (HPR.out.below hkm.bel).cell j hjl
                  rw [hr] at hcp
                  have hmc := hkm.kcell (p := r) (by rw [HTL.out]; exact hrN)
                  rw [HCT.out r hrN] at hmc
                  have HR := Lib.hid hr
                  have htc : wr.cell? ⟨gt, r, none⟩ = some (.int .i64 (toV l r)) := by
                    have h := hkm.tcell (p := r) (by rw [List.length_set, HTN.out]; exact hrN)
                    rw [h]
                    congr 2
                    simp only [List.getD]
                    rw [List.getElem?_set_ne (by omega)]
                    have := toL_get l (N := N) hri hrN
                    simpa [List.getD] using this
                  obtain ⟨cr, hcr⟩ : ∃ cr, cr = l.count (r : Int) := ⟨_, rfl⟩
                  rw [← hcr] at hmc
                  have HCR := Lib.hid hcr
                  clear hpm hr hcr hkm hoc
                  by_cases hcz : cr = 0
                  · have HCODE : Hid (keepCode L l = 4) := Lib.hid (keepCode_par (fun k hk => by rw [← HN.out]; exact HA.out k hk) (not_kept (n := i) (p := (r : Int)) (by rw [← HN.out]; exact hlt) HZ1.out.2.2 (by rw [HPS.out, ← HR.out]; exact getD_mem hjl) (List.count_eq_zero.1 (by rw [← HCR.out]; exact hcz))))
                    subst hcz
                    clear c0 c1 c2 cf htc
                    go_wp2
                    go_ret3
                    exact ⟨HK.out.bel, .inl ⟨by rw [HCODE.out]; decide, by rw [HCODE.out]; rfl⟩⟩
                  · have HM : Hid ((r : Int) ∈ l) := Lib.hid (count_pos (by rw [← HCR.out]; exact hcz))
                    have hcz2 : ((cr : Int) == 0) = false := by rw [beq_eq_false_iff_ne]; omega
                    have hcz3 : (cr == 0) = false := by rw [beq_eq_false_iff_ne]; exact hcz
                    have htv : toV l r = (rank l r : Int) := by unfold toV; rw [if_pos (List.contains_iff_mem.2 HM.out)]
                    rw [htv] at htc
                    obtain ⟨rr, hrr⟩ : ∃ rr, rr = rank l r := ⟨_, rfl⟩
                    rw [← hrr] at htc
                    have HRR := Lib.hid hrr
                    have h0 : Row wr (q + 1) 3 1 (.slice ra j rc) (mapP l (ps.take j)).length ((mapP l (ps.take j)).map (Value.int .i64)) := HOC.out
                    rw [HML.out] at h0
                    have H0 := Lib.hid h0
                    have d0 : wr.drew.cell? ⟨q, 0, none⟩ = some (.slice ra j rc) := c0
                    have d1 : wr.drew.cell? _ = some _ := l1
                    have d2 : wr.drew.cell? _ = some _ := hcp
                    have d3 : wr.drew.cell? _ = some _ := htc
                    have e0 : ∀ o, (wr.alloc o).drew.cell? ⟨q, 0, none⟩ = some (.slice ra j rc) := fun o => below_cell ((below_alloc wr o).drew) c0
                    have HBS : Hid (q + 1 ≤ (wr.alloc (.cells #[.int .i64 (rr : Int)] 3)).drew.heap.size) := Lib.hid (by have := HQS.out; simp; omega)
                    clear htv hrr h0 c1 c2 cf
                    go_upto_region 23 with (fail)
                    clear l1 hcp htc hmc c0
                    go_region_law (refine step_app_row_at (.tmp 102) (.tmp 114) EIG rfl rfl (q + 1) (.slice ra j rc) j _ rfl (Row.drew (Row.below H0.out (below_alloc wr (.cells #[.int .i64 (rr : Int)] 3)))) _ 1 _ [.int .i64 (rr : Int)] rfl ((RdG.lits wr 1 3 1 [.int .i64 (rr : Int)] rfl).drew) (by simp [Value.oneCell']) (by omega) (by decide) HBS.out ?_; intro a6 c6 w6 hr6 hg6 hat6; have hf6 : Fr (fun b => (Value.slice ra j rc).ownBlock = some b) wr w6 := (Fr.of_below ((below_alloc wr (.cells #[.int .i64 (rr : Int)] 3)).drew)).trans (.of_grown hg6 fun k hk => hk); have hnq : ¬ (Value.slice ra j rc).ownBlock = some q := (fun e => by have := (Row.block_lt H0.out e).2; omega); have f0 := hf6.cell HC.out.1 hnq; have f1 := (hf6.frozen (x := ⟨q, 0, none⟩) HQS.out hnq).trans HC.out.2.2.2; have HF6 := Lib.hid hf6; have HR6 := Lib.hid hr6; have HNQ := Lib.hid hnq; clear hr6 hg6 hat6 hf6 hnq)
                    all_goals
                      clear d0 d1 d2 d3 e0
                      obtain ⟨w7, hw7⟩ : ∃ w7, w7 = w6.setCell ⟨q, 0, none⟩ (.slice a6 (j + 1) c6) := ⟨_, rfl⟩
                      have hf7 : Fr (fun b => b = q) w6 w7 := by rw [hw7]; exact (Fr.refl (fun b => b = q) w6).setCell (p := ⟨q, 0, none⟩) rfl _
                      have HK7 := Lib.hid ((HK.out.fr HF6.out (fun b e => by have := (Row.block_lt H0.out e).2; omega)).fr hf7 (fun b e => Nat.le_of_eq e.symm))
                      have HO7 : Hid (Own w7 (q + 1) 3 .i64 (.slice a6 (j + 1) c6) (mapP l (ps.take (j + 1)))) := Lib.hid (by
                        have e : mapP l (ps.take (j + 1)) = mapP l (ps.take j) ++ [(rr : Int)] := by
                          rw [getD_take_snoc (d := 0) hjl, HR.out, HRR.out]; simp [mapP]
                        rw [e]
                        show Row w7 (q + 1) 3 1 _ (mapP l (ps.take j) ++ [(rr : Int)]).length ((mapP l (ps.take j) ++ [(rr : Int)]).map (Value.int .i64))
                        rw [List.length_append, HML.out, List.map_append]
                        exact Row.fr HR6.out hf7 fun g hg e => by have := (Row.block_lt HR6.out hg).2; omega)
                      have HC7 : Hid (w7.cell? ⟨q, 0, none⟩ = some (.slice a6 (j + 1) c6) ∧ w7.cell? ⟨q, 1, none⟩ = some (.int .i64 t) ∧ w7.cell? ⟨q, 2, none⟩ = some (.string s) ∧ w7.frozen? ⟨q, 0, none⟩ = false ∧ q < w7.heap.size) := Lib.hid (by
                        have g1 := HF6.out.cell HC.out.2.1 HNQ.out
                        have g2 := HF6.out.cell HC.out.2.2.1 HNQ.out
                        have hs6 := HF6.out.size
                        have hs7 := hf7.size
                        have := HQS.out
                        rw [hw7] at hs7 ⊢
                        exact ⟨set_same f0, set_other (by simp) g1, set_other (by simp) g2, (World.frozen?_setCell ..).trans f1, by omega⟩)
                      rw [← hw7]
                      clear hw7 hf7 f0 f1
                      go_wp2
                      go_roundg (ps.length - (j + 1))
                      case measure => omega
                      case rel =>
                        refine ⟨j + 1, a6, c6, by omega, rfl, by go_num, HK7.out, HO7.out, HC7.out.1, HC7.out.2.1, HC7.out.2.2.1, HC7.out.2.2.2.1, fun p hp => ?_, HC7.out.2.2.2.2⟩
                        rw [getD_take_snoc (d := 0) hjl] at hp
                        rcases List.mem_append.1 hp with hp | hp
                        · exact HIN.out p hp
                        · rw [List.mem_singleton] at hp; rw [hp, HR.out]; exact HM.out
                · have hjn : ¬ ((j : Int) < (ps.length : Int)) := by omega
                  have HLF : Hid (mapP l (ps.take j) = mapP l ps ∧ ps.take j = ps) := Lib.hid (by
                    have e : j = ps.length := by omega
                    subst e
                    rw [List.take_length]
                    exact ⟨rfl, rfl⟩)
                  have HJ : Hid (j = (mapP l ps).length) := Lib.hid (by rw [← HLF.out.1]; exact HML.out.symm)
                  clear hkm hoc c0 c1 c2 cf
                  go_wp2_with (first
                    | (refine store_int rfl _ _ rfl gt i rfl (nn : Int) rfl (by kernel_rfl) w.heap.size N N _ HK.out.tn (by rw [List.length_set, HTN.out]) (by rw [List.length_set, HTN.out]; exact hlt) ?_; intro w8 ho8 hg8; have HK8 := Lib.hid (HK.out.num ho8 hg8); have hf8 : Fr (fun b => b = gt) wr w8 := .of_grown hg8 (fun k hk => (Option.some.inj hk).symm); have hgq : ¬ q = gt := (fun e => by have := HK.out.lt; omega); have y0 := hf8.cell HC.out.1 hgq; have y1 := hf8.cell HC.out.2.1 hgq; have y2 := hf8.cell HC.out.2.2.1 hgq; have HO8 : Hid (Own w8 (q + 1) 3 .i64 (.slice ra j rc) (mapP l (ps.take j))) := Lib.hid (Row.fr HOC.out hf8 (fun g hg e => by have := (Row.block_lt HOC.out hg).2; have := HK.out.lt; omega)); have HBS : Hid (B ≤ (w8.alloc (.cells #[.slice ra j rc, .int .i64 t, .string s] 27)).heap.size) := Lib.hid (by have := HK8.out.lt; have := HK8.out.qle; simp; omega); clear ho8 hg8 hf8 hgq l1)
                    | (at_builtin; refine app_row_at (.tmp 122) (.tmp 124) EC rfl rfl B (.slice a nn c) nn (cellsC vs) rfl (Row.below HK8.out.cp.row (below_alloc w8 (.cells #[.slice ra j rc, .int .i64 t, .string s] 27))) _ 1 _ [.slice ra j rc, .int .i64 t, .string s] rfl (RdG.lits w8 3 27 1 [.slice ra j rc, .int .i64 t, .string s] rfl) (by simp [Value.oneCell']) (by omega) (by decide) HBS.out ?_; intro a6 c6 w6 hr6 hg6 hat6; have HR6 := Lib.hid hr6; have HG6 := Lib.hid hg6; have HAT6 := Lib.hid hat6; clear hr6 hg6 hat6 y0 y1 y2))
                  go_roundg (N - (i + 1))
                  case measure => omega
                  case rel =>
                    obtain ⟨z1, z2, z4⟩ := HZ1.out
                    have ho8 : Own w8 q 3 .i64 (.slice ra (mapP l ps).length rc) (mapP l ps) := by
                      have h := HO8.out
                      rw [HLF.out.1] at h
                      rw [← HJ.out]
                      exact Row.mono h (by omega)
                    have hpu := HK8.out.push (t := t) (s := s) ho8 (below_alloc w8 (.cells #[.slice ra j rc, .int .i64 t, .string s] 27)) (by rw [← HJ.out]; exact HR6.out) HG6.out HAT6.out
                    refine ⟨i + 1, a6, c6, vs ++ [(.slice ra (mapP l ps).length rc, (mapP l ps, t, s))], by omega, rfl, by go_num, by rw [z2], ?_, by rw [List.map_append, HVS.out, HKT.out]; rfl, HKP.out.step fun _ p hp => ?_, fun n hn => ?_⟩
                    · rw [z2, ← toL_step l (-1) hlt, z1]
                      exact hpu
                    · rw [HPS.out] at hp
                      exact HIN.out p (by rw [HLF.out.2]; exact hp)
                    · by_cases e : n = i
                      · subst e; have := HCTI.out; omega
                      · exact HCO.out n (by omega)
        · have hin := show i = N by omega
          subst hin
          have HFIN : Hid (RdC wr (fun b => w.heap.size ≤ b) a (rank l i) (keepTo L l i) ∧ Rd wr .i64 (some ⟨gt, 0, none⟩) i (toL l i i) ∧ keepCode L l = 0 ∧ Below w.heap.size w wr) := Lib.hid (by
            have hk := HKP.out
            have hw := HGL0.out.wf
            have hnd : l.Nodup := List.nodup_iff_count.2 fun x => by
              by_cases hx : x ∈ l
              · have hb := HA.out x hx
                obtain ⟨r, rfl⟩ := Int.eq_ofNat_of_zero_le hb.1
                exact HCO.out r (by omega)
              · rw [List.count_eq_zero.2 hx]; omega
            have hwk : WfL (keepTo L l i) := keep_wf HGL.out hw (by rw [HN.out]; exact Nat.le_refl _) (by rw [← HN.out]; exact hn1)
            refine ⟨?_, hkm.tn.rd (toL_wf hn1), keepCode_ok (by rw [← HN.out]; exact HA.out) hnd (by rw [← HN.out]; exact hk), hkm.bel⟩
            have h := hkm.rd (by rw [HVS.out]; exact hwk) (by have := rank_le l i; omega)
            rw [HVS.out] at h
            exact h)
          clear hkm
          go_wp2
          go_ret3
          refine ⟨HFIN.out.2.2.2, .inr ⟨HFIN.out.2.2.1, a, c, some ⟨gt, 0, none⟩, i, ?_, ?_, ?_⟩⟩
          · rw [keepTo_len, ← HN.out]; rfl
          · rw [keepTo_len, ← HN.out]; exact HFIN.out.1
          · rw [← HN.out]; exact HFIN.out.2.1

end Go.Proofs.Ytoakelgjofdmpaa
