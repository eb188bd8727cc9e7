/-
  Graph.Keep: the graph of some commits, renumbered, or the error.
-/
import Derived.Test.YtoakelgjofdmpaaHKeepS
import Derived.Test.YtoakelgjofdmpaaHHeads
import Derived.Deep.RegionHeld3
namespace Go.Proofs.Ytoakelgjofdmpaa
open Go.RowKit
set_option linter.unusedVariables false
set_option linter.unusedSimpArgs false

def KeepPost (L : List Cm) (l : List Int) (w : World) (e : Ending) (w' : World) : Prop :=
  Below w.heap.size w w' ∧ ((keepCode L l ≠ 0 ∧ e = .returned (.tuple #[.pointer none, .slice none 0 0, errV (keepCode L l)])) ∨
    (keepCode L l = 0 ∧ Kept L l L.length ∧ ∃ bh ta tc, e = .returned (.tuple #[.pointer (some ⟨bh, 0, none⟩), .slice ta L.length tc, .nilIface]) ∧ GI w' (fun b => w.heap.size ≤ b) bh (keepTo L l L.length) ∧ Rd w' .i64 ta L.length (toL l L.length L.length)))

set_option maxRecDepth 100000 in
set_option maxHeartbeats 4000000 in
theorem keep_any (S : Nat → Prop) (bg : Nat) (L : List Cm) (la : Option Addr) (ln lc : Nat) (l : List Int) (w : World) (hg : RG w S bg L) (hL : GoodL L) (hl : Rd w .i64 la ln l) :
    Calls Try.prog 25 #[.pointer (some ⟨bg, 0, none⟩), .slice la ln lc] w (KeepPost L l w) := by
  have hne : ∀ (a : Addr) (w : World), (binOp .eql 28 (.pointer (some a)) (.pointer none)).run Try.prog w = .ok (.bool false) w := fun a w => by kernel_rfl
  obtain ⟨ga, gc, hgc, hgl⟩ := hg.ex
  have HGL0 := Lib.hid hgl
  have HGL := Lib.hid hL
  have HLL := Lib.hid hl
  have HLEN := Lib.hid hl.len
  have hlx := hl.max
  have hn1 := hg.n1
  obtain ⟨N, hN⟩ : ∃ N, N = L.length := ⟨_, rfl⟩
  have HN := Lib.hid hN
  rw [← hN] at hgc hn1 HGL0
  have HGC := Lib.hid hgc
  clear hg hL hl hN hgl
  go_enter Try.func25, Try.ntmps25
  go_wp2
  go_loopg [23] ln (fun gg iv wr => ∃ i : Nat, i ≤ ln ∧ gg = ln - i ∧ iv = .int .i64 i ∧ (∀ j, j < i → 0 ≤ l.getD j 0 ∧ l.getD j 0 < (N : Int)) ∧ w = wr)
  case atStart => exact ⟨0, by omega, rfl, rfl, fun j hj => by omega, rfl⟩
  case round =>
    obtain ⟨i, hi, rfl, rfl, hall, hw⟩ := hrel
    subst hw
    have HALL := Lib.hid hall
    clear hall
    by_cases hlt : i < ln
    · have hiz : (i : Int) < (ln : Int) := by omega
      obtain ⟨b, off, rfl, hc⟩ := HLL.out.cell i hlt
      have HMEM : Hid (l.getD i 0 ∈ l) := Lib.hid (getD_mem (by rw [HLEN.out]; exact hlt))
      obtain ⟨p, hp⟩ : ∃ p, p = l.getD i 0 := ⟨_, rfl⟩
      have HP := Lib.hid hp
      rw [← hp] at hc
      clear hp
      by_cases hr : 0 ≤ p ∧ p < (N : Int)
      · have HI1 : Hid (hasB N p = true) := Lib.hid (by simp [hasB, hr.1, hr.2])
        have HR := Lib.hid hr
        clear hr
        go_wp2_with fail
        refine (has_any bg ga N gc p w HGC.out).mono ?_
        rw [HI1.out]
        rintro e w2 ⟨rfl, rfl⟩
        go_wp2
        go_roundg (ln - (i + 1))
        case measure => omega
        case rel =>
          refine ⟨i + 1, by omega, rfl, by go_num, fun j hj => ?_, rfl⟩
          by_cases e : j < i
          · exact HALL.out j e
          · obtain rfl : j = i := by omega
            rw [← HP.out]; exact HR.out
      · have HI1 : Hid (hasB N p = false) := Lib.hid (by simp [hasB]; omega)
        have HCODE : Hid (keepCode L l = 1) := Lib.hid (keepCode_range ⟨l.getD i 0, HMEM.out, by rw [← HP.out, ← HN.out]; omega⟩)
        clear hr
        go_wp2_with fail
        refine (has_any bg ga N gc p w HGC.out).mono ?_
        rw [HI1.out]
        rintro e w2 ⟨rfl, rfl⟩
        go_wp2
        go_ret3
        exact ⟨Below.refl _ _, .inl ⟨by rw [HCODE.out]; decide, by rw [HCODE.out]; rfl⟩⟩
    · have hin := show i = ln by omega
      have HA : Hid (∀ k ∈ l, 0 ≤ k ∧ k < (N : Int)) := Lib.hid (fun k hk => by
        obtain ⟨j, hj, rfl⟩ := List.getElem_of_mem hk
        have := HALL.out j (by rw [hin, ← HLEN.out]; exact hj)
        simpa [List.getD, hj] using this)
      clear hin HALL
      go_wp2_with (at_make; refine make_bools EB rfl _ _ rfl w.heap.size _ _ _ _ N rfl rfl rfl rfl (by omega) (Nat.le_refl _) ?_; intro w1 ho1 hg1; have HO1 := Lib.hid ho1; have HB1 := Lib.hid (grown_below' hg1 (base := w.heap.size) (Nat.le_refl _)); clear ho1 hg1)
      obtain ⟨gk, hgk⟩ : ∃ gk, gk = w.heap.size := ⟨_, rfl⟩
      have HGK := Lib.hid hgk
      have HO1b : Hid (OwnB w1 w.heap.size (.slice (some ⟨gk, 0, none⟩) N N) (List.replicate N false)) := Lib.hid (by rw [hgk]; exact HO1.out)
      rw [← hgk]
      clear hgk HO1 hgc
      go_loopg [41] ln (fun gg iv wr => ∃ i : Nat, i ≤ ln ∧ gg = ln - i ∧ iv = .int .i64 i ∧ OwnB wr w.heap.size (.slice (some ⟨gk, 0, none⟩) N N) (markP (List.replicate N false) (l.take i)) ∧ (l.take i).Nodup ∧ Below w.heap.size w wr)
      case atStart => exact ⟨0, by omega, rfl, rfl, HO1b.out, by simp, HB1.out⟩
      case round =>
        clear HO1b HB1
        obtain ⟨i, hi, rfl, rfl, ho, hnd, hb⟩ := hrel
        have HO := Lib.hid ho
        have HND := Lib.hid hnd
        have HB := Lib.hid hb
        clear ho hnd hb
        by_cases hlt : i < ln
        · have hiz : (i : Int) < (ln : Int) := by omega
          obtain ⟨b, off, rfl, hc⟩ := (HLL.out.below HB.out).cell i hlt
          have hil : i < l.length := by rw [HLEN.out]; exact hlt
          have hp := HA.out _ (getD_mem (d := 0) hil)
          have HTK := Lib.hid (getD_take_snoc (d := 0) hil)
          have HMK := Lib.hid (markP_take (List.replicate N false) l hil)
          generalize l.getD i 0 = p at *
          obtain ⟨p, rfl⟩ := Int.eq_ofNat_of_zero_le hp.1
          rw [Int.toNat_natCast] at HMK
          have hpN : p < N := by omega
          have hpz : (p : Int) < (N : Int) := hp.2
          have hkc := OwnB.cell HO.out (j := p) (by rw [mark_len]; exact hpN)
          rw [mark_at (fun k hk => (HA.out k (List.mem_of_mem_take hk)).1) hpN] at hkc
          clear hil hp
          cases hz : (l.take i).contains (p : Int) with
          | true =>
            rw [hz] at hkc
            have HCODE : Hid (keepCode L l = 4) := Lib.hid (keepCode_dup (fun k hk => by rw [← HN.out]; exact HA.out k hk) (fun hnd => by
              have h2 : (l.take (i + 1)).Nodup := (List.take_sublist _ _).nodup hnd
              rw [HTK.out, List.nodup_append] at h2
              exact h2.2.2 _ (List.contains_iff_mem.1 hz) _ (by simp) rfl))
            clear hz
            go_wp2
            go_ret3
            exact ⟨HB.out, .inl ⟨by rw [HCODE.out]; decide, by rw [HCODE.out]; rfl⟩⟩
          | false =>
            rw [hz] at hkc
            have HN2 : Hid ((l.take (i + 1)).Nodup) := Lib.hid (by
              rw [HTK.out, List.nodup_append]
              refine ⟨HND.out, by simp, fun x hx y hy e => ?_⟩
              rw [List.mem_singleton] at hy
              subst hy
              subst e
              rw [List.contains_iff_mem.2 hx] at hz
              cases hz)
            clear hz
            go_wp2_with (refine store_bool rfl _ _ rfl gk p rfl true rfl (by kernel_rfl) w.heap.size N N _ HO.out (mark_len _ _).symm (by rw [mark_len]; exact hpN) ?_; intro w5 ho5 hg5; have HO5 := Lib.hid ho5; have HB5 := Lib.hid (Row.grown HO.out hg5 HB.out.size); clear ho5 hg5)
            go_roundg (ln - (i + 1))
            case measure => omega
            case rel => exact ⟨i + 1, by omega, rfl, by go_num, by rw [HMK.out]; exact HO5.out, HN2.out, HB.out.trans HB5.out⟩
        · have hin := show i = ln by omega
          have HO2 : Hid (OwnB wr w.heap.size (.slice (some ⟨gk, 0, none⟩) N N) (markP (List.replicate N false) l)) := Lib.hid (by have h := HO.out; rw [hin, List.take_of_length_le (by rw [HLEN.out]; exact Nat.le_refl _)] at h; exact h)
          have HND2 : Hid l.Nodup := Lib.hid (by have h := HND.out; rw [hin, List.take_of_length_le (by rw [HLEN.out]; exact Nat.le_refl _)] at h; exact h)
          clear hin HO HND
          go_wp2_with fail
          refine (new_any wr).mono ?_
          rintro e w2 ⟨rfl, hw2⟩
          obtain ⟨bh, hbh⟩ : ∃ bh, bh = wr.heap.size := ⟨_, rfl⟩
          have hc2 : w2.cell? ⟨bh, 0, none⟩ = some (.slice none 0 0) := by rw [hw2, hbh]; simp
          have hf2 : w2.frozen? ⟨bh, 0, none⟩ = false := by rw [hw2, hbh]; simp
          have hb2 : Below wr.heap.size wr w2 := by rw [hw2]; exact below_alloc _ _
          have hs2 : w2.heap.size = wr.heap.size + 1 := by rw [hw2]; simp
          have HC2 := Lib.hid (And.intro hc2 hf2)
          have HB2 := Lib.hid hb2
          have HS2 := Lib.hid hs2
          have HBH := Lib.hid hbh
          have hgc2 := below_cell (bthen HB.out hb2) HGC.out
          rw [← hbh]
          clear hw2 hc2 hf2 hb2 hs2 hbh
          go_wp2_with (at_make; refine make_ints EIG rfl _ _ rfl w.heap.size _ _ _ _ N rfl rfl rfl rfl (by omega) (by have := HB.out.size; have := HB2.out.size; omega) ?_; intro w3 ho3 hg3; have HO3 := Lib.hid ho3; have hb3 := grown_below' hg3 (base := w2.heap.size) (Nat.le_refl _); have HB3 := Lib.hid hb3; have hgc3 := below_cell hb3 hgc2; clear ho3 hg3 hb3 hgc2)
          obtain ⟨gt, hgt⟩ : ∃ gt, gt = w2.heap.size := ⟨_, rfl⟩
          obtain ⟨B, hBB⟩ : ∃ B, B = w3.heap.size := ⟨_, rfl⟩
          have HKM : Hid (KM w w3 gk gt bh B w3.heap.size N (markP (List.replicate N false) l) (toL l N 0) none (rank l 0) 0 []) := Lib.hid (by
            have h1 := HB.out.size
            have h2 := HS2.out
            have h3 := (Row.block_lt HO3.out (g := w2.heap.size) rfl).1
            have h4 := (Row.block_lt HO2.out (g := gk) rfl).1
            have h5 := HBH.out
            have h6 := HGK.out
            refine ⟨Row.below (Row.below HO2.out HB2.out) HB3.out, by rw [toL_zero, hgt]; exact HO3.out, below_cell HB3.out HC2.out.1, (HB3.out.frozen (p := ⟨bh, 0, none⟩) (by show bh < _; omega)).trans HC2.out.2, CpI.nil _ _, ⟨fun g hg => (by cases hg), fun x hx => (by simp at hx)⟩, ?_, Nat.le_refl _, bthen (bthen HB.out HB2.out) HB3.out⟩
            rw [hgt, hBB]; omega)
          rw [← hgt]
          clear hgt hBB HO3 HC2 hgc3
          obtain ⟨KK, hKK⟩ : ∃ KK, KK = markP (List.replicate N false) l := ⟨_, rfl⟩
          have HKK : Hid (KK.length = N ∧ ∀ p, p < N → KK.getD p false = l.contains (p : Int)) := Lib.hid (by
            rw [hKK]; exact ⟨mark_len _ _, fun p hp => mark_at (fun k hk => (HA.out k hk).1) hp⟩)
          rw [← hKK] at HKM
          clear hKK
          go_loopg [66] N (fun gg iv wr => ∃ (i : Nat) (a : Option Addr) (c : Nat) (vs : List (Value × Cm)), i ≤ N ∧ gg = N - i ∧ iv = .int .i64 i ∧ KM w wr gk gt bh B wr.heap.size N KK (toL l N i) a (rank l i) c vs ∧ vs.map (·.2) = keepTo L l i ∧ Kept L l i)
          case atStart => exact ⟨0, none, 0, [], by omega, rfl, rfl, HKM.out, rfl, fun n hn => by omega⟩
          case round =>
            clear HKM HO2 HB HB2 HB3 HS2 HBH HGK
            obtain ⟨i, a, c, vs, hi, rfl, rfl, hkm, hvs, hkp⟩ := hrel
            have HK := Lib.hid hkm
            have HVS := Lib.hid hvs
            have HKP := Lib.hid hkp
            clear hvs hkp
            by_cases hlt : i < N
            · have hiz : (i : Int) < (N : Int) := by omega
              have HBW := Lib.hid hkm.bel
              obtain ⟨b, off, pa, pn, pc, x, hx, hxp, rfl, h1, h2, h3, hpr, hpn⟩ := HGL0.out.parsN hlt
              have HXG : Hid (L.getD i ([], 0, .empty) = x) := Lib.hid (by
                have := (List.getElem?_eq_some_iff.1 hx)
                simp [List.getD, hx])
              have HP8 := Lib.hid ((HGL.out i x hx).1)
              obtain ⟨v9, hv9, hnc⟩ : ∃ v9, v9 = Value.slice pa pn pc ∧ (pn ≤ pc ∧ (pa = none → pc = 0)) := by
                obtain ⟨b2, off2, v2, e2, _, k1, _, _, pa2, pn2, pc2, e3, hn3, _⟩ := HGL0.out.cell i x hx
                cases e2
                rw [h1] at k1
                cases k1
                cases e3
                exact ⟨_, rfl, hn3⟩
              obtain ⟨ps, t, s⟩ := x
              simp only at hxp h2 h3 HP8
              rw [← hxp] at hpr hpn
              subst hpn
              have k1 := below_cell HBW.out h1
              have k2 := below_cell HBW.out h2
              have k3 := below_cell HBW.out h3
              have HPR := Lib.hid hpr
              have HPS : Hid (parsOf L i = ps) := Lib.hid hxp.symm
              have HNC := Lib.hid hnc
              have hp8 := HP8.out
              obtain ⟨q, hq⟩ : ∃ q, q = wr.heap.size := ⟨_, rfl⟩
              rw [← hq] at hkm
              obtain ⟨w2, hw2⟩ : ∃ w2, w2 = wr.alloc (.cells #[.slice pa ps.length pc, .int .i64 t, .string s] 27) := ⟨_, rfl⟩
              have hb2 : Below wr.heap.size wr w2 := by rw [hw2]; exact below_alloc _ _
              have z0 : w2.cell? ⟨q, 0, none⟩ = some (.slice pa ps.length pc) := by rw [hw2, hq]; simp
              have z1 : w2.cell? ⟨q, 1, none⟩ = some (.int .i64 t) := by rw [hw2, hq]; simp
              have z2 : w2.cell? ⟨q, 2, none⟩ = some (.string s) := by rw [hw2, hq]; simp
              have zf : w2.frozen? ⟨q, 0, none⟩ = false := by rw [hw2, hq]; simp
              have HK2 := Lib.hid (hkm.below hb2)
              have HW2 := Lib.hid hw2
              have HZ := Lib.hid (And.intro z0 (And.intro z1 (And.intro z2 zf)))
              have HQ := Lib.hid hq
              have HPB : Hid (∀ p ∈ ps, ∃ r : Nat, p = (r : Int) ∧ r < i) := Lib.hid (fun p hp => by
                have h := pars_lt HGL.out (i := i) (p := p) (by rw [← hxp]; exact hp)
                obtain ⟨r, rfl⟩ := Int.eq_ofNat_of_zero_le h.1
                exact ⟨r, rfl, by omega⟩)
              have HTN : Hid ((toL l N i).length = N) := Lib.hid (toL_len _ _ _)
              clear hkm hx hxp hpr hnc hv9 v9 h1 h2 h3 hw2 hb2 z0 z1 z2 zf hq
              cases hz : l.contains (i : Int) with
              | false =>
                have HZ1 : Hid (toV l i = -1 ∧ rank l (i + 1) = rank l i ∧ keepTo L l (i + 1) = keepTo L l i ∧ ¬ (i : Int) ∈ l) := Lib.hid ⟨by unfold toV; rw [hz]; rfl, by rw [rank_succ, hz]; rfl, by rw [keepTo_succ, hz]; rfl, fun hm => by rw [List.contains_iff_mem.2 hm] at hz; cases hz⟩
                have HKC : Hid (KK.getD i false = false) := Lib.hid (by rw [HKK.out.2 i hlt, hz])
                clear hz
                go_wp2_with (rw [← HW2.out, ← HQ.out]; refine store_int rfl _ _ rfl gt i rfl (-1) rfl (by kernel_rfl) w.heap.size N N _ HK2.out.tn HTN.out.symm (by rw [HTN.out]; exact hlt) ?_; intro w3 ho3 hg3; have HK3 := Lib.hid (HK2.out.num ho3 hg3); have hkc := HK3.out.kcell (p := i) (by rw [HKK.out.1]; exact hlt); rw [HKC.out] at hkc; clear ho3 hg3 k1 k2 k3)
                go_roundg (N - (i + 1))
                case measure => omega
                case rel =>
                  obtain ⟨e1, e2, e3, e4⟩ := HZ1.out
                  refine ⟨i + 1, a, c, vs, by omega, rfl, by go_num, ?_, by rw [e3]; exact HVS.out, HKP.out.step fun hm => absurd hm e4⟩
                  rw [e2, ← toL_step1 l hlt e1]
                  exact HK3.out.mono rfl
              | true =>
                have HZ1 : Hid (toV l i = (rank l i : Int) ∧ rank l (i + 1) = rank l i + 1 ∧ keepTo L l (i + 1) = keepTo L l i ++ [(mapP l ps, t, s)] ∧ (i : Int) ∈ l) := Lib.hid ⟨by unfold toV; rw [if_pos hz], by rw [rank_succ, if_pos hz], by rw [keepTo_succ, if_pos hz, HPS.out, HXG.out], List.contains_iff_mem.1 hz⟩
                have HKC : Hid (KK.getD i false = true) := Lib.hid (by rw [HKK.out.2 i hlt, hz])
                clear hz
                go_wp2_with (rw [← HW2.out, ← HQ.out]; refine store_int rfl _ _ rfl gt i rfl (-1) rfl (by kernel_rfl) w.heap.size N N _ HK2.out.tn HTN.out.symm (by rw [HTN.out]; exact hlt) ?_; intro w3 ho3 hg3; have HK3 := Lib.hid (HK2.out.num ho3 hg3); have hkc := HK3.out.kcell (p := i) (by rw [HKK.out.1]; exact hlt); rw [HKC.out] at hkc; have hf3 : Fr (fun b => b = gt) w2 w3 := .of_grown hg3 fun k hk => (Option.some.inj hk).symm; have hgq : ¬ q = gt := (fun e => by have := HK2.out.lt; omega); have z0 := hf3.cell HZ.out.1 hgq; have z1 := hf3.cell HZ.out.2.1 hgq; have z2 := hf3.cell HZ.out.2.2.1 hgq; have zf := (hf3.frozen (x := ⟨q, 0, none⟩) (World.block_lt_of_cell? w2 _ HZ.out.1) hgq).trans HZ.out.2.2.2; have HF3 := Lib.hid hf3; clear ho3 hg3 k1 k2 k3 hf3 hgq)
                refine (clone_any pa ps.length pc ps w3 (HPR.out.below HK3.out.bel) (by omega) HNC.out.2).mono ?_
                rintro e w4 ⟨ca, cc, rfl, ho4, hb4⟩
                have hq3 : q < w3.heap.size := World.block_lt_of_cell? w3 _ z0
                have y0 := below_cell hb4 z0
                have y1 := below_cell hb4 z1
                have y2 := below_cell hb4 z2
                have yf : w4.frozen? ⟨q, 0, none⟩ = false := (hb4.frozen (p := ⟨q, 0, none⟩) hq3).trans zf
                obtain ⟨w5, hw5⟩ : ∃ w5, w5 = w4.setCell ⟨q, 0, none⟩ (.slice ca ps.length cc) := ⟨_, rfl⟩
                have hf5 : Fr (fun b => b = q) w4 w5 := by rw [hw5]; exact (Fr.refl (fun b => b = q) w4).setCell (p := ⟨q, 0, none⟩) rfl _
                have HK5 := Lib.hid ((HK3.out.below hb4).fr hf5 (fun b e => Nat.le_of_eq e.symm))
                have HO5 : Hid (Own w5 w3.heap.size 3 .i64 (.slice ca ps.length cc) ps) := Lib.hid (Row.fr ho4 hf5 fun g hg e => by have := (Row.block_lt ho4 hg).2; omega)
                have HZ5 : Hid (w5.cell? ⟨q, 0, none⟩ = some (.slice ca ps.length cc) ∧ w5.cell? ⟨q, 1, none⟩ = some (.int .i64 t) ∧ w5.cell? ⟨q, 2, none⟩ = some (.string s)) := Lib.hid (by
                  rw [hw5]; exact ⟨set_same y0, set_other (by simp) y1, set_other (by simp) y2⟩)
                have HQ3 := Lib.hid hq3
                have HW5 := Lib.hid hw5
                clear z0 z1 z2 zf ho4 hb4 hq3 hf5 hw5 hkc HK2 HZ
                go_wp2
                rw [← HW5.out]
                clear y0 y1 y2 yf
                obtain ⟨wo, hwo⟩ : ∃ wo : World, wo = wr := ⟨_, rfl⟩
                subst hwo
                go_loopg [86] ps.length (fun gg jv wr => ∃ j : Nat, j ≤ ps.length ∧ gg = ps.length - j ∧ jv = .int .i64 j ∧ KM w wr gk gt bh B q N KK ((toL l N i).set i (-1)) a (rank l i) c vs ∧ Own wr w3.heap.size 3 .i64 (.slice ca ps.length cc) (mapP l (ps.take j) ++ ps.drop j) ∧ wr.cell? ⟨q, 0, none⟩ = some (.slice ca ps.length cc) ∧ wr.cell? ⟨q, 1, none⟩ = some (.int .i64 t) ∧ wr.cell? ⟨q, 2, none⟩ = some (.string s) ∧ (∀ p ∈ ps.take j, p ∈ l))
                case atStart => exact ⟨0, by omega, rfl, rfl, HK5.out, HO5.out, HZ5.out.1, HZ5.out.2.1, HZ5.out.2.2, fun p hp => by simp at hp⟩
                case round =>
                  clear HK5 HO5 HZ5
                  obtain ⟨j, hj, rfl, rfl, hkm, hoc, c0, c1, c2, hin⟩ := hrel
                  have HK := Lib.hid hkm
                  have HOC := Lib.hid hoc
                  have HIN := Lib.hid hin
                  have HC := Lib.hid (And.intro c0 (And.intro c1 c2))
                  clear hin
                  have HCL : Hid ((mapP l (ps.take j) ++ ps.drop j).length = ps.length) := Lib.hid (by rw [List.length_append, mapP, List.length_map, List.length_take, List.length_drop]; omega)
                  by_cases hjl : j < ps.length
                  · have hjz : (j : Int) < (ps.length : Int) := by omega
                    have hpm : ps.getD j 0 ∈ ps := getD_mem hjl
                    obtain ⟨r, hr, hri⟩ := HPB.out _ hpm
                    have hrN : r < N := by omega
                    have hrz : (r : Int) < (N : Int) := by omega
                    obtain ⟨gp, rfl, hg1, hg2⟩ := hoc.gaddr (by rw [HCL.out]; omega)
                    have hcj : wr.cell? ⟨gp, j, none⟩ = some (.int .i64 (r : Int)) := by
                      have h := hoc.icell (j := j) (by rw [HCL.out]; exact hjl)
                      rw [h, ← hr]
                      congr 2
                      simp only [List.getD]
                      rw [List.getElem?_append_right (by rw [mapP, List.length_map, List.length_take]; omega), mapP, List.length_map, List.length_take, Nat.min_eq_left (Nat.le_of_lt hjl), Nat.sub_self, List.getElem?_drop]
                      simp
                    have hcf := hoc.ifz j
                    have htc : wr.cell? ⟨gt, r, none⟩ = some (.int .i64 (toV l r)) := by
                      have h := hkm.tcell (p := r) (by rw [List.length_set, HTN.out]; exact hrN)
                      rw [h]
                      congr 2
                      simp only [List.getD]
                      rw [List.getElem?_set_ne (by omega)]
                      have := toL_get l (N := N) hri hrN
                      simpa [List.getD] using this
                    have HG1 := Lib.hid hg1
                    have HR := Lib.hid hr
                    clear hkm hoc hg1 hg2 hpm hr
                    by_cases hm : (r : Int) ∈ l
                    · have htv : toV l r = (rank l r : Int) := by unfold toV; rw [if_pos (List.contains_iff_mem.2 hm)]
                      rw [htv] at htc
                      obtain ⟨rr, hrr⟩ : ∃ rr, rr = rank l r := ⟨_, rfl⟩
                      rw [← hrr] at htc
                      have hneg : decide ((rr : Int) < 0) = false := decide_eq_false (by omega)
                      have HRR := Lib.hid hrr
                      have HM := Lib.hid hm
                      have d0 : wr.drew.cell? ⟨q, 0, none⟩ = some (.slice (some ⟨gp, 0, none⟩) ps.length cc) := c0
                      have d1 : wr.drew.cell? ⟨gt, r, none⟩ = some (.int .i64 (rr : Int)) := htc
                      have d2 : wr.drew.cell? ⟨gp, j, none⟩ = some (.int .i64 (r : Int)) := hcj
                      have d3 : wr.drew.frozen? ⟨gp, j, none⟩ = false := hcf
                      clear hm htv hrr c1 c2
                      go_wp2
                      go_region_law (fail)
                      all_goals
                        clear d0 d1 d2 d3
                        obtain ⟨w7, hw7⟩ : ∃ w7, w7 = (wr.setCell ⟨gp, j, none⟩ (.int .i64 (rr : Int))).drew := ⟨_, rfl⟩
                        have hf7 : Fr (fun b => b = gp) wr w7 := by rw [hw7]; exact ((Fr.refl (fun b => b = gp) wr).setCell (p := ⟨gp, j, none⟩) rfl _).drew
                        have HK7 := Lib.hid (HK.out.fr hf7 (fun b e => by have := HG1.out; have := HQ3.out; omega))
                        have HO7 : Hid (Own w7 w3.heap.size 3 .i64 (.slice (some ⟨gp, 0, none⟩) ps.length cc) (mapP l (ps.take (j + 1)) ++ ps.drop (j + 1))) := Lib.hid (by
                          rw [← map_step hjl HR.out, ← HRR.out, hw7]
                          exact Own.drew (HOC.out.iset j (rr : Int)))
                        have hgq : ¬ q = gp := (fun e => by have := HG1.out; have := HQ3.out; omega)
                        have HC7 : Hid (w7.cell? ⟨q, 0, none⟩ = some (.slice (some ⟨gp, 0, none⟩) ps.length cc) ∧ w7.cell? ⟨q, 1, none⟩ = some (.int .i64 t) ∧ w7.cell? ⟨q, 2, none⟩ = some (.string s)) := Lib.hid ⟨hf7.cell HC.out.1 hgq, hf7.cell HC.out.2.1 hgq, hf7.cell HC.out.2.2 hgq⟩
                        rw [← hw7]
                        clear hw7 hf7 hgq c0 hcj hcf htc
                        go_wp2
                        go_roundg (ps.length - (j + 1))
                        case measure => omega
                        case rel =>
                          refine ⟨j + 1, by omega, rfl, by go_num, HK7.out, HO7.out, HC7.out.1, HC7.out.2.1, HC7.out.2.2, fun p hp => ?_⟩
                          rw [getD_take_snoc (d := 0) hjl] at hp
                          rcases List.mem_append.1 hp with hp | hp
                          · exact HIN.out p hp
                          · rw [List.mem_singleton] at hp; rw [hp, HR.out]; exact HM.out
                    · have htv : toV l r = -1 := by
                        unfold toV
                        rw [if_neg (fun h => hm (List.contains_iff_mem.1 h))]
                      rw [htv] at htc
                      have HCODE : Hid (keepCode L l = 4) := Lib.hid (keepCode_par (fun k hk => by rw [← HN.out]; exact HA.out k hk) (not_kept (n := i) (p := (r : Int)) (by rw [← HN.out]; exact hlt) HZ1.out.2.2.2 (by rw [HPS.out, ← HR.out]; exact getD_mem hjl) hm))
                      clear hm htv c1 c2
                      go_wp2
                      go_ret3
                      exact ⟨HK.out.bel, .inl ⟨by rw [HCODE.out]; decide, by rw [HCODE.out]; rfl⟩⟩
                  · have hjn : ¬ ((j : Int) < (ps.length : Int)) := by omega
                    have HLF : Hid (mapP l (ps.take j) ++ ps.drop j = mapP l ps ∧ ps.take j = ps) := Lib.hid (by
                      have e : j = ps.length := by omega
                      subst e
                      simp)
                    have hc0 := hkm.c0
                    have hrk : rank l i ≤ 65536 := by have := rank_le l i; omega
                    have HRK := Lib.hid hrk
                    obtain ⟨nn, hnn⟩ : ∃ nn, nn = rank l i := ⟨_, rfl⟩
                    have HNN := Lib.hid hnn
                    have HML : Hid ((mapP l ps).length = ps.length) := Lib.hid (by rw [mapP, List.length_map])
                    rw [← hnn] at hc0 hrk
                    clear hkm hoc hnn
                    go_upto_region 33 with (refine store_int rfl _ _ rfl gt i rfl (nn : Int) rfl (by kernel_rfl) w.heap.size N N _ HK.out.tn (by rw [List.length_set, HTN.out]) (by rw [List.length_set, HTN.out]; exact hlt) ?_; intro w8 ho8 hg8; have HK8 := Lib.hid (HK.out.num ho8 hg8); have hf8 : Fr (fun b => b = gt) wr w8 := .of_grown hg8 (fun k hk => (Option.some.inj hk).symm); have hgq : ¬ q = gt := (fun e => by have := HK.out.lt; omega); have HF8 := Lib.hid hf8; have HGQ := Lib.hid hgq; clear ho8 hg8 hf8 hgq hc0)
                    have HK9 : Hid (KM w w8 gk gt bh B q N KK (((toL l N i).set i (-1)).set i (nn : Int)) a nn c vs) := Lib.hid (by rw [HNN.out] at HK8 ⊢; exact HK8.out)
                    have HO8 : Hid (Own w8 q 3 .i64 (.slice ca (mapP l ps).length cc) (mapP l ps)) := Lib.hid (by
                      have h := HOC.out
                      rw [HLF.out.1] at h
                      rw [HML.out]
                      exact Row.mono (Row.fr h HF8.out fun g hg e => by have := (Row.block_lt h hg).2; have := HQ3.out; have := HK.out.lt; omega) (Nat.le_of_lt HQ3.out))
                    have e0 : w8.drew.cell? ⟨bh, 0, none⟩ = some (.slice a nn c) := HK9.out.c0
                    have e1 : ∀ o, (w8.alloc o).drew.cell? ⟨bh, 0, none⟩ = some (.slice a nn c) := fun o => below_cell ((below_alloc w8 o).drew) HK9.out.c0
                    have d0 : w8.drew.cell? ⟨q, 0, none⟩ = some (.slice ca ps.length cc) := HF8.out.cell HC.out.1 HGQ.out
                    have d1 : w8.drew.cell? ⟨q, 1, none⟩ = some (.int .i64 t) := HF8.out.cell HC.out.2.1 HGQ.out
                    have d2 : w8.drew.cell? ⟨q, 2, none⟩ = some (.string s) := HF8.out.cell HC.out.2.2 HGQ.out
                    have HBS : Hid (B ≤ (w8.alloc (.cells #[.slice ca ps.length cc, .int .i64 t, .string s] 27)).drew.heap.size) := Lib.hid (by have := HK9.out.lt; have := HK9.out.qle; simp; omega)
                    clear c0 c1 c2
                    go_region_law (refine step_app_row_at (.tmp 118) (.tmp 120) EC rfl rfl B (.slice a nn c) nn (cellsC vs) rfl (Row.drew (Row.below HK9.out.cp.row (below_alloc w8 (.cells #[.slice ca ps.length cc, .int .i64 t, .string s] 27)))) _ 1 _ [.slice ca ps.length cc, .int .i64 t, .string s] rfl ((RdG.lits w8 3 27 1 [.slice ca ps.length cc, .int .i64 t, .string s] rfl).drew) (by simp [Value.oneCell']) (by omega) (by decide) HBS.out ?_; intro a6 c6 w6 hr6 hg6 hat6; have hh := HK9.out.hold ((below_alloc w8 (.cells #[.slice ca ps.length cc, .int .i64 t, .string s] 27)).drew) hg6; have f0 := hh.1; have f1 := hh.2; have HPU := Lib.hid (HK9.out.push HO8.out ((below_alloc w8 (.cells #[.slice ca ps.length cc, .int .i64 t, .string s] 27)).drew) (by rw [HML.out]; exact hr6) hg6 hat6))
                    all_goals
                      clear hr6 hg6 hat6 hh f0 f1 e0 e1 d0 d1 d2
                      go_wp2
                      go_roundg (N - (i + 1))
                      case measure => omega
                      case rel =>
                        obtain ⟨z1, z2, z3, z4⟩ := HZ1.out
                        refine ⟨i + 1, a6, c6, vs ++ [(.slice ca (mapP l ps).length cc, (mapP l ps, t, s))], by omega, rfl, by go_num, ?_, by rw [List.map_append, HVS.out, z3]; rfl, HKP.out.step fun _ p hp => ?_⟩
                        · rw [z2, ← toL_step l (-1) hlt, z1, ← HNN.out]
                          exact HPU.out
                        · rw [HPS.out] at hp
                          exact HIN.out p (by rw [HLF.out.2]; exact hp)
            · have hin := show i = N by omega
              subst hin
              have HFIN : Hid (GI wr (fun b => w.heap.size ≤ b) bh (keepTo L l L.length) ∧ Rd wr .i64 (some ⟨gt, 0, none⟩) L.length (toL l L.length L.length) ∧ Kept L l L.length ∧ keepCode L l = 0 ∧ Below w.heap.size w wr) := Lib.hid (by
                have hn := HN.out
                subst hn
                have hk := HKP.out
                have hw := HGL0.out.wf
                exact ⟨hkm.gi HVS.out hw hn1 (keep_wf HGL.out hw (Nat.le_refl _) hn1), hkm.tn.rd (toL_wf hn1), hk, keepCode_ok HA.out HND2.out hk, hkm.bel⟩)
              clear hkm
              go_wp2
              go_ret3
              exact ⟨HFIN.out.2.2.2.2, .inr ⟨HFIN.out.2.2.2.1, HFIN.out.2.2.1, bh, some ⟨gt, 0, none⟩, i, (by rw [HN.out]; rfl), HFIN.out.1, HFIN.out.2.1⟩⟩

end Go.Proofs.Ytoakelgjofdmpaa
