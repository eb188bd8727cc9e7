/-
  square: the walk.
-/
import Derived.Test.YtajajkganamfiaaMWordQ
namespace Go.Proofs.Ytajajkganamfiaa
open Go.RowKit
set_option linter.unusedVariables false
set_option linter.unusedSimpArgs false

theorem sq_step {M : Nat → Nat → Nat} {n q r t j : Nat} {L K us : List Nat} (hK : K = lsf (M r) n) (ht : K[j]? = some t) (htn : t < n) (hl : us.length = n)
    (h : ∀ p, p < n → us.getD p 0 = cp (acc2 M n q L p + part2 M q r (K.take j) p)) :
    ∀ p, p < n → (us.set t (addC (us.getD t 0) (M q r) (M r t))).getD p 0 = cp (acc2 M n q L p + part2 M q r (K.take (j + 1)) p) := by
  intro p hp
  have hnd : t ∉ K.take j := by
    intro hm
    have hd : K.Nodup := by rw [hK]; exact lsf_nodup _ _
    rw [← List.take_append_drop j K] at hd
    have hj : j < K.length := (List.getElem?_eq_some_iff.1 ht).1
    have h2 : t ∈ K.drop j := by
      rw [List.drop_eq_getElem_cons hj]
      rw [List.getElem?_eq_getElem hj, Option.some.injEq] at ht
      rw [ht]; exact List.mem_cons_self
    exact (List.nodup_append.1 hd).2.2 t hm t h2 rfl
  rw [getD_set _ _ _ _ (by omega), take_snoc ht, part2_snoc M q r hnd]
  by_cases e : p = t
  · subst e
    rw [if_pos rfl, if_pos rfl, addC_eq, h p hp, cp_add, Nat.add_assoc]
  · rw [if_neg e, if_neg e, h p hp, Nat.add_zero]

theorem sq_row {M : Nat → Nat → Nat} {n q r i : Nat} {L us : List Nat} (hr : L[i]? = some r)
    (h : ∀ p, p < n → us.getD p 0 = cp (acc2 M n q (L.take i) p + part2 M q r (lsf (M r) n) p)) :
    ∀ p, p < n → us.getD p 0 = cp (acc2 M n q (L.take (i + 1)) p) := by
  intro p hp
  rw [h p hp, part2_all M n q r p hp, take_snoc hr]
  unfold acc2
  rw [sml_snoc]

theorem sq_nil (M : Nat → Nat → Nat) (q r p : Nat) : part2 M q r [] p = 0 := by unfold part2; rw [if_neg (by simp)]

def SquarePost (n : Nat) (M : Nat → Nat → Nat) (w : World) (e : Ending) (w' : World) : Prop :=
  ∃ a c, e = .returned (.slice a n c) ∧ RdS w' a n (cpM (mm n M M)) ∧ Below w.heap.size w w'

set_option maxRecDepth 100000 in
set_option maxHeartbeats 2000000 in
theorem square_any (sa : Option Addr) (sc n : Nat) (M : Nat → Nat → Nat) (w : World) (hs : RdS w sa n M) (hn : n ≤ 256) :
    Calls Try.prog 37 #[.slice sa n sc] w (SquarePost n M w) := by
  have HS := Lib.hid hs
  have HN := Lib.hid hn
  have hn9 : (n : Int) ≤ 256 := by omega
  have HRF1 : Hid (RF w.heap.size (fun _ => False) w [some (3, .slice none 0 0, [])]) := Lib.hid (RF.one (Own.nil w w.heap.size 3 .i64) (fun g hg => by cases hg) (fun b hb => hb.elim) (Nat.le_refl _))
  clear hs hn
  go_enter Try.func37, Try.ntmps37
  go_wp2_with (at_make; refine RF.make HRF1.out ESS rfl rfl _ _ rfl _ _ _ _ n rfl rfl rfl rfl (by have := HN.out; omega) (by have := HN.out; omega) ?_; intro w2 hrf2 hb2 hsz2; have HRF2 := Lib.hid hrf2; have HB2 := Lib.hid hb2; clear hrf2 hb2 hsz2)
  obtain ⟨g, hg⟩ : ∃ g, g = w.heap.size := ⟨_, rfl⟩
  have HG := Lib.hid hg
  rw [← hg] at HRF2 ⊢
  clear hg
  go_loopw [16] (fun jv wr => ∃ (q : Nat) (xs : List Value), jv = .int .i64 q ∧ q ≤ n ∧ StepsTo wr g n q (cpM (mm n M M)) xs ∧ RF g (fun _ => False) wr [some (3, .slice none 0 0, []), some (87, .slice (some ⟨g, 0, none⟩) n n, xs)] ∧ Below w.heap.size w wr) (fun jv _ => n - (intOf jv).toNat)
  case atStart => exact ⟨0, List.replicate n (.slice none 0 0), rfl, by omega, ⟨by simp, fun r hr => by omega⟩, HRF2.out, HB2.out⟩
  case round =>
    obtain ⟨q, xs, rfl, hq, hst, hrf, hb⟩ := hrel
    have HST := Lib.hid hst
    have HRFR := Lib.hid hrf
    have HBR := Lib.hid hb
    by_cases hlt : q < n
    · obtain ⟨b, off, aq, cq, rfl, hcq0, hrq⟩ := HS.out.cell q hlt
      have hcq := below_cell hb hcq0
      have HRQ := Lib.hid (hrq.below hb)
      obtain ⟨L, hL⟩ : ∃ L, L = lsf (M q) n := ⟨_, rfl⟩
      have HL := Lib.hid hL
      have HLL : Hid (L.length ≤ 256) := Lib.hid (by rw [hL]; have := lsf_len (M q) n; have := HN.out; omega)
      rw [← hL] at hcq HRQ
      have hqi : (q : Int) < (n : Int) := by omega
      have hq9 : (q : Int) ≤ 256 := by omega
      have HLT := Lib.hid hlt
      generalize hm : L.length = m at *
      have HM := Lib.hid hm
      have HB9 : Hid (w.heap.size ≤ wr.heap.size) := Lib.hid hb.size
      clear hlt hL hm hst hrf hb hq hcq0 hrq
      go_wp2_with (at_make; refine RF.make HRFR.out EU64 rfl rfl _ _ rfl _ _ _ _ n rfl rfl rfl rfl (by have := HN.out; omega) (by have := HN.out; omega) ?_; intro w3 hrf3 hb3 hsz3; have HRF3 := Lib.hid hrf3; have HB3 := Lib.hid hb3; clear hrf3 hb3 hsz3)
      obtain ⟨gc, hgc⟩ : ∃ gc, gc = wr.heap.size := ⟨_, rfl⟩
      have HGC := Lib.hid hgc
      rw [← hgc] at HRF3 ⊢
      clear hgc hcq
      obtain ⟨wo, hwo⟩ : ∃ wo : World, wo = wr := ⟨_, rfl⟩
      subst hwo
      go_loopw [26] (fun jv wr => ∃ (i : Nat) (us : List Nat), jv = .int .i64 i ∧ i ≤ m ∧ us.length = n ∧ (∀ p, p < n → us.getD p 0 = cp (acc2 M n q (L.take i) p)) ∧ RF g (fun _ => False) wr [some (3, .slice none 0 0, []), some (87, .slice (some ⟨g, 0, none⟩) n n, xs), some (72, .slice (some ⟨gc, 0, none⟩) n n, u64v us)] ∧ Below wo.heap.size wo wr) (fun jv _ => m - (intOf jv).toNat)
      case atStart => exact ⟨0, List.replicate n 0, rfl, by omega, by simp, fun p hp => by simp [List.getD, List.getElem?_replicate, hp]; rfl, by
        have h := HRF3.out
        rw [show u64v (List.replicate n 0) = List.replicate n (.int .u64 0) by simp [u64v]]
        exact h, HB3.out⟩
      case round =>
        obtain ⟨i, us, rfl, hi, hul, hus, hrf, hb⟩ := hrel
        have HU := Lib.hid (And.intro hul hus)
        have HRFI := Lib.hid hrf
        have HBI := Lib.hid hb
        by_cases hlt : i < m
        · obtain ⟨r, hr⟩ : ∃ r, L[i]? = some r := ⟨_, List.getElem?_eq_getElem (by rw [HM.out]; exact hlt)⟩
          have hrn : r < n := by
            have h1 := List.mem_of_getElem? hr
            rw [HL.out] at h1
            exact List.mem_range.1 (List.mem_filter.1 h1).1
          obtain ⟨g1, g2⟩ := cellsS_get (f := M q) hr
          obtain ⟨b2, off2, rfl, k1⟩ := (HRQ.out.below hb).cell _ _ g1
          obtain ⟨b3, off3, e3, k2⟩ := (HRQ.out.below hb).cell _ _ g2
          simp only [Option.some.injEq, Addr.mk.injEq, and_true] at e3
          obtain ⟨rfl, rfl⟩ := e3
          rw [← Nat.add_assoc] at k2
          obtain ⟨y, hy⟩ : ∃ y, y = M q r := ⟨_, rfl⟩
          have HY := Lib.hid hy
          have HY9 : Hid (y ≤ capM) := Lib.hid (by rw [hy]; exact HS.out.le q r)
          rw [← hy] at k2
          have HR := Lib.hid hr
          have HRN := Lib.hid hrn
          have hri : (r : Int) < (n : Int) := by omega
          have hr9 : (r : Int) ≤ 256 := by omega
          have hii : (i : Int) < (m : Int) := by omega
          have hi9 : (i : Int) ≤ 256 := by have := HLL.out; omega
          have HI := Lib.hid hlt
          clear g1 g2 hy hr hrn hul hus hrf hi hlt
          go_upto_region 9 with fail
          obtain ⟨wa, hwa⟩ : ∃ wa, wa = wr.alloc (.cells #[.int .i64 (r : Int), .int .u64 (y : Int)] 93) := ⟨_, rfl⟩
          have hba : Below wr.heap.size wr wa := by rw [hwa]; exact below_alloc _ _
          have t0 : wa.cell? ⟨wr.heap.size, 0, none⟩ = some (.int .i64 (r : Int)) := by rw [hwa]; simp
          have t1 : wa.cell? ⟨wr.heap.size, 1, none⟩ = some (.int .u64 (y : Int)) := by rw [hwa]; simp
          rw [← hwa]
          have hbwa : Below w.heap.size w wa := HBR.out.trans ((HBI.out.trans (hba.mono HBI.out.size)).mono HBR.out.size)
          obtain ⟨b4, off4, ar, cr, e4, hcr, hrr⟩ := HS.out.cell r HRN.out
          simp only [Option.some.injEq, Addr.mk.injEq, and_true] at e4
          obtain ⟨rfl, rfl⟩ := e4
          have hcr := below_cell hbwa hcr
          have HRR := Lib.hid hrr
          obtain ⟨K, hK⟩ : ∃ K, K = lsf (M r) n := ⟨_, rfl⟩
          have HK := Lib.hid hK
          have HKL : Hid (K.length ≤ 256) := Lib.hid (by rw [hK]; have := lsf_len (M r) n; have := HN.out; omega)
          rw [← hK] at hcr HRR
          obtain ⟨b1, hb1⟩ : ∃ b1, b1 = wr.heap.size := ⟨_, rfl⟩
          rw [← hb1] at t0 t1 ⊢
          have HGB : Hid (gc < b1) := Lib.hid (by rw [hb1]; exact (HRFI.out.lt (i := 2) rfl rfl).1)
          have HT1 := Lib.hid t1
          have HRFA := Lib.hid (HRFI.out.below hba)
          have HBA := Lib.hid (HBI.out.trans (hba.mono HBI.out.size))
          generalize hkm : K.length = mr at *
          have HKM := Lib.hid hkm
          clear k1 k2 hwa hba hbwa hrr hK hkm hb1 hb
          go_wp2
          obtain ⟨wi, hwi⟩ : ∃ wi : World, wi = wa := ⟨_, rfl⟩
          subst hwi
          go_loopw [36] (fun jv wr => ∃ (j : Nat) (us' : List Nat), jv = .int .i64 j ∧ j ≤ mr ∧ us'.length = n ∧ (∀ p, p < n → us'.getD p 0 = cp (acc2 M n q (L.take i) p + part2 M q r (K.take j) p)) ∧ RF g (fun _ => False) wr [some (3, .slice none 0 0, []), some (87, .slice (some ⟨g, 0, none⟩) n n, xs), some (72, .slice (some ⟨gc, 0, none⟩) n n, u64v us')] ∧ Below wo.heap.size wo wr ∧ wr.cell? ⟨b1, 1, none⟩ = some (.int .u64 (y : Int)) ∧ b1 < wr.heap.size) (fun jv _ => mr - (intOf jv).toNat)
          case atStart => exact ⟨0, us, rfl, by omega, HU.out.1, fun p hp => by rw [List.take_zero, sq_nil, Nat.add_zero]; exact HU.out.2 p hp, HRFA.out, HBA.out, HT1.out, World.block_lt_of_cell? _ _ HT1.out⟩
          case round =>
            obtain ⟨j, us', rfl, hj, hul, hus, hrf, hb, hb1, hb1s⟩ := hrel
            have HU2 := Lib.hid (And.intro hul hus)
            have HRFJ := Lib.hid hrf
            have HBJ := Lib.hid hb
            have HB1S := Lib.hid hb1s
            by_cases hlt : j < mr
            · obtain ⟨t, ht⟩ : ∃ t, K[j]? = some t := ⟨_, List.getElem?_eq_getElem (by rw [HKM.out]; exact hlt)⟩
              have htn : t < n := by
                have h1 := List.mem_of_getElem? ht
                rw [HK.out] at h1
                exact List.mem_range.1 (List.mem_filter.1 h1).1
              obtain ⟨g1, g2⟩ := cellsS_get (f := M r) ht
              have hbij : Below w.heap.size w wr := HBR.out.trans (hb.mono HBR.out.size)
              obtain ⟨b5, off5, rfl, k1⟩ := (HRR.out.below hbij).cell _ _ g1
              obtain ⟨b6, off6, e6, k2⟩ := (HRR.out.below hbij).cell _ _ g2
              simp only [Option.some.injEq, Addr.mk.injEq, and_true] at e6
              obtain ⟨rfl, rfl⟩ := e6
              rw [← Nat.add_assoc] at k2
              obtain ⟨z, hz⟩ : ∃ z, z = M r t := ⟨_, rfl⟩
              obtain ⟨x, hx⟩ : ∃ x, x = us'.getD t 0 := ⟨_, rfl⟩
              have HX := Lib.hid (And.intro hx hz)
              have HX9 : Hid (x ≤ capM ∧ z ≤ capM) := Lib.hid ⟨by rw [hx, hus t htn]; exact cp_le _, by rw [hz]; exact HS.out.le r t⟩
              rw [← hz] at k2
              have HTT := Lib.hid ht
              have hti : (t : Int) < (n : Int) := by omega
              have ht9 : (t : Int) ≤ 256 := by omega
              have hji : (j : Int) < (mr : Int) := by omega
              have hj9 : (j : Int) ≤ 256 := by have := HKL.out; omega
              have HJ := Lib.hid hlt
              have HTN := Lib.hid htn
              have HC1 := Lib.hid hb1
              clear ht htn g1 g2 hz hx hul hus hrf hb hj hlt hb1 hb1s hbij
              go_upto_region 12 with fail
              obtain ⟨wq, hwq⟩ : ∃ wq, wq = wr.alloc (.cells #[.int .i64 (t : Int), .int .u64 (z : Int)] 93) := ⟨_, rfl⟩
              have HBQ : Hid (Below wr.heap.size wr wq) := Lib.hid (by rw [hwq]; exact below_alloc _ _)
              have t0 : wq.cell? ⟨wr.heap.size, 0, none⟩ = some (.int .i64 (t : Int)) := by rw [hwq]; simp
              have t1 : wq.cell? ⟨wr.heap.size, 1, none⟩ = some (.int .u64 (z : Int)) := by rw [hwq]; simp
              have HRFQ := Lib.hid ((HRFJ.out.below HBQ.out).below (Below.refl _ wq).drew)
              have hlx : wq.drew.cell? ⟨gc, t, none⟩ = some (.int .u64 (x : Int)) := HRFQ.out.cell (i := 2) rfl (show (u64v us')[t]? = _ from by
                have hql : t < us'.length := by rw [HU2.out.1]; exact HTN.out
                rw [List.getElem?_map, List.getElem?_eq_getElem hql, HX.out.1]
                simp [List.getD, List.getElem?_eq_getElem hql])
              have hq1 : wq.cell? ⟨b1, 1, none⟩ = some (.int .u64 (y : Int)) := below_cell HBQ.out HC1.out
              rw [← hwq]
              have d0 := below_cell (Below.refl wq.heap.size wq).drew t0
              have d1 := below_cell (Below.refl wq.heap.size wq).drew t1
              have d2 := below_cell (Below.refl wq.heap.size wq).drew hq1
              have hro := HRFQ.out.own 2 _ _ _ rfl
              rw [show (u64v us').length = n by simp [HU2.out.1]] at hro
              have hfz : wq.drew.frozen? ⟨gc, t, none⟩ = false := World.ownsRow.frozenAt hro _
              have HRO := Lib.hid hro
              clear hro
              have hfz2 : wq.frozen? ⟨gc, t, none⟩ = false := hfz
              have hlx2 : wq.cell? ⟨gc, t, none⟩ = some (.int .u64 (x : Int)) := hlx
              have HAD := Lib.hid (add_any x y z HX9.out.1 HY9.out HX9.out.2 wq.drew)
              have HRFS : Hid (∀ u, RF g (fun _ => False) (wq.drew.setCell ⟨gc, t, none⟩ u) [some (3, .slice none 0 0, []), some (87, .slice (some ⟨g, 0, none⟩) n n, xs), some (72, .slice (some ⟨gc, 0, none⟩) n n, (u64v us').set t u)]) := Lib.hid (fun u => by
                have hst := World.ownsRow.stored HRO.out t u
                exact HRFQ.out.turn (i := 2) rfl (by rw [show ((u64v us').set t u).length = n by simp [HU2.out.1]]; exact hst.1) hst.2 (.inl rfl))
              have HBS : Hid (∀ u, Below wo.heap.size wo (wq.drew.setCell ⟨gc, t, none⟩ u)) := Lib.hid (fun u => ((HBJ.out.trans (HBQ.out.mono HBJ.out.size)).drew).grown (World.ownsRow.stored HRO.out t u).2 (by have h1 := HBJ.out.size; have h2 := HBQ.out.size; exact Nat.le_trans h1 h2) (fun k hk => by cases hk; exact Nat.le_of_eq HGC.out.symm))
              have HCS : Hid (∀ u, (wq.drew.setCell ⟨gc, t, none⟩ u).cell? ⟨b1, 1, none⟩ = some (.int .u64 (y : Int)) ∧ b1 < (wq.drew.setCell ⟨gc, t, none⟩ u).heap.size) := Lib.hid (fun u => by
                have hf : Fr (fun x => x = gc) wq.drew (wq.drew.setCell ⟨gc, t, none⟩ u) := (Fr.refl (fun x => x = gc) wq.drew).setCell (p := ⟨gc, t, none⟩) rfl u
                have hc := hf.cell d2 (by have := HGB.out; simp; omega)
                exact ⟨hc, World.block_lt_of_cell? _ _ hc⟩)
              clear k1 k2 hwq
              go_region_law (first
                | (go_simp; go_at_call 51; refine HAD.out.mono ?_; rintro e w9 ⟨rfl, rfl⟩))
              all_goals
                (try go_wp2)
                go_roundw
                case rel => exact ⟨j + 1, us'.set t (addC x y z), by go_num, HJ.out, by rw [List.length_set]; exact HU2.out.1, by
                  rw [HX.out.1, HY.out, HX.out.2]
                  exact sq_step HK.out HTT.out HTN.out HU2.out.1 HU2.out.2, by
                  have h := HRFS.out (.int .u64 ((addC x y z : Nat) : Int))
                  rw [show u64v (us'.set t (addC x y z)) = (u64v us').set t (.int .u64 ((addC x y z : Nat) : Int)) by simp [u64v, List.map_set]]
                  exact h, HBS.out _, (HCS.out _).1, (HCS.out _).2⟩
                case measure => have := HJ.out; simp [intOf]; omega
            · obtain rfl : j = mr := by omega
              have hdone := sq_row HR.out (fun p hp => by have h := hus p hp; rw [show K.take j = lsf (M r) n by rw [List.take_of_length_le (by rw [HKM.out]; exact Nat.le_refl _), HK.out]] at h; exact h)
              have HDN := Lib.hid hdone
              clear hul hus hrf hb hj hlt hdone hb1 hb1s
              go_wp2
              go_roundw
              case rel => exact ⟨i + 1, us', by go_num, HI.out, HU2.out.1, HDN.out, HRFJ.out, HBJ.out⟩
              case measure => have := HI.out; simp [intOf]; omega
        · obtain rfl : i = m := by omega
          have hue : us = (List.range n).map fun p => cpM (mm n M M) q p := by
            apply List.ext_getElem (by simp [hul])
            intro p h1 h2
            have h := hus p (by rw [← hul]; exact h1)
            rw [show L.take i = lsf (M q) n by rw [List.take_of_length_le (by rw [HM.out]; exact Nat.le_refl _), HL.out], acc2_all] at h
            simp only [List.getElem_map, List.getElem_range]
            unfold cpM
            rw [← h]
            simp [List.getD, List.getElem?_eq_getElem h1]
          have HCNT : Hid (RdG wr 1 (some ⟨gc, 0, none⟩) n ((List.range n).map fun (p : Nat) => Value.int .u64 ((cpM (mm n M M) q p : Nat) : Int))) := Lib.hid (by
            have ho := hrf.own 2 _ _ _ rfl
            rw [show (u64v us).length = n by rw [List.length_map, hul]] at ho
            have h := ho.rdG
            rw [hue] at h
            rw [show ((List.range n).map fun (p : Nat) => Value.int .u64 ((cpM (mm n M M) q p : Nat) : Int)) = u64v ((List.range n).map fun p => cpM (mm n M M) q p) by simp [u64v]]
            exact h)
          have HLI := Lib.hid (list_any (some ⟨gc, 0, none⟩) n n (cpM (mm n M M) q) wr HCNT.out HN.out (cpM_le _ q))
          obtain ⟨S, hS⟩ : ∃ S, S = lsf (cpM (mm n M M) q) n := ⟨_, rfl⟩
          have HSS := Lib.hid hS
          have HXL : Hid (q < xs.length) := Lib.hid (by rw [HST.out.1]; exact HLT.out)
          unfold ListPost at HLI
          rw [← hS] at HLI
          have HBG : Hid (g ≤ wr.heap.size) := Lib.hid hrf.bw
          generalize hsm : S.length = ms at *
          have HSM := Lib.hid hsm
          clear hul hus hrf hb hi hlt hue hS hsm
          go_wp2_with fail
          refine HLI.out.mono ?_
          rintro e w10 ⟨al, cl, rfl, hrl, hb10⟩
          have HRL := Lib.hid hrl
          have HRF10 := Lib.hid ((HRFI.out.below hb10))
          have HST10 := Lib.hid ((HST.out.below HBI.out).below hb10)
          have HB10 := Lib.hid (HBI.out.trans (hb10.mono HBI.out.size))
          clear hrl hb10
          go_wp2_with (refine guard_op (.store 87 (.tmp 60) (.tmp 59)) rfl ?_; refine RF.store HRF10.out (i := 1) rfl rfl 87 (.tmp 60) (.tmp 59) rfl q rfl (.slice al ms cl) rfl rfl rfl (by kernel_rfl) HXL.out ?_; intro w11 hrf11 hg11 hbl11 hfr11; have HRF11 := Lib.hid hrf11; have HG11 := Lib.hid hg11; clear hrf11 hg11 hbl11 hfr11)
          go_roundw
          case rel =>
            have hrow1 := HRF10.out.own 1 _ _ _ rfl
            have hnew := Row.keep HRL.out hrow1 (by decide) HG11.out
            have hold := HST10.out.keep hrow1 (by decide) HG11.out
            have hbx : Below w.heap.size w w11 := (HBR.out.trans (HB10.out.mono HBR.out.size)).grown HG11.out (by have h1 := HBR.out.size; have h2 := HB10.out.size; omega) (fun k hk => by cases hk; exact Nat.le_of_eq HG.out.symm)
            refine ⟨q + 1, xs.set q (.slice al ms cl), by go_num, HLT.out, ?_, RF.front (r := [some (72, .slice (some ⟨gc, 0, none⟩) n n, u64v us)]) HRF11.out, hbx⟩
            have hp := hold.push (q := q) (a := al) (c := cl) HLT.out (by rw [← HSS.out, HSM.out]; exact hnew.mono HBG.out)
            rw [← HSS.out, HSM.out] at hp
            exact hp
          case measure => have := HLT.out; simp [intOf]; omega
    · obtain rfl : q = n := by omega
      have HRW : Hid (RdS wr (some ⟨g, 0, none⟩) q (cpM (mm q M M))) := Lib.hid ⟨fun r hr => by
        obtain ⟨a, c, h1, h2⟩ := hst.2 r hr
        exact ⟨g, 0, a, c, rfl, by rw [Nat.zero_add]; exact hrf.cell (i := 1) rfl h1, h2.rdG⟩, cpM_le _⟩
      clear hst hrf hb hq hlt
      go_wp2
      go_ret
      exact ⟨some ⟨g, 0, none⟩, q, rfl, HRW.out, HBR.out⟩

end Go.Proofs.Ytajajkganamfiaa
