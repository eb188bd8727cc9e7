/-
  number: the walk.
-/
import Derived.Test.YtajajkganamfiaaMNum
namespace Go.Proofs.Ytajajkganamfiaa
open Go.RowKit Go.Maps
set_option linter.unusedVariables false
set_option linter.unusedSimpArgs false

set_option maxRecDepth 100000 in
set_option maxHeartbeats 2000000 in
theorem number_any (st : Nat) (ac : Option Addr) (nc cc : Nat) (an : Option Addr) (nn cn : Nat) (aa : Option Addr) (na ca : Nat) (cls : List Int) (next : List (List Int)) (acc : List Bool) (ga : Option Addr) (gc : Nat) (b : List Nat) (fa : Option Addr) (fc : Nat) (first : List Nat) (w : World)
    (hm : RdM w ac nc an nn aa na cls next acc) (hv : Valid st cls next acc) (hgr : RdG w 1 ga nn (iv b)) (hbl : b.length = nn) (hfr : RdG w 1 fa first.length (iv first)) (hfs : ∀ q ∈ first, q < nn) (hf0 : 0 < first.length) (hf9 : first.length ≤ 256)
    (hbv : ∀ q ∈ first, ∀ c ∈ nats cls, b.getD (nxN next q c) 0 < first.length) (hbs : b.getD st 0 < first.length) :
    Calls Try.prog 47 #[.agg #[.int .i64 st, .slice ac nc cc, .slice an nn cn, .slice aa na ca], .slice ga nn gc, .slice fa first.length fc] w (NumPost st cls next acc b first w) := by
  obtain ⟨w1, hw1⟩ : ∃ w1, w1 = w.alloc (.cells #[.int .i64 st, .slice ac nc cc, .slice an nn cn, .slice aa na ca] 26) := ⟨_, rfl⟩
  obtain ⟨w2, hw2⟩ : ∃ w2, w2 = w1.alloc (.cells #[.int .i64 0, .slice none 0 0, .slice none 0 0, .slice none 0 0] 26) := ⟨_, rfl⟩
  have hb1 : Below w.heap.size w w1 := by rw [hw1]; exact below_alloc _ _
  have hs1 : w1.heap.size = w.heap.size + 1 := by rw [hw1]; simp
  have hb12 : Below w1.heap.size w1 w2 := by rw [hw2]; exact below_alloc _ _
  have hb2 : Below w.heap.size w w2 := bthen hb1 hb12
  have hct : CT w2 w.heap.size st (.slice ac nc cc) (.slice an nn cn) (.slice aa na ca) := (show CT w1 w.heap.size st (.slice ac nc cc) (.slice an nn cn) (.slice aa na ca) by rw [hw1]; exact alloc_ct _ _ _ _ _ _).below hb12
  have hres : CT w2 (w.heap.size + 1) 0 (.slice none 0 0) (.slice none 0 0) (.slice none 0 0) := by rw [← hs1, hw2]; exact alloc_ct _ _ _ _ _ _
  have HW2 : Hid (w2 = _) := Lib.hid (hw2.trans (by rw [hw1]))
  have hnn : next.length = nn := hm.n.len
  have hna : na = nn := by rw [← hm.a.len, hv.accL, hnn]
  have hnc : nc = 256 := by rw [← hm.c.len, hv.clsL]
  subst hna
  subst hnc
  have hn9 : na ≤ 256 := by rw [← hnn]; exact hv.n1
  have hni : (na : Int) ≤ 256 := by omega
  have HN9 := Lib.hid hn9
  have HNN := Lib.hid hnn
  have HV := Lib.hid hv
  have HCT := Lib.hid hct
  have HRES := Lib.hid hres
  have HROWS := Lib.hid (fun (wx : World) (hb : Below w2.heap.size w2 wx) => (hm.n.below hb2).below hb)
  have HACC := Lib.hid (fun (wx : World) (hb : Below w2.heap.size w2 wx) => (hm.a.below hb2).below hb)
  have HCLS := Lib.hid (fun (wx : World) (hb : Below w2.heap.size w2 wx) => (hm.c.below hb2).below hb)
  have HBLK := Lib.hid (fun (wx : World) (hb : Below w2.heap.size w2 wx) => (hgr.below hb2).below hb)
  have HFST := Lib.hid (fun (wx : World) (hb : Below w2.heap.size w2 wx) => (hfr.below hb2).below hb)
  have HFS := Lib.hid (And.intro hfs (And.intro hf0 hf9))
  have HBV := Lib.hid (And.intro hbl (And.intro hbv hbs))
  have HLET : Hid (∀ i, i < 256 → ∃ c : Nat, cls.getD i 0 = (c : Int) ∧ c < ncls next ∧ (nats cls)[i]? = some c ∧ (nats cls).getD i 0 = c) := Lib.hid (fun i hi => by
    have hl : i < cls.length := by rw [hv.clsL]; exact hi
    have h := hv.let_ (cls.getD i 0) (by simp [List.getD, hl])
    obtain ⟨c, hc⟩ := Int.eq_ofNat_of_zero_le h.1
    have h2 : (nats cls)[i]? = some c := by
      simp only [nats, List.getElem?_map]
      rw [List.getElem?_eq_getElem hl]
      have : cls[i] = (c : Int) := by rw [← hc]; simp [List.getD, hl]
      simp [this]
    exact ⟨c, hc, by omega, h2, by simp [List.getD, h2]⟩)
  have hs2 : w2.heap.size = w.heap.size + 2 := by rw [hw2]; simp [hs1]
  have HS2 := Lib.hid hs2
  have HRF1 : Hid (RF w2.heap.size (fun _ => False) w2 [some (3, .slice none 0 0, [])]) := Lib.hid (RF.one (Own.nil w2 w2.heap.size 3 .i64) (fun g hg => by cases hg) (fun b hb => hb.elim) (Nat.le_refl _))
  have HB2 := Lib.hid hb2
  have hmm := @run_makeMap Try.prog
  have hfi : (first.length : Int) ≤ 256 := by omega
  obtain ⟨C, hC⟩ : ∃ C, C = ncls next := ⟨_, rfl⟩
  have HC := Lib.hid hC
  clear hm hv hgr hbl hfr hfs hf0 hf9 hbv hbs hw1 hw2 hb1 hb12 hb2 hct hres hnn hn9 hC hs1 hs2
  generalize hfl : first.length = fl at *
  have HFL := Lib.hid hfl
  clear hfl
  go_enter Try.func47, Try.ntmps47
  go_upto_region 1 with fail
  rw [← HW2.out]
  go_wp2_with (first
    | (at_make; refine RF.make HRF1.out EIG rfl rfl _ _ rfl _ _ _ _ 256 rfl rfl rfl rfl (by decide) (by decide) ?_; intro w3 hrf3 hb3 hsz3; have HS3 := Lib.hid hb3.size; have HB5 := Lib.hid ((hb3.alloc hb3.size (.cells #[.int .i64 0, .slice (some ⟨w2.heap.size, 0, none⟩) 256 256, .slice none 0 0, .slice none 0 0] 26)).alloc (Nat.le_trans hb3.size (by simp)) (.map #[] 0)); have HRF5 := Lib.hid ((hrf3.addN (.cells #[.int .i64 0, .slice (some ⟨w2.heap.size, 0, none⟩) 256 256, .slice none 0 0, .slice none 0 0] 26)).addN (.map #[] 0)); have HMP5 : Hid (MP ((w3.alloc (.cells #[.int .i64 0, .slice (some ⟨w2.heap.size, 0, none⟩) 256 256, .slice none 0 0, .slice none 0 0] 26)).alloc (.map #[] 0)) (w3.alloc (.cells #[.int .i64 0, .slice (some ⟨w2.heap.size, 0, none⟩) 256 256, .slice none 0 0, .slice none 0 0] 26)).heap.size []) := Lib.hid ⟨.map [], World.ownsMap_made _ Try.prog 9 (plainElem (H := Unit) Try.prog 3), mapIs_start⟩; have HQ5 := Lib.hid ((alloc_ct w3 0 (.slice (some ⟨w2.heap.size, 0, none⟩) 256 256) (.slice none 0 0) (.slice none 0 0) 26).below (below_alloc _ (.map #[] 0))); clear hrf3 hb3 hsz3)
    | (at_make; refine RF.make HRF5.out EU8G rfl rfl _ _ rfl _ _ _ _ fl rfl rfl rfl rfl (by have := HFS.out.2.2; omega) (by have := HFS.out.2.2; omega) ?_; intro w6 hrf6 hb6 hsz6; have HRF6 := Lib.hid hrf6; have HB6 := Lib.hid (HB5.out.trans (hb6.mono HB5.out.size)); have HMP6 := Lib.hid (HMP5.out.fr (S := fun _ => False) (.of_below hb6) (fun h => h)); have HQ6 := Lib.hid (HQ5.out.below hb6); have hx1 := (HCT.out.below HB6.out).c1; clear hrf6 hb6 hsz6))
  obtain ⟨B, hB⟩ : ∃ B, B = w2.heap.size := ⟨_, rfl⟩
  obtain ⟨bq, hbq⟩ : ∃ bq, bq = w3.heap.size := ⟨_, rfl⟩
  obtain ⟨bm, hbm⟩ : ∃ bm, bm = w3.heap.size + 1 := ⟨_, rfl⟩
  obtain ⟨gk, hgk⟩ : ∃ gk, gk = w3.heap.size + 1 + 1 := ⟨_, rfl⟩
  have e1 : (w3.alloc (.cells #[.int .i64 0, .slice (some ⟨w2.heap.size, 0, none⟩) 256 256, .slice none 0 0, .slice none 0 0] 26)).heap.size = w3.heap.size + 1 := by simp
  have e2 : ((w3.alloc (.cells #[.int .i64 0, .slice (some ⟨w2.heap.size, 0, none⟩) 256 256, .slice none 0 0, .slice none 0 0] 26)).alloc (.map #[] 0)).heap.size = w3.heap.size + 1 + 1 := by simp
  rw [e2, e1, ← hgk, ← hbm, ← hbq, ← hB] at HRF6
  rw [e1, ← hbm] at HMP6
  rw [← hbq, ← hB] at HQ6
  rw [← hgk, ← hbm, ← hbq, ← hB]
  have HBB := Lib.hid (show B ≤ bq ∧ B ≤ bm ∧ bq ≠ bm ∧ B = w2.heap.size by have := HS3.out; omega)
  have HRF7 : Hid (RF B (fun x => x = bq ∨ x = bm) w6 [some (3, .slice none 0 0, iv []), some (3, .slice (some ⟨B, 0, none⟩) 256 256, iv (List.replicate 256 0)), some (5, .slice (some ⟨gk, 0, none⟩) fl fl, u8v (List.replicate fl 0))]) := Lib.hid (by
    have h := HRF6.out.weak (N' := fun x => x = bq ∨ x = bm) (fun x h => h.elim (fun h => .inl (.inr h)) .inr)
    rw [show iv (List.replicate 256 0) = List.replicate 256 (.int .i64 0) by simp [iv], show u8v (List.replicate fl 0) = List.replicate fl (.int .u8 0) by simp [u8v]]
    exact h)
  obtain ⟨cl, hcl⟩ : ∃ cl : Nat → Nat, cl = fun x => (nats cls).getD x 0 := ⟨_, rfl⟩
  have HCLF := Lib.hid hcl
  obtain ⟨kf, hkf⟩ : ∃ kf : Nat → List Nat, kf = fun x => colk next b first (cl x) := ⟨_, rfl⟩
  have HKF := Lib.hid hkf
  clear hB hbq hbm hgk e1 e2 hcl hkf
  clear HRF6 HRF5 HMP5 HQ5 HB5
  go_wp2
  go_loopw [9, 34] (fun cv xv wr => ∃ (x : Nat) (fs clsv kv : List Nat) (W : List (List Nat)) (a : Option Addr) (c : Nat), xv = .int .i64 x ∧ x ≤ 256 ∧ cv = .slice a fs.length c ∧ RI kf (List.range 256) 256 x fs clsv W ∧ kv.length = fl ∧ RF B (fun x => x = bq ∨ x = bm) wr [some (3, .slice a fs.length c, iv (fs.map cl)), some (3, .slice (some ⟨B, 0, none⟩) 256 256, iv clsv), some (5, .slice (some ⟨gk, 0, none⟩) fl fl, u8v kv)] ∧ MP wr bm W ∧ CT wr bq 0 (.slice (some ⟨B, 0, none⟩) 256 256) (.slice none 0 0) (.slice none 0 0) ∧ Below w2.heap.size w2 wr) (fun _ xv _ => 256 - (intOf xv).toNat)
  case atStart => exact ⟨0, [], List.replicate 256 0, List.replicate fl 0, [], none, 0, rfl, by omega, rfl, RI.start kf _ 256, by simp, HRF7.out, HMP6.out, HQ6.out, HB6.out⟩
  case round =>
    obtain ⟨x, fs, clsv, kv, W, a, c, rfl, hx, rfl, hri, hkv, hrf, hmp, hq, hb⟩ := hrel
    have HRI := Lib.hid hri
    have HKV := Lib.hid hkv
    have HRFR := Lib.hid hrf
    have HMPR := Lib.hid hmp
    have HQR := Lib.hid hq
    have HBR := Lib.hid hb
    by_cases hlt : x < 256
    · obtain ⟨b0, off0, rfl, hcx⟩ := (HCLS.out wr hb).cell x hlt
      obtain ⟨cx, hce, hcn, hcg, hcd⟩ := HLET.out x hlt
      rw [hce] at hcx
      have HXC := Lib.hid (show cl x = cx by rw [HCLF.out]; exact hcd)
      have HCN := Lib.hid hcn
      have HCM := Lib.hid (show cx ∈ nats cls from List.mem_of_getElem? hcg)
      have hxi : (x : Int) < 256 := by omega
      have HLT := Lib.hid hlt
      generalize hfsl : fs.length = m at *
      have HFSL := Lib.hid hfsl
      have hcxi : (cx : Int) < (C : Int) := by rw [HC.out]; omega
      clear hlt hce hcn hcg hcd hx hri hkv hrf hmp hq hb hfsl hx1
      go_wp2
      obtain ⟨wo, hwo⟩ : ∃ wo : World, wo = wr := ⟨_, rfl⟩
      subst hwo
      go_loopw [41] (fun iv2 wr => ∃ (i : Nat) (kv : List Nat), iv2 = .int .i64 i ∧ i ≤ fl ∧ kv.length = fl ∧ kv.take i = (kf x).take i ∧ RF B (fun x => x = bq ∨ x = bm) wr [some (3, .slice a m c, iv (fs.map cl)), some (3, .slice (some ⟨B, 0, none⟩) 256 256, iv clsv), some (5, .slice (some ⟨gk, 0, none⟩) fl fl, u8v kv)] ∧ MP wr bm W ∧ CT wr bq 0 (.slice (some ⟨B, 0, none⟩) 256 256) (.slice none 0 0) (.slice none 0 0) ∧ Below w2.heap.size w2 wr) (fun iv2 _ => fl - (intOf iv2).toNat)
      case atStart => exact ⟨0, kv, rfl, by omega, HKV.out, by simp, HRFR.out, HMPR.out, HQR.out, HBR.out⟩
      case round =>
        obtain ⟨i, kv, rfl, hi, hkl, hkt, hrf, hmp, hq, hb⟩ := hrel
        have HK2 := Lib.hid (And.intro hkl hkt)
        have HRFK := Lib.hid hrf
        have HMPK := Lib.hid hmp
        have HQK := Lib.hid hq
        have HBK := Lib.hid hb
        have hx2 := (HCT.out.below hb).c2
        by_cases hil : i < fl
        · obtain ⟨q, hq1⟩ : ∃ q, first[i]? = some q := ⟨_, List.getElem?_eq_getElem (by rw [HFL.out]; exact hil)⟩
          have hqm := List.mem_of_getElem? hq1
          have hqn := HFS.out.1 q hqm
          obtain ⟨fb, fo, rfl, hcf⟩ := (HFST.out wr hb).cell i (.int .i64 (q : Int)) (by simp [iv, hq1])
          obtain ⟨rb, ro, b2, off2, ci, rfl, hr1, hr2⟩ := row_cell (HROWS.out wr hb) HV.out hqn HCN.out
          have hpn := (nxN_val HV.out (q := q) (c := cx) (by rw [HNN.out]; exact hqn) HCN.out).2.1
          rw [HNN.out] at hpn
          obtain ⟨p, hp⟩ : ∃ p, p = nxN next q cx := ⟨_, rfl⟩
          obtain ⟨y, hy⟩ : ∃ y, y = b.getD p 0 := ⟨_, rfl⟩
          have hyl : y < fl := by rw [hy, hp]; exact HBV.out.2.1 q hqm cx HCM.out
          have hpb : p < b.length := by rw [HBV.out.1, hp]; exact hpn
          obtain ⟨gb, go, rfl, hcg⟩ := (HBLK.out wr hb).cell p (.int .i64 (y : Int)) (by
            rw [List.getElem?_map, List.getElem?_eq_getElem hpb, hy]
            simp [List.getD, List.getElem?_eq_getElem hpb])
          have HKE : Hid ((kf x)[i]? = some y) := Lib.hid (by
            rw [HKF.out]
            simp only [colk, List.getElem?_map, hq1, Option.map_some]
            rw [HXC.out, hy, hp])
          rw [← hp] at hr2 hpn
          rw [← HC.out] at hr1
          have hwrap : IntKind.u8.wrap (y : Int) = (y : Int) := IntWalk.u8_in _ (by have := HFS.out.2.2; omega)
          have hpi : (p : Int) < (na : Int) := by omega
          have hqi : (q : Int) < (na : Int) := by omega
          have hili : (i : Int) < (fl : Int) := by omega
          have hi9 : (i : Int) ≤ 256 := by omega
          have hp9 : (p : Int) ≤ 256 := by omega
          have hq9 : (q : Int) ≤ 256 := by omega
          have HIL := Lib.hid hil
          clear hq1 hqm hqn hp hy hyl hpb hpn hkl hkt hrf hmp hq hb hi hil
          go_wp2_with (refine guard_op (.store 5 (.tmp 60) (.tmp 59)) rfl ?_; refine RF.store HRFK.out (i := 2) rfl rfl 5 (.tmp 60) (.tmp 59) rfl i rfl (.int .u8 (y : Int)) rfl rfl rfl (by kernel_rfl) (by rw [List.length_map, HK2.out.1]; exact HIL.out) ?_; intro w9 hrf9 hg9 hbl9 hfr9; have HRF9 := Lib.hid hrf9; have HB9 := Lib.hid (HBK.out.trans (hbl9.mono (Nat.le_of_eq HBB.out.2.2.2.symm))); have HMP9 := Lib.hid (HMPK.out.fr hfr9 (fun h => h (.inr rfl))); have HQ9 := Lib.hid (HQK.out.fr hfr9 (fun h => h (.inl rfl))); clear hrf9 hg9 hbl9 hfr9)
          go_roundw
          case rel => exact ⟨i + 1, kv.set i y, by go_num, HIL.out, by rw [List.length_set]; exact HK2.out.1, by
            rw [take_set_snoc (by rw [HK2.out.1]; exact HIL.out), HK2.out.2, take_snoc HKE.out], by
            have h := HRF9.out
            rw [show u8v (kv.set i y) = (u8v kv).set i (.int .u8 (y : Int)) by simp [u8v, List.map_set]]
            exact h, HMP9.out, HQ9.out, HB9.out⟩
          case measure => have := HIL.out; simp [intOf]; omega
        · obtain rfl : fl = i := by omega
          have HKL : Hid ((kf x).length = fl) := Lib.hid (by rw [HKF.out]; simp [colk, HFL.out])
          have HKK : Hid (kv = kf x) := Lib.hid (by
            have h := hkt
            rwa [List.take_of_length_le (by omega), List.take_of_length_le (by rw [HKL.out]; exact Nat.le_refl _)] at h)
          have HKYQ : Hid (Ky (kf x)) := Lib.hid ⟨by rw [HKL.out]; have := HFS.out.2.2; omega, fun u hu => by
            rw [HKF.out] at hu
            obtain ⟨q, hq, rfl⟩ := List.mem_map.1 hu
            have := HBV.out.2.1 q hq (cl x) (by rw [HXC.out]; exact HCM.out)
            have := HFS.out.2.2
            omega⟩
          rw [HKK.out] at HRFK
          have hcv := run_convert_bytes_arg (P := Try.prog) wr 28 5 Try.underlying28 Try.underlying5 gk 0 fl fl (nints (kf x)) (by simp [HKL.out]) (fun i hi => by
            rw [Nat.zero_add]
            have hil : i < (kf x).length := by rw [HKL.out]; exact hi
            refine HRFK.out.cell (i := 2) rfl (show (u8v (kf x))[i]? = some (.int .u8 ((nints (kf x)).getD i 0)) from ?_)
            rw [List.getElem?_map, List.getElem?_eq_getElem hil]
            simp [List.getD, List.getElem?_map, List.getElem?_eq_getElem hil]) 9 Try.underlying9
          rw [show strOfNums (nints (kf x)) = kstr (kf x) from rfl] at hcv
          have hq1 := hq.c1
          have HXR : Hid ((List.range 256)[x]? = some x) := Lib.hid (by rw [List.getElem?_range HLT.out])
          have HWL : Hid (W.length = m) := Lib.hid (by rw [← HRI.out.map, List.length_map, HFSL.out])
          have hx9 : (x : Int) ≤ 256 := by omega
          have HM9 : Hid (m ≤ 256) := Lib.hid (by
            have h := HRI.out.w
            have h2 := dd_len (((List.range 256).take x).map kf)
            rw [← h, List.length_map, List.length_take] at h2
            have := HWL.out; simp at h2; omega)
          by_cases hmem : kf x ∈ W
          · have HM := Lib.hid hmem
            clear hmem hkl hkt hrf hmp hq hb hi hil
            go_wp2_with (first
              | (at_lookup; refine look_hit rfl _ _ rfl HMPK.out rfl (kf x) HKYQ.out rfl HM.out ?_)
              | (refine guard_op (.store 3 (.tmp 85) (.tmp 84)) rfl ?_; refine RF.store HRFK.out (i := 1) rfl rfl 3 (.tmp 85) (.tmp 84) rfl x rfl (.int .i64 (ix W (kf x) : Nat)) rfl rfl rfl (by kernel_rfl) (by rw [List.length_map, HRI.out.nl]; exact HLT.out) ?_; intro w9 hrf9 hg9 hbl9 hfr9; have HRF9 := Lib.hid hrf9; have HB9 := Lib.hid (HBK.out.trans (hbl9.mono (Nat.le_of_eq HBB.out.2.2.2.symm))); have HMP9 := Lib.hid (HMPK.out.fr hfr9 (fun h => h (.inr rfl))); have HQ9 := Lib.hid (HQK.out.fr hfr9 (fun h => h (.inl rfl))); clear hrf9 hg9 hbl9 hfr9))
            go_roundw
            case rel => exact ⟨x + 1, fs, clsv.set x (ix W (kf x)), kf x, W, a, c, by go_num, HLT.out, by rw [HFSL.out], HRI.out.hit HXR.out HLT.out HM.out, HKL.out, by
              have h := HRF9.out
              rw [show iv (clsv.set x (ix W (kf x))) = (iv clsv).set x (.int .i64 (ix W (kf x) : Nat)) by simp [iv, List.map_set], HFSL.out]
              exact h, HMP9.out, HQ9.out, HB9.out⟩
            case measure => have := HLT.out; simp [intOf]; omega
          · have HM := Lib.hid hmem
            have hm9 : (m : Int) ≤ 256 := by have := HM9.out; omega
            clear hmem hkl hkt hrf hmp hq hb hi hil
            go_wp2_with (first
              | (at_lookup; refine look_miss rfl _ _ rfl HMPK.out rfl (kf x) HKYQ.out rfl HM.out ?_)
              | (at_mapUpdate; refine upd_key rfl _ _ _ rfl HMPK.out rfl (kf x) HKYQ.out rfl (by rw [HWL.out]; rfl) (by have := HWL.out; have := HM9.out; omega) HM.out ?_; intro w8 hmp8 hg8; have HMP8 := Lib.hid hmp8; have HRF8' := Lib.hid (HRFK.out.cells (Fr.of_grown hg8 (fun k hk => by cases hk; exact .inr rfl))); have HQ8 := Lib.hid (HQK.out.fr (Fr.of_grown (S := fun b => b = bm) hg8 (fun k hk => by cases hk; rfl)) HBB.out.2.2.1); have HB8 := Lib.hid (HBK.out.grown hg8 HBK.out.size (fun k hk => by cases hk; rw [← HBB.out.2.2.2]; exact HBB.out.2.1)); clear hmp8 hg8)
              | (at_builtin; refine RF.append HRF8'.out (i := 0) rfl m (by simp [HFSL.out]) (below_alloc w8 _) (.tmp 77) (.tmp 79) EIG rfl rfl rfl _ 1 _ [.int .i64 (cx : Int)] rfl (RdG.lits w8 1 3 1 [.int .i64 (cx : Int)] rfl) (by simp [Value.oneCell']) (by have := HM9.out; omega) (by decide) ?_; intro a8 c8 w9 hrf9 hg9 hbl9 hfr9; have HRF9 := Lib.hid hrf9; have HB9 := Lib.hid (HB8.out.trans (hbl9.mono (Nat.le_of_eq HBB.out.2.2.2.symm))); have HMP9 := Lib.hid (HMP8.out.fr hfr9 (fun h => h (.inr rfl))); have HQ9 := Lib.hid (HQ8.out.fr hfr9 (fun h => h (.inl rfl))); have hq91 := HQ9.out.c1; clear hrf9 hg9 hbl9 hfr9)
              | (refine guard_op (.store 3 (.tmp 85) (.tmp 84)) rfl ?_; refine RF.store HRF9.out (i := 1) rfl rfl 3 (.tmp 85) (.tmp 84) rfl x rfl (.int .i64 (m : Nat)) rfl rfl rfl (by kernel_rfl) (by rw [List.length_map, HRI.out.nl]; exact HLT.out) ?_; intro w10 hrf10 hg10 hbl10 hfr10; have HRF10 := Lib.hid hrf10; have HB10 := Lib.hid (HB9.out.trans (hbl10.mono (Nat.le_of_eq HBB.out.2.2.2.symm))); have HMP10 := Lib.hid (HMP9.out.fr hfr10 (fun h => h (.inr rfl))); have HQ10 := Lib.hid (HQ9.out.fr hfr10 (fun h => h (.inl rfl))); clear hrf10 hg10 hbl10 hfr10))
            go_roundw
            case rel => exact ⟨x + 1, fs ++ [x], clsv.set x W.length, kf x, W ++ [kf x], a8, c8, by go_num, HLT.out, by simp [HFSL.out], HRI.out.new HXR.out HLT.out HM.out, HKL.out, by
              have h := HRF10.out
              rw [show iv (clsv.set x W.length) = (iv clsv).set x (.int .i64 (m : Nat)) by simp [iv, List.map_set, HWL.out], show iv ((fs ++ [x]).map cl) = iv (fs.map cl) ++ [.int .i64 (cx : Int)] by simp [iv, HXC.out], List.length_append, HFSL.out]
              exact h, HMP10.out, HQ10.out, HB10.out⟩
            case measure => have := HLT.out; simp [intOf]; omega
    · obtain rfl : x = 256 := by omega
      have hge : decide ((256 : Int) < (256 : Int)) = false := by decide
      have HTK : Hid ((List.range 256).take 256 = List.range 256) := Lib.hid (List.take_of_length_le (by simp))
      have HFSL : Hid (fs.length ≤ 256) := Lib.hid (by
        have h := hri.w
        have h2 := dd_len (((List.range 256).take 256).map kf)
        rw [← h, List.length_map, List.length_take, ← hri.map, List.length_map] at h2
        simp at h2; omega)
      obtain ⟨cols, hcols⟩ : ∃ cols, cols = fs.map cl := ⟨_, rfl⟩
      have HCOLS := Lib.hid hcols
      have HCM : Hid (∀ c ∈ cols, c ∈ nats cls ∧ c < C) := Lib.hid (fun c hc => by
        rw [hcols] at hc
        obtain ⟨y, hy, rfl⟩ := List.mem_map.1 hc
        have hy2 := List.mem_range.1 (hri.sub y hy)
        obtain ⟨cx, _, h2, h3, h4⟩ := HLET.out y hy2
        rw [show cl y = cx by rw [HCLF.out]; exact h4, HC.out]
        exact ⟨List.mem_of_getElem? h3, h2⟩)
      rw [← hcols] at hrf
      have hml : fs.length = cols.length := by rw [hcols, List.length_map]
      rw [hml] at hrf HFSL ⊢
      obtain ⟨m, hm⟩ : ∃ m, m = cols.length := ⟨_, rfl⟩
      rw [← hm] at hrf HFSL ⊢
      have HM := Lib.hid hm
      have hm9 : (m : Int) ≤ 256 := by have := HFSL.out; omega
      have HRFL := Lib.hid hrf
      have HQL := Lib.hid hq
      have HBL := Lib.hid hb
      have HRIF := Lib.hid hri
      obtain ⟨y0, -, y2, y3, -⟩ := HCT.out.below hb
      obtain ⟨s0, hs0⟩ : ∃ s0, s0 = b.getD st 0 := ⟨_, rfl⟩
      have hs0l : s0 < fl := by rw [hs0]; exact HBV.out.2.2
      have hstn : st < na := by have := HV.out.s1; rw [HNN.out] at this; omega
      obtain ⟨gb, go, rfl, hcg⟩ := (HBLK.out wr hb).cell st (.int .i64 (s0 : Int)) (by
        have hpb : st < b.length := by rw [HBV.out.1]; exact hstn
        rw [List.getElem?_map, List.getElem?_eq_getElem hpb, hs0]
        simp [List.getD, List.getElem?_eq_getElem hpb])
      have HS0 := Lib.hid (And.intro hs0 hs0l)
      have HBC : Hid (∀ wx, Below w2.heap.size w2 wx → ∀ p, p < na → wx.cell? ⟨gb, go + p, none⟩ = some (.int .i64 ((b.getD p 0 : Nat) : Int))) := Lib.hid (fun wx hbx p hp => by
        have hpb : p < b.length := by rw [HBV.out.1]; exact hp
        obtain ⟨b', o', e, h⟩ := (HBLK.out wx hbx).cell p (.int .i64 ((b.getD p 0 : Nat) : Int)) (by
          rw [List.getElem?_map, List.getElem?_eq_getElem hpb]
          simp [List.getD, List.getElem?_eq_getElem hpb])
        cases e
        exact h)
      have HSTN := Lib.hid hstn
      have hsti : (st : Int) < (na : Int) := by omega
      have hs0i : (s0 : Int) < (fl : Int) := by omega
      have hst9 : (st : Int) ≤ 256 := by omega
      have hs09 : (s0 : Int) ≤ 256 := by omega
      clear hs0 hs0l hstn hm hml hcols hri hkv hrf hmp hq hb hx hlt hx1
      go_wp2_with (first
        | (at_make; refine RF.make HRFL.out EIG rfl rfl _ _ rfl _ _ _ _ fl rfl rfl rfl rfl (by have := HFS.out.2.2; omega) (by have := HFS.out.2.2; omega) ?_; intro w7 hrf7 hb7 hsz7; have HRF7 := Lib.hid hrf7; have HB7 := Lib.hid (HBL.out.trans (hb7.mono HBL.out.size)); have HQ7 := Lib.hid (HQL.out.below hb7); have y0 := below_cell hb7 y0; have hcg := below_cell hb7 hcg; clear hrf7 hb7 hsz7)
        | (refine guard_op (.store 3 (.tmp 96) (.const (.int .i64 1))) rfl ?_; refine RF.store HRF7.out (i := 3) rfl rfl 3 (.tmp 96) (.const (.int .i64 1)) rfl s0 rfl (.int .i64 1) rfl rfl rfl (by kernel_rfl) (by simp; exact HS0.out.2) ?_; intro w8 hrf8 hg8 hbl8 hfr8; have HRF8 := Lib.hid hrf8; have HB8 := Lib.hid (HB7.out.trans (hbl8.mono (Nat.le_of_eq HBB.out.2.2.2.symm))); have HQ8 := Lib.hid (HQ7.out.fr hfr8 (fun h => h (.inl rfl))); have y0 := (HCT.out.below HB8.out).c0; have hcg := HBC.out w8 HB8.out st HSTN.out; rw [← HS0.out.1] at hcg; clear hrf8 hg8 hbl8 hfr8))
      obtain ⟨gnum, hgn⟩ : ∃ gnum, gnum = wr.heap.size := ⟨_, rfl⟩
      obtain ⟨gord, hgo⟩ : ∃ gord, gord = w8.heap.size := ⟨_, rfl⟩
      obtain ⟨w9, hw9⟩ : ∃ w9, w9 = w8.alloc (.cells #[.int .i64 (s0 : Int)] 3) := ⟨_, rfl⟩
      have HB9 : Hid (Below w2.heap.size w2 w9) := Lib.hid (by rw [hw9]; exact HB8.out.alloc HB8.out.size _)
      have HQ9 : Hid (CT w9 bq 0 (.slice (some ⟨B, 0, none⟩) 256 256) (.slice none 0 0) (.slice none 0 0)) := Lib.hid (by rw [hw9]; exact HQ8.out.below (below_alloc _ _))
      have HRF9 : Hid (RF B (fun x => x = bq ∨ x = bm) w9 (some (3, .slice a m c, iv cols) :: some (3, .slice (some ⟨B, 0, none⟩) 256 256, iv clsv) :: some (5, .slice (some ⟨gk, 0, none⟩) fl fl, u8v kv) :: some (3, .slice (some ⟨gnum, 0, none⟩) fl fl, iv (numL fl [s0])) :: some (3, .slice (some ⟨gord, 0, none⟩) 1 1, iv [s0]) :: some (22, .slice none 0 0, []) :: some (4, .slice none 0 0, []) :: [])) := Lib.hid (by
        have h := HRF8.out.new (w' := w9) (e := 3) (v := .slice (some ⟨w8.heap.size, 0, none⟩) 1 1) (xs := [.int .i64 (s0 : Int)]) (by rw [hw9]; exact World.ownsRow_lit w8 #[.int .i64 (s0 : Int)] 1 (by have h1 := HB8.out.size; have h2 := HBB.out.2.2.2; omega) (by decide) rfl) (by rw [hw9]; exact below_alloc _ _) (.inl rfl)
        have h2 := (h.new (w' := w9) (e := 22) (v := .slice none 0 0) (xs := []) (World.ownsRow_nil w9 B 22 1) (Below.refl _ _) (.inr rfl)).new (w' := w9) (e := 4) (v := .slice none 0 0) (xs := []) (World.ownsRow_nil w9 B 4 1) (Below.refl _ _) (.inr rfl)
        rw [hgn, hgo, show iv (numL fl [s0]) = (List.replicate fl (.int .i64 0)).set s0 (.int .i64 1) from ?_]
        · exact h2
        · have e := numL_push (fl := fl) [] HS0.out.2 (by simp)
          rw [numL_nil] at e
          rw [show ([] : List Nat) ++ [s0] = [s0] from rfl] at e
          rw [← e]
          simp [iv, List.map_set])
      rw [← hw9, ← hgo, ← hgn]
      obtain ⟨fb, fo, hfa, -⟩ := (HFST.out w2 (Below.refl _ _)).cell 0 (.int .i64 ((first.getD 0 0 : Nat) : Int)) (by
        have h0 : 0 < first.length := by rw [HFL.out]; exact HFS.out.2.1
        rw [List.getElem?_map, List.getElem?_eq_getElem h0]
        simp [List.getD, List.getElem?_eq_getElem h0])
      subst hfa
      have HFC : Hid (∀ wx, Below w2.heap.size w2 wx → ∀ p, p < fl → wx.cell? ⟨fb, fo + p, none⟩ = some (.int .i64 ((first.getD p 0 : Nat) : Int))) := Lib.hid (fun wx hbx p hp => by
        have hpb : p < first.length := by rw [HFL.out]; exact hp
        obtain ⟨b', o', e, h⟩ := (HFST.out wx hbx).cell p (.int .i64 ((first.getD p 0 : Nat) : Int)) (by
          rw [List.getElem?_map, List.getElem?_eq_getElem hpb]
          simp [List.getD, List.getElem?_eq_getElem hpb])
        cases e
        exact h)
      clear hgn hgo hw9 y0 hcg
      clear HRF8 HQ8 HRF7 HQ7
      go_loopw [18, 19] (fun ov jv wr => ∃ (i : Nat) (ord : List Nat) (R : List (List Nat)) (accs : List Bool) (xs : List Value) (rs : List (Option Rw)) (ao : Option Addr) (co : Nat) (aN : Option Addr) (cN : Nat) (aA : Option Addr) (cA : Nat), jv = .int .i64 i ∧ i ≤ ord.length ∧ ov = .slice ao ord.length co ∧ OI next b first cols st i ord R ∧ accs = (ord.take i).map (fun B => acc.getD (first.getD B 0) false) ∧ RowsAt xs rs R m ∧ RF B (fun x => x = bq ∨ x = bm) wr (some (3, .slice a m c, iv cols) :: some (3, .slice (some ⟨B, 0, none⟩) 256 256, iv clsv) :: some (5, .slice (some ⟨gk, 0, none⟩) fl fl, u8v kv) :: some (3, .slice (some ⟨gnum, 0, none⟩) fl fl, iv (numL fl ord)) :: some (3, .slice ao ord.length co, iv ord) :: some (22, .slice aN i cN, xs) :: some (4, .slice aA i cA, accs.map Value.bool) :: rs) ∧ CT wr bq 0 (.slice (some ⟨B, 0, none⟩) 256 256) (.slice aN i cN) (.slice aA i cA) ∧ Below w2.heap.size w2 wr) (fun _ jv _ => fl + 1 - (intOf jv).toNat)
      case atStart => exact ⟨0, [s0], [], [], [], [], _, 1, none, 0, none, 0, rfl, by omega, rfl, by rw [HS0.out.1]; exact OI.start (by rw [HFL.out]; exact HBV.out.2.2), rfl, ⟨rfl, rfl, fun j r h => by simp at h⟩, HRF9.out, HQ9.out, HB9.out⟩
      case round =>
        obtain ⟨i, ord, R, accs, xs, rs, ao, co, aN, cN, aA, cA, rfl, hi, rfl, hoi, hac, hrows, hrf, hq, hb⟩ := hrel
        have HOI := Lib.hid hoi
        have HAC := Lib.hid hac
        have HROWS2 := Lib.hid hrows
        have HRFR := Lib.hid hrf
        have HQR := Lib.hid hq
        have HBR := Lib.hid hb
        have hol : ord.length ≤ fl := nodup_lt hoi.nd (fun B hB => by rw [← HFL.out]; exact hoi.lt B hB)
        have HOL := Lib.hid hol
        have ho9 : (ord.length : Int) ≤ 256 := by have := HFS.out.2.2; omega
        have hi9 : (i : Int) ≤ 256 := by omega
        by_cases hlt : i < ord.length
        · obtain ⟨B0, hB0⟩ : ∃ B0, ord[i]? = some B0 := ⟨_, List.getElem?_eq_getElem hlt⟩
          have hB0l : B0 < fl := by rw [← HFL.out]; exact hoi.lt B0 (List.mem_of_getElem? hB0)
          obtain ⟨gor, rfl⟩ := hrf.addr (i := 4) rfl (by simp; omega)
          have hco := hrf.cell (i := 4) rfl (show (iv ord)[i]? = some (.int .i64 (B0 : Int)) by simp [iv, hB0])
          have hcf := HFC.out wr hb B0 hB0l
          obtain ⟨q, hq0⟩ : ∃ q, q = first.getD B0 0 := ⟨_, rfl⟩
          rw [← hq0] at hcf
          have hqm : q ∈ first := by
            have h1 : B0 < first.length := by rw [HFL.out]; exact hB0l
            rw [hq0, show first.getD B0 0 = first[B0] by simp [List.getD, List.getElem?_eq_getElem h1]]
            exact List.getElem_mem h1
          have hqn := HFS.out.1 q hqm
          have HQQ := Lib.hid (And.intro hB0 (And.intro hq0 (And.intro hqm hqn)))
          have hlti : (i : Int) < (ord.length : Int) := by omega
          have hB0i : (B0 : Int) < (fl : Int) := by omega
          have hB09 : (B0 : Int) ≤ 256 := by have := HFS.out.2.2; omega
          have hq9 : (q : Int) ≤ 256 := by have := HN9.out; omega
          have HLT := Lib.hid hlt
          have HBS : Hid (w2.heap.size ≤ wr.heap.size) := Lib.hid hb.size
          generalize hol2 : ord.length = ol at *
          have HOLE := Lib.hid hol2
          clear hB0 hB0l hq0 hqm hqn hlt hoi hac hrows hrf hq hb hol2 hol hi
          go_wp2_with (at_make; refine RF.make HRFR.out EIG rfl rfl _ _ rfl _ _ _ _ m rfl rfl rfl rfl (by have := HFSL.out; omega) (by have := HFSL.out; omega) ?_; intro w10 hrf10 hb10 hsz10; have HRF10 := Lib.hid hrf10; have HB10 := Lib.hid (HBR.out.trans (hb10.mono HBR.out.size)); have HQ10 := Lib.hid (HQR.out.below hb10); clear hrf10 hb10 hsz10)
          obtain ⟨gr, hgr⟩ : ∃ gr, gr = wr.heap.size := ⟨_, rfl⟩
          have HRSL : Hid (rs.length = i) := Lib.hid (by rw [HROWS2.out.2.1, HOI.out.rl])
          rw [← hgr] at HRF10 ⊢
          obtain ⟨wo, hwo⟩ : ∃ wo : World, wo = wr := ⟨_, rfl⟩
          subst hwo
          clear hco hcf hgr
          go_loopw [18, 121] (fun ov kv2 wr => ∃ (k : Nat) (ord' row : List Nat) (ao : Option Addr) (co : Nat), kv2 = .int .i64 k ∧ k ≤ m ∧ ov = .slice ao ord'.length co ∧ OJ next b first cols st i ord R B0 k ord' row ∧ RF B (fun x => x = bq ∨ x = bm) wr (some (3, .slice a m c, iv cols) :: some (3, .slice (some ⟨B, 0, none⟩) 256 256, iv clsv) :: some (5, .slice (some ⟨gk, 0, none⟩) fl fl, u8v kv) :: some (3, .slice (some ⟨gnum, 0, none⟩) fl fl, iv (numL fl ord')) :: some (3, .slice ao ord'.length co, iv ord') :: some (22, .slice aN i cN, xs) :: some (4, .slice aA i cA, accs.map Value.bool) :: (rs ++ [some (3, .slice (some ⟨gr, 0, none⟩) m m, iv row)])) ∧ CT wr bq 0 (.slice (some ⟨B, 0, none⟩) 256 256) (.slice aN i cN) (.slice aA i cA) ∧ Below w2.heap.size w2 wr) (fun _ kv2 _ => m - (intOf kv2).toNat)
          case atStart => exact ⟨0, ord, List.replicate m 0, some ⟨gor, 0, none⟩, co, rfl, by omega, by rw [HOLE.out], by have h := HOI.out.row0 B0; rw [← HM.out] at h; exact h, by
            have h := HRF10.out
            rw [show iv (List.replicate m 0) = List.replicate m (.int .i64 0) by simp [iv], HOLE.out]
            exact h, HQ10.out, HB10.out⟩
          case round =>
            obtain ⟨k, ord', row, ao, co2, rfl, hk, rfl, hoj, hrf, hq, hb⟩ := hrel
            have HOJ := Lib.hid hoj
            have HRFK := Lib.hid hrf
            have HQK := Lib.hid hq
            have HBK := Lib.hid hb
            have hol' : ord'.length ≤ fl := nodup_lt hoj.nd (fun B hB => by rw [← HFL.out]; exact hoj.lt B hB)
            have ho9' : (ord'.length : Int) ≤ 256 := by have := HFS.out.2.2; omega
            have HO9' : Hid (ord'.length ≤ 256) := Lib.hid (by omega)
            by_cases hkm : k < m
            · obtain ⟨cc2, hcc⟩ : ∃ cc2, cols[k]? = some cc2 := ⟨_, List.getElem?_eq_getElem (by rw [← HM.out]; exact hkm)⟩
              have hcm := HCM.out cc2 (List.mem_of_getElem? hcc)
              obtain ⟨gcol, hgcol⟩ := hrf.addr (i := 0) rfl (by simp; rw [← HM.out]; omega)
              have hck : wr.cell? ⟨gcol, k, none⟩ = some (.int .i64 (cc2 : Int)) := by
                subst hgcol
                exact hrf.cell (i := 0) rfl (show (iv cols)[k]? = some (.int .i64 (cc2 : Int)) by simp [iv, hcc])
              have HGCOL := Lib.hid hgcol
              have hcN : cc2 < ncls next := by rw [← HC.out]; exact hcm.2
              obtain ⟨rb, ro, b2, off2, ci, rfl, hr1, hr2⟩ := row_cell (HROWS.out wr hb) HV.out HQQ.out.2.2.2 hcN
              have hpn := (nxN_val HV.out (q := q) (c := cc2) (by rw [HNN.out]; exact HQQ.out.2.2.2) hcN).2.1
              rw [HNN.out] at hpn
              obtain ⟨p, hp⟩ : ∃ p, p = nxN next q cc2 := ⟨_, rfl⟩
              have hcp := HBC.out wr hb p (by rw [hp]; exact hpn)
              obtain ⟨y, hy⟩ : ∃ y, y = b.getD p 0 := ⟨_, rfl⟩
              rw [← hy] at hcp
              have hyl : y < fl := by rw [hy, hp]; exact HBV.out.2.1 q HQQ.out.2.2.1 cc2 hcm.1
              have HY := Lib.hid (show y = b.getD (nxN next (first.getD B0 0) cc2) 0 by rw [hy, hp, HQQ.out.2.1])
              have HYL := Lib.hid hyl
              have HCC := Lib.hid hcc
              rw [← hp] at hr2 hpn
              rw [← HC.out] at hr1
              have hx2 := (HCT.out.below hb).c2
              have hcn := hrf.cell (i := 3) rfl (show (iv (numL fl ord'))[y]? = some (.int .i64 ((if y ∈ ord' then ix ord' y + 1 else 0 : Nat) : Int)) by
                rw [List.getElem?_map, numL_get ord' hyl]; rfl)
              have hpi : (p : Int) < (na : Int) := by omega
              have hqi : (q : Int) < (na : Int) := by have := HQQ.out.2.2.2; omega
              have hcci : (cc2 : Int) < (C : Int) := by have := hcm.2; omega
              have hyi : (y : Int) < (fl : Int) := by omega
              have hy9 : (y : Int) ≤ 256 := by have := HFS.out.2.2; omega
              have hki : (k : Int) < (m : Int) := by omega
              have hk9 : (k : Int) ≤ 256 := by omega
              have hp9 : (p : Int) ≤ 256 := by have := HN9.out; omega
              have hcc9 : (cc2 : Int) ≤ 256 := by
                have h1 := HV.out.c1
                omega
              have HKM := Lib.hid hkm
              rw [HGCOL.out]
              generalize hl' : ord'.length = l' at *
              have HL' := Lib.hid hl'
              by_cases hmem : y ∈ ord'
              · have HMM := Lib.hid hmem
                rw [if_pos hmem] at hcn
                have hixl : ix ord' y < l' := by rw [← hl']; exact idx_lt hmem
                obtain ⟨z, hz⟩ : ∃ z, z = ix ord' y := ⟨_, rfl⟩
                have HZ := Lib.hid hz
                rw [← hz] at hcn hixl
                have hz0 : (((z + 1 : Nat) : Int) == 0) = false := beq_eq_false_iff_ne.2 (by omega)
                have hz9 : ((z + 1 : Nat) : Int) ≤ 257 := by omega
                have hz1 : (0 : Int) ≤ ((z + 1 : Nat) : Int) := by omega
                obtain ⟨zz, hzz⟩ : ∃ zz : Int, zz = ((z + 1 : Nat) : Int) := ⟨_, rfl⟩
                have HZZ := Lib.hid hzz
                rw [← hzz] at hcn hz0 hz9 hz1
                clear hmem hl' hk hkm hcc hcm hgcol hcN hp hpn hy hyl hoj hrf hq hb hol' hixl hz hzz
                go_wp2_with (refine guard_op (.store 3 (.tmp 158) (.tmp 157)) rfl ?_; refine RF.store HRFK.out (i := i + 7) (at7 HRSL.out) rfl 3 (.tmp 158) (.tmp 157) rfl k rfl (.int .i64 (z : Int)) (by first | rfl | (show Value.int _ _ = Value.int _ _; congr 1; have := HZZ.out; omega)) rfl rfl (by kernel_rfl) (by rw [List.length_map, HOJ.out.rl, ← HM.out]; exact HKM.out) ?_; intro w11 hrf11 hg11 hbl11 hfr11; have HRF11 := Lib.hid hrf11; have HB11 := Lib.hid (HBK.out.trans (hbl11.mono (Nat.le_of_eq HBB.out.2.2.2.symm))); have HQ11 := Lib.hid (HQK.out.fr hfr11 (fun h => h (.inl rfl))); clear hrf11 hg11 hbl11 hfr11)
                go_roundw
                case rel => exact ⟨k + 1, ord', row.set k (ix ord' y), ao, co2, by go_num, HKM.out, by rw [HL'.out], HOJ.out.old HCC.out HY.out HMM.out, by
                  have h := HRF11.out
                  rw [set7 HRSL.out] at h
                  rw [HL'.out, ← HZ.out, show iv (row.set k z) = (iv row).set k (.int .i64 (z : Int)) by simp [iv, List.map_set], ← HGCOL.out]
                  exact h, HQ11.out, HB11.out⟩
                case measure => have := HKM.out; simp [intOf]; omega
              · have HMM := Lib.hid hmem
                rw [if_neg hmem] at hcn
                clear hmem hl' hk hkm hcc hcm hgcol hcN hp hpn hy hyl hoj hrf hq hb hol'
                go_wp2_with (first
                  | (at_builtin; refine RF.append HRFK.out (i := 4) rfl l' (by simp [HL'.out]) (below_alloc wr _) (.tmp 142) (.tmp 144) EIG rfl rfl rfl _ 1 _ [.int .i64 (y : Int)] rfl (RdG.lits wr 1 3 1 [.int .i64 (y : Int)] rfl) (by simp [Value.oneCell']) (by have := HO9'.out; omega) (by decide) ?_; intro a8 c8 w8' hrf8 hg8 hbl8 hfr8; have HRF8 := Lib.hid hrf8; have HB8' := Lib.hid (HBK.out.trans (hbl8.mono (Nat.le_of_eq HBB.out.2.2.2.symm))); have HQ8' := Lib.hid (HQK.out.fr hfr8 (fun h => h (.inl rfl))); clear hrf8 hg8 hbl8 hfr8)
                  | (refine guard_op (.store 3 (.tmp 150) (.tmp 149)) rfl ?_; refine RF.store HRF8.out (i := 3) rfl rfl 3 (.tmp 150) (.tmp 149) rfl y rfl (.int .i64 ((l' : Int) + 1)) rfl rfl rfl (by kernel_rfl) (by rw [List.length_map, numL_len]; exact HYL.out) ?_; intro w10 hrf10 hg10 hbl10 hfr10; have hcn := hrf10.cell (i := 3) rfl (show ((iv (numL fl ord')).set y (.int .i64 ((l' : Int) + 1)))[y]? = some (.int .i64 ((l' : Int) + 1)) by rw [List.getElem?_set_self (by rw [List.length_map, numL_len]; exact HYL.out)]); have HRF10 := Lib.hid hrf10; have HB10' := Lib.hid (HB8'.out.trans (hbl10.mono (Nat.le_of_eq HBB.out.2.2.2.symm))); have HQ10' := Lib.hid (HQ8'.out.fr hfr10 (fun h => h (.inl rfl))); clear hrf10 hg10 hbl10 hfr10)
                  | (refine guard_op (.store 3 (.tmp 158) (.tmp 157)) rfl ?_; refine RF.store HRF10.out (i := i + 7) (at7 HRSL.out) rfl 3 (.tmp 158) (.tmp 157) rfl k rfl (.int .i64 (l' : Int)) (by first | rfl | (show Value.int _ _ = Value.int _ _; congr 1; omega)) rfl rfl (by kernel_rfl) (by rw [List.length_map, HOJ.out.rl, ← HM.out]; exact HKM.out) ?_; intro w11 hrf11 hg11 hbl11 hfr11; have HRF11 := Lib.hid hrf11; have HB11 := Lib.hid (HB10'.out.trans (hbl11.mono (Nat.le_of_eq HBB.out.2.2.2.symm))); have HQ11 := Lib.hid (HQ10'.out.fr hfr11 (fun h => h (.inl rfl))); clear hrf11 hg11 hbl11 hfr11))
                go_roundw
                case rel => exact ⟨k + 1, ord' ++ [y], row.set k ord'.length, a8, c8, by go_num, HKM.out, by simp [HL'.out], HOJ.out.new HCC.out HY.out HMM.out (by rw [HFL.out]; exact HYL.out), by
                  have h := HRF11.out
                  have hset : iv (numL fl (ord' ++ [y])) = (iv (numL fl ord')).set y (.int .i64 ((l' : Int) + 1)) := by
                    rw [← numL_push ord' HYL.out HMM.out, HL'.out]
                    simp [iv, List.map_set]
                  rw [HL'.out, show iv (row.set k l') = (iv row).set k (.int .i64 (l' : Int)) by simp [iv, List.map_set], iv_snoc, List.length_append, HL'.out, hset, ← HGCOL.out, ← set7 (a := some (3, .slice (some ⟨gr, 0, none⟩) m m, iv row)) HRSL.out]
                  exact h, HQ11.out, HB11.out⟩
                case measure => have := HKM.out; simp [intOf]; omega
            · obtain rfl : m = k := by omega
              have hc2 := hq.c2
              have hRL : Hid (xs.length = i) := Lib.hid (by rw [HROWS2.out.1, HOI.out.rl])
              generalize hl' : ord'.length = l' at *
              have HL' := Lib.hid hl'
              clear hl' hk hkm hoj hrf hq hb hol'
              go_upto_region 38 with (at_builtin; go_loud (refine RF.append HRFK.out (i := 5) rfl i hRL.out.symm (below_alloc wr _) (.tmp 161) (.tmp 163) ESI rfl rfl rfl _ 1 _ [.slice (some ⟨gr, 0, none⟩) m m] rfl (RdG.lits wr 1 22 1 [.slice (some ⟨gr, 0, none⟩) m m] rfl) (by simp [Value.oneCell']) (by have := HOL.out; have := HLT.out; have := HFS.out.2.2; omega) (by decide) ?_); intro a8 c8 w8' hrf8 hg8 hbl8 hfr8; have HRF8 := Lib.hid hrf8; have HB8' := Lib.hid (HBK.out.trans (hbl8.mono (Nat.le_of_eq HBB.out.2.2.2.symm))); have HQ8' := Lib.hid (HQK.out.fr hfr8 (fun h => h (.inl rfl))); have hq82 := HQ8'.out.c2; have hq8f := HQ8'.out.fz 2; clear hrf8 hg8 hbl8 hfr8)
              obtain ⟨w9', hw9'⟩ : ∃ w9', w9' = w8'.setCell ⟨bq, 2, none⟩ (.slice a8 (i + 1) c8) := ⟨_, rfl⟩
              have HRF9' := Lib.hid (show RF B (fun x => x = bq ∨ x = bm) w9' _ by rw [hw9']; exact HRF8.out.cells ((Fr.refl _ w8').setCell (p := ⟨bq, 2, none⟩) (.inl rfl) _))
              have HQ9' : Hid (CT w9' bq 0 (.slice (some ⟨B, 0, none⟩) 256 256) (.slice a8 (i + 1) c8) (.slice aA i cA)) := Lib.hid (by rw [hw9']; exact HQ8'.out.set2 _)
              have HB9' : Hid (Below w2.heap.size w2 w9') := Lib.hid (by rw [hw9']; exact HB8'.out.trans (((Fr.refl (fun b => b = bq) w8').setCell (p := ⟨bq, 2, none⟩) rfl _).below (fun x e => by rw [e, ← HBB.out.2.2.2]; exact HBB.out.1) HB8'.out.size))
              rw [← hw9']
              clear hw9' hq82 hq8f hc2
              have hq3 : w9'.drew.cell? ⟨bq, 3, none⟩ = some (.slice aA i cA) := HQ9'.out.c3
              have hq32 : ∀ o, (w9'.alloc o).drew.cell? ⟨bq, 3, none⟩ = some (.slice aA i cA) := fun o => below_cell ((below_alloc _ _).drew) HQ9'.out.c3
              obtain ⟨z, hz⟩ : ∃ z, z = acc.getD q false := ⟨_, rfl⟩
              have HZ := Lib.hid hz
              obtain ⟨ab, ao2, rfl⟩ : ∃ (ab : Nat) (ao2 : Nat), aa = some ⟨ab, ao2, none⟩ := by
                obtain ⟨ab, ao2, h, _⟩ := (HACC.out w2 (Below.refl _ _)).cell q HQQ.out.2.2.2
                exact ⟨ab, ao2, h⟩
              have hca : w9'.drew.cell? ⟨ab, ao2 + q, none⟩ = some (.bool z) := by
                obtain ⟨ab', ao', e, h⟩ := (HACC.out w9' HB9'.out).cell q HQQ.out.2.2.2
                cases e
                rw [← hz] at h
                exact h
              have hm3 : w9'.drew.cell? ⟨w.heap.size, 3, none⟩ = some (.slice (some ⟨ab, ao2, none⟩) na ca) := (HCT.out.below HB9'.out).c3
              have hqn : (q : Int) < (na : Int) := by have := HQQ.out.2.2.2; omega
              have HAL : Hid (i = (accs.map Value.bool).length) := Lib.hid (by
                rw [List.length_map, HAC.out, List.length_map, List.length_take, HOLE.out, Nat.min_eq_left (Nat.le_of_lt HLT.out)])
              clear hz
              go_region_law (refine RF.stepAppend HRF9'.out (i := 6) rfl i HAL.out ((below_alloc _ _).drew) (.tmp 167) (.tmp 173) EBG rfl rfl rfl _ 1 _ [.bool z] rfl (RdG.lits w9' 1 4 1 [.bool z] rfl).drew (by simp [Value.oneCell']) (by have := HOL.out; have := HLT.out; have := HFS.out.2.2; omega) (by decide) ?_; intro a9 c9 w10 hrf10 hg10 hbl10 hfr10; have hq93 := (HQ9'.out.fr hfr10 (fun h => h (.inl rfl))).c3; have hqf9 := (HQ9'.out.fr hfr10 (fun h => h (.inl rfl))).fz 3)
              all_goals
                have HRF10 := Lib.hid hrf10
                have HB10' := Lib.hid (HB9'.out.trans (hbl10.mono (Nat.le_of_eq HBB.out.2.2.2.symm)))
                have HQ10' := Lib.hid (HQ9'.out.fr hfr10 (fun h => h (.inl rfl)))
                clear hrf10 hg10 hbl10 hfr10 hq3 hq32 hca hm3
                obtain ⟨w11, hw11⟩ : ∃ w11, w11 = w10.setCell ⟨bq, 3, none⟩ (.slice a9 (i + 1) c9) := ⟨_, rfl⟩
                have HRF11 := Lib.hid (show RF B (fun x => x = bq ∨ x = bm) w11 _ by rw [hw11]; exact HRF10.out.cells ((Fr.refl _ w10).setCell (p := ⟨bq, 3, none⟩) (.inl rfl) _))
                have HQ11 : Hid (CT w11 bq 0 (.slice (some ⟨B, 0, none⟩) 256 256) (.slice a8 (i + 1) c8) (.slice a9 (i + 1) c9)) := Lib.hid (by rw [hw11]; exact HQ10'.out.set3 _)
                have HB11 : Hid (Below w2.heap.size w2 w11) := Lib.hid (by rw [hw11]; exact HB10'.out.trans (((Fr.refl (fun b => b = bq) w10).setCell (p := ⟨bq, 3, none⟩) rfl _).below (fun x e => by rw [e, ← HBB.out.2.2.2]; exact HBB.out.1) HB10'.out.size))
                rw [← hw11]
                clear hw11 hq93 hqf9
                go_wp2
                go_roundw
                case rel =>
                  have hpre := HOJ.out.pre
                  obtain ⟨t, ht⟩ := hpre
                  have hlt := HLT.out
                  have hole := HOLE.out
                  have hl' := HL'.out
                  have hBat : ord'[i]? = some B0 := by rw [← ht, List.getElem?_append_left (by omega)]; exact HQQ.out.1
                  refine ⟨i + 1, ord', R ++ [row], accs ++ [z], xs ++ [.slice (some ⟨gr, 0, none⟩) m m], rs ++ [some (3, .slice (some ⟨gr, 0, none⟩) m m, iv row)], ao, co2, a8, c8, a9, c9, by go_num, ?_, by rw [hl'], OJ.done HOI.out HQQ.out.1 (by have h := HOJ.out; rw [HM.out] at h; exact h), ?_, HROWS2.out.push gr m row, ?_, HQ11.out, HB11.out⟩
                  · have := (List.getElem?_eq_some_iff.1 hBat).1; omega
                  · rw [take_snoc hBat, List.map_append, HAC.out]
                    congr 1
                    · congr 1
                      rw [← ht, List.take_append_of_le_length (by omega)]
                    · rw [List.map_singleton, ← HQQ.out.2.1, ← HZ.out]
                  · have h := HRF11.out
                    rw [hl', List.map_append]
                    exact h
                case measure => have := HLT.out; have := HOL.out; simp [intOf]; omega
        · obtain rfl : i = ord.length := by omega
          have HTO : Hid (ord.take ord.length = ord) := Lib.hid (List.take_length)
          have HFIN : Hid (∀ wf, Fr (fun x => x = w.heap.size + 1) wr wf → NumPost st cls next acc b first w (.returned (.agg #[.int .i64 0, .slice (some ⟨B, 0, none⟩) 256 256, .slice aN ord.length cN, .slice aA ord.length cA])) wf) := Lib.hid (fun wf hf => by
            have hBW : w.heap.size + 1 < B := by have h1 := HS2.out; have h2 := HBB.out.2.2.2; omega
            have hrf' := HRFR.out.fr hf (fun i e v xs g hi hg e2 => by have := (HRFR.out.lt hi hg).2; omega)
            have hbel : Below w.heap.size w wf := (HB2.out.trans (HBR.out.mono HB2.out.size)).trans (hf.below (fun x e => by omega) (by have h1 := HB2.out.size; have h2 := HBR.out.size; omega))
            have hoi := HOI.out
            have hol := HOL.out
            have hfs := HFS.out.2.2
            refine ⟨_, _, _, _, _, _, _, fs, clsv, cols, ord, W, R, accs, rfl, (fun wg hfg => ?_), by have h := HRIF.out; rw [HKF.out, HCLF.out] at h; exact h, by rw [HCOLS.out, HCLF.out], hoi, by rw [HAC.out, HTO.out], rfl, hbel⟩
            have hrf' := hrf'.fr hfg (fun i e v xs g hi hg e2 => by have := (hrf'.lt hi hg).2; omega)
            refine ⟨?_, ?_, ?_⟩
            · refine hrf'.rdN (i := 1) rfl (fun u hu => ?_)
              obtain ⟨j, hj, e⟩ := List.getElem_of_mem hu
              have hri := HRIF.out
              have hj2 : j < 256 := by rw [← hri.nl]; exact hj
              have hv := hri.val j (by rw [List.take_of_length_le (by simp)]; exact List.mem_range.2 hj2)
              rw [show clsv.getD j 0 = u by simp [List.getD, List.getElem?_eq_getElem hj, e]] at hv
              have hm : kf j ∈ W := by
                rw [hri.w, dd_mem, List.take_of_length_le (by simp)]
                exact List.mem_map.2 ⟨j, List.mem_range.2 hj2, rfl⟩
              have h1 := idx_lt hm
              have h2 : W.length ≤ 256 := by
                rw [← hri.map, List.length_map]
                have h3 := HFSL.out
                have h4 := HM.out
                rw [HCOLS.out, List.length_map] at h4
                omega
              omega
            · obtain ⟨e1, e2, e3⟩ := HROWS2.out
              refine ⟨by rw [List.length_map, hoi.rl], by omega, fun j hj => ?_⟩
              obtain ⟨gN, rfl⟩ := hrf'.addr (i := 5) rfl (by rw [e1, hoi.rl]; omega)
              obtain ⟨r, hr⟩ : ∃ r, R[j]? = some r := ⟨_, List.getElem?_eq_getElem (by rw [hoi.rl]; exact hj)⟩
              obtain ⟨g3, c3, e4, e5⟩ := e3 j r hr
              refine ⟨gN, 0, some ⟨g3, 0, none⟩, m, c3, rfl, by rw [Nat.zero_add]; exact hrf'.cell (i := 5) rfl e4, ?_, ?_⟩
              · have hrd := hrf'.rdN (i := j + 7) (at7i e5) (fun u hu => by
                  obtain ⟨Bj, hBj⟩ : ∃ Bj, ord[j]? = some Bj := ⟨_, List.getElem?_eq_getElem hj⟩
                  obtain ⟨k1, k2⟩ := hoi.row j Bj hj hBj
                  rw [hr] at k1
                  rw [Option.some.inj k1] at hu
                  obtain ⟨c, hc, rfl⟩ := List.mem_map.1 hu
                  have := idx_lt (k2 c hc)
                  omega)
                rw [show (R.map nints).getD j [] = nints r by simp [List.getD, List.getElem?_map, hr]]
                exact hrd
              · have ho := hrf'.own (j + 7) _ _ _ (at7i e5)
                exact Row.cap ho
            · exact hrf'.rdB (i := 6) rfl (by omega))
          obtain ⟨y0, y1, y2, y3, -⟩ := hq
          obtain ⟨r0, r1, r2, r3, rf⟩ := HRES.out.below hb
          have rf0 := rf 0
          have rf1 := rf 1
          have rf2 := rf 2
          have rf3 := rf 3
          clear rf hoi hac hrows hrf hb hol hlt hi
          generalize hol3 : ord.length = ol at *
          have hge4 : decide ((ol : Int) < (ol : Int)) = false := by simp
          clear hol3
          go_wp2
          exact bodyPost_ret (v := .agg #[.int .i64 0, .slice (some ⟨B, 0, none⟩) 256 256, .slice aN ol cN, .slice aA ol cA]) (by simp [results, Try.results47, go_sem, r0, r1, r2, r3]) rfl (HFIN.out _ (fr4 wr (w.heap.size + 1) (.int .i64 0) (.slice (some ⟨B, 0, none⟩) 256 256) (.slice aN ol cN) (.slice aA ol cA)))

end Go.Proofs.Ytajajkganamfiaa
