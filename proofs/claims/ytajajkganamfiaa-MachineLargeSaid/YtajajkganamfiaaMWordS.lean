/-
  single: the steps from each state by one letter.
-/
import Derived.Test.YtajajkganamfiaaMWordB
namespace Go.Proofs.Ytajajkganamfiaa
open Go.RowKit
set_option linter.unusedVariables false
set_option linter.unusedSimpArgs false

/-- how many of the first k letters lead from a state to another one -/
def lettTo (cls : List Int) (next : List (List Int)) (k q p : Nat) : Nat := sm k (fun x => if nxN next q ((nats cls).getD x 0) = p then 1 else 0)
theorem lettTo_all (cls : List Int) (next : List (List Int)) (q p : Nat) : lettTo cls next 256 q p = lett cls next q p := rfl
theorem sm_le (k : Nat) (f : Nat → Nat) (h : ∀ i, i < k → f i ≤ 1) : sm k f ≤ k := by
  induction k with
  | zero => exact Nat.le_refl _
  | succ k ih =>
    have h1 := ih (fun i hi => h i (by omega))
    have h2 := h k (by omega)
    simp only [sm]
    omega
theorem lettTo_le (cls : List Int) (next : List (List Int)) (k q p : Nat) : lettTo cls next k q p ≤ k := sm_le k _ (fun i _ => by split <;> omega)
theorem lett_cap (cls : List Int) (next : List (List Int)) (q p : Nat) : lett cls next q p ≤ capM := by
  have := lettTo_le cls next 256 q p
  rw [lettTo_all] at this
  unfold capM
  omega

/-- one letter more -/
theorem lettTo_set {cls : List Int} {next : List (List Int)} {k q p n : Nat} (hp : nxN next q ((nats cls).getD k 0) = p) (hpn : p < n) {us : List Nat} (hu : us = (List.range n).map fun r => lettTo cls next k q r) :
    us.set p (us.getD p 0 + 1) = (List.range n).map fun r => lettTo cls next (k + 1) q r := by
  have hg : us.getD p 0 = lettTo cls next k q p := by rw [hu]; simp [List.getD, hpn]
  rw [hg, hu]
  apply List.ext_getElem (by simp)
  intro r h1 h2
  simp only [List.getElem_set, List.getElem_map, List.getElem_range]
  unfold lettTo
  rw [sm]
  by_cases e : p = r
  · subst e; rw [if_pos rfl, if_pos hp]
  · rw [if_neg e, if_neg (by rw [hp]; exact e)]; rfl

theorem ESS : EltG Try.prog 68 87 (.slice none 0 0) 1 24 := ⟨Try.underlying68, info_parts (by kernel_rfl), rfl, by decide⟩
theorem RF.front {B N w l} {r : List (Option Rw)} (h : RF B N w (l ++ r)) : RF B N w l := h.sub id (fun i j e => e) (fun j x hx => by
  show (l ++ r)[j]? = _
  rw [List.getElem?_append_left (List.getElem?_eq_some_iff.1 hx).1]; exact hx)

/-- the rows of steps that are done -/
def StepsTo (w : World) (B n q : Nat) (M : Nat → Nat → Nat) (xs : List Value) : Prop :=
  xs.length = n ∧ ∀ r, r < q → ∃ a c, xs[r]? = some (.slice a (lsf (M r) n).length c) ∧ Row w B 93 2 (.slice a (lsf (M r) n).length c) (lsf (M r) n).length (cellsS (M r) (lsf (M r) n))
theorem StepsTo.below {w w' : World} {B n q M xs} (h : StepsTo w B n q M xs) (hb : Below w.heap.size w w') : StepsTo w' B n q M xs :=
  ⟨h.1, fun r hr => by obtain ⟨a, c, h1, h2⟩ := h.2 r hr; exact ⟨a, c, h1, h2.below hb⟩⟩
theorem StepsTo.keep {w w' : World} {B n q M xs} (h : StepsTo w B n q M xs) {base' e' size' v' n' xs'} (h' : Row w base' e' size' v' n' xs') (hne : (93 : TypeId) ≠ e') (hg : w.grownBy w' v'.ownBlock) : StepsTo w' B n q M xs :=
  ⟨h.1, fun r hr => by obtain ⟨a, c, h1, h2⟩ := h.2 r hr; exact ⟨a, c, h1, Row.keep h2 h' hne hg⟩⟩
theorem StepsTo.push {w : World} {B n q M xs} (h : StepsTo w B n q M xs) (hq : q < n) {a : Option Addr} {c : Nat} (hr : Row w B 93 2 (.slice a (lsf (M q) n).length c) (lsf (M q) n).length (cellsS (M q) (lsf (M q) n))) : StepsTo w B n (q + 1) M (xs.set q (.slice a (lsf (M q) n).length c)) :=
  ⟨by rw [List.length_set]; exact h.1, fun r hr2 => by
    by_cases e : r = q
    · subst e; exact ⟨a, c, List.getElem?_set_self (by rw [h.1]; exact hq), hr⟩
    · obtain ⟨a', c', h1, h2⟩ := h.2 r (by omega)
      exact ⟨a', c', by rw [List.getElem?_set_ne (fun h => e h.symm)]; exact h1, h2⟩⟩

def SinglePost (n : Nat) (M : Nat → Nat → Nat) (w : World) (e : Ending) (w' : World) : Prop :=
  ∃ a c k, e = .returned (.tuple #[.slice a n c, .int .i64 (k : Nat)]) ∧ k ≤ n * 256 ∧ RdS w' a n M ∧ Below w.heap.size w w'

set_option maxRecDepth 100000 in
set_option maxHeartbeats 2000000 in
theorem single_any (st : Nat) (ac : Option Addr) (nc cc : Nat) (an : Option Addr) (nn cn : Nat) (aa : Option Addr) (na ca : Nat) (cls : List Int) (next : List (List Int)) (acc : List Bool) (w : World)
    (hm : RdM w ac nc an nn aa na cls next acc) (hv : Valid st cls next acc) :
    Calls Try.prog 34 #[.agg #[.int .i64 st, .slice ac nc cc, .slice an nn cn, .slice aa na ca]] w (SinglePost nn (lett cls next) w) := by
  obtain ⟨w1, hw1⟩ : ∃ w1, w1 = w.alloc (.cells #[.int .i64 st, .slice ac nc cc, .slice an nn cn, .slice aa na ca] 26) := ⟨_, rfl⟩
  have HW1 := Lib.hid hw1
  have hb1 : Below w.heap.size w w1 := by rw [hw1]; exact below_alloc _ _
  have x1 : w1.cell? ⟨w.heap.size, 1, none⟩ = some (.slice ac nc cc) := by rw [hw1]; simp
  have x2 : w1.cell? ⟨w.heap.size, 2, none⟩ = some (.slice an nn cn) := by rw [hw1]; simp
  have hnn : next.length = nn := hm.n.len
  have hnc : nc = 256 := by rw [← hm.c.len, hv.clsL]
  subst hnc
  have hn9 : nn ≤ 256 := by rw [← hnn]; exact hv.n1
  have hni : (nn : Int) ≤ 256 := by omega
  have HBOX := Lib.hid (And.intro x1 x2)
  have HN9 := Lib.hid hn9
  have HNN := Lib.hid hnn
  have HV := Lib.hid hv
  have HB1 := Lib.hid hb1
  have HROWS := Lib.hid (fun (wx : World) (hb : Below w1.heap.size w1 wx) => (hm.n.below hb1).below hb)
  have HCLS := Lib.hid (fun (wx : World) (hb : Below w1.heap.size w1 wx) => (hm.c.below hb1).below hb)
  have HLET : Hid (∀ i, i < 256 → ∃ c : Nat, cls.getD i 0 = (c : Int) ∧ c < ncls next ∧ (nats cls).getD i 0 = c) := Lib.hid (fun i hi => by
    have hl : i < cls.length := by rw [hv.clsL]; exact hi
    have h := hv.let_ (cls.getD i 0) (by simp [List.getD, hl])
    obtain ⟨c, hc⟩ := Int.eq_ofNat_of_zero_le h.1
    have h2 : (nats cls)[i]? = some c := by
      simp only [nats, List.getElem?_map]
      rw [List.getElem?_eq_getElem hl]
      have : cls[i] = (c : Int) := by rw [← hc]; simp [List.getD, hl]
      simp [this]
    exact ⟨c, hc, by omega, by simp [List.getD, h2]⟩)
  have HRF1 : Hid (RF w1.heap.size (fun _ => False) w1 [some (3, .slice none 0 0, [])]) := Lib.hid (RF.one (Own.nil w1 w1.heap.size 3 .i64) (fun g hg => by cases hg) (fun b hb => hb.elim) (Nat.le_refl _))
  clear hm hv hw1 hb1 hnn hn9
  go_enter Try.func34, Try.ntmps34
  go_upto_region 1 with fail
  rw [← HW1.out]
  go_wp2_with (at_make; refine RF.make HRF1.out ESS rfl rfl _ _ rfl _ _ _ _ nn rfl rfl rfl rfl (by have := HN9.out; omega) (by have := HN9.out; omega) ?_; intro w2 hrf2 hb2 hsz2; have x2 := below_cell hb2 HBOX.out.2; have HRF2 := Lib.hid hrf2; have HB2 := Lib.hid hb2; clear hrf2 hb2 hsz2)
  obtain ⟨g, hg⟩ : ∃ g, g = w1.heap.size := ⟨_, rfl⟩
  have HG := Lib.hid hg
  rw [← hg] at HRF2 ⊢
  clear hg x1
  go_loopw [5, 18] (fun kv jv wr => ∃ (q k : Nat) (xs : List Value), jv = .int .i64 q ∧ q ≤ nn ∧ kv = .int .i64 (k : Nat) ∧ k ≤ q * 256 ∧ StepsTo wr g nn q (lett cls next) xs ∧ RF g (fun _ => False) wr [some (3, .slice none 0 0, []), some (87, .slice (some ⟨g, 0, none⟩) nn nn, xs)] ∧ Below w1.heap.size w1 wr) (fun _ jv _ => nn - (intOf jv).toNat)
  case atStart => exact ⟨0, 0, List.replicate nn (.slice none 0 0), rfl, by omega, rfl, by omega, ⟨by simp, fun r hr => by omega⟩, HRF2.out, HB2.out⟩
  case round =>
    obtain ⟨q, k, xs, rfl, hq, rfl, hk, hst, hrf, hb⟩ := hrel
    have HST := Lib.hid hst
    have HRFR := Lib.hid hrf
    have HBR := Lib.hid hb
    have HK := Lib.hid hk
    have hk9 : (k : Int) ≤ 65536 := by omega
    by_cases hlt : q < nn
    · obtain ⟨b, off, ai, ni, ci, rfl, hc, hrd, -⟩ := (HROWS.out wr hb).cell q hlt
      have hni2 : ni = ncls next := by
        have h1 := (nxN_val HV.out (q := q) (c := 0) (by rw [HNN.out]; exact hlt) HV.out.c0).2.2
        rw [← hrd.len, h1]
      have hx1 := below_cell hb HBOX.out.1
      have hx2 := below_cell hb HBOX.out.2
      have hqi : (q : Int) < (nn : Int) := by omega
      have hq9 : (q : Int) ≤ 256 := by omega
      have HLT := Lib.hid hlt
      have HRD : Hid (∀ wx, Below wr.heap.size wr wx → Rd wx .i64 ai ni (next.getD q [])) := Lib.hid (fun wx hbx => hrd.below hbx)
      obtain ⟨C, hC⟩ : ∃ C, C = ncls next := ⟨_, rfl⟩
      have HC := Lib.hid hC
      rw [← hC] at hni2
      subst hni2
      clear hst hrf hb hk hq hlt hC hrd
      go_wp2_with (at_make; refine RF.make HRFR.out EU64 rfl rfl _ _ rfl _ _ _ _ nn rfl rfl rfl rfl (by have := HN9.out; omega) (by have := HN9.out; omega) ?_; intro w3 hrf3 hb3 hsz3; have hx1 := below_cell hb3 hx1; have HRF3 := Lib.hid hrf3; have HB3 := Lib.hid (HBR.out.trans (hb3.mono HBR.out.size)); have HST3 := Lib.hid (HST.out.below hb3); have HB3' := Lib.hid hb3; clear hrf3 hb3 hsz3)
      obtain ⟨gc, hgc⟩ : ∃ gc, gc = wr.heap.size := ⟨_, rfl⟩
      have HGC := Lib.hid hgc
      rw [← hgc] at HRF3 ⊢
      clear hgc hc hx2
      obtain ⟨wo, hwo⟩ : ∃ wo : World, wo = wr := ⟨_, rfl⟩
      subst hwo
      go_loopw [30] (fun jv wr => ∃ (x : Nat) (us : List Nat), jv = .int .i64 x ∧ x ≤ 256 ∧ us = (List.range nn).map (fun r => lettTo cls next x q r) ∧ StepsTo wr g nn q (lett cls next) xs ∧ RF g (fun _ => False) wr [some (3, .slice none 0 0, []), some (87, .slice (some ⟨g, 0, none⟩) nn nn, xs), some (72, .slice (some ⟨gc, 0, none⟩) nn nn, u64v us)] ∧ Below wo.heap.size wo wr) (fun jv _ => 256 - (intOf jv).toNat)
      case atStart => exact ⟨0, (List.range nn).map (fun r => lettTo cls next 0 q r), rfl, by omega, rfl, HST3.out, by
        have h := HRF3.out
        rw [show u64v ((List.range nn).map (fun r => lettTo cls next 0 q r)) = List.replicate nn (.int .u64 0) by
          apply List.ext_getElem (by simp)
          intro i h1 h2
          simp [lettTo, sm]]
        exact h, HB3'.out⟩
      case round =>
        obtain ⟨x, us, rfl, hx, hus, hst, hrf, hb⟩ := hrel
        have HUS := Lib.hid hus
        have HSTX := Lib.hid hst
        have HRFX := Lib.hid hrf
        have HBX := Lib.hid hb
        by_cases hxl : x < 256
        · have hbw : Below w1.heap.size w1 wr := HBR.out.trans (hb.mono HBR.out.size)
          obtain ⟨b3, o3, rfl, hcx⟩ := (HCLS.out wr hbw).cell x hxl
          obtain ⟨cx, hce, hcn, hcd⟩ := HLET.out x hxl
          rw [hce] at hcx
          have hql : q < next.length := by rw [HNN.out]; exact HLT.out
          obtain ⟨k1, k2, k3⟩ := nxN_val HV.out hql hcn
          obtain ⟨b2, off2, rfl, hcr⟩ := (HRD.out wr hb).cell cx (by rw [HC.out]; exact hcn)
          rw [k1] at hcr
          rw [HNN.out] at k2
          obtain ⟨p, hp⟩ : ∃ p, p = nxN next q cx := ⟨_, rfl⟩
          rw [← hp] at hcr k2
          obtain ⟨y, hy⟩ : ∃ y, y = us.getD p 0 := ⟨_, rfl⟩
          have hul : us.length = nn := by rw [hus]; simp
          have hcy := hrf.cell (i := 2) rfl (show (u64v us)[p]? = some (.int .u64 (y : Int)) by
            rw [List.getElem?_map, List.getElem?_eq_getElem (by rw [hul]; exact k2), hy]
            simp [List.getD, List.getElem?_eq_getElem (show p < us.length by rw [hul]; exact k2)])
          have hy9 : y ≤ 256 := by
            rw [hy, hus]
            have := lettTo_le cls next x q p
            simp [List.getD, k2]; omega
          have HSET := Lib.hid (lettTo_set (cls := cls) (next := next) (k := x) (q := q) (p := p) (n := nn) (by rw [hcd, hp]) k2 hus)
          have HY := Lib.hid hy
          have HPL : Hid (p < (u64v us).length) := Lib.hid (by rw [List.length_map, hul]; exact k2)
          have hwr : IntKind.u64.wrap ((y : Int) + 1) = (y : Int) + 1 := IntWalk.u64_in _ (by omega)
          have hpi : (p : Int) < (nn : Int) := by omega
          have hci : (cx : Int) < (ni : Int) := by rw [HC.out]; omega
          have hp9 : (p : Int) ≤ 256 := by have := HN9.out; omega
          have hxi : (x : Int) < 256 := by omega
          have HXL := Lib.hid hxl
          have HBW : Hid (w1.heap.size ≤ wr.heap.size) := Lib.hid hbw.size
          clear hce hcn hcd hql k1 k2 k3 hp hy hul hy9 hbw hus hst hrf hb hx hxl
          go_wp2_with (refine guard_op (.store 72 (.tmp 42) (.tmp 41)) rfl ?_; refine RF.store HRFX.out (i := 2) rfl rfl 72 (.tmp 42) (.tmp 41) rfl p rfl (.int .u64 ((y : Int) + 1)) rfl rfl rfl (by kernel_rfl) HPL.out ?_; intro w9 hrf9 hg9 hbl9 hfr9; have HRF9 := Lib.hid hrf9; have HG9 := Lib.hid hg9; clear hrf9 hg9 hbl9 hfr9)
          go_roundw
          case rel => exact ⟨x + 1, us.set p (us.getD p 0 + 1), by go_num, HXL.out, HSET.out, HSTX.out.keep (HRFX.out.own 2 _ _ _ rfl) (by decide) HG9.out, by
            have h := HRF9.out
            rw [show u64v (us.set p (us.getD p 0 + 1)) = (u64v us).set p (.int .u64 ((y : Int) + 1)) by simp [u64v, List.map_set, HY.out]]
            exact h, HBX.out.grown HG9.out HBX.out.size (fun k hk => by cases hk; exact Nat.le_of_eq HGC.out.symm)⟩
          case measure => have := HXL.out; simp [intOf]; omega
        · obtain rfl : x = 256 := by omega
          have HCNT : Hid (RdG wr 1 (some ⟨gc, 0, none⟩) nn ((List.range nn).map fun (p : Nat) => Value.int .u64 ((lett cls next q p : Nat) : Int))) := Lib.hid (by
            have ho := hrf.own 2 _ _ _ rfl
            rw [show (u64v us).length = nn by rw [List.length_map, hus]; simp] at ho
            have h := ho.rdG
            rw [hus] at h
            rw [show ((List.range nn).map fun (p : Nat) => Value.int .u64 ((lett cls next q p : Nat) : Int)) = u64v ((List.range nn).map fun r => lettTo cls next 256 q r) by simp [u64v, lettTo_all]]
            exact h)
          have HLI := Lib.hid (list_any (some ⟨gc, 0, none⟩) nn nn (lett cls next q) wr HCNT.out HN9.out (lett_cap cls next q))
          obtain ⟨L, hL⟩ : ∃ L, L = lsf (lett cls next q) nn := ⟨_, rfl⟩
          have HL := Lib.hid hL
          have hm9 : L.length ≤ 256 := by rw [hL]; have := lsf_len (lett cls next q) nn; have := HN9.out; omega
          have HM9 := Lib.hid hm9
          have HXL : Hid (q < xs.length) := Lib.hid (by rw [HST.out.1]; exact HLT.out)
          unfold ListPost at HLI
          rw [← hL] at HLI
          have HBG : Hid (g ≤ wr.heap.size) := Lib.hid hrf.bw
          generalize hm : L.length = m at *
          have HM := Lib.hid hm
          have hm9i : (m : Int) ≤ 256 := by omega
          clear hus hst hrf hb hx hxl hL hm9 hm
          go_wp2_with fail
          refine HLI.out.mono ?_
          rintro e w10 ⟨al, cl, rfl, hrl, hb10⟩
          have HRL := Lib.hid hrl
          have HRF10 := Lib.hid ((HRFX.out.below hb10))
          have HST10 := Lib.hid (HSTX.out.below hb10)
          have HB10 := Lib.hid (HBX.out.trans (hb10.mono HBX.out.size))
          clear hrl hb10
          go_wp2_with (refine guard_op (.store 87 (.tmp 48) (.tmp 47)) rfl ?_; refine RF.store HRF10.out (i := 1) rfl rfl 87 (.tmp 48) (.tmp 47) rfl q rfl (.slice al m cl) rfl rfl rfl (by kernel_rfl) HXL.out ?_; intro w11 hrf11 hg11 hbl11 hfr11; have hcs := hrf11.cell (i := 1) rfl (show (xs.set q (.slice al m cl))[q]? = some (.slice al m cl) from List.getElem?_set_self HXL.out); have HRF11 := Lib.hid hrf11; have HG11 := Lib.hid hg11; clear hrf11 hg11 hbl11 hfr11)
          go_roundw
          case rel =>
            have hrow1 := HRF10.out.own 1 _ _ _ rfl
            have hnew := Row.keep HRL.out hrow1 (by decide) HG11.out
            have hold := HST10.out.keep hrow1 (by decide) HG11.out
            have hbx : Below w1.heap.size w1 w11 := (HBR.out.trans (HB10.out.mono HBR.out.size)).grown HG11.out (by have h1 := HBR.out.size; have h2 := HB10.out.size; omega) (fun k hk => by cases hk; exact Nat.le_of_eq HG.out.symm)
            refine ⟨q + 1, k + m, xs.set q (.slice al m cl), by go_num, HLT.out, by go_num, by have := HK.out; have := HM9.out; omega, ?_, RF.front (r := [some (72, .slice (some ⟨gc, 0, none⟩) nn nn, u64v us)]) HRF11.out, hbx⟩
            have hp := hold.push (q := q) (a := al) (c := cl) HLT.out (by rw [← HL.out, HM.out]; exact hnew.mono HBG.out)
            rw [← HL.out, HM.out] at hp
            exact hp
          case measure => have := HLT.out; simp [intOf]; omega
    · obtain rfl : q = nn := by omega
      have hro := hrf.own 1 _ _ _ rfl
      have HRW : Hid (RdS wr (some ⟨g, 0, none⟩) q (lett cls next)) := Lib.hid ⟨fun r hr => by
        obtain ⟨a, c, h1, h2⟩ := hst.2 r hr
        exact ⟨g, 0, a, c, rfl, by rw [Nat.zero_add]; exact hrf.cell (i := 1) rfl h1, h2.rdG⟩, lett_cap cls next⟩
      clear hst hrf hb hk hq hlt hro
      go_wp2
      go_ret2
      exact ⟨some ⟨g, 0, none⟩, q, k, rfl, HK.out, HRW.out, bthen HB1.out HBR.out⟩

end Go.Proofs.Ytajajkganamfiaa
