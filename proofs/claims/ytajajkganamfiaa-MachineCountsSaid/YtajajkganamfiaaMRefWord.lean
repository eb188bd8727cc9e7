/-
  evergreenref29.Words: the counts, letter by letter.
-/
import Derived.Test.YtajajkganamfiaaMWordW
import Derived.Test.YtajajkganamfiaaMRefGo
import Derived.Deep.RegionLaw
namespace Go.Proofs.Ytajajkganamfiaa
open Go.RowKit
set_option linter.unusedVariables false
set_option linter.unusedSimpArgs false

theorem mgo_nx {s cls next acc} (hv : Valid s cls next acc) {q x : Nat} (hq : q < next.length) (hx : x < 256) : mgo cls next (q : Int) x = (nxN next q ((nats cls).getD x 0) : Int) := by
  obtain ⟨c, hc, hn, he⟩ := let_cls hv hx
  unfold mgo
  rw [hc, he, Int.toNat_natCast, Int.toNat_natCast]
  exact (nxN_val hv hq hn).1

theorem cp_int (x y : Nat) : min ((x : Int) + (y : Int)) 1152921504606846977 = ((cp (x + y) : Nat) : Int) := by unfold cp capM; omega
/-- one letter more -/
theorem ref_step {us : List Nat} {n i b x y : Nat} {f : Nat → Nat} {g : Nat → Nat} (hl : us.length = n) (hi : i < n) (hx : x = us.getD i 0) (hcur : us.getD i 0 = cp (sm b g)) (hy : y = g b)
    (hdone : ∀ r, r < i → us.getD r 0 = f r) (hrest : ∀ r, i < r → us.getD r 0 = 0) :
    (us.set i (cp (x + y))).length = n ∧ (us.set i (cp (x + y))).getD i 0 = cp (sm (b + 1) g) ∧ (∀ r, r < i → (us.set i (cp (x + y))).getD r 0 = f r) ∧ (∀ r, i < r → (us.set i (cp (x + y))).getD r 0 = 0) := by
  refine ⟨by rw [List.length_set]; exact hl, ?_, fun r hr => ?_, fun r hr => ?_⟩
  · rw [getD_set _ _ _ _ (by omega), if_pos rfl, hx, hcur, hy, sm, cp_add]
  · rw [getD_set _ _ _ _ (by omega), if_neg (by omega)]; exact hdone r hr
  · rw [getD_set _ _ _ _ (by omega), if_neg (by omega)]; exact hrest r hr

/-- counts of the reference in memory -/
def RdI (w : World) (a : Option Addr) (n : Nat) (c : Nat → Nat) : Prop := RdG w 1 a n (iv ((List.range n).map c))
theorem RdI.below {w w' : World} {a n c} (h : RdI w a n c) (hb : Below w.heap.size w w') : RdI w' a n c := RdG.below h hb
theorem RdI.cell {w : World} {a n c q} (h : RdI w a n c) (hq : q < n) : ∃ b off, a = some ⟨b, off, none⟩ ∧ w.cell? ⟨b, off + q, none⟩ = some (.int .i64 ((c q : Nat) : Int)) :=
  RdG.cell h q _ (by simp [iv, hq])

set_option maxRecDepth 100000 in
set_option maxHeartbeats 2000000 in
theorem refWords_any (st : Nat) (ac : Option Addr) (nc cc : Nat) (an : Option Addr) (nn cn : Nat) (aa : Option Addr) (na ca : Nat) (cls : List Int) (next : List (List Int)) (acc : List Bool) (N : Nat) (w : World)
    (hm : RdM w ac nc an nn aa na cls next acc) (hv : Valid st cls next acc) (hN : N ≤ 65536) :
    Calls Try.prog 24 #[.agg #[.int .i64 st, .slice ac nc cc, .slice an nn cn, .slice aa na ca], .int .i64 N] w fun e w' => e = .returned (.int .i64 (wcnt cls next acc N st : Nat)) ∧ Below w.heap.size w w' := by
  obtain ⟨w1, hw1⟩ : ∃ w1, w1 = w.alloc (.cells #[.int .i64 st, .slice ac nc cc, .slice an nn cn, .slice aa na ca] 26) := ⟨_, rfl⟩
  have HW1 := Lib.hid hw1
  have hb1 : Below w.heap.size w w1 := by rw [hw1]; exact below_alloc _ _
  have hct : CT w1 w.heap.size st (.slice ac nc cc) (.slice an nn cn) (.slice aa na ca) := by rw [hw1]; exact alloc_ct _ _ _ _ _ _
  have HCT := Lib.hid hct
  have HB1 := Lib.hid hb1
  have HM := Lib.hid (fun (wx : World) (hb : Below w1.heap.size w1 wx) => (hm.below hb1).below hb)
  have HV := Lib.hid hv
  have hnn : next.length = nn := hm.n.len
  have hna : na = nn := by rw [← hm.a.len, hv.accL, hnn]
  subst hna
  have hn9 : na ≤ 256 := by rw [← hnn]; exact hv.n1
  have hni : (na : Int) ≤ 256 := by omega
  have hst : st < na := by have := hv.s1; omega
  have hsti : (st : Int) < (na : Int) := by omega
  have hNi : (N : Int) ≤ 65536 := by omega
  have HNN := Lib.hid hnn
  have HST := Lib.hid hst
  have HN9 := Lib.hid hn9
  obtain ⟨C, hC⟩ : ∃ C, C = wcnt cls next acc N st := ⟨_, rfl⟩
  have HC := Lib.hid hC
  have HRF1 : Hid (RF w1.heap.size (fun _ => False) w1 [some (3, .slice none 0 0, [])]) := Lib.hid (RF.one (World.ownsRow_nil w1 w1.heap.size 3 1) (fun g hg => by cases hg) (fun b hb => hb.elim) (Nat.le_refl _))
  rw [← hC]
  obtain ⟨z0, z1, z2, z3, -⟩ := hct
  clear hm hv hw1 hb1 hnn hn9 hst hN hC z1
  go_enter Try.func24, Try.ntmps24
  go_upto_region 1 with fail
  rw [← HW1.out]
  go_wp2_with (at_make; refine RF.make HRF1.out EIG rfl rfl _ _ rfl _ _ _ _ na rfl rfl rfl rfl (by have := HN9.out; omega) (by have := HN9.out; omega) ?_; intro w4 hrf4 hb4 hsz4; have z2 := below_cell hb4 z2; have z3 := below_cell hb4 z3; have HRF4 := Lib.hid hrf4; have HB4 := Lib.hid hb4; clear hrf4 hb4 hsz4)
  obtain ⟨g, hg⟩ : ∃ g, g = w1.heap.size := ⟨_, rfl⟩
  have HG := Lib.hid hg
  rw [← hg] at HRF4 ⊢
  clear hg
  go_loopw [6] (fun jv wr => ∃ (i : Nat) (us : List Nat), jv = .int .i64 i ∧ i ≤ na ∧ us.length = na ∧ (∀ r, r < i → us.getD r 0 = cnt0 acc r) ∧ (∀ r, i ≤ r → us.getD r 0 = 0) ∧ RF g (fun _ => False) wr [some (3, .slice none 0 0, []), some (3, .slice (some ⟨g, 0, none⟩) na na, iv us)] ∧ Below w1.heap.size w1 wr) (fun jv _ => na - (intOf jv).toNat)
  case atStart => exact ⟨0, List.replicate na 0, rfl, by omega, by simp, fun r hr => by omega, fun r hr => by simp [List.getD, List.getElem?_replicate]; split <;> rfl, by
    have h := HRF4.out
    rw [show iv (List.replicate na 0) = List.replicate na (.int .i64 0) by simp [iv]]
    exact h, HB4.out⟩
  case round =>
    obtain ⟨i, us, rfl, hi, hul, hdone, hrest, hrf, hb⟩ := hrel
    have HU := Lib.hid (And.intro hul (And.intro hdone hrest))
    have HRF := Lib.hid hrf
    have HB := Lib.hid hb
    obtain ⟨z0, -, z2, z3, -⟩ := HCT.out.below hb
    by_cases hlt : i < na
    · obtain ⟨b, off, rfl, hc⟩ := ((HM.out wr hb).a).cell i hlt
      have HLT := Lib.hid hlt
      have hii : (i : Int) < (na : Int) := by omega
      have hi9 : (i : Int) ≤ 256 := by omega
      have HF := Lib.hid (fill_cnt (acc := acc) hul hlt hdone hrest rfl)
      clear hul hdone hrest hrf hb hi hlt
      cases hx : acc.getD i false with
      | true =>
        rw [hx] at hc
        have HF2 := Lib.hid HF.out
        rw [hx] at HF2
        have HPL : Hid (i < (iv us).length) := Lib.hid (by rw [List.length_map, HU.out.1]; exact HLT.out)
        clear hx HF
        go_wp2_with (refine guard_op (.store 3 (.tmp 27) (.const (.int .i64 1))) rfl ?_; refine RF.store HRF.out (i := 1) rfl rfl 3 (.tmp 27) (.const (.int .i64 1)) rfl i rfl (.int .i64 1) rfl rfl rfl (by kernel_rfl) HPL.out ?_; intro w9 hrf9 hg9 hbl9 hfr9; have HRF9 := Lib.hid hrf9; have HB9 := Lib.hid (HB.out.trans (hbl9.mono (Nat.le_of_eq HG.out.symm))); clear hrf9 hg9 hbl9 hfr9)
        go_roundw
        case rel => exact ⟨i + 1, us.set i 1, by go_num, HLT.out, HF2.out.1, HF2.out.2.1, HF2.out.2.2, by
          have h := HRF9.out
          rw [show iv (us.set i 1) = (iv us).set i (.int .i64 1) by simp [iv, List.map_set]]
          exact h, HB9.out⟩
        case measure => have := HLT.out; simp [intOf]; omega
      | false =>
        rw [hx] at hc
        have HF2 := Lib.hid HF.out
        rw [hx] at HF2
        clear hx HF
        go_wp2
        go_roundw
        case rel => exact ⟨i + 1, us, by go_num, HLT.out, HF2.out.1, HF2.out.2.1, HF2.out.2.2, HRF.out, HB.out⟩
        case measure => have := HLT.out; simp [intOf]; omega
    · obtain rfl : na = i := by omega
      have HCN : Hid (RdI wr (some ⟨g, 0, none⟩) na (wcnt cls next acc 0)) := Lib.hid (by
        have ho := hrf.own 1 _ _ _ rfl
        rw [show (iv us).length = na by rw [List.length_map, hul]] at ho
        have h := ho.rdG
        rw [list_fun hul (fun r hr => (hdone r hr).trans (wcnt_zero cls next acc r).symm)] at h
        exact h)
      clear hul hdone hrest hrf hb hi hlt z0 z2 z3
      go_wp2
      obtain ⟨wo, hwo⟩ : ∃ wo : World, wo = wr := ⟨_, rfl⟩
      subst hwo
      go_loopw [1, 5] (fun nv cv wr => ∃ (m k : Nat) (a : Option Addr) (c : Nat), nv = .int .i64 m ∧ k + m = N ∧ cv = .slice a na c ∧ RdI wr a na (wcnt cls next acc k) ∧ Below w1.heap.size w1 wr) (fun nv _ _ => (intOf nv).toNat)
      case atStart => exact ⟨N, 0, _, na, rfl, by omega, rfl, HCN.out, HB.out⟩
      case round =>
        obtain ⟨m, k, a, c, rfl, hmN, rfl, hcn, hb⟩ := hrel
        obtain ⟨z0, z1, z2, z3, -⟩ := HCT.out.below hb
        rcases Nat.eq_zero_or_pos m with h0 | h0
        · subst h0
          obtain rfl : N = k := by omega
          obtain ⟨b, off, rfl, hcell⟩ := hcn.cell HST.out
          rw [← HC.out] at hcell
          have HBE := Lib.hid (bthen HB1.out hb)
          clear hcn hb hmN
          go_wp2
          go_ret
          exact ⟨rfl, HBE.out⟩
        · have HCNO := Lib.hid hcn
          have HBO := Lib.hid hb
          have HMN := Lib.hid hmN
          have HMP := Lib.hid h0
          have hm9 : (m : Int) ≤ 65536 := by omega
          have hmp : (0 : Int) < (m : Int) := by omega
          have HRFW : Hid (RF wr.heap.size (fun _ => False) wr [some (3, .slice none 0 0, [])]) := Lib.hid (RF.one (World.ownsRow_nil wr wr.heap.size 3 1) (fun g hg => by cases hg) (fun b hb => hb.elim) (Nat.le_refl _))
          clear hcn hb hmN h0
          go_wp2_with (at_make; refine RF.make HRFW.out EIG rfl rfl _ _ rfl _ _ _ _ na rfl rfl rfl rfl (by have := HN9.out; omega) (by have := HN9.out; omega) ?_; intro w5 hrf5 hb5 hsz5; have HRF5 := Lib.hid hrf5; have HB5 := Lib.hid hb5; clear hrf5 hb5 hsz5)
          obtain ⟨gn, hgn⟩ : ∃ gn, gn = wr.heap.size := ⟨_, rfl⟩
          have HGN := Lib.hid hgn
          rw [← hgn] at HRF5 ⊢
          clear hgn z0 z1 z2 z3
          obtain ⟨wk, hwk⟩ : ∃ wk : World, wk = wr := ⟨_, rfl⟩
          subst hwk
          go_loopw [8] (fun jv wr => ∃ (i : Nat) (us : List Nat), jv = .int .i64 i ∧ i ≤ na ∧ us.length = na ∧ (∀ r, r < i → us.getD r 0 = wcnt cls next acc (k + 1) r) ∧ (∀ r, i ≤ r → us.getD r 0 = 0) ∧ RF gn (fun _ => False) wr [some (3, .slice none 0 0, []), some (3, .slice (some ⟨gn, 0, none⟩) na na, iv us)] ∧ Below wk.heap.size wk wr) (fun jv _ => na - (intOf jv).toNat)
          case atStart => exact ⟨0, List.replicate na 0, rfl, by omega, by simp, fun r hr => by omega, fun r hr => by simp [List.getD, List.getElem?_replicate]; split <;> rfl, by
            have h := HRF5.out
            rw [show iv (List.replicate na 0) = List.replicate na (.int .i64 0) by simp [iv]]
            exact h, HB5.out⟩
          case round =>
            obtain ⟨i, us, rfl, hi, hul, hdone, hrest, hrf, hb⟩ := hrel
            have HRF := Lib.hid hrf
            have HB := Lib.hid hb
            by_cases hlt : i < na
            · have HU := Lib.hid (And.intro hul (And.intro hdone hrest))
              have hii : (i : Int) < (na : Int) := by omega
              have hi9 : (i : Int) ≤ 256 := by omega
              have HLT := Lib.hid hlt
              clear hul hdone hrest hrf hb hi hlt
              go_wp2
              obtain ⟨wj, hwj⟩ : ∃ wj : World, wj = wr := ⟨_, rfl⟩
              subst hwj
              go_loopw [9] (fun jv wr => ∃ (b : Nat) (vs : List Nat), jv = .int .i64 b ∧ b ≤ 256 ∧ vs.length = na ∧ vs.getD i 0 = cp (sm b (fun x => wcnt cls next acc k (nxN next i ((nats cls).getD x 0)))) ∧ (∀ r, r < i → vs.getD r 0 = wcnt cls next acc (k + 1) r) ∧ (∀ r, i < r → vs.getD r 0 = 0) ∧ RF gn (fun _ => False) wr [some (3, .slice none 0 0, []), some (3, .slice (some ⟨gn, 0, none⟩) na na, iv vs)] ∧ Below wk.heap.size wk wr) (fun jv _ => 256 - (intOf jv).toNat)
              case atStart => exact ⟨0, us, rfl, by omega, HU.out.1, by rw [HU.out.2.2 i (Nat.le_refl _)]; rfl, HU.out.2.1, fun r hr => HU.out.2.2 r (by omega), HRF.out, HB.out⟩
              case round =>
                obtain ⟨b, vs, rfl, hb9, hvl, hcur, hdone, hrest, hrf, hb⟩ := hrel
                have HV2 := Lib.hid (And.intro hvl (And.intro hcur (And.intro hdone hrest)))
                have HRFJ := Lib.hid hrf
                have HBJ := Lib.hid hb
                by_cases hlt : b < 256
                · have HLB := Lib.hid hlt
                  have hbi : (b : Int) < 256 := by omega
                  have hcvb : IntKind.u8.wrap (b : Int) = (b : Int) := IntWalk.u8_in _ (by omega)
                  have hbw : Below w1.heap.size w1 wr := bthen HBO.out hb
                  obtain ⟨z0, z1, z2, z3, -⟩ := HCT.out.below hbw
                  have HGO := Lib.hid (refGo_any st ac nc cc an na cn aa na ca cls next acc wr.drew (HM.out _ hbw.drew) HV.out (i : Int) b (by omega) (by rw [HNN.out]; exact hii) hlt)
                  rw [mgo_nx HV.out (by rw [HNN.out]; exact HLT.out) hlt] at HGO
                  obtain ⟨p, hp⟩ : ∃ p, p = nxN next i ((nats cls).getD b 0) := ⟨_, rfl⟩
                  have hpn : p < na := by rw [hp, ← HNN.out]; exact nx_lt HV.out (by rw [HNN.out]; exact HLT.out) hlt
                  rw [← hp] at HGO
                  obtain ⟨bm, om, rfl, hcm⟩ := (HCNO.out.below hb).cell hpn
                  obtain ⟨y, hy⟩ : ∃ y, y = wcnt cls next acc k p := ⟨_, rfl⟩
                  rw [← hy] at hcm
                  obtain ⟨x, hx⟩ : ∃ x, x = vs.getD i 0 := ⟨_, rfl⟩
                  have hx9 : x ≤ capM := by rw [hx, hcur]; exact cp_le _
                  have hy9 : y ≤ capM := by rw [hy]; exact wcnt_le ..
                  have hil : i < (iv vs).length := by rw [List.length_map, hvl]; exact HLT.out
                  have hcx : wr.cell? ⟨gn, i, none⟩ = some (.int .i64 (x : Int)) := hrf.cell (i := 1) rfl (by
                    rw [List.getElem?_map, List.getElem?_eq_getElem (by rw [hvl]; exact HLT.out), hx]
                    simp [List.getD, List.getElem?_eq_getElem (show i < vs.length by rw [hvl]; exact HLT.out)])
                  have hwr : IntKind.i64.wrap ((x : Int) + (y : Int)) = (x : Int) + (y : Int) := IntWalk.i64_in _ (by unfold capM at hx9 hy9; omega)
                  have HST1 := Lib.hid (ref_step (f := fun r => wcnt cls next acc (k + 1) r) (g := fun x => wcnt cls next acc k (nxN next i ((nats cls).getD x 0))) (b := b) (y := y) hvl HLT.out hx hcur (by rw [hy, hp]) hdone hrest)
                  have hpi : (p : Int) < (na : Int) := by omega
                  have hp9 : (p : Int) ≤ 256 := by omega
                  have d0 : wr.drew.cell? ⟨gn, i, none⟩ = some (.int .i64 (x : Int)) := hcx
                  have HNEW : Hid (∀ w9, Below wr.drew.heap.size wr.drew w9 → w9.cell? ⟨gn, i, none⟩ = some (.int .i64 (x : Int)) ∧ w9.frozen? ⟨gn, i, none⟩ = false ∧ w9.cell? ⟨bm, om + p, none⟩ = some (.int .i64 (y : Int))) := Lib.hid (fun w9 hb9 => by
                    have h9 : Below wr.heap.size wr w9 := bthen ((Below.refl _ wr).drew) hb9
                    have hf := (hrf.below h9).own 1 _ _ _ rfl
                    rw [show (iv vs).length = na by rw [List.length_map, hvl]] at hf
                    exact ⟨below_cell h9 hcx, World.ownsRow.frozenAt hf _, below_cell h9 hcm⟩)
                  have HFIN : Hid (∀ w9, Below wr.drew.heap.size wr.drew w9 → ∀ u, RF gn (fun _ => False) (w9.setCell ⟨gn, i, none⟩ u) [some (3, .slice none 0 0, []), some (3, .slice (some ⟨gn, 0, none⟩) na na, (iv vs).set i u)] ∧ Below wk.heap.size wk (w9.setCell ⟨gn, i, none⟩ u)) := Lib.hid (fun w9 hb9 u => by
                    have h9 : Below wr.heap.size wr w9 := bthen ((Below.refl _ wr).drew) hb9
                    have hrf9 := hrf.below h9
                    have ho := hrf9.own 1 _ _ _ rfl
                    rw [show (iv vs).length = na by rw [List.length_map, hvl]] at ho
                    have hst := World.ownsRow.stored ho i u
                    refine ⟨hrf9.turn (i := 1) rfl (by rw [show ((iv vs).set i u).length = na by simp [iv, hvl]]; exact hst.1) hst.2 (.inl rfl), ?_⟩
                    exact (bthen hb h9).grown hst.2 (Nat.le_trans hb.size h9.size) (fun k hk => by cases hk; exact Nat.le_of_eq HGN.out.symm))
                  clear hp hpn hy hx hx9 hy9 hil hvl hcur hdone hrest hrf hb hb9 hbw hlt
                  go_upto_region 16 with fail
                  go_region_law (first
                    | (go_simp; go_at_call 31; refine HGO.out.mono ?_; rintro e w9 ⟨rfl, hb9⟩; obtain ⟨n0, n1, n2⟩ := HNEW.out w9 hb9; have HB9 := Lib.hid hb9; clear hb9))
                  all_goals
                    go_wp2
                    go_roundw
                    case rel => exact ⟨b + 1, vs.set i (cp (x + y)), by go_num, HLB.out, HST1.out.1, HST1.out.2.1, HST1.out.2.2.1, HST1.out.2.2.2, by
                      have h := (HFIN.out w9 HB9.out (.int .i64 (min ((x : Int) + (y : Int)) 1152921504606846977))).1
                      rw [show iv (vs.set i (cp (x + y))) = (iv vs).set i (.int .i64 (min ((x : Int) + (y : Int)) 1152921504606846977)) by rw [cp_int]; simp [iv, List.map_set]]
                      exact h, (HFIN.out w9 HB9.out _).2⟩
                    case measure => have := HLB.out; simp [intOf]; omega
                · obtain rfl : b = 256 := by omega
                  have HDN : Hid (∀ r, r < i + 1 → vs.getD r 0 = wcnt cls next acc (k + 1) r) := Lib.hid (fun r hr => by
                    by_cases e : r = i
                    · subst e; rw [hcur, ← wcnt_lett HV.out k (by rw [HNN.out]; exact HLT.out)]
                    · exact hdone r (by omega))
                  clear hvl hcur hdone hrest hrf hb hb9 hlt
                  go_wp2
                  go_roundw
                  case rel => exact ⟨i + 1, vs, by go_num, HLT.out, HV2.out.1, HDN.out, fun r hr => HV2.out.2.2.2 r (by omega), HRFJ.out, HBJ.out⟩
                  case measure => have := HLT.out; simp [intOf]; omega
            · obtain rfl : na = i := by omega
              have HCN2 : Hid (RdI wr (some ⟨gn, 0, none⟩) na (wcnt cls next acc (k + 1))) := Lib.hid (by
                have ho := hrf.own 1 _ _ _ rfl
                rw [show (iv us).length = na by rw [List.length_map, hul]] at ho
                have h := ho.rdG
                rw [list_fun hul hdone] at h
                exact h)
              have HB2 := Lib.hid (bthen HBO.out hb)
              clear hul hdone hrest hrf hb hi hlt
              go_wp2
              go_roundw
              case rel => exact ⟨m - 1, k + 1, _, na, by go_num, by have := HMN.out; have := HMP.out; omega, rfl, HCN2.out, HB2.out⟩
              case measure => have := HMP.out; simp [intOf]; omega

end Go.Proofs.Ytajajkganamfiaa
