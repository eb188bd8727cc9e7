/-
  reachable: the states to which some text leads.
-/
import Derived.Test.YtajajkganamfiaaMOcc
namespace Go.Proofs.Ytajajkganamfiaa
open Go.RowKit
set_option linter.unusedVariables false
set_option linter.unusedSimpArgs false

/-- the next state, as a number -/
def nxN (next : List (List Int)) (q c : Nat) : Nat := ((next.getD q []).getD c 0).toNat

theorem nxN_val {s cls next acc} (h : Valid s cls next acc) {q c : Nat} (hq : q < next.length) (hc : c < ncls next) : (next.getD q []).getD c 0 = (nxN next q c : Int) ∧ nxN next q c < next.length ∧ (next.getD q []).length = ncls next := by
  have hm : next.getD q [] ∈ next := by
    rw [show next.getD q [] = next[q] by simp [List.getD, hq]]
    exact List.getElem_mem hq
  obtain ⟨h1, h2⟩ := h.row _ hm
  have hx := h2 ((next.getD q []).getD c 0) (by
    have hcl : c < (next.getD q []).length := by omega
    obtain ⟨r, hr⟩ : ∃ r, r = next.getD q [] := ⟨_, rfl⟩
    rw [← hr] at hcl ⊢
    rw [List.getD_eq_getElem?_getD, List.getElem?_eq_getElem hcl]
    exact List.getElem_mem hcl)
  have := Int.toNat_of_nonneg hx.1
  exact ⟨this.symm, by unfold nxN; omega, h1⟩

structure RcI (next : List (List Int)) (st : Nat) (classes us : List Nat) (i : Nat) : Prop where
  nd : us.Nodup
  st : st ∈ us
  lt : ∀ q ∈ us, q < next.length
  cl : ∀ j q, j < i → us[j]? = some q → ∀ c ∈ classes, nxN next q c ∈ us

theorem nodup_lt {n : Nat} {us : List Nat} (hn : us.Nodup) (h : ∀ q ∈ us, q < n) : us.length ≤ n := by
  have := List.Nodup.length_le_of_subset (l₂ := List.range n) hn (fun q hq => List.mem_range.2 (h q hq))
  simpa using this

def RchPost (next : List (List Int)) (st : Nat) (classes : List Nat) (w : World) (e : Ending) (w' : World) : Prop :=
  ∃ us a c, e = .returned (.slice a us.length c) ∧ Row w' w.heap.size 3 1 (.slice a us.length c) us.length (iv us) ∧ RcI next st classes us us.length ∧ Below w.heap.size w w'

/-- a row of the machine, to be read -/
theorem row_cell {w : World} {an : Option Addr} {nn : Nat} {next : List (List Int)} (hr : RdRows w .i64 an nn next) {s cls acc} (hv : Valid s cls next acc) {q c : Nat} (hq : q < nn) (hc : c < ncls next) :
    ∃ b off b2 off2 ci, an = some ⟨b, off, none⟩ ∧ w.cell? ⟨b, off + q, none⟩ = some (.slice (some ⟨b2, off2, none⟩) (ncls next) ci) ∧ w.cell? ⟨b2, off2 + c, none⟩ = some (.int .i64 (nxN next q c : Int)) := by
  obtain ⟨b, off, ai, ni, ci, ha, h1, h2, _⟩ := hr.cell q hq
  have hql : q < next.length := by rw [hr.len]; exact hq
  obtain ⟨k1, k2, k3⟩ := nxN_val hv hql hc
  have hni : ni = ncls next := by rw [← h2.len, k3]
  subst hni
  obtain ⟨b2, off2, rfl, h3⟩ := h2.cell c hc
  rw [k1] at h3
  exact ⟨b, off, b2, off2, ci, ha, h1, h3⟩

set_option maxRecDepth 100000 in
set_option maxHeartbeats 1500000 in
theorem reach_any (st : Nat) (ac : Option Addr) (nc cc : Nat) (an : Option Addr) (nn cn : Nat) (aa : Option Addr) (na ca : Nat) (cls : List Int) (next : List (List Int)) (acc : List Bool) (ka : Option Addr) (kc : Nat) (classes : List Nat) (w : World)
    (hm : RdM w ac nc an nn aa na cls next acc) (hv : Valid st cls next acc) (hk : RdG w 1 ka classes.length (iv classes)) (hcl : ∀ c ∈ classes, c < ncls next) (hk9 : classes.length ≤ 256) :
    Calls Try.prog 45 #[.agg #[.int .i64 st, .slice ac nc cc, .slice an nn cn, .slice aa na ca], .slice ka classes.length kc] w (RchPost next st classes w) := by
  obtain ⟨w1, hw1⟩ : ∃ w1, w1 = w.alloc (.cells #[.int .i64 st, .slice ac nc cc, .slice an nn cn, .slice aa na ca] 26) := ⟨_, rfl⟩
  have HW1 := Lib.hid hw1
  have hb1 : Below w.heap.size w w1 := by rw [hw1]; exact below_alloc _ _
  have x0 : w1.cell? ⟨w.heap.size, 0, none⟩ = some (.int .i64 (st : Int)) := by rw [hw1]; simp
  have x2 : w1.cell? ⟨w.heap.size, 2, none⟩ = some (.slice an nn cn) := by rw [hw1]; simp
  have hnn : next.length = nn := hm.n.len
  have hst : st < nn := by have := hv.s1; omega
  have hn9 : nn ≤ 256 := by rw [← hnn]; exact hv.n1
  have hni : (nn : Int) ≤ 256 := by omega
  have hsti : (st : Int) < (nn : Int) := by omega
  have HBOX := Lib.hid (And.intro x0 x2)
  have HN9 := Lib.hid hn9
  have HST := Lib.hid hst
  have HNN := Lib.hid hnn
  have HV := Lib.hid hv
  have HROWS := Lib.hid (fun (wx : World) (hb : Below w1.heap.size w1 wx) => (hm.n.below hb1).below hb)
  have HCLS := Lib.hid (fun (wx : World) (hb : Below w1.heap.size w1 wx) => (hk.below hb1).below hb)
  have HCL := Lib.hid hcl
  have HK9 := Lib.hid hk9
  have hk9i : (classes.length : Int) ≤ 256 := by omega
  have HRF1 : Hid (RF w1.heap.size (fun _ => False) w1 [some (3, .slice none 0 0, [])]) := Lib.hid (RF.one (Own.nil w1 w1.heap.size 3 .i64) (fun g hg => by cases hg) (fun b hb => hb.elim) (Nat.le_refl _))
  have HB1 := Lib.hid hb1
  obtain ⟨C, hC⟩ : ∃ C, C = ncls next := ⟨_, rfl⟩
  have HC := Lib.hid hC
  clear hm hv hk hcl hk9 hw1 hb1 hnn hst hn9 hC
  generalize hkl : classes.length = kn at *
  have HKL := Lib.hid hkl
  clear hkl
  go_enter Try.func45, Try.ntmps45
  go_upto_region 1 with fail
  rw [← HW1.out]
  go_wp2_with (first
    | (at_make; refine RF.make HRF1.out EBG rfl rfl _ _ rfl _ _ _ _ nn rfl rfl rfl rfl (by have := HN9.out; omega) (by have := HN9.out; omega) ?_; intro w2 hrf2 hb2 hsz2; have z0 := below_cell hb2 HBOX.out.1; have HRF2 := Lib.hid hrf2; have HB2 := Lib.hid hb2; clear hrf2 hb2 hsz2 x0 x2)
    | (refine guard_op (.store 4 (.tmp 18) (.const (.bool true))) rfl ?_; refine RF.store HRF2.out (i := 1) rfl rfl 4 (.tmp 18) (.const (.bool true)) rfl st rfl (.bool true) rfl rfl rfl (by kernel_rfl) (by simp; exact HST.out) ?_; intro w3 hrf3 hg3 hbl3 hfr3; have z0 := below_cell (HB2.out.trans hbl3) HBOX.out.1; have HRF3 := Lib.hid hrf3; have HB3 := Lib.hid (HB2.out.trans hbl3); clear hrf3 hg3 hbl3 hfr3))
  obtain ⟨g, hg⟩ : ∃ g, g = w1.heap.size := ⟨_, rfl⟩
  obtain ⟨w4, hw4⟩ : ∃ w4, w4 = w3.alloc (.cells #[.int .i64 (st : Int)] 3) := ⟨_, rfl⟩
  obtain ⟨g4, hg4⟩ : ∃ g4, g4 = w3.heap.size := ⟨_, rfl⟩
  have HB4 : Hid (Below w1.heap.size w1 w4) := Lib.hid (by rw [hw4]; exact HB3.out.alloc HB3.out.size _)
  have HRF4 : Hid (RF g (fun _ => False) w4 [some (3, .slice none 0 0, []), some (4, .slice (some ⟨g, 0, none⟩) nn nn, bits nn [st]), some (3, .slice (some ⟨g4, 0, none⟩) 1 1, iv [st])]) := Lib.hid (by
    have h := HRF3.out.new (w' := w4) (e := 3) (v := .slice (some ⟨w3.heap.size, 0, none⟩) 1 1) (xs := [.int .i64 (st : Int)]) (by rw [hw4]; exact World.ownsRow_lit w3 #[.int .i64 (st : Int)] 1 (by have := HB3.out.size; omega) (by decide) rfl) (by rw [hw4]; exact below_alloc _ _) (.inl rfl)
    rw [hg, hg4, show bits nn [st] = (bits nn []).set st (.bool true) from (bits_push [] HST.out).symm, bits_nil]
    exact h)
  rw [← hw4, ← hg4]
  have HG := Lib.hid hg
  rw [← hg]
  clear hw4 hg4 z0 hg
  go_loopw [6, 7] (fun ov jv wr => ∃ (i : Nat) (us : List Nat) (a : Option Addr) (c : Nat), jv = .int .i64 i ∧ i ≤ us.length ∧ ov = .slice a us.length c ∧ RcI next st classes us i ∧ RF g (fun _ => False) wr [some (3, .slice none 0 0, []), some (4, .slice (some ⟨g, 0, none⟩) nn nn, bits nn us), some (3, .slice a us.length c, iv us)] ∧ Below w1.heap.size w1 wr) (fun _ jv _ => nn + 1 - (intOf jv).toNat)
  case atStart => exact ⟨0, [st], _, 1, rfl, by omega, rfl, ⟨by simp, by simp, fun q hq => by rw [List.mem_singleton.1 hq, HNN.out]; exact HST.out, fun j q hj => by omega⟩, HRF4.out, HB4.out⟩
  case round =>
    obtain ⟨i, us, a, c, rfl, hi, rfl, hrc, hrf, hb⟩ := hrel
    have hul : us.length ≤ nn := nodup_lt hrc.nd (fun q hq => by rw [← HNN.out]; exact hrc.lt q hq)
    have HUL := Lib.hid hul
    have hu9 : (us.length : Int) ≤ 256 := by have := HN9.out; omega
    have hpos : 0 < us.length := List.length_pos_of_mem hrc.st
    obtain ⟨g2, rfl⟩ := hrf.addr (i := 2) rfl (by simpa using hpos)
    have HRF := Lib.hid hrf
    have HB := Lib.hid hb
    have HRC := Lib.hid hrc
    obtain ⟨wo, hwo⟩ : ∃ wo : World, wo = wr := ⟨_, rfl⟩
    subst hwo
    by_cases hlt : i < us.length
    · have HLT := Lib.hid hlt
      have hlti : (i : Int) < (us.length : Int) := by omega
      obtain ⟨q, hq⟩ : ∃ q, us[i]? = some q := ⟨_, List.getElem?_eq_getElem hlt⟩
      have HQ := Lib.hid hq
      have hqn : q < nn := by rw [← HNN.out]; exact hrc.lt q (List.mem_of_getElem? hq)
      have HQN := Lib.hid hqn
      have hqi : (q : Int) < (nn : Int) := by omega
      generalize hlen : us.length = m at *
      have HLEN := Lib.hid hlen
      clear hlen hi hul hpos hlt hq hqn hrc hrf hb
      go_wp2
      go_loopw [6, 30] (fun ov kv wr => ∃ (k : Nat) (vs : List Nat) (a : Option Addr) (c : Nat), kv = .int .i64 k ∧ k ≤ kn ∧ ov = .slice a vs.length c ∧ us.length ≤ vs.length ∧ vs[i]? = some q ∧ RcI next st classes vs i ∧ (∀ c ∈ classes.take k, nxN next q c ∈ vs) ∧ RF g (fun _ => False) wr [some (3, .slice none 0 0, []), some (4, .slice (some ⟨g, 0, none⟩) nn nn, bits nn vs), some (3, .slice a vs.length c, iv vs)] ∧ Below w1.heap.size w1 wr) (fun _ kv _ => kn - (intOf kv).toNat)
      case atStart => exact ⟨0, us, _, c, rfl, by omega, by rw [HLEN.out], Nat.le_refl _, HQ.out, HRC.out, fun c hc => by simp at hc, by rw [HLEN.out]; exact HRF.out, HB.out⟩
      case round =>
        obtain ⟨k, vs, a, c2, rfl, hk, rfl, huv, hvi, hrc, hdone, hrf, hb⟩ := hrel
        have hvl : vs.length ≤ nn := nodup_lt hrc.nd (fun q hq => by rw [← HNN.out]; exact hrc.lt q hq)
        have hv9 : (vs.length : Int) ≤ 256 := by have := HN9.out; omega
        have hivs : i < vs.length := (List.getElem?_eq_some_iff.1 hvi).1
        have hivsi : (i : Int) < (vs.length : Int) := by omega
        obtain ⟨g3, rfl⟩ := hrf.addr (i := 2) rfl (by simp; omega)
        have hcv := hrf.cell (i := 2) rfl (show (iv vs)[i]? = some (.int .i64 (q : Int)) by simp [iv, hvi])
        have HRF2 := Lib.hid hrf
        have HB2 := Lib.hid hb
        have HRC2 := Lib.hid hrc
        have HD := Lib.hid (And.intro huv (And.intro hvi hdone))
        have HV9 : Hid (vs.length ≤ 256) := Lib.hid (by omega)
        by_cases hkl : k < kn
        · obtain ⟨cc2, hcc⟩ : ∃ cc2, classes[k]? = some cc2 := ⟨_, List.getElem?_eq_getElem (by rw [HKL.out]; exact hkl)⟩
          have hcn := HCL.out cc2 (List.mem_of_getElem? hcc)
          obtain ⟨kb, ko, rfl, hck⟩ := (HCLS.out wr hb).cell k (.int .i64 (cc2 : Int)) (by simp [iv, hcc])
          obtain ⟨b, off, b2, off2, ci, rfl, hr1, hr2⟩ := row_cell (HROWS.out wr hb) HV.out HQN.out hcn
          have hpn := (nxN_val HV.out (q := q) (c := cc2) (by rw [HNN.out]; exact HQN.out) hcn).2.1
          rw [HNN.out] at hpn
          have HTK : Hid (classes.take (k + 1) = classes.take k ++ [cc2]) := Lib.hid (by
            have h1 : k < classes.length := (List.getElem?_eq_some_iff.1 hcc).1
            have h2 : classes[k] = cc2 := (List.getElem?_eq_some_iff.1 hcc).2
            rw [← List.take_append_getElem h1, h2])
          obtain ⟨p, hp⟩ : ∃ p, p = nxN next q cc2 := ⟨_, rfl⟩
          have HP := Lib.hid hp
          rw [← hp] at hr2 hpn
          rw [← HC.out] at hcn hr1
          have HPN := Lib.hid hpn
          have hbit := hrf.cell (i := 1) rfl (bits_get vs hpn)
          have hpi : (p : Int) < (nn : Int) := by omega
          have hci : (cc2 : Int) < (C : Int) := by omega
          have hkli : (k : Int) < (kn : Int) := by omega
          have hk9 : (k : Int) ≤ 256 := by omega
          have hp9 : (p : Int) ≤ 256 := by omega
          have hx2 := below_cell hb HBOX.out.2
          have HKLT := Lib.hid hkl
          generalize hlen2 : vs.length = m2 at *
          have HLEN2 := Lib.hid hlen2
          by_cases hmem : p ∈ vs
          · have HM := Lib.hid hmem
            rw [decide_eq_true hmem] at hbit
            clear hmem hlen2 hp hpn hcn hcc hrc hrf hb huv hvi hdone hvl hivs hk hkl
            go_wp2
            go_quiet (fail)
            obtain ⟨wq, hwq⟩ : ∃ wq, wq = wr.drewN nq := ⟨_, rfl⟩
            rw [← hwq]
            have hbq : Below wr.heap.size wr wq := by rw [hwq]; exact ⟨rfl, rfl, rfl, Nat.le_refl _, fun _ _ => rfl⟩
            have HRFQ := Lib.hid (HRF2.out.below hbq)
            have HBQ := Lib.hid (HB2.out.trans (hbq.mono HB2.out.size))
            have hbit := below_cell hbq hbit
            clear hbq hwq hx2 hcv hck hr1 hr2
            go_wp2
            go_roundw
            case rel => exact ⟨k + 1, vs, _, c2, by go_num, HKLT.out, by rw [HLEN2.out], by have := HD.out.1; have := HLEN2.out; omega, HD.out.2.1, HRC2.out, fun c hc => by
              rw [HTK.out, List.mem_append] at hc
              rcases hc with hc | hc
              · exact HD.out.2.2 c hc
              · rw [List.mem_singleton.1 hc, ← HP.out]; exact HM.out, by rw [HLEN2.out]; exact HRFQ.out, HBQ.out⟩
            case measure => have := HKLT.out; simp [intOf]; omega
          · have HM := Lib.hid hmem
            rw [decide_eq_false hmem] at hbit
            clear hmem hlen2 hp hpn hcn hcc hrc hrf hb huv hvi hdone hvl hivs hk hkl
            go_wp2
            go_quiet (fail)
            obtain ⟨wq, hwq⟩ : ∃ wq, wq = wr.drewN nq := ⟨_, rfl⟩
            rw [← hwq]
            have hbq : Below wr.heap.size wr wq := by rw [hwq]; exact ⟨rfl, rfl, rfl, Nat.le_refl _, fun _ _ => rfl⟩
            have HRFQ := Lib.hid (HRF2.out.below hbq)
            have HBQ := Lib.hid (HB2.out.trans (hbq.mono HB2.out.size))
            have hbit := below_cell hbq hbit
            clear hbq hwq hx2 hcv hck hr1 hr2
            go_wp2_with (first
              | (refine guard_op (.store 4 (.tmp 52) (.const (.bool true))) rfl ?_; refine RF.store HRFQ.out (i := 1) rfl rfl 4 (.tmp 52) (.const (.bool true)) rfl p rfl (.bool true) rfl rfl rfl (by kernel_rfl) (by rw [bits_len]; exact HPN.out) ?_; intro w7 hrf7 hg7 hbl7 hfr7; have HRF7 := Lib.hid hrf7; have HB7 := Lib.hid (HBQ.out.trans (hbl7.mono (Nat.le_of_eq HG.out.symm))); clear hrf7 hg7 hbl7 hfr7)
              | (at_builtin; refine RF.append HRF7.out (i := 2) rfl m2 (by rw [List.length_map, HLEN2.out]) (below_alloc w7 _) (.tmp 53) (.tmp 55) EIG rfl rfl rfl _ 1 _ [.int .i64 (p : Int)] rfl (RdG.lits w7 1 3 1 [.int .i64 (p : Int)] rfl) (by simp [Value.oneCell']) (by have := HV9.out; omega) (by decide) ?_; intro a8 c8 w8 hrf8 hg8 hbl8 hfr8; have HRF8 := Lib.hid hrf8; have HB8 := Lib.hid (HB7.out.trans (hbl8.mono (Nat.le_of_eq HG.out.symm))); clear hrf8 hg8 hbl8 hfr8))
            go_roundw
            case rel => exact ⟨k + 1, vs ++ [p], a8, c8, by go_num, HKLT.out, by simp [HLEN2.out], by have := HD.out.1; have := HLEN2.out; rw [List.length_append]; omega, by rw [List.getElem?_append_left (List.getElem?_eq_some_iff.1 HD.out.2.1).1]; exact HD.out.2.1, by
              have h := HRC2.out
              refine ⟨?_, List.mem_append.2 (.inl h.st), fun q hq => ?_, fun j q hj hq c hc => List.mem_append.2 (.inl (h.cl j q hj ?_ c hc))⟩
              · rw [List.nodup_append]
                exact ⟨h.nd, by simp, fun a ha b hb e => HM.out (by rw [← List.mem_singleton.1 hb, ← e]; exact ha)⟩
              · rcases List.mem_append.1 hq with hq | hq
                · exact h.lt q hq
                · rw [List.mem_singleton.1 hq, HNN.out]; exact HPN.out
              · have hij : i < vs.length := (List.getElem?_eq_some_iff.1 HD.out.2.1).1
                rwa [List.getElem?_append_left (by omega)] at hq, fun c hc => by
              rw [HTK.out, List.mem_append] at hc
              rcases hc with hc | hc
              · exact List.mem_append.2 (.inl (HD.out.2.2 c hc))
              · rw [List.mem_singleton.1 hc, ← HP.out]; exact List.mem_append.2 (.inr (by simp)), by
              have h := HRF8.out
              rw [List.length_append, HLEN2.out, ← bits_push vs HPN.out, iv_snoc]
              exact h, HB8.out⟩
            case measure => have := HKLT.out; simp [intOf]; omega
        · obtain rfl : k = kn := by omega
          generalize hlen2 : vs.length = m2 at *
          have HLEN2 := Lib.hid hlen2
          have hi9 : (i : Int) ≤ 256 := by have := HV9.out; omega
          clear hlen2 hrc hrf hb huv hvi hdone hvl hivs hk hkl hcv
          go_wp2
          go_roundw
          case rel => exact ⟨i + 1, vs, _, c2, by go_num, by
            have hij : i < vs.length := (List.getElem?_eq_some_iff.1 HD.out.2.1).1
            omega, by rw [HLEN2.out], by
            have h := HRC2.out
            refine ⟨h.nd, h.st, h.lt, fun j q' hj hq' c hc => ?_⟩
            by_cases hji : j < i
            · exact h.cl j q' hji hq' c hc
            · obtain rfl : j = i := by omega
              rw [HD.out.2.1] at hq'
              cases hq'
              exact HD.out.2.2 c (by rw [List.take_of_length_le (by rw [HKL.out]; exact Nat.le_refl _)]; exact hc), by rw [HLEN2.out]; exact HRF2.out, HB2.out⟩
          case measure =>
            have hij : i < vs.length := (List.getElem?_eq_some_iff.1 HD.out.2.1).1
            have := nodup_lt (n := nn) HRC2.out.nd (fun q hq => by rw [← HNN.out]; exact HRC2.out.lt q hq)
            simp [intOf]; omega
    · obtain rfl : i = us.length := by omega
      have HOWN := Lib.hid (hrf.own 2 _ _ _ rfl)
      generalize hlen : us.length = m at *
      have HLEN := Lib.hid hlen
      clear hlen hlt hi hul hpos hrc hrf hb
      go_wp2
      go_ret
      have hs := HB1.out.size
      refine ⟨us, some ⟨g2, 0, none⟩, c, ret_eq (by rw [HLEN.out]; simp), ?_, by rw [HLEN.out]; exact HRC.out, bthen HB1.out HB.out⟩
      have h := HOWN.out
      rw [List.length_map, HLEN.out] at h
      rw [HLEN.out]
      exact h.mono (by rw [HG.out]; exact hs)

end Go.Proofs.Ytajajkganamfiaa
