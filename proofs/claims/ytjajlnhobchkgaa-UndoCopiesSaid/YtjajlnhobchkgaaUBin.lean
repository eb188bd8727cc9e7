/-
  slices.BinarySearch at []int on an increasing list; RedoTo.
-/
import Derived.Test.YtjajlnhobchkgaaUGoto
namespace Go.Proofs.Ytjajlnhobchkgaa
open Go.RowKit
set_option linter.unusedVariables false
set_option linter.unusedSimpArgs false

theorem less_any (a b : Int) (w : World) : Calls Try.prog 50 #[.int .i64 a, .int .i64 b] w fun e w' => e = .returned (.bool (decide (a < b))) ∧ w = w' := by
  have H : ∀ (x : Int) (w : World), Calls Try.prog 52 #[.int .i64 x] w fun e w' => e = .returned (.bool false) ∧ w = w' := by
    intro x w
    go_enter Try.func52, Try.ntmps52
    go_wp2
    go_ret
    exact ⟨ret_eq (by simp), rfl⟩
  have HH := Lib.hid H
  clear H
  by_cases h : a < b
  · have HE : Hid (decide (a < b) = true) := Lib.hid (by simpa using h)
    go_enter Try.func50, Try.ntmps50
    go_wp2_with fail
    refine (HH.out _ _).mono ?_
    rintro e w' ⟨rfl, rfl⟩
    go_wp2
    go_ret
    exact ⟨ret_eq (by rw [HE.out]; simp), rfl⟩
  · have HE : Hid (decide (a < b) = false) := Lib.hid (by simpa using h)
    have h2 : decide (a < b) = false := by simpa using h
    go_enter Try.func50, Try.ntmps50
    go_wp2_with fail
    refine (HH.out _ _).mono ?_
    rintro e w' ⟨rfl, rfl⟩
    go_wp2
    go_ret
    exact ⟨ret_eq (by rw [HE.out]; simp), rfl⟩

/-- v stands in l -/
def memB (l : List Int) (v : Int) : Bool := decide (v ∈ l)

theorem sorted_get {l : List Int} (h : l.Pairwise (· < ·)) {i j : Nat} (hij : i < j) (hj : j < l.length) : l.getD i 0 < l.getD j 0 := by
  have hi : i < l.length := by omega
  have := List.pairwise_iff_getElem.1 h i j hi hj hij
  simpa [List.getD, hi, hj] using this

set_option maxRecDepth 100000 in
set_option maxHeartbeats 4000000 in
theorem bsearch_any (a : Option Addr) (n c : Nat) (l : List Int) (v : Int) (w : World) (hr : Rd w .i64 a n l) (hs : l.Pairwise (· < ·)) (hn : n ≤ 1000) :
    Calls Try.prog 49 #[.slice a n c, .int .i64 v] w fun e w' => (∃ k : Int, e = .returned (.tuple #[.int .i64 k, .bool (memB l v)])) ∧ w = w' := by
  have HR := Lib.hid hr
  have HL := Lib.hid hr.len
  have HS := Lib.hid hs
  have hn9 : (n : Int) ≤ 1000 := by omega
  clear hr hs
  go_enter Try.func49, Try.ntmps49
  go_wp2
  go_loop [7, 8] (fun iv jv => ∃ i j : Nat, i ≤ j ∧ j ≤ n ∧ iv = .int .i64 i ∧ jv = .int .i64 j ∧ (∀ k, k < i → l.getD k 0 < v) ∧ (∀ k, j ≤ k → k < n → v ≤ l.getD k 0)) (fun iv jv => (intOf jv).toNat - (intOf iv).toNat)
  case atStart => exact ⟨0, n, by omega, Nat.le_refl _, rfl, rfl, fun k hk => by omega, fun k h1 h2 => by omega⟩
  case round =>
    obtain ⟨i, j, hij, hjn, rfl, rfl, h1, h2⟩ := hrel
    have H1 := Lib.hid h1
    have H2 := Lib.hid h2
    clear h1 h2
    by_cases hlt : i < j
    · have hm : (i + j) / 2 < n := by omega
      have hi9 : (i : Int) ≤ 1000 := by omega
      have hj9 : (j : Int) ≤ 1000 := by omega
      obtain ⟨b1, o1, rfl, hc⟩ := HR.out.cell ((i + j) / 2) hm
      have hm1 : ((i : Int) + (j : Int)) / 2 < (n : Int) := by omega
      have hm0 : (0 : Int) ≤ ((i : Int) + (j : Int)) / 2 := by omega
      have HML : Hid ((i + j) / 2 < l.length) := Lib.hid (by rw [HL.out]; exact hm)
      have HLT := Lib.hid (And.intro hlt hjn)
      have HE1 : Hid (((i : Int) + (j : Int)) / 2 = (((i + j) / 2 : Nat) : Int)) := Lib.hid (by omega)
      generalize hv : l.getD ((i + j) / 2) 0 = z at *
      have HV := Lib.hid hv
      clear hv
      by_cases hz : z < v
      · have HC := Lib.hid (less_any z v w)
        rw [show decide (z < v) = true by simpa using hz] at HC
        have HZ := Lib.hid hz
        clear hz
        go_wp2_with fail
        refine HC.out.mono ?_
        rintro e w' ⟨rfl, rfl⟩
        go_wp2
        go_round
        case rel => exact ⟨(i + j) / 2 + 1, j, by omega, hjn, by rw [HE1.out]; go_num, rfl, fun k hk => by
          by_cases hki : k = (i + j) / 2
          · subst hki; rw [HV.out]; exact HZ.out
          · have := sorted_get HS.out (i := k) (j := (i + j) / 2) (by omega) HML.out
            rw [HV.out] at this
            have := HZ.out; omega, H2.out⟩
        case measure => have := HLT.out; simp [intOf]; omega
      · have HC := Lib.hid (less_any z v w)
        rw [show decide (z < v) = false by simpa using hz] at HC
        have HZ := Lib.hid hz
        clear hz
        go_wp2_with fail
        refine HC.out.mono ?_
        rintro e w' ⟨rfl, rfl⟩
        go_wp2
        go_round
        case rel => exact ⟨i, (i + j) / 2, by omega, by omega, rfl, (by rw [HE1.out]), H1.out, fun k hk1 hk2 => by
          by_cases hki : k = (i + j) / 2
          · subst hki; rw [HV.out]; have := HZ.out; omega
          · have := sorted_get HS.out (i := (i + j) / 2) (j := k) (by omega) (by rw [HL.out]; exact hk2)
            rw [HV.out] at this
            have := HZ.out; omega⟩
        case measure => have := HLT.out; simp [intOf]; omega
    · obtain rfl : i = j := by omega
      by_cases hin : i < n
      · obtain ⟨b1, o1, rfl, hc⟩ := HR.out.cell i hin
        have hil : i < l.length := by rw [HL.out]; exact hin
        have hin2 : (i : Int) < (n : Int) := by omega
        by_cases hz : l.getD i 0 = v
        · have HE : Hid (memB l v = true) := Lib.hid (by
            simp [memB]
            have : l.getD i 0 ∈ l := by simp [List.getD, hil]
            rw [hz] at this; exact this)
          rw [hz] at hc
          clear hz
          go_wp2
          go_ret2
          exact ⟨⟨(i : Int), ret_eq (by rw [HE.out]; simp)⟩, rfl⟩
        · have HE : Hid (memB l v = false) := Lib.hid (by
            simp [memB]
            intro hm
            obtain ⟨k, hk, hkv⟩ := List.getElem_of_mem hm
            have hg : l.getD k 0 = v := by simp [List.getD, hk, hkv]
            by_cases hki : k < i
            · have := H1.out k hki; omega
            · by_cases hke : k = i
              · subst hke; exact hz hg
              · have h3 := sorted_get HS.out (i := i) (j := k) (by omega) hk
                have h4 := H2.out i (Nat.le_refl _) hin
                omega)
          have HNAN : Hid (∀ (x : Int) (w : World), Calls Try.prog 51 #[.int .i64 x] w fun e w' => e = .returned (.bool false) ∧ w = w') := Lib.hid (by
            intro x w
            go_enter Try.func51, Try.ntmps51
            go_wp2
            go_ret
            exact ⟨ret_eq (by simp), rfl⟩)
          generalize l.getD i 0 = z at *
          have hzv : (z == v) = false := by simpa using hz
          clear hz
          go_wp2_with fail
          refine (HNAN.out _ _).mono ?_
          rintro e w' ⟨rfl, rfl⟩
          go_wp2
          go_ret2
          exact ⟨⟨_, ret_eq (by rw [HE.out]; simp; rfl)⟩, rfl⟩
      · have HE : Hid (memB l v = false) := Lib.hid (by
          simp [memB]
          intro hm
          obtain ⟨k, hk, hkv⟩ := List.getElem_of_mem hm
          have hg : l.getD k 0 = v := by simp [List.getD, hk, hkv]
          have := H1.out k (by have := HL.out; omega)
          omega)
        have hin2 : decide (i < n) = false := by simpa using hin
        go_wp2
        go_ret2
        exact ⟨⟨_, ret_eq (by rw [HE.out]; simp; rfl)⟩, rfl⟩

set_option maxRecDepth 100000 in
set_option maxHeartbeats 4000000 in
theorem redoto_any (S : Nat → Prop) (bt : Nat) (l : List Nd) (now : Nat) (v : Int) (w : World) (ht : TI w S bt l now) (hw : WfT l) (x : Nd) (hx : l[now]? = some x) (hlen : l.length ≤ 1000) :
    Calls Try.prog 32 #[.pointer (some ⟨bt, 0, none⟩), .int .i64 v] w fun e w' =>
      (memB x.kids v = true → e = .returned .nilIface ∧ TI w' S bt (setPref l now v) v ∧ Fr S w w') ∧
      (memB x.kids v = false → e = .returned (.iface 46 (.int .i64 (if x.kids = [] then 7 else 1))) ∧ Below w.heap.size w w') := by
  obtain ⟨g, n, c, vs, hT, rfl, hSg, hSo⟩ := ht.ex
  have hnow : now < vs.length := by have := (List.getElem?_eq_some_iff.1 hx).1; simpa using this
  obtain ⟨⟨vv, nd⟩, hvx⟩ : ∃ y, vs[now]? = some y := ⟨_, List.getElem?_eq_getElem hnow⟩
  obtain rfl : nd = x := by rw [List.getElem?_map, hvx] at hx; simpa using hx
  have hn : n = vs.length := hT.hn
  have HT := Lib.hid hT
  have HSG := Lib.hid hSg
  have HSO := Lib.hid hSo
  have HSB := Lib.hid ht.foot
  have HX := Lib.hid hvx
  have hlen2 : vs.length ≤ 1000 := by simpa using hlen
  have hnn : (now : Int) < (n : Int) := by omega
  have hn9 : (n : Int) ≤ 1000 := by omega
  have HNONE := Lib.hid (none_no bt g n c w hT.c0 (by omega))
  have hc0 := hT.c0
  have hc1 := hT.c1
  have hkl := hw.kids_len hx
  have HKL : Hid (nd.kids.length ≤ 1000) := Lib.hid (by omega)
  have HKS := Lib.hid (hw.kids now nd hx).1
  have HKWF : Hid (∀ y ∈ nd.kids, (Lit.int .i64 y).wf = true) := Lib.hid (fun y hy => by
    obtain ⟨k, z, rfl, hz, _⟩ := ((hw.kids now nd hx).2 y).1 hy
    have := WfT.lt hz
    exact WalkArith.wf_i64 (by omega))
  have HNOW := Lib.hid hnow
  have hown := hT.own _ (List.mem_of_getElem? hvx)
  simp only at hown
  obtain ⟨ka, kc, rfl⟩ := hown.form
  have HOWN := Lib.hid hown
  have hmap : ∀ u : Int, (vs.set now (.slice ka nd.kids.length kc, { nd with pref := u })).map (·.2) = setPref (vs.map (·.2)) now u := by
    intro u
    apply List.ext_getElem?
    intro i
    rw [List.getElem?_map, List.getElem?_set]
    unfold setPref
    rw [List.getElem?_modify]
    by_cases hpi : now = i
    · subst hpi
      rw [if_pos rfl, if_pos hnow, hx]; simp
    · rw [if_neg hpi, List.getElem?_map]
      cases vs[i]? <;> simp [hpi]
  have HMAP := Lib.hid hmap
  clear ht hT hx hvx hSg hSo hn hlen hnow hlen2 hw hkl hown hmap
  go_enter Try.func32, Try.ntmps32
  go_wp2_with fail
  refine HNONE.out.mono ?_
  rintro e w1 ⟨rfl, rfl⟩
  go_wp2_with fail
  go_quiet (fail)
  obtain ⟨wq, hwq⟩ : ∃ wq, wq = w.drewN nq := ⟨_, rfl⟩
  rw [← hwq]
  have hbq : Below w.heap.size w wq := by rw [hwq]; exact ⟨rfl, rfl, rfl, Nat.le_refl _, fun _ _ => rfl⟩
  have HTQ := Lib.hid (HT.out.below hbq)
  have HBQ := Lib.hid hbq
  have hN := HTQ.out.node HX.out
  simp only at hN
  obtain ⟨_, _, hN3, _, hN5⟩ := hN
  have HRQ := Lib.hid ((HOWN.out.below hbq).rd HKWF.out)
  clear hc0 hc1 hbq hwq
  by_cases h0 : nd.kids.length = 0
  · have hnil : nd.kids = [] := List.eq_nil_of_length_eq_zero h0
    have HNIL := Lib.hid hnil
    rw [h0] at hN5
    clear hnil h0
    go_wp2
    go_ret
    refine ⟨fun h => ?_, fun h => ⟨ret_eq (by simp [HNIL.out]), HBQ.out⟩⟩
    simp [memB, HNIL.out] at h
  · have HNE : Hid (nd.kids ≠ []) := Lib.hid (fun e => h0 (by rw [e]; rfl))
    have h01 : ((nd.kids.length : Int) == 0) = false := by simpa using h0
    have HBS := Lib.hid (bsearch_any ka nd.kids.length kc nd.kids v wq HRQ.out HKS.out HKL.out)
    clear h0
    cases hm : memB nd.kids v with
    | false =>
      rw [hm] at HBS
      have HM := Lib.hid hm
      clear hm
      go_wp2_with fail
      refine HBS.out.mono ?_
      rintro e w2 ⟨⟨k, rfl⟩, rfl⟩
      go_wp2
      go_ret
      exact ⟨fun h => Bool.noConfusion (HM.out.symm.trans h), fun _ => ⟨ret_eq (by simp [HNE.out]), HBQ.out⟩⟩
    | true =>
      rw [hm] at HBS
      have HM := Lib.hid hm
      clear hm
      have hset := HTQ.out.set (k := 2) (nd := { nd with pref := v }) (u := .int .i64 v) HX.out (by omega) rfl rfl
      have hfg := HTQ.out.nfz (now * 5 + 2)
      have hgb : g ≠ bt := HTQ.out.gb
      obtain ⟨w3, hw3⟩ : ∃ w3, w3 = wq.setCell ⟨g, now * 5 + 2, none⟩ (.int .i64 v) := ⟨_, rfl⟩
      rw [← hw3] at hset
      have HSET := Lib.hid hset
      have HGO := Lib.hid (hset.1.goto v)
      have hb1 := HTQ.out.c1
      have hfb := HTQ.out.fz 1
      have HW3 := Lib.hid hw3
      clear hset hw3
      go_wp2_with fail
      refine HBS.out.mono ?_
      rintro e w2 ⟨⟨k, rfl⟩, rfl⟩
      go_wp2
      go_ret
      rw [← HW3.out]
      refine ⟨fun _ => ⟨rfl, ⟨⟨g, n, c, _, HGO.out.1, (HMAP.out v).symm, HSG.out, ?_⟩, HSB.out⟩, ((Fr.of_below HBQ.out).then (HSET.out.2.mono (T := S) fun i hi => hi ▸ HSG.out) fun i hi => .inl hi).then (HGO.out.2.mono (T := S) fun i hi => hi ▸ HSB.out) fun i hi => .inl hi⟩, fun h => Bool.noConfusion (HM.out.symm.trans h)⟩
      intro z hz q hq
      rcases set_mem hz with hz | rfl
      · exact HSO.out z hz q hq
      · exact HSO.out _ (List.mem_of_getElem? HX.out) q hq

end Go.Proofs.Ytjajlnhobchkgaa
