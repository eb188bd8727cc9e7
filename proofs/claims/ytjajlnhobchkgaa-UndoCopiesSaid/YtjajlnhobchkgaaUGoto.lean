/-
  check and Goto of a tree.
-/
import Derived.Test.YtjajlnhobchkgaaUMeth
import Derived.Test.YtjajlnhobchkgaaUPure
namespace Go.Proofs.Ytjajlnhobchkgaa
open Go.RowKit
set_option linter.unusedVariables false
set_option linter.unusedSimpArgs false

theorem check_ok (bt g n c : Nat) (k : Int) (w : World) (h : w.cell? ⟨bt, 0, none⟩ = some (.slice (some ⟨g, 0, none⟩) n c)) (hn : 0 < n) (h0 : 0 ≤ k) (h1 : k < n) :
    Calls Try.prog 41 #[.pointer (some ⟨bt, 0, none⟩), .int .i64 k] w fun e w' => e = .returned .nilIface ∧ w = w' := by
  have H := Lib.hid (none_no bt g n c w h hn)
  clear hn
  go_enter Try.func41, Try.ntmps41
  go_wp2_with fail
  refine H.out.mono ?_
  rintro e w' ⟨rfl, rfl⟩
  go_wp2
  go_ret
  exact ⟨rfl, rfl⟩
theorem check_no (bt g n c : Nat) (k : Int) (w : World) (h : w.cell? ⟨bt, 0, none⟩ = some (.slice (some ⟨g, 0, none⟩) n c)) (hn : 0 < n) (h0 : k < 0 ∨ (0 ≤ k ∧ (n : Int) ≤ k)) :
    Calls Try.prog 41 #[.pointer (some ⟨bt, 0, none⟩), .int .i64 k] w fun e w' => e = .returned (.iface 46 (.int .i64 1)) ∧ w = w' := by
  have H := Lib.hid (none_no bt g n c w h hn)
  clear hn
  rcases h0 with h0 | ⟨h0, h1⟩
  · go_enter Try.func41, Try.ntmps41
    go_wp2_with fail
    refine H.out.mono ?_
    rintro e w' ⟨rfl, rfl⟩
    go_wp2
    go_ret
    exact ⟨rfl, rfl⟩
  · have h2 : decide (k < 0) = false := by simp; omega
    go_enter Try.func41, Try.ntmps41
    go_wp2_with fail
    refine H.out.mono ?_
    rintro e w' ⟨rfl, rfl⟩
    go_wp2
    go_ret
    exact ⟨rfl, rfl⟩

theorem goto_no (S : Nat → Prop) (bt : Nat) (l : List Nd) (now k : Int) (w : World) (ht : TI w S bt l now) (hl : 0 < l.length) (h0 : k < 0 ∨ (0 ≤ k ∧ (l.length : Int) ≤ k)) :
    Calls Try.prog 25 #[.pointer (some ⟨bt, 0, none⟩), .int .i64 k] w fun e w' => e = .returned (.iface 46 (.int .i64 1)) ∧ w = w' := by
  obtain ⟨g, n, c, vs, hT, rfl, hSg, hSo⟩ := ht.ex
  have hn := hT.hn
  rw [List.length_map] at hl h0
  have H := Lib.hid (check_no bt g n c k w hT.c0 (by omega) (by rw [hn]; exact h0))
  have hne : ∀ w, (binOp .neq 28 (.iface 46 (.int .i64 1)) .nilIface).run Try.prog w = .ok (.bool true) w := fun w => by kernel_rfl
  clear ht hT hSg hSo hn hl h0
  go_enter Try.func25, Try.ntmps25
  go_wp2_with fail
  refine H.out.mono ?_
  rintro e w' ⟨rfl, rfl⟩
  go_wp2
  go_ret
  exact ⟨rfl, rfl⟩

theorem gotoP_root {l : List Nd} {k v : Nat} {x : Nd} (hx : l[v]? = some x) (h : x.parent < 0) : gotoP k l v = l := by
  cases k with
  | zero => rfl
  | succ k => rw [gotoP, hx]; simp [h]

set_option maxRecDepth 100000 in
set_option maxHeartbeats 4000000 in
theorem goto_ok (S : Nat → Prop) (bt : Nat) (l : List Nd) (now : Int) (node : Nat) (w : World) (ht : TI w S bt l now) (hw : WfT l) (hlen : l.length ≤ 1000) (hnd : node < l.length) :
    Calls Try.prog 25 #[.pointer (some ⟨bt, 0, none⟩), .int .i64 node] w (GoPost S bt (gotoP node l node) node w) := by
  obtain ⟨g, n, c, vs, hT, rfl, hSg, hSo⟩ := ht.ex
  rw [List.length_map] at hlen hnd
  have hn := hT.hn
  obtain ⟨⟨v0, x0⟩, hx0⟩ : ∃ y, vs[node]? = some y := ⟨_, List.getElem?_eq_getElem hnd⟩
  have HCHK := Lib.hid (check_ok bt g n c node w hT.c0 (by omega) (by omega) (by omega))
  have hne : ∀ w, (binOp .neq 28 .nilIface .nilIface).run Try.prog w = .ok (.bool false) w := fun w => by kernel_rfl
  have HSG := Lib.hid hSg
  have HSO := Lib.hid hSo
  have HSB := Lib.hid ht.foot
  have HW := Lib.hid hw
  have HNL : Hid (n = vs.length) := Lib.hid hn
  have hn9 : (n : Int) ≤ 1000 := by omega
  have hnn : (node : Int) < (n : Int) := by omega
  have hgo := hT.goto (node : Int)
  obtain ⟨w1, hw1⟩ : ∃ w1, w1 = w.setCell ⟨bt, 1, none⟩ (.int .i64 node) := ⟨_, rfl⟩
  rw [← hw1] at hgo
  have HW1 := Lib.hid hw1
  have HGO := Lib.hid hgo
  have hc0 := hT.c0
  have hc1 := hT.c1
  have hf1 := hT.fz 1
  have hgb : g ≠ bt := hT.gb
  have hpa := (hT.node hx0).2.1
  simp only at hpa
  have HX0 := Lib.hid hx0
  clear ht hT hx0 hSg hSo hn hlen hnd hgo hw hw1
  go_enter Try.func25, Try.ntmps25
  go_wp2_with fail
  refine HCHK.out.mono ?_
  rintro e w' ⟨rfl, rfl⟩
  go_wp2
  rw [← HW1.out]
  clear hc0 hc1 hf1 hpa
  go_loopw [1, 6] (fun nv pv wr => ∃ (vs' : List (Value × Nd)) (v k : Nat) (x : Value × Nd), nv = .int .i64 v ∧ pv = .int .i64 x.2.parent ∧ vs'[v]? = some x ∧ TN wr bt g n c vs' node ∧ WfT (vs'.map (·.2)) ∧ gotoP node (vs.map (·.2)) node = gotoP k (vs'.map (·.2)) v ∧ v ≤ k ∧ Fr S w1 wr ∧ (∀ x ∈ vs', ∀ k, x.1.ownBlock = some k → S k)) (fun _ pv _ => (intOf pv + 1).toNat)
  case atStart => exact ⟨vs, node, node, (v0, x0), rfl, rfl, HX0.out, HGO.out.1, HW.out, rfl, Nat.le_refl _, Fr.refl _ _, HSO.out⟩
  case round =>
    obtain ⟨vs', v, k, ⟨xv, x⟩, rfl, rfl, hx, hT, hw, hg, hvk, hf, hso⟩ := hrel
    have HX := Lib.hid hx
    have HT := Lib.hid hT
    have HWF := Lib.hid hw
    have HG := Lib.hid hg
    have HF := Lib.hid hf
    have HSO' := Lib.hid hso
    have HN' := Lib.hid hT.hn
    have hvl : v < vs'.length := (List.getElem?_eq_some_iff.1 hx).1
    have hxm : (vs'.map (·.2))[v]? = some x := by rw [List.getElem?_map, hx]; rfl
    rcases Nat.eq_zero_or_pos v with hv0 | hv0
    · subst hv0
      have hr := (hw.root x hxm).1
      have HE : Hid (gotoP node (vs.map (·.2)) node = vs'.map (·.2)) := Lib.hid (by rw [hg]; exact gotoP_root hxm (by omega))
      have hrn : decide ((0 : Int) ≤ x.parent) = false := by simp; omega
      clear hx hT hw hg hvk hf hso hvl hxm hr
      go_wp2
      go_ret
      exact ⟨rfl, ⟨⟨g, n, c, vs', HT.out, HE.out, HSG.out, HSO'.out⟩, HSB.out⟩, (HGO.out.2.mono (T := S) fun i hi => hi ▸ HSB.out).trans HF.out⟩
    · obtain ⟨p, y, h1, h2, h3, _⟩ := hw.par v x hxm hv0
      obtain ⟨⟨yv, y'⟩, hy⟩ : ∃ q, vs'[p]? = some q := ⟨_, List.getElem?_eq_getElem (by omega)⟩
      have hym : (vs'.map (·.2))[p]? = some y' := by rw [List.getElem?_map, hy]; rfl
      obtain rfl : y = y' := by rw [h3] at hym; exact Option.some.inj hym
      have hset := hT.set (k := 2) (nd := { y with pref := v }) (u := .int .i64 v) hy (by omega) rfl rfl
      obtain ⟨k, rfl⟩ : ∃ q, k = q + 1 := ⟨k - 1, by omega⟩
      have hmap : (vs'.set p (yv, { y with pref := (v : Int) })).map (·.2) = setPref (vs'.map (·.2)) p v := by
        apply List.ext_getElem?
        intro i
        rw [List.getElem?_map, List.getElem?_set]
        unfold setPref
        rw [List.getElem?_modify]
        by_cases hpi : p = i
        · subst hpi
          rw [if_pos rfl, if_pos (by omega), hym]; simp
        · rw [if_neg hpi, List.getElem?_map]
          cases vs'[i]? <;> simp [hpi]
      have HMAP := Lib.hid hmap
      have HW2 : Hid (WfT ((vs'.set p (yv, { y with pref := (v : Int) })).map (·.2))) := Lib.hid (by rw [hmap]; exact hw.setPref hxm h1)
      have HG2 : Hid (gotoP node (vs.map (·.2)) node = gotoP k ((vs'.set p (yv, { y with pref := (v : Int) })).map (·.2)) p) := Lib.hid (by
        rw [hg, hmap, gotoP, hxm]
        simp only
        rw [if_neg (by omega), h1, Int.toNat_natCast])
      have hc0 := hT.c0
      have hy2 := (hT.node hy).2.2.1
      have hy1 := (hT.node hy).2.1
      simp only at hy1 hy2
      have hfg := hT.nfz (p * 5 + 2)
      have hgb : g ≠ bt := hT.gb
      have hpn : (p : Int) < (n : Int) := by have := HN'.out; omega
      have hpv : x.parent = (p : Int) := h1
      obtain ⟨w2, hw2⟩ : ∃ w2, w2 = wr.setCell ⟨g, p * 5 + 2, none⟩ (.int .i64 v) := ⟨_, rfl⟩
      rw [← hw2] at hset
      have HSET := Lib.hid hset
      have HW22 := Lib.hid hw2
      have HPK : Hid (p ≤ k ∧ p < v) := Lib.hid ⟨by omega, h2⟩
      have HPI : Hid (y.parent < (p : Int)) := Lib.hid (by
        rcases Nat.eq_zero_or_pos p with e | e
        · subst e; have := (hw.root y hym).1; omega
        · obtain ⟨p2, _, e1, e2, _⟩ := hw.par p y hym e; omega)
      have HPL : Hid (p < vs'.length) := Lib.hid (by omega)
      have hHY := Lib.hid hy
      rw [hpv]
      clear hx hT hw hg hvk hf hso hvl hxm h1 h2 h3 hy hym hmap hset hw2 hpv hv0 HG
      go_wp2
      rw [← HW22.out]
      go_roundw
      case rel =>
        refine ⟨vs'.set p (yv, { y with pref := (v : Int) }), p, k, (yv, { y with pref := (v : Int) }), rfl, rfl, ?_, HSET.out.1, HW2.out, HG2.out, HPK.out.1, HF.out.then (HSET.out.2.mono (T := S) fun i hi => hi ▸ HSG.out) fun i hi => .inl hi, ?_⟩
        · rw [List.getElem?_set, if_pos rfl, if_pos HPL.out]
        · intro z hz q hq
          rcases set_mem hz with hz | rfl
          · exact HSO'.out z hz q hq
          · exact HSO'.out _ (List.mem_of_getElem? hHY.out) q hq
      case measure => have := HPI.out; simp [intOf]; omega

end Go.Proofs.Ytjajlnhobchkgaa
