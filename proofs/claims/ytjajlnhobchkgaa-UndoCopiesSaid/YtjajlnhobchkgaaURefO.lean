/-
  the reference of chapter 39: Do.
-/
import Derived.Test.YtjajlnhobchkgaaURefM
import Derived.Deep.RegionLaw
namespace Go.Proofs.Ytjajlnhobchkgaa
open Go.RowKit
set_option linter.unusedVariables false
set_option linter.unusedSimpArgs false

theorem EDI : Elt Try.prog 34 32 .i64 8 := ⟨Try.underlying34, info_parts (by kernel_rfl)⟩
theorem Rd.rdG {w : World} {k a n l} (h : Rd w k a n l) : RdG w 1 a n (l.map (Value.int k)) :=
  ⟨by rw [List.length_map, h.len, Nat.mul_one], fun j u hu => by
    have hj : j < l.length := by have := (List.getElem?_eq_some_iff.1 hu).1; simpa using this
    obtain ⟨b, off, ha, hc⟩ := h.cell j (by rw [← h.len]; exact hj)
    rw [List.getElem?_map, List.getElem?_eq_getElem hj] at hu
    cases hu
    refine ⟨b, off, ha, ?_⟩
    rw [hc]; simp [List.getD, hj]⟩
theorem arm5 {B : Nat} {w wo W w5 : World} {row : Option Nat} (h : Below B w wo) (hB : B ≤ w.heap.size) (hW : Below wo.heap.size wo W) (hg : W.grownBy w5 row) (hX : ∀ k, row = some k → B ≤ k) : Below B w w5 :=
  (h.trans (hW.mono (Nat.le_trans hB h.size))).grown hg (Nat.le_trans hB (Nat.le_trans h.size hW.size)) hX
theorem own5 {B : Nat} {W : World} {v : Value} {row : Option Nat} (hat : v.ownBlock = row ∨ v.ownBlock = some W.heap.size) (hX : ∀ k, row = some k → B ≤ k) (hB : B ≤ W.heap.size) : ∀ k, v.ownBlock = some k → B ≤ k := by
  intro k hk
  rcases hat with h | h
  · exact hX k (h ▸ hk)
  · rw [h] at hk; cases hk; exact hB
theorem row_raise {w : World} {B e size v n xs} (h : Row w 0 e size v n xs) (hb : ∀ k, v.ownBlock = some k → B ≤ k) : Row w B e size v n xs := by
  refine ⟨h.1, ?_⟩
  rcases h.2 with hn | ⟨g, cap, cur, rfl, hbb, rest⟩
  · exact .inl hn
  · exact .inr ⟨g, cap, cur, rfl, hb g rfl, rest⟩
theorem CT.set0 {w : World} {g v0 v1 v2 k} (h : CT w g v0 v1 v2 k) (v : Value) : CT (w.setCell ⟨g, 0, none⟩ v) g v v1 v2 k :=
  ⟨set_same h.c0, set_other (by simp) h.c1, set_other (by simp) h.c2, set_other (by simp) h.c3, fun j => (World.frozen?_setCell ..).trans (h.fz j)⟩
theorem CT.set1 {w : World} {g v0 v1 v2 k} (h : CT w g v0 v1 v2 k) (v : Value) : CT (w.setCell ⟨g, 1, none⟩ v) g v0 v v2 k :=
  ⟨set_other (by simp) h.c0, set_same h.c1, set_other (by simp) h.c2, set_other (by simp) h.c3, fun j => (World.frozen?_setCell ..).trans (h.fz j)⟩

set_option maxRecDepth 100000 in
set_option maxHeartbeats 4000000 in
theorem rdo_rt (T : Nat → Prop) (v : Value) (l : List Nd) (now : Nat) (id : Int) (w : World) (h : RT w T v l now) (hw : WfT l) (x : Nd) (hx : l[now]? = some x) (hl : Lead l now) (hlen : l.length ≤ 999) (hid : (Lit.int .i64 id).wf = true) :
    Calls Try.prog 35 #[v, .int .i64 id] w fun e w' => ∃ v', e = .returned v' ∧ RPost T (doN l now id) l.length w v' w' := by
  have H := Lib.hid h
  obtain ⟨ta, tc, pa, pc, fa, fc, rfl, h1, h2, h3⟩ := h.ex
  obtain ⟨N, hN⟩ : ∃ N, N = l.length := ⟨_, rfl⟩
  obtain ⟨w2, hw2⟩ : ∃ w2, w2 = (w.alloc (.cells #[.slice ta l.length tc, .slice pa l.length pc, .slice fa l.length fc, .int .i64 now] 36)).alloc (.cells #[.slice none 0 0, .slice none 0 0, .slice none 0 0, .int .i64 0] 36) := ⟨_, rfl⟩
  have HTW := two_ct (.slice ta l.length tc) (.slice pa l.length pc) (.slice fa l.length fc) now 36 w
  rw [← hw2] at HTW
  rw [← hN] at HTW hw2 ⊢
  obtain ⟨l2, hl2⟩ : ∃ l2, l2 = doN l now id := ⟨_, rfl⟩
  rw [← hl2]
  have HL2 := Lib.hid hl2
  clear hl2
  have HW2 := Lib.hid hw2
  have HT := Lib.hid HTW
  have hnl : now < N := by have := WfT.lt hx; omega
  have HNL := Lib.hid hnl
  have hN9 : N ≤ 999 := by omega
  obtain ⟨b1, hb1⟩ : ∃ b1, b1 = w.heap.size := ⟨_, rfl⟩
  obtain ⟨b2, hbb2⟩ : ∃ b2, b2 = w.heap.size + 1 := ⟨_, rfl⟩
  have HB1E := Lib.hid hb1
  have HB2E := Lib.hid hbb2
  have HC : Hid (CT w2 b1 (.slice ta N tc) (.slice pa N pc) (.slice fa N fc) now) := Lib.hid (by rw [hb1]; exact HTW.1)
  have HC2 : Hid (CT w2 b2 (.slice none 0 0) (.slice none 0 0) (.slice none 0 0) 0) := Lib.hid (by rw [hbb2]; exact HTW.2.1)
  have HB := Lib.hid HTW.2.2.1
  have HS := Lib.hid HTW.2.2.2
  have HBE : Hid (b1 = w.heap.size ∧ b2 = w.heap.size + 1) := Lib.hid ⟨hb1, hbb2⟩
  have HTX := Lib.hid (h1.rd.below HB.out)
  have HPA := Lib.hid h2.rd
  have HFA := Lib.hid h3.rd
  rw [← hN] at HTX HPA HFA
  have HWF := Lib.hid (And.intro h1.rd.wf (And.intro h2.rd.wf h3.rd.wf))
  obtain ⟨TX, hTX⟩ : ∃ TX, TX = l.map (·.text) := ⟨_, rfl⟩
  obtain ⟨PA, hPA⟩ : ∃ PA, PA = l.map (·.parent) := ⟨_, rfl⟩
  obtain ⟨FA, hFA⟩ : ∃ FA, FA = l.map (·.pref) := ⟨_, rfl⟩
  rw [← hTX] at HTX HWF
  rw [← hPA] at HPA HWF
  rw [← hFA] at HFA HWF
  have HLS : Hid (TX = l.map (·.text) ∧ PA = l.map (·.parent) ∧ FA = l.map (·.pref)) := Lib.hid ⟨hTX, hPA, hFA⟩
  have HL : Hid (TX.length = N ∧ PA.length = N ∧ FA.length = N) := Lib.hid ⟨HTX.out.len, HPA.out.len, HFA.out.len⟩
  have HLW := Lib.hid hw
  have HX := Lib.hid hx
  have HLD := Lib.hid hl
  have HN := Lib.hid hN
  have HID := Lib.hid hid
  have y0 : ∀ o, (w2.alloc o).cell? ⟨b1, 0, none⟩ = some (.slice ta N tc) := fun o => below_cell (below_alloc w2 o) HC.out.c0
  clear h h1 h2 h3 HTW hw2 hb1 hbb2 hTX hPA hFA hw hx hl hN hid hlen hnl HT
  go_enter Try.func35, Try.ntmps35
  go_upto_region 1 with fail
  rw [← HW2.out, ← HB2E.out, ← HB1E.out]
  go_cut [] (fun wc => ∃ a c, CT wc b1 (.slice a (N + 1) c) (.slice pa N pc) (.slice fa N fc) now ∧ CT wc b2 (.slice none 0 0) (.slice none 0 0) (.slice none 0 0) 0 ∧ Own wc (w.heap.size + 2) 32 .i64 (.slice a (N + 1) c) (TX ++ [id]) ∧ Below w.heap.size w wc ∧ w.heap.size + 2 ≤ wc.heap.size)
  case first =>
    go_wp2_with (first
      | (at_builtin; refine app_rd (.tmp 5) (.tmp 7) EDI rfl rfl w2.heap.size (.slice (some ⟨w2.heap.size, 0, none⟩) 0 0) [] rfl (Own.lits w2 .i64 32 [] _ (Nat.le_refl _) (by simp)) ta N tc TX rfl (HTX.out.below (below_alloc _ _)) (by rw [HL.out.1]; simp; omega) (by decide) (by simp) ?_; intro a7 c7 w7 ho7 hg7; have HB7 := Lib.hid ((below_alloc w2 (.cells #[] 32)).grown hg7 (by simp) (fun x hx => by cases hx; exact Nat.le_refl _)); rw [List.nil_append] at ho7; have HO7 := Lib.hid ho7; clear ho7 hg7)
      | (at_builtin; refine app_rd (.tmp 8) (.tmp 10) EDI rfl rfl w2.heap.size (.slice a7 TX.length c7) TX rfl (HO7.out.alloc _) _ 1 _ [id] rfl (Rd.one w7 .i64 32 id HID.out) (by rw [HL.out.1]; simp; omega) (by decide) (by have := HB7.out.size; simp; omega) ?_; intro a8 c8 w8 ho8 hg8; have HB8 := Lib.hid ((HB7.out.alloc HB7.out.size _).trans (grown_below (HO7.out.alloc _) hg8 (by have := HB7.out.size; simp; omega))); have HO8 := Lib.hid ho8; have x0 := (HC.out.below HB8.out).c0; have xf0 := (HC.out.below HB8.out).fz 0; clear ho8 hg8))
    have ho8 : Own w8 (w.heap.size + 2) 32 .i64 (.slice a8 (N + 1) c8) (TX ++ [id]) := by
      have h := HO8.out
      rw [HS.out, show (TX ++ [id]).length = N + 1 by rw [List.length_append, HL.out.1]; rfl] at h
      exact h
    have e8 : TX.length + 1 = N + 1 := by rw [HL.out.1]
    rw [e8]
    have hf9 : Fr (fun b => b = b1) w8 (w8.setCell ⟨b1, 0, none⟩ (.slice a8 (N + 1) c8)) := (Fr.refl (fun b => b = b1) w8).setCell (p := ⟨b1, 0, none⟩) rfl _
    have hn := HBE.out
    have hs := HS.out
    have hs8 := HB8.out.size
    have hbb : Below w.heap.size w w8 := HB.out.trans (HB8.out.mono HB.out.size)
    go_meet
    exact ⟨a8, c8, (HC.out.below HB8.out).set0 _, (HC2.out.below HB8.out).fr hf9 (by omega), Row.fr ho8 hf9 (fun g hg e => by have := (Row.block_lt ho8 hg).2; omega), hbb.trans (hf9.below (fun b hb => by omega) hbb.size), by have := hf9.size; omega⟩
  case rest =>
    obtain ⟨at_, ct, hc, hc2, hot, hb, hsz⟩ := hcut
    have HCc := Lib.hid hc
    have HC2c := Lib.hid hc2
    have HOT := Lib.hid hot
    have HBc := Lib.hid hb
    have HSZ := Lib.hid hsz
    have HRP : Hid (RdG wc 1 pa N (PA.map (Value.int .i64))) := Lib.hid (HPA.out.below hb).rdG
    have z1 := hc.c1
    have z3 := hc.c3
    have z1a : ∀ o, (wc.alloc o).cell? ⟨b1, 1, none⟩ = some (.slice pa N pc) := fun o => below_cell (below_alloc wc o) hc.c1
    have z3a : ∀ o, (wc.alloc o).cell? ⟨b1, 3, none⟩ = some (.int .i64 now) := fun o => below_cell (below_alloc wc o) hc.c3
    have z1b : ∀ o o2, ((wc.alloc o).alloc o2).cell? ⟨b1, 1, none⟩ = some (.slice pa N pc) := fun o o2 => below_cell (below_alloc _ o2) (z1a o)
    clear hc hc2 hot hb hsz y0 HC HC2 HTX
    obtain ⟨wp, hwp⟩ : ∃ wp : World, wp = wc := ⟨_, rfl⟩
    subst hwp
    go_upto_region 2 with fail
    go_cut [] (fun wd => ∃ a c, CT wd b1 (.slice at_ (N + 1) ct) (.slice a (N + 1) c) (.slice fa N fc) now ∧ CT wd b2 (.slice none 0 0) (.slice none 0 0) (.slice none 0 0) 0 ∧ Own wd (w.heap.size + 2) 32 .i64 (.slice at_ (N + 1) ct) (TX ++ [id]) ∧ Own wd (w.heap.size + 2) 3 .i64 (.slice a (N + 1) c) (PA ++ [(now : Int)]) ∧ Below w.heap.size w wd ∧ w.heap.size + 2 ≤ wd.heap.size)
    case first =>
      go_region_law (first
        | (refine step_app_row_at (.tmp 13) (.tmp 15) EIG rfl rfl 0 _ 0 [] rfl (row_block (by first | exact heap_new_at (by simp) | exact heap_new_at2 (by simp))) pa N pc (PA.map (Value.int .i64)) rfl (RdG.below HRP.out (by repeat (first | exact Below.refl _ _ | refine Below.drew ?_ | refine Below.alloc ?_ (by first | (simp; done) | exact Nat.le_refl _) _))) (ints_oneCell .i64 PA) (by omega) (by decide) (Nat.zero_le _) ?_; intro a5 c5 w5 hr5 hg5 hat5; simp only [Nat.zero_add, List.nil_append] at hr5 hat5; have HB5 := Lib.hid (arm5 (Below.refl _ wp) (Nat.le_refl _) (by repeat (first | exact Below.refl _ _ | refine Below.drew ?_ | refine Below.alloc ?_ (by first | (simp; done) | exact Nat.le_refl _) _)) hg5 (fun k hk => Option.some.inj hk ▸ (by first | (simp; done) | (simp; omega)))); have HA5 := Lib.hid (own5 (B := wp.heap.size) hat5 (fun k hk => Option.some.inj hk ▸ (by first | (simp; done) | (simp; omega))) (by first | (simp; done) | (simp; omega))); have f1 := (HCc.out.below HB5.out).c1; have f3 := (HCc.out.below HB5.out).c3)
        | (refine step_app_row_at (.tmp 16) (.tmp 19) EIG rfl rfl 0 (.slice a5 N c5) N _ rfl (by first | exact hr5 | exact Row.alloc hr5 _) _ 1 _ [.int .i64 (now : Int)] rfl (by first | exact RdG.lits w5 1 _ 1 [.int .i64 (now : Int)] rfl | exact rdG_block (cs := #[.int .i64 (now : Int)]) ((hg5.block _ (by first | (simp; done) | (simp; omega)) (fun e => absurd (Option.some.inj e) (by simp))).trans (by first | exact heap_new_at (by simp) | exact heap_new_at2 (by simp))) rfl) (by simp [Value.oneCell']) (by omega) (by decide) (Nat.zero_le _) ?_; intro a6 c6 w6 hr6 hg6 hat6; have HB6 := Lib.hid (arm5 HB5.out (Nat.le_refl _) (by repeat (first | exact Below.refl _ _ | refine Below.drew ?_ | refine Below.alloc ?_ (by first | (simp; done) | exact Nat.le_refl _) _)) hg6 HA5.out); have HA6 := Lib.hid (own5 (B := wp.heap.size) hat6 HA5.out (by have := HB5.out.size; first | (simp; done) | (simp; omega))); have g1 := (HCc.out.below HB6.out).c1; have gf1 := (HCc.out.below HB6.out).fz 1))
      all_goals
        have hr6w : Own w6 (w.heap.size + 2) 3 .i64 (.slice a6 (N + 1) c6) (PA ++ [(now : Int)]) := by
          show Row w6 _ _ 1 _ (PA ++ [(now : Int)]).length ((PA ++ [(now : Int)]).map (Value.int .i64))
          rw [List.length_append, HL.out.2.1, List.map_append]
          exact (row_raise hr6 HA6.out).mono HSZ.out
        have hf9 : Fr (fun b => b = b1) w6 (w6.setCell ⟨b1, 1, none⟩ (.slice a6 (N + 1) c6)) := (Fr.refl (fun b => b = b1) w6).setCell (p := ⟨b1, 1, none⟩) rfl _
        have hn := HBE.out
        have hs := HSZ.out
        have hs6 := HB6.out.size
        have hbb : Below w.heap.size w w6 := HBc.out.trans (HB6.out.mono HBc.out.size)
        have HBB := Lib.hid hbb
        clear z1 z3 z1a z3a z1b f1 f3 g1 gf1
        go_wp2
        go_meet
        exact ⟨a6, c6, (HCc.out.below HB6.out).set1 _, (HC2c.out.below HB6.out).fr hf9 (by omega), Row.fr (HOT.out.below HB6.out) hf9 (fun g hg e => by have := (Row.block_lt HOT.out hg).2; omega), Row.fr hr6w hf9 (fun g hg e => by have := (Row.block_lt hr6w hg).2; omega), hbb.trans (hf9.below (fun b hb => by omega) hbb.size), by have := hf9.size; omega⟩
    case rest =>
      obtain ⟨ap, cp, hc, hc2, hot, hop, hb, hsz⟩ := hcut
      clear z1 z3 z1a z3a z1b HRP
      have HCd := Lib.hid hc
      have HC2d := Lib.hid hc2
      have HOTd := Lib.hid hot
      have HOPd := Lib.hid hop
      have HBd := Lib.hid hb
      have HSZd := Lib.hid hsz
      have y2 : ∀ o, (wc.alloc o).cell? ⟨b1, 2, none⟩ = some (.slice fa N fc) := fun o => below_cell (below_alloc wc o) hc.c2
      clear hc hc2 hot hop hb hsz
      obtain ⟨wq, hwq⟩ : ∃ wq : World, wq = wc := ⟨_, rfl⟩
      subst hwq
      go_upto_region 3 with fail
      go_cut [] (fun we => ∃ a c, CT we b1 (.slice at_ (N + 1) ct) (.slice ap (N + 1) cp) (.slice a (N + 1) c) now ∧ CT we b2 (.slice none 0 0) (.slice none 0 0) (.slice none 0 0) 0 ∧ Own we (w.heap.size + 2) 32 .i64 (.slice at_ (N + 1) ct) (TX ++ [id]) ∧ Own we (w.heap.size + 2) 3 .i64 (.slice ap (N + 1) cp) (PA ++ [(now : Int)]) ∧ Own we (w.heap.size + 2) 3 .i64 (.slice a (N + 1) c) (FA ++ [(-1 : Int)]) ∧ Below w.heap.size w we ∧ w.heap.size + 2 ≤ we.heap.size)
      case first =>
        go_wp2_with (first
          | (at_builtin; refine app_rd (.tmp 22) (.tmp 24) EI rfl rfl wq.heap.size (.slice (some ⟨wq.heap.size, 0, none⟩) 0 0) [] rfl (Own.lits wq .i64 3 [] _ (Nat.le_refl _) (by simp)) fa N fc FA rfl ((HFA.out.below HBd.out).below (below_alloc _ _)) (by rw [HL.out.2.2]; simp; omega) (by decide) (by simp) ?_; intro a7 c7 w7 ho7 hg7; have HB7 := Lib.hid ((below_alloc wq (.cells #[] 3)).grown hg7 (by simp) (fun x hx => by cases hx; exact Nat.le_refl _)); rw [List.nil_append] at ho7; have HO7 := Lib.hid ho7; clear ho7 hg7)
          | (at_builtin; refine app_rd (.tmp 25) (.tmp 26) EI rfl rfl wq.heap.size (.slice a7 FA.length c7) FA rfl (HO7.out.alloc _) _ 1 _ [(-1 : Int)] rfl (Rd.one w7 .i64 3 (-1) (by decide)) (by rw [HL.out.2.2]; simp; omega) (by decide) (by have := HB7.out.size; simp; omega) ?_; intro a8 c8 w8 ho8 hg8; have HB8 := Lib.hid ((HB7.out.alloc HB7.out.size _).trans (grown_below (HO7.out.alloc _) hg8 (by have := HB7.out.size; simp; omega))); have HO8 := Lib.hid ho8; have x2 := (HCd.out.below HB8.out).c2; have xf2 := (HCd.out.below HB8.out).fz 2; clear ho8 hg8))
        have ho8 : Own w8 (w.heap.size + 2) 3 .i64 (.slice a8 (N + 1) c8) (FA ++ [(-1 : Int)]) := by
          have h := HO8.out.mono HSZd.out
          rw [show (FA ++ [(-1 : Int)]).length = N + 1 by rw [List.length_append, HL.out.2.2]; rfl] at h
          exact h
        have e8 : FA.length + 1 = N + 1 := by rw [HL.out.2.2]
        rw [e8]
        have hf9 : Fr (fun b => b = b1) w8 (w8.setCell ⟨b1, 2, none⟩ (.slice a8 (N + 1) c8)) := (Fr.refl (fun b => b = b1) w8).setCell (p := ⟨b1, 2, none⟩) rfl _
        have hn := HBE.out
        have hs := HSZd.out
        have hs8 := HB8.out.size
        have hbb : Below w.heap.size w w8 := HBd.out.trans (HB8.out.mono HBd.out.size)
        go_meet
        exact ⟨a8, c8, (HCd.out.below HB8.out).set2 _, (HC2d.out.below HB8.out).fr hf9 (by omega), Row.fr (HOTd.out.below HB8.out) hf9 (fun g hg e => by have := (Row.block_lt HOTd.out hg).2; omega), Row.fr (HOPd.out.below HB8.out) hf9 (fun g hg e => by have := (Row.block_lt HOPd.out hg).2; omega), Row.fr ho8 hf9 (fun g hg e => by have := (Row.block_lt ho8 hg).2; omega), hbb.trans (hf9.below (fun b hb => by omega) hbb.size), by have := hf9.size; omega⟩
      case rest =>
        obtain ⟨af, cf, hc, hc2, hot, hop, hof, hb, hsz⟩ := hcut
        have hw := HLW.out
        have hx := HX.out
        have hdl := doN_len hx id
        rw [← HN.out] at hdl
        have hdw := doN_wf hw hx id
        obtain ⟨us, hus⟩ := path_ex hdw l.length (by rw [hdl, ← HN.out]; omega)
        have hgl := do_goL hw hx HLD.out id hus
        have e1 := doN_texts hx id
        have e2 := doN_parents hx id
        rw [← HLS.out.1] at e1
        rw [← HLS.out.2.1] at e2
        rw [← HLS.out.2.2] at hgl
        have HWT : Hid (∀ x ∈ TX ++ [id], (Lit.int .i64 x).wf = true) := Lib.hid (fun x hx => by
          rcases List.mem_append.1 hx with h | h
          · exact HWF.out.1 x h
          · rw [List.mem_singleton] at h; rw [h]; exact HID.out)
        have HWP : Hid (∀ x ∈ PA ++ [(now : Int)], (Lit.int .i64 x).wf = true) := Lib.hid (fun x hx => by
          rcases List.mem_append.1 hx with h | h
          · exact HWF.out.2.1 x h
          · rw [List.mem_singleton] at h; rw [h]; exact WalkArith.wf_i64 (by have := HNL.out; omega))
        have HWFA : Hid (∀ x ∈ FA ++ [(-1 : Int)], (Lit.int .i64 x).wf = true) := Lib.hid (fun x hx => by
          rcases List.mem_append.1 hx with h | h
          · exact HWF.out.2.2 x h
          · rw [List.mem_singleton] at h; rw [h]; decide)
        have hgo := rgo_list (fun b => w.heap.size + 2 ≤ b) (doN l now id) (doN l now id) (FA ++ [(-1 : Int)]) l.length us at_ ap af ct cp cf now wc hus hdw (by rw [hdl, ← HN.out]; omega) (by rw [hdl]; omega) (by rw [hdl, e1]; exact Own.rdF hot HWT.out) (by rw [hdl, e2]; exact Own.rdF hop HWP.out) (by rw [hdl]; exact hof.rd HWFA.out) rfl rfl rfl hgl.symm hdw
        rw [hdl, ← HN.out, ← HL2.out] at hgo
        have HGO := Lib.hid hgo
        have HCe := Lib.hid hc
        have HC2e := Lib.hid hc2
        have HBe := Lib.hid hb
        have HSZe := Lib.hid hsz
        obtain ⟨z0, z1, z2, z3, zf⟩ := hc
        clear hw hx hdl hdw hus hgl e1 e2 hgo hc2 hot hop hof hb hsz zf y2
        go_wp2_with fail
        refine HGO.out.mono ?_
        rintro e w6 ⟨v6, rfl, hrt, hb6⟩
        have HRT := Lib.hid hrt
        have HB6 := Lib.hid hb6
        obtain ⟨ta6, tc6, pa6, pc6, fa6, fc6, rfl, _, _, _⟩ := hrt
        obtain ⟨y0, y1, y2, y3, yf⟩ := HC2e.out.below hb6
        have yf0 := yf 0
        have yf1 := yf 1
        have yf2 := yf 2
        have yf3 := yf 3
        clear yf hb6 z0 z1 z2 z3
        go_wp2
        have hf := st4_fr w6 b2 (.slice ta6 l2.length tc6) (.slice pa6 l2.length pc6) (.slice fa6 l2.length fc6) N
        have hn := HBE.out
        have hbb : Below w.heap.size w w6 := HBe.out.trans (HB6.out.mono HBe.out.size)
        exact bodyPost_ret (v := .agg #[.slice ta6 l2.length tc6, .slice pa6 l2.length pc6, .slice fa6 l2.length fc6, .int .i64 N]) (by simp [results, Try.results35, go_sem, y0, y1, y2, y3]) rfl ⟨_, rfl, (HRT.out.fr hf (fun i hi e => by rcases hi with hi | hi <;> (have := HSZe.out; omega))).mono (fun i hi => .inr (by rcases hi with hi | hi <;> (have := HSZe.out; omega))), hbb.trans (hf.below (fun b hb => by omega) hbb.size)⟩

end Go.Proofs.Ytjajlnhobchkgaa
