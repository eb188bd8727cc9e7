/-
  machine.Both of two cycles: the walk.
-/
import Derived.Test.YtajajkganamfiaaMProW
namespace Go.Proofs.Ytajajkganamfiaa
open Go.RowKit Go.Maps
set_option linter.unusedVariables false
set_option linter.unusedSimpArgs false

set_option maxRecDepth 100000 in
set_option maxHeartbeats 2000000 in
theorem both_cyc (ni nk : Nat) (hi0 : 0 < ni) (hi9 : ni ≤ 256) (hk0 : 0 < nk) (hk9 : nk ≤ 256) (ac ac2 : Option Addr) (cc cc2 : Nat) (an an2 : Option Addr) (cn cn2 : Nat) (aa aa2 : Option Addr) (ca ca2 : Nat) (w : World)
    (hm : RdM w ac 256 an ni aa ni cycC (cycN ni) (cycA ni)) (hm2 : RdM w ac2 256 an2 nk aa2 nk cycC (cycN nk) (cycA nk)) :
    Calls Try.prog 26 #[.agg #[.int .i64 0, .slice ac 256 cc, .slice an ni cn, .slice aa ni ca], .agg #[.int .i64 0, .slice ac2 256 cc2, .slice an2 nk cn2, .slice aa2 nk ca2]] w (ProPost (Nat.lcm ni nk) w) := by
  obtain ⟨w1, hw1⟩ : ∃ w1, w1 = ((w.alloc (.cells #[.int .i64 0, .slice ac 256 cc, .slice an ni cn, .slice aa ni ca] 26)).alloc (.cells #[.int .i64 0, .slice ac2 256 cc2, .slice an2 nk cn2, .slice aa2 nk ca2] 26)).alloc (.cells #[.int .i64 0, .slice none 0 0, .slice none 0 0, .slice none 0 0] 26) := ⟨_, rfl⟩
  have HB := Lib.hid (show Below w.heap.size w w1 by rw [hw1]; exact ((below_alloc _ _).alloc (by simp) _).alloc (by simp; try omega) _)
  have HPR := Lib.hid (product_cyc ni nk hi0 hi9 hk0 hk9 ac ac2 cc cc2 an an2 cn cn2 aa aa2 ca ca2 w1 (hm.below HB.out) (hm2.below HB.out))
  have hxc : CT w1 w.heap.size 0 (.slice ac 256 cc) (.slice an ni cn) (.slice aa ni ca) := by rw [hw1]; exact ((alloc_ct _ _ _ _ _ _).below (below_alloc _ _)).below (below_alloc _ _)
  have hyc : CT w1 (w.heap.size + 1) 0 (.slice ac2 256 cc2) (.slice an2 nk cn2) (.slice aa2 nk ca2) := by
    rw [hw1]
    have h := alloc_ct (w.alloc (.cells #[.int .i64 0, .slice ac 256 cc, .slice an ni cn, .slice aa ni ca] 26)) 0 (.slice ac2 256 cc2) (.slice an2 nk cn2) (.slice aa2 nk ca2) 26
    rw [show (w.alloc (.cells #[.int .i64 0, .slice ac 256 cc, .slice an ni cn, .slice aa ni ca] 26)).heap.size = w.heap.size + 1 by simp] at h
    exact h.below (below_alloc _ _)
  have hrc : CT w1 (w.heap.size + 1 + 1) 0 (.slice none 0 0) (.slice none 0 0) (.slice none 0 0) := by
    rw [hw1]
    have h := alloc_ct ((w.alloc (.cells #[.int .i64 0, .slice ac 256 cc, .slice an ni cn, .slice aa ni ca] 26)).alloc (.cells #[.int .i64 0, .slice ac2 256 cc2, .slice an2 nk cn2, .slice aa2 nk ca2] 26)) 0 (.slice none 0 0) (.slice none 0 0) (.slice none 0 0) 26
    rw [show ((w.alloc (.cells #[.int .i64 0, .slice ac 256 cc, .slice an ni cn, .slice aa ni ca] 26)).alloc (.cells #[.int .i64 0, .slice ac2 256 cc2, .slice an2 nk cn2, .slice aa2 nk ca2] 26)).heap.size = w.heap.size + 1 + 1 by simp] at h
    exact h
  have HR := Lib.hid hrc
  have HS1 : Hid (w1.heap.size = w.heap.size + 1 + 1 + 1) := Lib.hid (by rw [hw1]; simp)
  have HW1 := Lib.hid hw1
  obtain ⟨x0, x1, x2, x3, -⟩ := hxc
  obtain ⟨y0, y1, y2, y3, -⟩ := hyc
  clear hm hm2 hw1 hi0 hi9 hk0 hk9 hrc
  generalize Nat.lcm ni nk = L at *
  go_enter Try.func26, Try.ntmps26
  go_upto_region 1 with fail
  rw [← HW1.out]
  go_wp2_with fail
  refine HPR.out.mono ?_
  rintro e w2 ⟨hb2, ⟨hL, ac3, cc3, an3, cn3, aa3, ca3, rfl, hmz⟩ | ⟨hL, rfl⟩⟩
  · have HB2 := Lib.hid hb2
    have HMZ := Lib.hid hmz
    have HL := Lib.hid hL
    clear hb2 hmz hL x0 x1 x2 x3 y0 y1 y2 y3
    obtain ⟨r0, r1, r2, r3, rf⟩ := HR.out.below HB2.out
    have rf0 := rf 0
    have rf1 := rf 1
    have rf2 := rf 2
    have rf3 := rf 3
    clear rf
    have HFIN : Hid (∀ wf, Fr (fun b => b = w.heap.size + 1 + 1) w2 wf → ProPost L w (.returned (.tuple #[.agg #[.int .i64 0, .slice ac3 256 cc3, .slice an3 L cn3, .slice aa3 L ca3], .nilIface])) wf) := Lib.hid (fun wf hf => by
      have h6 : Below w.heap.size w w2 := bthen HB.out HB2.out
      have h7 := HS1.out
      refine ⟨h6.trans (hf.below (fun b e => by omega) h6.size), .inl ⟨HL.out, ac3, cc3, an3, cn3, aa3, ca3, rfl, fun wg hg => ?_⟩⟩
      exact HMZ.out wg ((hf.mono (fun b e => by omega)).trans (hg.mono (fun b e => by omega))))
    go_wp2
    exact bodyPost_ret (v := .tuple #[.agg #[.int .i64 0, .slice ac3 256 cc3, .slice an3 L cn3, .slice aa3 L ca3], .nilIface]) (by simp [results, Try.results26, go_sem, r0, r1, r2, r3]) rfl (HFIN.out _ (fr4 w2 (w.heap.size + 1 + 1) (.int .i64 0) (.slice ac3 256 cc3) (.slice an3 L cn3) (.slice aa3 L ca3)))
  · have HB2 := Lib.hid hb2
    have HL := Lib.hid hL
    clear hb2 hL x0 x1 x2 x3 y0 y1 y2 y3
    obtain ⟨r0, r1, r2, r3, rf⟩ := HR.out.below HB2.out
    have rf0 := rf 0
    have rf1 := rf 1
    have rf2 := rf 2
    have rf3 := rf 3
    clear rf
    have HFIN : Hid (∀ wf, Fr (fun b => b = w.heap.size + 1 + 1) w2 wf → ProPost L w (.returned (.tuple #[.agg #[.int .i64 0, .slice none 0 0, .slice none 0 0, .slice none 0 0], .iface 43 (.int .i64 9)])) wf) := Lib.hid (fun wf hf => by
      have h6 : Below w.heap.size w w2 := bthen HB.out HB2.out
      exact ⟨h6.trans (hf.below (fun b e => by omega) h6.size), .inr ⟨HL.out, rfl⟩⟩)
    go_wp2
    exact bodyPost_ret (v := .tuple #[.agg #[.int .i64 0, .slice none 0 0, .slice none 0 0, .slice none 0 0], .iface 43 (.int .i64 9)]) (by simp [results, Try.results26, go_sem, r0, r1, r2, r3]) rfl (HFIN.out _ (fr4 w2 (w.heap.size + 1 + 1) (.int .i64 0) (.slice none 0 0) (.slice none 0 0) (.slice none 0 0)))

end Go.Proofs.Ytajajkganamfiaa
