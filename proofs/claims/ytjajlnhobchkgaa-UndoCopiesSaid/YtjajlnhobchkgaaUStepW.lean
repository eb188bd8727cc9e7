/-
  step: one call on the tree and on the reference's tree.
-/
import Derived.Test.YtjajlnhobchkgaaUSG
import Derived.BigQuiet
namespace Go.Proofs.Ytjajlnhobchkgaa
open Go.RowKit
set_option linter.unusedVariables false
set_option linter.unusedSimpArgs false

def StepPost (w : World) (S T : Nat → Prop) (bt : Nat) (l1 : List Nd) (n1 : Nat) (l2 : List Nd) (n2 : Nat) (b : Bool) (e : Ending) (w' : World) : Prop :=
  ∃ v', e = .returned (.tuple #[v', .bool b]) ∧ SG w S T bt l1 n1 v' l2 n2 w'

/-- the three blocks at the start of step -/
theorem three_ct (v0 v1 v2 : Value) (n k d t : Int) (A B : TypeId) (w w3 : World) (hw : w3 = ((w.alloc (.cells #[v0, v1, v2, .int .i64 n] A)).alloc (.cells #[.int .i64 k, .int .i64 d, .int .i64 t] B)).alloc (.cells #[.slice none 0 0, .slice none 0 0, .slice none 0 0, .int .i64 0] A)) :
    CT w3 w.heap.size v0 v1 v2 n ∧ CT w3 (w.heap.size + 1 + 1) (.slice none 0 0) (.slice none 0 0) (.slice none 0 0) 0 ∧
    (w3.cell? ⟨w.heap.size + 1, 0, none⟩ = some (.int .i64 k) ∧ w3.cell? ⟨w.heap.size + 1, 1, none⟩ = some (.int .i64 d) ∧ w3.cell? ⟨w.heap.size + 1, 2, none⟩ = some (.int .i64 t)) ∧
    Below w.heap.size w w3 ∧ w3.heap.size = w.heap.size + 3 := by
  obtain ⟨w1, hw1⟩ : ∃ w1, w1 = w.alloc (.cells #[v0, v1, v2, .int .i64 n] A) := ⟨_, rfl⟩
  have h0 : CT w1 w.heap.size v0 v1 v2 n := by rw [hw1]; exact ⟨by simp, by simp, by simp, by simp, fun j => by simp⟩
  have hs1 : w1.heap.size = w.heap.size + 1 := by rw [hw1]; simp
  have hb1 : Below w.heap.size w w1 := by rw [hw1]; exact below_alloc _ _
  rw [← hw1] at hw
  obtain ⟨w2, hw2⟩ : ∃ w2, w2 = w1.alloc (.cells #[.int .i64 k, .int .i64 d, .int .i64 t] B) := ⟨_, rfl⟩
  rw [← hw2] at hw
  have k0 : w2.cell? ⟨w1.heap.size, 0, none⟩ = some (.int .i64 k) := by rw [hw2]; exact acell rfl rfl
  have k1 : w2.cell? ⟨w1.heap.size, 1, none⟩ = some (.int .i64 d) := by rw [hw2]; exact acell rfl rfl
  have k2 : w2.cell? ⟨w1.heap.size, 2, none⟩ = some (.int .i64 t) := by rw [hw2]; exact acell rfl rfl
  have hs2 : w2.heap.size = w.heap.size + 2 := by rw [hw2]; simp [hs1]
  have hb2 : Below w1.heap.size w1 w2 := by rw [hw2]; exact below_alloc _ _
  have hb3 : Below w2.heap.size w2 w3 := by rw [hw]; exact below_alloc _ _
  have hs3 : w3.heap.size = w.heap.size + 3 := by rw [hw]; simp [hs2]
  rw [hs1] at k0 k1 k2
  refine ⟨(h0.below hb2).below hb3, ?_, ⟨below_cell hb3 k0, below_cell hb3 k1, below_cell hb3 k2⟩, bthen hb1 (bthen hb2 hb3), hs3⟩
  rw [show w.heap.size + 1 + 1 = w2.heap.size from hs2.symm, hw]
  exact ⟨by simp, by simp, by simp, by simp, fun j => by simp⟩

theorem kp_cell {w x x' : World} (hk : Kp w x x') {b j : Nat} {u : Value} (h : x.cell? ⟨b, j, none⟩ = some u) (h0 : w.heap.size ≤ b) (h1 : b < w.heap.size + 3) : x'.cell? ⟨b, j, none⟩ = some u :=
  hk.cell h (fun e => by simp only at e; omega)

theorem kp_st {x : World} {b : Nat} {v0 v1 v2 : Value} {k : Int} {c j : Nat} {u : Value} (h : x.cell? ⟨c, j, none⟩ = some u) (hb : c ≠ b) : (st4 x b v0 v1 v2 k).cell? ⟨c, j, none⟩ = some u :=
  (st4_fr x b v0 v1 v2 k).cell h (fun e => hb e)

set_option maxRecDepth 100000 in
set_option maxHeartbeats 4000000 in
theorem step_any (w : World) (S T : Nat → Prop) (bt : Nat) (l1 : List Nd) (n1 : Nat) (v : Value) (l2 : List Nd) (n2 : Nat) (k d t : Int) (ht : TI w S bt l1 n1) (h1 : Inv l1 n1) (hr : RT w T v l2 n2) (h2 : Inv l2 n2) (hd : ∀ i, T i → ¬ S i) (hl1 : l1.length ≤ 999) (hl2 : l2.length ≤ 999) (hid : (Lit.int .i64 t).wf = true) :
    Calls Try.prog 15 #[.pointer (some ⟨bt, 0, none⟩), v, .agg #[.int .i64 k, .int .i64 d, .int .i64 t]] w
      (StepPost w S T bt (stL (kindF k) d t l1 n1) (stN (kindF k) d t l1 n1) (stL (kindF k) d t l2 n2) (stN (kindF k) d t l2 n2) (stC (kindF k) d t l1 n1 == stC (kindF k) d t l2 n2)) := by
  have HT0 := Lib.hid (And.intro ht (And.intro hr hd))
  obtain ⟨ta, tc, pa, pc, fa, fc, rfl, -, -, -⟩ := hr.ex
  obtain ⟨w3, hw3⟩ : ∃ w3, w3 = ((w.alloc (.cells #[.slice ta l2.length tc, .slice pa l2.length pc, .slice fa l2.length fc, .int .i64 n2] 36)).alloc (.cells #[.int .i64 k, .int .i64 d, .int .i64 t] 39)).alloc (.cells #[.slice none 0 0, .slice none 0 0, .slice none 0 0, .int .i64 0] 36) := ⟨_, rfl⟩
  have HW3 := Lib.hid hw3
  obtain ⟨c1, c2, c3, hb3, hs3⟩ := three_ct (.slice ta l2.length tc) (.slice pa l2.length pc) (.slice fa l2.length fc) n2 k d t 36 39 w w3 hw3
  have HSG := Lib.hid (SG.start HT0.out.1 HT0.out.2.1 HT0.out.2.2 hb3 (by omega))
  have HC := Lib.hid (And.intro c1 (And.intro c2 c3))
  have HI := Lib.hid (And.intro h1 (And.intro h2 (And.intro hl1 (And.intro hl2 hid))))
  have HR := Lib.hid (kindF_bd k)
  have HK := Lib.hid (kind_is k d t w3)
  generalize kindF k = r at *
  obtain ⟨z0, z1, z2⟩ := c3
  clear ht h1 hr h2 hd hl1 hl2 hid hw3 c1 c2 hb3 hs3
  go_enter Try.func15, Try.ntmps15
  go_wp2_with fail
  rw [← HW3.out]
  refine HK.out.mono ?_
  rintro e w4 ⟨rfl, hb4⟩
  have HSG4 := Lib.hid (HSG.out.below hb4)
  have HC4 := Lib.hid (And.intro (HC.out.1.below hb4) (And.intro (HC.out.2.1.below hb4) (And.intro (below_cell hb4 HC.out.2.2.2.1) (below_cell hb4 HC.out.2.2.2.2))))
  clear hb4 z0 z1 z2
  rcases (show r = 0 ∨ r = 1 ∨ r = 2 ∨ r = 3 ∨ r = 4 ∨ r = 5 by have := HR.out; omega) with rfl | rfl | rfl | rfl | rfl | rfl
  · obtain ⟨y0, y1, y2, y3, yf⟩ := HC4.out.1
    have x1 := HC4.out.2.2.1
    have x2 := HC4.out.2.2.2
    clear yf
    go_wp2_with fail
    refine (sg_rdo 0 d t (by decide) HSG4.out HI.out.2.1 HI.out.2.2.2.1 HI.out.2.2.2.2).mono ?_
    rintro e w5 ⟨v5, rfl, hsg5, hk5⟩
    clear y0 y1 y2 y3 x1 x2
    have HSG5 := Lib.hid hsg5
    obtain ⟨ta5, tc5, pa5, pc5, fa5, fc5, rfl⟩ := hsg5.form
    have HC5 := Lib.hid (And.intro (HC4.out.1.kp hk5 (Nat.le_refl _) (by omega)) (And.intro (HC4.out.2.1.kp hk5 (by omega) (by omega)) (And.intro (kp_cell hk5 HC4.out.2.2.1 (by omega) (by omega)) (kp_cell hk5 HC4.out.2.2.2 (by omega) (by omega)))))
    obtain ⟨y0, y1, y2, y3, yf⟩ := HC5.out.1
    have x1 := HC5.out.2.2.1
    have x2 := HC5.out.2.2.2
    have yf0 := yf 0
    have yf1 := yf 1
    have yf2 := yf 2
    have yf3 := yf 3
    clear yf hsg5 hk5
    go_upto_region 11 with fail
    obtain ⟨w6, hw6⟩ : ∃ w6, w6 = st4 w5 w.heap.size (.slice ta5 (stL 0 d t l2 n2).length tc5) (.slice pa5 (stL 0 d t l2 n2).length pc5) (.slice fa5 (stL 0 d t l2 n2).length fc5) (stN 0 d t l2 n2) := ⟨_, rfl⟩
    have HSG6 : Hid (SG w S T bt l1 n1 (.agg #[.slice ta5 (stL 0 d t l2 n2).length tc5, .slice pa5 (stL 0 d t l2 n2).length pc5, .slice fa5 (stL 0 d t l2 n2).length fc5, .int .i64 (stN 0 d t l2 n2)]) (stL 0 d t l2 n2) (stN 0 d t l2 n2) w6) := Lib.hid (by rw [hw6]; exact HSG5.out.st4 _ _ _ _ _ (Nat.le_refl _) (by omega))
    have HC6 : Hid (CT w6 w.heap.size (.slice ta5 (stL 0 d t l2 n2).length tc5) (.slice pa5 (stL 0 d t l2 n2).length pc5) (.slice fa5 (stL 0 d t l2 n2).length fc5) (stN 0 d t l2 n2) ∧ CT w6 (w.heap.size + 1 + 1) (.slice none 0 0) (.slice none 0 0) (.slice none 0 0) 0 ∧ w6.cell? ⟨w.heap.size + 1, 2, none⟩ = some (.int .i64 t)) := Lib.hid (by rw [hw6]; exact ⟨HC5.out.1.st, HC5.out.2.1.st' (by omega), kp_st HC5.out.2.2.2 (by omega)⟩)
    unfold st4 at hw6
    rw [← hw6]
    clear y0 y1 y2 y3 yf0 yf1 yf2 yf3 x1 x2 hw6
    have HDO := Lib.hid (sg_do 0 d t (by decide) (HSG6.out.below (Below.refl _ _).drew) HI.out.1 HI.out.2.2.1)
    obtain ⟨y0, y1, y2, y3, yf⟩ := HC6.out.1
    have x2 := HC6.out.2.2
    obtain ⟨d0, d1, d2, d3, df⟩ := HC6.out.1.below (Below.refl _ _).drew
    have dx2 := below_cell (Below.refl w6.heap.size w6).drew HC6.out.2.2
    clear yf df
    go_region_law (first
      | (go_simp; go_at_call 30; refine HDO.out.mono ?_; rintro e w7 ⟨rfl, hsg7, hk7⟩; have HSG7 := Lib.hid hsg7; obtain ⟨q0, q1, q2, q3, qf⟩ := (HC6.out.1.below (Below.refl _ _).drew).kp hk7 (Nat.le_refl _) (by omega); obtain ⟨r0, r1, r2, r3, rf⟩ := (HC6.out.2.1.below (Below.refl _ _).drew).kp hk7 (by omega) (by omega); have rf0 := rf 0; have rf1 := rf 1; have rf2 := rf 2; have rf3 := rf 3; clear qf rf hsg7 hk7))
    all_goals
      try go_wp2
      exact bodyPost_ret (v := .tuple #[.agg #[.slice ta5 (stL 0 d t l2 n2).length tc5, .slice pa5 (stL 0 d t l2 n2).length pc5, .slice fa5 (stL 0 d t l2 n2).length fc5, .int .i64 (stN 0 d t l2 n2)], .bool (stC 0 d t l1 n1 == stC 0 d t l2 n2)]) (by simp [results, Try.results15, go_sem, r0, r1, r2, r3, stC, stN, stp_do]) rfl ⟨_, rfl, HSG7.out.st4 (w.heap.size + 1 + 1) (.slice ta5 (stL 0 d t l2 n2).length tc5) (.slice pa5 (stL 0 d t l2 n2).length pc5) (.slice fa5 (stL 0 d t l2 n2).length fc5) (stN 0 d t l2 n2) (by omega) (by omega)⟩
  · obtain ⟨y0, y1, y2, y3, yf⟩ := HC4.out.1
    have x1 := HC4.out.2.2.1
    have x2 := HC4.out.2.2.2
    clear yf
    go_wp2_with fail
    refine (sg_rdo 1 d t (by decide) HSG4.out HI.out.2.1 HI.out.2.2.2.1 HI.out.2.2.2.2).mono ?_
    rintro e w5 ⟨v5, rfl, hsg5, hk5⟩
    clear y0 y1 y2 y3 x1 x2
    have HSG5 := Lib.hid hsg5
    obtain ⟨ta5, tc5, pa5, pc5, fa5, fc5, rfl⟩ := hsg5.form
    have HC5 := Lib.hid (And.intro (HC4.out.1.kp hk5 (Nat.le_refl _) (by omega)) (And.intro (HC4.out.2.1.kp hk5 (by omega) (by omega)) (And.intro (kp_cell hk5 HC4.out.2.2.1 (by omega) (by omega)) (kp_cell hk5 HC4.out.2.2.2 (by omega) (by omega)))))
    obtain ⟨y0, y1, y2, y3, yf⟩ := HC5.out.1
    have x1 := HC5.out.2.2.1
    have x2 := HC5.out.2.2.2
    have yf0 := yf 0
    have yf1 := yf 1
    have yf2 := yf 2
    have yf3 := yf 3
    clear yf hsg5 hk5
    go_upto_region 11 with fail
    obtain ⟨w6, hw6⟩ : ∃ w6, w6 = st4 w5 w.heap.size (.slice ta5 (stL 1 d t l2 n2).length tc5) (.slice pa5 (stL 1 d t l2 n2).length pc5) (.slice fa5 (stL 1 d t l2 n2).length fc5) (stN 1 d t l2 n2) := ⟨_, rfl⟩
    have HSG6 : Hid (SG w S T bt l1 n1 (.agg #[.slice ta5 (stL 1 d t l2 n2).length tc5, .slice pa5 (stL 1 d t l2 n2).length pc5, .slice fa5 (stL 1 d t l2 n2).length fc5, .int .i64 (stN 1 d t l2 n2)]) (stL 1 d t l2 n2) (stN 1 d t l2 n2) w6) := Lib.hid (by rw [hw6]; exact HSG5.out.st4 _ _ _ _ _ (Nat.le_refl _) (by omega))
    have HC6 : Hid (CT w6 w.heap.size (.slice ta5 (stL 1 d t l2 n2).length tc5) (.slice pa5 (stL 1 d t l2 n2).length pc5) (.slice fa5 (stL 1 d t l2 n2).length fc5) (stN 1 d t l2 n2) ∧ CT w6 (w.heap.size + 1 + 1) (.slice none 0 0) (.slice none 0 0) (.slice none 0 0) 0 ∧ w6.cell? ⟨w.heap.size + 1, 2, none⟩ = some (.int .i64 t)) := Lib.hid (by rw [hw6]; exact ⟨HC5.out.1.st, HC5.out.2.1.st' (by omega), kp_st HC5.out.2.2.2 (by omega)⟩)
    unfold st4 at hw6
    rw [← hw6]
    clear y0 y1 y2 y3 yf0 yf1 yf2 yf3 x1 x2 hw6
    have HDO := Lib.hid (sg_do 1 d t (by decide) (HSG6.out.below (Below.refl _ _).drew) HI.out.1 HI.out.2.2.1)
    obtain ⟨y0, y1, y2, y3, yf⟩ := HC6.out.1
    have x2 := HC6.out.2.2
    obtain ⟨d0, d1, d2, d3, df⟩ := HC6.out.1.below (Below.refl _ _).drew
    have dx2 := below_cell (Below.refl w6.heap.size w6).drew HC6.out.2.2
    clear yf df
    go_region_law (first
      | (go_simp; go_at_call 30; refine HDO.out.mono ?_; rintro e w7 ⟨rfl, hsg7, hk7⟩; have HSG7 := Lib.hid hsg7; obtain ⟨q0, q1, q2, q3, qf⟩ := (HC6.out.1.below (Below.refl _ _).drew).kp hk7 (Nat.le_refl _) (by omega); obtain ⟨r0, r1, r2, r3, rf⟩ := (HC6.out.2.1.below (Below.refl _ _).drew).kp hk7 (by omega) (by omega); have rf0 := rf 0; have rf1 := rf 1; have rf2 := rf 2; have rf3 := rf 3; clear qf rf hsg7 hk7))
    all_goals
      try go_wp2
      exact bodyPost_ret (v := .tuple #[.agg #[.slice ta5 (stL 1 d t l2 n2).length tc5, .slice pa5 (stL 1 d t l2 n2).length pc5, .slice fa5 (stL 1 d t l2 n2).length fc5, .int .i64 (stN 1 d t l2 n2)], .bool (stC 1 d t l1 n1 == stC 1 d t l2 n2)]) (by simp [results, Try.results15, go_sem, r0, r1, r2, r3, stC, stN, stp_do]) rfl ⟨_, rfl, HSG7.out.st4 (w.heap.size + 1 + 1) (.slice ta5 (stL 1 d t l2 n2).length tc5) (.slice pa5 (stL 1 d t l2 n2).length pc5) (.slice fa5 (stL 1 d t l2 n2).length fc5) (stN 1 d t l2 n2) (by omega) (by omega)⟩
  · obtain ⟨y0, y1, y2, y3, yf⟩ := HC4.out.1
    have x1 := HC4.out.2.2.1
    have x2 := HC4.out.2.2.2
    clear yf
    go_wp2_with fail
    refine (sg_rundo d t HSG4.out HI.out.2.1 HI.out.2.2.2.1).mono ?_
    rintro e w5 ⟨v5, rfl, hsg5, hk5⟩
    clear y0 y1 y2 y3 x1 x2
    have HSG5 := Lib.hid hsg5
    obtain ⟨ta5, tc5, pa5, pc5, fa5, fc5, rfl⟩ := hsg5.form
    have HC5 := Lib.hid (And.intro (HC4.out.1.kp hk5 (Nat.le_refl _) (by omega)) (And.intro (HC4.out.2.1.kp hk5 (by omega) (by omega)) (And.intro (kp_cell hk5 HC4.out.2.2.1 (by omega) (by omega)) (kp_cell hk5 HC4.out.2.2.2 (by omega) (by omega)))))
    obtain ⟨y0, y1, y2, y3, yf⟩ := HC5.out.1
    have x1 := HC5.out.2.2.1
    have x2 := HC5.out.2.2.2
    have yf0 := yf 0
    have yf1 := yf 1
    have yf2 := yf 2
    have yf3 := yf 3
    clear yf hsg5 hk5
    go_wp2_with fail
    refine (sg_undo d t (HSG5.out.st4 w.heap.size (.slice ta5 (stL 2 d t l2 n2).length tc5) (.slice pa5 (stL 2 d t l2 n2).length pc5) (.slice fa5 (stL 2 d t l2 n2).length fc5) (stN 2 d t l2 n2) (Nat.le_refl _) (by omega)) HI.out.1 HI.out.2.2.1).mono ?_
    rintro e w7 ⟨rfl, hsg7, hk7⟩
    have HSG7 := Lib.hid hsg7
    have HC7 := Lib.hid (And.intro (HC5.out.1.st.kp hk7 (Nat.le_refl _) (by omega)) (And.intro ((HC5.out.2.1.st' (by omega)).kp hk7 (by omega) (by omega)) trivial))
    clear y0 y1 y2 y3 yf0 yf1 yf2 yf3 x1 x2 hsg7 hk7
    go_wp2_with fail
    obtain ⟨y0, y1, y2, y3, yf⟩ := HC7.out.1.below (Below.refl _ _).drew
    obtain ⟨r0, r1, r2, r3, rf⟩ := HC7.out.2.1.below (Below.refl _ _).drew
    obtain ⟨p0, p1, p2, p3, pf⟩ := HC7.out.2.1
    have rf0 := rf 0
    have rf1 := rf 1
    have rf2 := rf 2
    have rf3 := rf 3
    have pf0 := pf 0
    have pf1 := pf 1
    have pf2 := pf 2
    have pf3 := pf 3
    clear yf rf pf
    go_region_law (first
      | (go_simp; go_at_call 40; refine (num_errV _ _).mono ?_; rintro e w8 ⟨rfl, rfl⟩))
    all_goals
      try go_wp2
      exact bodyPost_ret (v := .tuple #[.agg #[.slice ta5 (stL 2 d t l2 n2).length tc5, .slice pa5 (stL 2 d t l2 n2).length pc5, .slice fa5 (stL 2 d t l2 n2).length fc5, .int .i64 (stN 2 d t l2 n2)], .bool (stC 2 d t l1 n1 == stC 2 d t l2 n2)]) (by simp [results, Try.results15, go_sem, r0, r1, r2, r3, p0, p1, p2, p3]) rfl ⟨_, rfl, (HSG7.out.below (Below.refl _ _).drew).st4 (w.heap.size + 1 + 1) (.slice ta5 (stL 2 d t l2 n2).length tc5) (.slice pa5 (stL 2 d t l2 n2).length pc5) (.slice fa5 (stL 2 d t l2 n2).length fc5) (stN 2 d t l2 n2) (by omega) (by omega)⟩
  · obtain ⟨y0, y1, y2, y3, yf⟩ := HC4.out.1
    have x1 := HC4.out.2.2.1
    have x2 := HC4.out.2.2.2
    clear yf
    go_wp2_with fail
    refine (sg_rredo d t HSG4.out HI.out.2.1 HI.out.2.2.2.1).mono ?_
    rintro e w5 ⟨v5, rfl, hsg5, hk5⟩
    clear y0 y1 y2 y3 x1 x2
    have HSG5 := Lib.hid hsg5
    obtain ⟨ta5, tc5, pa5, pc5, fa5, fc5, rfl⟩ := hsg5.form
    have HC5 := Lib.hid (And.intro (HC4.out.1.kp hk5 (Nat.le_refl _) (by omega)) (And.intro (HC4.out.2.1.kp hk5 (by omega) (by omega)) (And.intro (kp_cell hk5 HC4.out.2.2.1 (by omega) (by omega)) (kp_cell hk5 HC4.out.2.2.2 (by omega) (by omega)))))
    obtain ⟨y0, y1, y2, y3, yf⟩ := HC5.out.1
    have x1 := HC5.out.2.2.1
    have x2 := HC5.out.2.2.2
    have yf0 := yf 0
    have yf1 := yf 1
    have yf2 := yf 2
    have yf3 := yf 3
    clear yf hsg5 hk5
    go_wp2_with fail
    refine (sg_redo d t (HSG5.out.st4 w.heap.size (.slice ta5 (stL 3 d t l2 n2).length tc5) (.slice pa5 (stL 3 d t l2 n2).length pc5) (.slice fa5 (stL 3 d t l2 n2).length fc5) (stN 3 d t l2 n2) (Nat.le_refl _) (by omega)) HI.out.1 HI.out.2.2.1).mono ?_
    rintro e w7 ⟨rfl, hsg7, hk7⟩
    have HSG7 := Lib.hid hsg7
    have HC7 := Lib.hid (And.intro (HC5.out.1.st.kp hk7 (Nat.le_refl _) (by omega)) (And.intro ((HC5.out.2.1.st' (by omega)).kp hk7 (by omega) (by omega)) trivial))
    clear y0 y1 y2 y3 yf0 yf1 yf2 yf3 x1 x2 hsg7 hk7
    go_wp2_with fail
    obtain ⟨y0, y1, y2, y3, yf⟩ := HC7.out.1.below (Below.refl _ _).drew
    obtain ⟨r0, r1, r2, r3, rf⟩ := HC7.out.2.1.below (Below.refl _ _).drew
    obtain ⟨p0, p1, p2, p3, pf⟩ := HC7.out.2.1
    have rf0 := rf 0
    have rf1 := rf 1
    have rf2 := rf 2
    have rf3 := rf 3
    have pf0 := pf 0
    have pf1 := pf 1
    have pf2 := pf 2
    have pf3 := pf 3
    clear yf rf pf
    go_region_law (first
      | (go_simp; go_at_call 40; refine (num_errV _ _).mono ?_; rintro e w8 ⟨rfl, rfl⟩))
    all_goals
      try go_wp2
      exact bodyPost_ret (v := .tuple #[.agg #[.slice ta5 (stL 3 d t l2 n2).length tc5, .slice pa5 (stL 3 d t l2 n2).length pc5, .slice fa5 (stL 3 d t l2 n2).length fc5, .int .i64 (stN 3 d t l2 n2)], .bool (stC 3 d t l1 n1 == stC 3 d t l2 n2)]) (by simp [results, Try.results15, go_sem, r0, r1, r2, r3, p0, p1, p2, p3]) rfl ⟨_, rfl, (HSG7.out.below (Below.refl _ _).drew).st4 (w.heap.size + 1 + 1) (.slice ta5 (stL 3 d t l2 n2).length tc5) (.slice pa5 (stL 3 d t l2 n2).length pc5) (.slice fa5 (stL 3 d t l2 n2).length fc5) (stN 3 d t l2 n2) (by omega) (by omega)⟩
  · obtain ⟨y0, y1, y2, y3, yf⟩ := HC4.out.1
    have x1 := HC4.out.2.2.1
    have x2 := HC4.out.2.2.2
    clear yf
    go_wp2_with fail
    refine (sg_rredoto d t HSG4.out HI.out.2.1 HI.out.2.2.2.1).mono ?_
    rintro e w5 ⟨v5, rfl, hsg5, hk5⟩
    clear y0 y1 y2 y3 x1 x2
    have HSG5 := Lib.hid hsg5
    obtain ⟨ta5, tc5, pa5, pc5, fa5, fc5, rfl⟩ := hsg5.form
    have HC5 := Lib.hid (And.intro (HC4.out.1.kp hk5 (Nat.le_refl _) (by omega)) (And.intro (HC4.out.2.1.kp hk5 (by omega) (by omega)) (And.intro (kp_cell hk5 HC4.out.2.2.1 (by omega) (by omega)) (kp_cell hk5 HC4.out.2.2.2 (by omega) (by omega)))))
    obtain ⟨y0, y1, y2, y3, yf⟩ := HC5.out.1
    have x1 := HC5.out.2.2.1
    have x2 := HC5.out.2.2.2
    have yf0 := yf 0
    have yf1 := yf 1
    have yf2 := yf 2
    have yf3 := yf 3
    clear yf hsg5 hk5
    go_wp2_with fail
    refine (sg_redoto d t (HSG5.out.st4 w.heap.size (.slice ta5 (stL 4 d t l2 n2).length tc5) (.slice pa5 (stL 4 d t l2 n2).length pc5) (.slice fa5 (stL 4 d t l2 n2).length fc5) (stN 4 d t l2 n2) (Nat.le_refl _) (by omega)) HI.out.1 HI.out.2.2.1).mono ?_
    rintro e w7 ⟨rfl, hsg7, hk7⟩
    have HSG7 := Lib.hid hsg7
    have HC7 := Lib.hid (And.intro (HC5.out.1.st.kp hk7 (Nat.le_refl _) (by omega)) (And.intro ((HC5.out.2.1.st' (by omega)).kp hk7 (by omega) (by omega)) trivial))
    clear y0 y1 y2 y3 yf0 yf1 yf2 yf3 x1 x2 hsg7 hk7
    go_wp2_with fail
    obtain ⟨y0, y1, y2, y3, yf⟩ := HC7.out.1.below (Below.refl _ _).drew
    obtain ⟨r0, r1, r2, r3, rf⟩ := HC7.out.2.1.below (Below.refl _ _).drew
    obtain ⟨p0, p1, p2, p3, pf⟩ := HC7.out.2.1
    have rf0 := rf 0
    have rf1 := rf 1
    have rf2 := rf 2
    have rf3 := rf 3
    have pf0 := pf 0
    have pf1 := pf 1
    have pf2 := pf 2
    have pf3 := pf 3
    clear yf rf pf
    go_region_law (first
      | (go_simp; go_at_call 40; refine (num_errV _ _).mono ?_; rintro e w8 ⟨rfl, rfl⟩))
    all_goals
      try go_wp2
      exact bodyPost_ret (v := .tuple #[.agg #[.slice ta5 (stL 4 d t l2 n2).length tc5, .slice pa5 (stL 4 d t l2 n2).length pc5, .slice fa5 (stL 4 d t l2 n2).length fc5, .int .i64 (stN 4 d t l2 n2)], .bool (stC 4 d t l1 n1 == stC 4 d t l2 n2)]) (by simp [results, Try.results15, go_sem, r0, r1, r2, r3, p0, p1, p2, p3]) rfl ⟨_, rfl, (HSG7.out.below (Below.refl _ _).drew).st4 (w.heap.size + 1 + 1) (.slice ta5 (stL 4 d t l2 n2).length tc5) (.slice pa5 (stL 4 d t l2 n2).length pc5) (.slice fa5 (stL 4 d t l2 n2).length fc5) (stN 4 d t l2 n2) (by omega) (by omega)⟩
  · have x1 := HC4.out.2.2.1
    go_wp2_with fail
    refine (sg_goto d t HSG4.out HI.out.1 HI.out.2.2.1).mono ?_
    rintro e w5 ⟨rfl, hsg5, hk5⟩
    have HSG5 := Lib.hid hsg5
    have HC5 := Lib.hid (And.intro (HC4.out.1.kp hk5 (Nat.le_refl _) (by omega)) (And.intro (HC4.out.2.1.kp hk5 (by omega) (by omega)) (kp_cell hk5 HC4.out.2.2.1 (by omega) (by omega))))
    clear x1 hsg5 hk5
    obtain ⟨y0, y1, y2, y3, yf⟩ := HC5.out.1
    have x1 := HC5.out.2.2
    clear yf
    go_wp2_with fail
    refine (sg_rhas d HSG5.out).mono ?_
    rintro e w6 ⟨rfl, hsg6, hk6⟩
    have HSG6 := Lib.hid hsg6
    have HC6 := Lib.hid (And.intro (HC5.out.1.kp hk6 (Nat.le_refl _) (by omega)) (And.intro (HC5.out.2.1.kp hk6 (by omega) (by omega)) (kp_cell hk6 HC5.out.2.2 (by omega) (by omega))))
    clear y0 y1 y2 y3 x1 hsg6 hk6
    cases hm : hasN l2.length d with
    | false =>
      have HM := Lib.hid hm
      have e1 : stL 5 d t l2 n2 = l2 := by simp only [stL, stp_goto0 d t hm]
      have e2 : stN 5 d t l2 n2 = n2 := by simp only [stN, stp_goto0 d t hm]
      have e3 : stC 5 d t l2 n2 = 1 := by simp only [stC, stp_goto0 d t hm]
      have HFIN : Hid (∀ v' x', SG w S T bt (stL 5 d t l1 n1) (stN 5 d t l1 n1) v' l2 n2 x' → StepPost w S T bt (stL 5 d t l1 n1) (stN 5 d t l1 n1) (stL 5 d t l2 n2) (stN 5 d t l2 n2) (stC 5 d t l1 n1 == stC 5 d t l2 n2) (.returned (.tuple #[v', .bool (stC 5 d t l1 n1 == 1)])) x') := Lib.hid (fun v' x' h => by rw [e1, e2, e3]; exact ⟨_, rfl, h⟩)
      clear e1 e2 e3 hm
      go_wp2_with fail
      obtain ⟨y0, y1, y2, y3, yf⟩ := HC6.out.1.below (Below.refl _ _).drew
      obtain ⟨r0, r1, r2, r3, rf⟩ := HC6.out.2.1.below (Below.refl _ _).drew
      obtain ⟨p0, p1, p2, p3, pf⟩ := HC6.out.2.1
      have rf0 := rf 0
      have rf1 := rf 1
      have rf2 := rf 2
      have rf3 := rf 3
      have pf0 := pf 0
      have pf1 := pf 1
      have pf2 := pf 2
      have pf3 := pf 3
      clear yf rf pf
      go_region_law (first
        | (go_simp; go_at_call 18; refine (is_errV _ _).mono ?_; rintro e w8 ⟨rfl, rfl⟩))
      all_goals
        try go_wp2
        exact bodyPost_ret (v := .tuple #[.agg #[.slice ta l2.length tc, .slice pa l2.length pc, .slice fa l2.length fc, .int .i64 n2], .bool (stC 5 d t l1 n1 == 1)]) (by simp [results, Try.results15, go_sem, r0, r1, r2, r3, p0, p1, p2, p3]) rfl (HFIN.out _ _ ((HSG6.out.below (Below.refl _ _).drew).st4 (w.heap.size + 1 + 1) (.slice ta l2.length tc) (.slice pa l2.length pc) (.slice fa l2.length fc) n2 (by omega) (by omega)))
    | true =>
      have HM := Lib.hid hm
      have e3 : stC 5 d t l2 n2 = 0 := by simp only [stC, stp_goto d t hm]
      have HFIN : Hid (∀ v' x', SG w S T bt (stL 5 d t l1 n1) (stN 5 d t l1 n1) v' (stL 5 d t l2 n2) (stN 5 d t l2 n2) x' → StepPost w S T bt (stL 5 d t l1 n1) (stN 5 d t l1 n1) (stL 5 d t l2 n2) (stN 5 d t l2 n2) (stC 5 d t l1 n1 == stC 5 d t l2 n2) (.returned (.tuple #[v', .bool (stC 5 d t l1 n1 == 0)])) x') := Lib.hid (fun v' x' h => by rw [e3]; exact ⟨_, rfl, h⟩)
      clear e3 hm
      obtain ⟨y0, y1, y2, y3, yf⟩ := HC6.out.1
      have x1 := HC6.out.2.2
      clear yf
      go_wp2_with fail
      refine (sg_rgoto d t HSG6.out HI.out.2.1 HI.out.2.2.2.1 HM.out).mono ?_
      rintro e w7 ⟨v5, rfl, hsg7, hk7⟩
      clear y0 y1 y2 y3 x1
      have HSG7 := Lib.hid hsg7
      obtain ⟨ta5, tc5, pa5, pc5, fa5, fc5, rfl⟩ := hsg7.form
      have HC7 := Lib.hid (And.intro (HC6.out.1.kp hk7 (Nat.le_refl _) (by omega)) (HC6.out.2.1.kp hk7 (by omega) (by omega)))
      obtain ⟨y0, y1, y2, y3, yf⟩ := HC7.out.1
      have yf0 := yf 0
      have yf1 := yf 1
      have yf2 := yf 2
      have yf3 := yf 3
      clear yf hsg7 hk7
      go_upto_region 21 with fail
      obtain ⟨w8, hw8⟩ : ∃ w8, w8 = st4 w7 w.heap.size (.slice ta5 (stL 5 d t l2 n2).length tc5) (.slice pa5 (stL 5 d t l2 n2).length pc5) (.slice fa5 (stL 5 d t l2 n2).length fc5) (stN 5 d t l2 n2) := ⟨_, rfl⟩
      have HSG8 : Hid (SG w S T bt (stL 5 d t l1 n1) (stN 5 d t l1 n1) (.agg #[.slice ta5 (stL 5 d t l2 n2).length tc5, .slice pa5 (stL 5 d t l2 n2).length pc5, .slice fa5 (stL 5 d t l2 n2).length fc5, .int .i64 (stN 5 d t l2 n2)]) (stL 5 d t l2 n2) (stN 5 d t l2 n2) w8) := Lib.hid (by rw [hw8]; exact HSG7.out.st4 _ _ _ _ _ (Nat.le_refl _) (by omega))
      have HC8 : Hid (CT w8 w.heap.size (.slice ta5 (stL 5 d t l2 n2).length tc5) (.slice pa5 (stL 5 d t l2 n2).length pc5) (.slice fa5 (stL 5 d t l2 n2).length fc5) (stN 5 d t l2 n2) ∧ CT w8 (w.heap.size + 1 + 1) (.slice none 0 0) (.slice none 0 0) (.slice none 0 0) 0 ∧ True) := Lib.hid (by rw [hw8]; exact ⟨HC7.out.1.st, HC7.out.2.st' (by omega), trivial⟩)
      unfold st4 at hw8
      rw [← hw8]
      clear y0 y1 y2 y3 yf0 yf1 yf2 yf3 hw8
      obtain ⟨y0, y1, y2, y3, yf⟩ := HC8.out.1.below (Below.refl _ _).drew
      obtain ⟨r0, r1, r2, r3, rf⟩ := HC8.out.2.1.below (Below.refl _ _).drew
      obtain ⟨p0, p1, p2, p3, pf⟩ := HC8.out.2.1
      have rf0 := rf 0
      have rf1 := rf 1
      have rf2 := rf 2
      have rf3 := rf 3
      have pf0 := pf 0
      have pf1 := pf 1
      have pf2 := pf 2
      have pf3 := pf 3
      clear yf rf pf
      go_region_law (first
        | (go_simp; go_at_call 40; refine (num_errV _ _).mono ?_; rintro e w9 ⟨rfl, rfl⟩))
      all_goals
        try go_wp2
        exact bodyPost_ret (v := .tuple #[.agg #[.slice ta5 (stL 5 d t l2 n2).length tc5, .slice pa5 (stL 5 d t l2 n2).length pc5, .slice fa5 (stL 5 d t l2 n2).length fc5, .int .i64 (stN 5 d t l2 n2)], .bool (stC 5 d t l1 n1 == 0)]) (by simp [results, Try.results15, go_sem, r0, r1, r2, r3, p0, p1, p2, p3]) rfl (HFIN.out _ _ ((HSG8.out.below (Below.refl _ _).drew).st4 (w.heap.size + 1 + 1) (.slice ta5 (stL 5 d t l2 n2).length tc5) (.slice pa5 (stL 5 d t l2 n2).length pc5) (.slice fa5 (stL 5 d t l2 n2).length fc5) (stN 5 d t l2 n2) (by omega) (by omega)))

end Go.Proofs.Ytjajlnhobchkgaa
