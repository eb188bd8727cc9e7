/-
  machine.Same of two cycles: the walk.
-/
import Derived.Test.YtajajkganamfiaaMCycW
import Derived.Test.YtajajkganamfiaaMRefGo
namespace Go.Proofs.Ytajajkganamfiaa
open Go.RowKit Go.Maps
set_option linter.unusedVariables false
set_option linter.unusedSimpArgs false

theorem cf_enter {P : Program} {f : FuncId} {fn : Func} {c : Code} (hf : P.funcs[f]? = some fn) (hname : (fn.name == "runtime.NumGoroutine") = false) (hb : fn.body = some c) (args : Array Value) (w : World) : (callFunc f args).run P w = .ok (.enter f args) w := by
  have h1 : fn.name ≠ "runtime.NumGoroutine" := by simpa using hname
  simp [callFunc, hf, h1, hb]
theorem cf_same1 (args : Array Value) (w : World) : (callFunc 43 args).run Try.prog w = .ok (.enter 43 args) w := by
  obtain ⟨c, hc⟩ : ∃ c, Try.f43.body = some c := ⟨_, rfl⟩
  exact cf_enter Try.func43 (by kernel_rfl) hc args w

set_option maxRecDepth 100000 in
set_option maxHeartbeats 2000000 in
/-- slices.Equal of two rows of numbers that read the same -/
theorem eqI_same (a1 a2 : Option Addr) (n c1 c2 : Nat) (xs : List Int) (w : World) (h1 : Rd w .i64 a1 n xs) (h2 : Rd w .i64 a2 n xs) :
    Calls Try.prog 40 #[.slice a1 n c1, .slice a2 n c2] w fun e w' => e = .returned (.bool true) ∧ Below w.heap.size w w' := by
  have H1 := Lib.hid h1
  have H2 := Lib.hid h2
  have hmx := h1.max
  clear h1 h2
  go_enter Try.func40, Try.ntmps40
  go_wp2
  go_loopg [13] n (fun gg iv wr => ∃ k : Nat, k ≤ n ∧ gg = n - k ∧ iv = .int .i64 k ∧ Below w.heap.size w wr)
  case atStart => exact ⟨0, by omega, rfl, rfl, Below.refl _ _⟩
  case round =>
    obtain ⟨k, hk, rfl, rfl, hbl⟩ := hrel
    have HBL := Lib.hid hbl
    clear hbl
    by_cases hlt : k < n
    · obtain ⟨b1, o1, rfl, h1⟩ := (H1.out.below HBL.out).cell k hlt
      obtain ⟨b2, o2, rfl, h2⟩ := (H2.out.below HBL.out).cell k hlt
      have hkz : (k : Int) < (n : Int) := by omega
      generalize xs.getD k 0 = z at h1 h2
      go_wp2
      go_quiet (fail)
      go_wp2
      go_roundg (n - (k + 1))
      case measure => omega
      case rel => exact ⟨k + 1, by omega, rfl, by go_num, bdrewN HBL.out _⟩
    · have hkn : k = n := by omega
      subst hkn
      go_wp2
      go_ret
      exact ⟨rfl, HBL.out⟩

set_option maxRecDepth 100000 in
set_option maxHeartbeats 2000000 in
/-- slices.Equal of two rows of bits that read the same -/
theorem eqB_same (a1 a2 : Option Addr) (n c1 c2 : Nat) (xs : List Bool) (w : World) (h1 : RdB w a1 n xs) (h2 : RdB w a2 n xs) :
    Calls Try.prog 41 #[.slice a1 n c1, .slice a2 n c2] w fun e w' => e = .returned (.bool true) ∧ Below w.heap.size w w' := by
  have H1 := Lib.hid h1
  have H2 := Lib.hid h2
  have hmx := h1.max
  clear h1 h2
  go_enter Try.func41, Try.ntmps41
  go_wp2
  go_loopg [13] n (fun gg iv wr => ∃ k : Nat, k ≤ n ∧ gg = n - k ∧ iv = .int .i64 k ∧ Below w.heap.size w wr)
  case atStart => exact ⟨0, by omega, rfl, rfl, Below.refl _ _⟩
  case round =>
    obtain ⟨k, hk, rfl, rfl, hbl⟩ := hrel
    have HBL := Lib.hid hbl
    clear hbl
    by_cases hlt : k < n
    · obtain ⟨b1, o1, rfl, h1⟩ := (H1.out.below HBL.out).cell k hlt
      obtain ⟨b2, o2, rfl, h2⟩ := (H2.out.below HBL.out).cell k hlt
      have hkz : (k : Int) < (n : Int) := by omega
      generalize xs.getD k false = z at h1 h2
      cases z with
      | true =>
        go_wp2
        go_quiet (fail)
        go_wp2
        go_roundg (n - (k + 1))
        case measure => omega
        case rel => exact ⟨k + 1, by omega, rfl, by go_num, bdrewN HBL.out _⟩
      | false =>
        go_wp2
        go_quiet (fail)
        go_wp2
        go_roundg (n - (k + 1))
        case measure => omega
        case rel => exact ⟨k + 1, by omega, rfl, by go_num, bdrewN HBL.out _⟩
    · have hkn : k = n := by omega
      subst hkn
      go_wp2
      go_ret
      exact ⟨rfl, HBL.out⟩

set_option maxRecDepth 100000 in
/-- slices.Equal of two rows of bits that are not equally long -/
theorem eqB_lens (a1 a2 : Option Addr) (n m c1 c2 : Nat) (w : World) (h : n ≠ m) :
    Calls Try.prog 41 #[.slice a1 n c1, .slice a2 m c2] w fun e w' => e = .returned (.bool false) ∧ Below w.heap.size w w' := by
  have h2 : ((n : Int) == (m : Int)) = false := by rw [beq_eq_false_iff_ne]; omega
  have h3 : ¬ (n : Int) = (m : Int) := by omega
  go_enter Try.func41, Try.ntmps41
  go_wp2
  go_ret
  exact ⟨rfl, Below.refl _ _⟩

set_option maxRecDepth 100000 in
/-- the function literal in Same, of two rows that read the same -/
theorem same1_same (a1 a2 : Option Addr) (n c1 c2 : Nat) (xs : List Int) (w : World) (h1 : Rd w .i64 a1 n xs) (h2 : Rd w .i64 a2 n xs) :
    Calls Try.prog 43 #[.slice a1 n c1, .slice a2 n c2] w fun e w' => e = .returned (.bool true) ∧ Below w.heap.size w w' := by
  have H1 := Lib.hid h1
  have H2 := Lib.hid h2
  clear h1 h2
  go_enter Try.func43, Try.ntmps43
  go_wp2_with fail
  refine (eqI_same a1 a2 n c1 c2 xs w H1.out H2.out).mono ?_
  rintro e w2 ⟨rfl, hb⟩
  have HB := Lib.hid hb
  clear hb
  go_wp2
  go_ret
  exact ⟨rfl, HB.out⟩

set_option maxRecDepth 100000 in
set_option maxHeartbeats 2000000 in
/-- slices.EqualFunc of two lists of rows that read the same -/
theorem eqF_same (a1 a2 : Option Addr) (n c1 c2 : Nat) (ll : List (List Int)) (w : World) (h1 : RdRows w .i64 a1 n ll) (h2 : RdRows w .i64 a2 n ll) :
    Calls Try.prog 42 #[.slice a1 n c1, .slice a2 n c2, .func (.func 43) #[] #[]] w fun e w' => e = .returned (.bool true) ∧ Below w.heap.size w w' := by
  have H1 := Lib.hid h1
  have H2 := Lib.hid h2
  have hmx := h1.max
  have hcf := cf_same1
  clear h1 h2
  go_enter Try.func42, Try.ntmps42
  go_wp2
  go_loopg [17] n (fun gg iv wr => ∃ k : Nat, k ≤ n ∧ gg = n - k ∧ iv = .int .i64 k ∧ Below w.heap.size w wr)
  case atStart => exact ⟨0, by omega, rfl, rfl, Below.refl _ _⟩
  case round =>
    obtain ⟨k, hk, rfl, rfl, hbl⟩ := hrel
    have HBL := Lib.hid hbl
    clear hbl
    by_cases hlt : k < n
    · obtain ⟨b1, o1, e1, m1, d1, rfl, h1, hr1, _⟩ := (H1.out.below HBL.out).cell k hlt
      obtain ⟨b2, o2, e2, m2, d2, rfl, h2, hr2, _⟩ := (H2.out.below HBL.out).cell k hlt
      have hn12 : m2 = m1 := by rw [← hr1.len, ← hr2.len]
      subst hn12
      have HR1 := Lib.hid hr1
      have HR2 := Lib.hid hr2
      have hkz : (k : Int) < (n : Int) := by omega
      clear hr1 hr2
      go_wp2_with fail
      refine (same1_same e1 e2 m2 d1 d2 _ wr HR1.out HR2.out).mono ?_
      rintro e w2 ⟨rfl, hb⟩
      have HB := Lib.hid hb
      clear hb
      go_wp2
      go_roundg (n - (k + 1))
      case measure => omega
      case rel => exact ⟨k + 1, by omega, rfl, by go_num, bthen HBL.out HB.out⟩
    · have hkn : k = n := by omega
      subst hkn
      go_wp2
      go_ret
      exact ⟨rfl, HBL.out⟩

/-- a machine's value that reads as Cycle(n), no older block changed -/
def CycV (n : Nat) (w : World) (m : Value) (w' : World) : Prop :=
  ∃ ac cc an cn aa ca, m = .agg #[.int .i64 0, .slice ac 256 cc, .slice an n cn, .slice aa n ca] ∧ Below w.heap.size w w' ∧ RdM w' ac 256 an n aa n cycC (cycN n) (cycA n)

/-- minimize of a cycle -/
theorem mini_cyc (n : Nat) (h0 : 0 < n) (h9 : n ≤ 256) (ac : Option Addr) (cc : Nat) (an : Option Addr) (cn : Nat) (aa : Option Addr) (ca : Nat) (w : World)
    (hm : RdM w ac 256 an n aa n cycC (cycN n) (cycA n)) :
    Calls Try.prog 33 #[.agg #[.int .i64 0, .slice ac 256 cc, .slice an n cn, .slice aa n ca]] w fun e w' =>
      ∃ ac cc an cn aa ca, e = .returned (.agg #[.int .i64 0, .slice ac 256 cc, .slice an n cn, .slice aa n ca]) ∧ Below w.heap.size w w' ∧ ∀ wg, Fr (fun x => x < w.heap.size) w' wg → RdM wg ac 256 an n aa n cycC (cycN n) (cycA n) := by
  refine (minimize_any 0 ac 256 cc an n cn aa n ca cycC (cycN n) (cycA n) w hm (cyc_valid h0 h9)).mono ?_
  intro e w' h
  obtain ⟨b, first, states, fs, clsv, cols, ord, W, R, accs, ac', cc', an', cn', aa', ca', hf, rfl, hr, hb⟩ := h.f (cyc_valid h0 h9)
  obtain ⟨e1, e2, e3, e4⟩ := cyc_canon h0 hf
  refine ⟨ac', cc', an', cn', aa', ca', by rw [e4], hb, fun wg hg => ?_⟩
  have h2 := hr wg hg
  rw [e1, e2, e3, e4] at h2
  exact h2

/-- Minimize of a cycle -/
theorem mincyc_any (n : Nat) (h0 : 0 < n) (h9 : n ≤ 256) (ac : Option Addr) (cc : Nat) (an : Option Addr) (cn : Nat) (aa : Option Addr) (ca : Nat) (w : World)
    (hm : RdM w ac 256 an n aa n cycC (cycN n) (cycA n)) :
    Calls Try.prog 19 #[.agg #[.int .i64 0, .slice ac 256 cc, .slice an n cn, .slice aa n ca]] w fun e w' =>
      ∃ ac cc an cn aa ca, e = .returned (.tuple #[.agg #[.int .i64 0, .slice ac 256 cc, .slice an n cn, .slice aa n ca], .nilIface]) ∧ Below w.heap.size w w' ∧ RdM w' ac 256 an n aa n cycC (cycN n) (cycA n) := by
  have hk : mcode 0 cycC (cycN n) (cycA n) = 0 := code_of_valid (cyc_valid h0 h9)
  refine (minimizeF_any 0 ac 256 cc an n cn aa n ca cycC (cycN n) (cycA n) w hm).mono ?_
  rintro e w' ⟨a1, n1, c1, a2, n2, c2, a3, n3, c3, rfl, hb, h⟩
  have h := h 0 rfl hk
  obtain ⟨b, first, states, fs, clsv, cols, ord, W, R, accs, ac', cc', an', cn', aa', ca', hf, he, hr, hb⟩ := h.f (cyc_valid h0 h9)
  obtain ⟨e1, e2, e3, e4⟩ := cyc_canon h0 hf
  have h2 := hr w' (Fr.refl _ _)
  rw [e1, e2, e3, e4] at h2
  rw [e4] at he
  refine ⟨ac', cc', an', cn', aa', ca', ?_, hb, h2⟩
  rw [hk]
  rw [Ending.returned.injEq] at he
  rw [he]
  rfl

set_option maxRecDepth 100000 in
set_option maxHeartbeats 2000000 in
/-- Same of two cycles -/
theorem same_cyc (ni nk : Nat) (hi0 : 0 < ni) (hi9 : ni ≤ 256) (hk0 : 0 < nk) (hk9 : nk ≤ 256) (ac ac2 : Option Addr) (cc cc2 : Nat) (an an2 : Option Addr) (cn cn2 : Nat) (aa aa2 : Option Addr) (ca ca2 : Nat) (w : World)
    (hm : RdM w ac 256 an ni aa ni cycC (cycN ni) (cycA ni)) (hm2 : RdM w ac2 256 an2 nk aa2 nk cycC (cycN nk) (cycA nk)) :
    Calls Try.prog 27 #[.agg #[.int .i64 0, .slice ac 256 cc, .slice an ni cn, .slice aa ni ca], .agg #[.int .i64 0, .slice ac2 256 cc2, .slice an2 nk cn2, .slice aa2 nk ca2]] w fun e w' => e = .returned (.tuple #[.bool (decide (ni = nk)), .nilIface]) ∧ Below w.heap.size w w' := by
  obtain ⟨w1, hw1⟩ : ∃ w1, w1 = (w.alloc (.cells #[.int .i64 0, .slice ac 256 cc, .slice an ni cn, .slice aa ni ca] 26)).alloc (.cells #[.int .i64 0, .slice ac2 256 cc2, .slice an2 nk cn2, .slice aa2 nk ca2] 26) := ⟨_, rfl⟩
  have HB := Lib.hid (show Below w.heap.size w w1 by rw [hw1]; exact (below_alloc _ _).alloc (by simp) _)
  have HM := Lib.hid (hm.below HB.out)
  have HM2 := Lib.hid (hm2.below HB.out)
  have hx0 : w1.cell? ⟨w.heap.size, 0, none⟩ = some (.int .i64 0) := by rw [hw1]; simp
  have hx1 : w1.cell? ⟨w.heap.size, 1, none⟩ = some (.slice ac 256 cc) := by rw [hw1]; simp
  have hx2 : w1.cell? ⟨w.heap.size, 2, none⟩ = some (.slice an ni cn) := by rw [hw1]; simp
  have hx3 : w1.cell? ⟨w.heap.size, 3, none⟩ = some (.slice aa ni ca) := by rw [hw1]; simp
  have hy0 : w1.cell? ⟨w.heap.size + 1, 0, none⟩ = some (.int .i64 0) := by rw [hw1]; simp
  have hy1 : w1.cell? ⟨w.heap.size + 1, 1, none⟩ = some (.slice ac2 256 cc2) := by rw [hw1]; simp
  have hy2 : w1.cell? ⟨w.heap.size + 1, 2, none⟩ = some (.slice an2 nk cn2) := by rw [hw1]; simp
  have hy3 : w1.cell? ⟨w.heap.size + 1, 3, none⟩ = some (.slice aa2 nk ca2) := by rw [hw1]; simp
  have HY := Lib.hid (And.intro hy0 (And.intro hy1 (And.intro hy2 hy3)))
  have HW1 := Lib.hid hw1
  have HMI := Lib.hid (mincyc_any ni hi0 hi9)
  have HMK := Lib.hid (mincyc_any nk hk0 hk9)
  have hnn : ∀ w, (binOp .neq 30 .nilIface .nilIface).run Try.prog w = .ok (.bool false) w := fun w => by kernel_rfl
  clear hm hm2 hw1 hy0 hy1 hy2 hy3 hi0 hi9 hk0 hk9
  go_enter Try.func27, Try.ntmps27
  go_upto_region 1 with fail
  rw [← HW1.out]
  go_wp2_with fail
  refine (HMI.out _ _ _ _ _ _ w1 HM.out).mono ?_
  rintro e w2 ⟨ac3, cc3, an3, cn3, aa3, ca3, rfl, hb2, hm3⟩
  have HB2 := Lib.hid hb2
  have HM3 := Lib.hid hm3
  clear hx0 hx1 hx2 hx3 hb2 hm3
  go_upto_region 2 with fail
  obtain ⟨w3, hw3⟩ : ∃ w3, w3 = w2.alloc (.cells #[.int .i64 0, .slice ac3 256 cc3, .slice an3 ni cn3, .slice aa3 ni ca3] 26) := ⟨_, rfl⟩
  have HB3 := Lib.hid (show Below w1.heap.size w1 w3 by rw [hw3]; exact bthen HB2.out (below_alloc _ _))
  have HM3' := Lib.hid (show RdM w3 ac3 256 an3 ni aa3 ni cycC (cycN ni) (cycA ni) by rw [hw3]; exact HM3.out.below (below_alloc _ _))
  obtain ⟨g3, hg3⟩ : ∃ g3, g3 = w2.heap.size := ⟨_, rfl⟩
  have HX3 := Lib.hid (show w3.cell? ⟨g3, 1, none⟩ = some (.slice ac3 256 cc3) ∧ w3.cell? ⟨g3, 2, none⟩ = some (.slice an3 ni cn3) ∧ w3.cell? ⟨g3, 3, none⟩ = some (.slice aa3 ni ca3) by rw [hw3, hg3]; simp)
  rw [← hw3, ← hg3]
  clear hw3 hg3
  have hy0 := below_cell HB3.out HY.out.1
  have hy1 := below_cell HB3.out HY.out.2.1
  have hy2 := below_cell HB3.out HY.out.2.2.1
  have hy3 := below_cell HB3.out HY.out.2.2.2
  go_wp2_with fail
  refine (HMK.out _ _ _ _ _ _ w3 (HM2.out.below HB3.out)).mono ?_
  rintro e w4 ⟨ac4, cc4, an4, cn4, aa4, ca4, rfl, hb4, hm4⟩
  have HB4 := Lib.hid hb4
  have HM4 := Lib.hid hm4
  clear hy0 hy1 hy2 hy3 hb4 hm4
  go_upto_region 5 with fail
  obtain ⟨w5, hw5⟩ : ∃ w5, w5 = w4.alloc (.cells #[.int .i64 0, .slice ac4 256 cc4, .slice an4 nk cn4, .slice aa4 nk ca4] 26) := ⟨_, rfl⟩
  have HB5 := Lib.hid (show Below w3.heap.size w3 w5 by rw [hw5]; exact bthen HB4.out (below_alloc _ _))
  have HM4' := Lib.hid (show RdM w5 ac4 256 an4 nk aa4 nk cycC (cycN nk) (cycA nk) by rw [hw5]; exact HM4.out.below (below_alloc _ _))
  have HM5' := Lib.hid (HM3'.out.below HB5.out)
  obtain ⟨g5, hg5⟩ : ∃ g5, g5 = w4.heap.size := ⟨_, rfl⟩
  have HX5 := Lib.hid (show w5.cell? ⟨g5, 1, none⟩ = some (.slice ac4 256 cc4) ∧ w5.cell? ⟨g5, 2, none⟩ = some (.slice an4 nk cn4) ∧ w5.cell? ⟨g5, 3, none⟩ = some (.slice aa4 nk ca4) by rw [hw5, hg5]; simp)
  rw [← hw5, ← hg5]
  clear hw5 hg5
  have HX5' := Lib.hid (And.intro (below_cell HB5.out HX3.out.1) (And.intro (below_cell HB5.out HX3.out.2.1) (below_cell HB5.out HX3.out.2.2)))
  have HB05 := Lib.hid (HB.out.trans (bthen HB3.out HB5.out |>.mono HB.out.size))
  obtain ⟨x1, x2, x3⟩ := HX5'.out
  obtain ⟨y1, y2, y3⟩ := HX5.out
  go_wp2_with fail
  refine (eqI_same _ _ 256 _ _ cycC w5 HM5'.out.c HM4'.out.c).mono ?_
  rintro e w6 ⟨rfl, hb6⟩
  have HB6 := Lib.hid hb6
  clear x1 x2 x3 y1 y2 y3 hb6
  have x2 := below_cell HB6.out HX5'.out.2.1
  have x3 := below_cell HB6.out HX5'.out.2.2
  have y2 := below_cell HB6.out HX5.out.2.1
  have y3 := below_cell HB6.out HX5.out.2.2
  by_cases hik : ni = nk
  · subst hik
    go_wp2_with fail
    refine (eqB_same _ _ ni _ _ (cycA ni) w6 (HM5'.out.below HB6.out).a (HM4'.out.below HB6.out).a).mono ?_
    rintro e w7 ⟨rfl, hb7⟩
    have HB7 := Lib.hid hb7
    clear x2 x3 y2 y3 hb7
    have x2 := below_cell (bthen HB6.out HB7.out) HX5'.out.2.1
    have y2 := below_cell (bthen HB6.out HB7.out) HX5.out.2.1
    go_wp2_with fail
    refine (eqF_same _ _ ni _ _ (cycN ni) w7 (HM5'.out.below (bthen HB6.out HB7.out)).n (HM4'.out.below (bthen HB6.out HB7.out)).n).mono ?_
    rintro e w8 ⟨rfl, hb8⟩
    have HB8 := Lib.hid hb8
    clear x2 y2 hb8
    go_wp2
    exact bodyPost_ret (v := .tuple #[.bool true, .nilIface]) (by simp [results, Try.results27, go_sem]) rfl ⟨by simp, bthen HB05.out (bthen (bthen HB6.out HB7.out) HB8.out)⟩
  · have HIK := Lib.hid hik
    clear hik
    go_wp2_with fail
    refine (eqB_lens _ _ ni nk _ _ w6 HIK.out).mono ?_
    rintro e w7 ⟨rfl, hb7⟩
    have HB7 := Lib.hid hb7
    clear x2 x3 y2 y3 hb7
    go_wp2
    exact bodyPost_ret (v := .tuple #[.bool false, .nilIface]) (by simp [results, Try.results27, go_sem]) rfl ⟨by rw [decide_eq_false HIK.out], bthen HB05.out (bthen HB6.out HB7.out)⟩

end Go.Proofs.Ytajajkganamfiaa
