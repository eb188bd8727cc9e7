/-
  The fixed fact ahead of every law of chapter 54: "1 - 2 - 3".
-/
import Derived.Test.YtpabngicbfcdkaaPar10
import Derived.Test.YtpabngicbfcdkaaNum
namespace Go.Proofs.Ytpabngicbfcdkaa
open Go.RowKit
set_option linter.unusedVariables false
set_option linter.unusedSimpArgs false

theorem errN_errV (k : Nat) : errN k = errV (k : Int) := by
  unfold errN errV
  by_cases h : k = 0
  · subst h; rfl
  · rw [if_neg h, if_neg (by omega)]
theorem errN_zero : errN 0 = .nilIface := rfl
theorem num_errN (k : Nat) (w : World) : Calls Try.prog 10 #[errN k] w fun e w' => e = .returned (.int .i64 (k : Int)) ∧ w = w' := by
  rw [errN_errV]; exact num_errV k w

def awTxt : List Nat := [49, 32, 45, 32, 50, 32, 45, 32, 51]
def awToks : List Tk := [((1, [], 1), 0), ((5, [45], 0), 2), ((1, [], 2), 4), ((5, [45], 0), 6), ((1, [], 3), 8)]
def awTree : Ex := callE [45] [callE [45] [.mk 1 (bs []) ((1 : Nat) : Int) [], .mk 1 (bs []) ((2 : Nat) : Int) []], .mk 1 (bs []) ((3 : Nat) : Int) []]
theorem aw_toks : toksP awTxt = some awToks := by
  unfold toksP awTxt
  rw [toks_some [] 0 (t := (1, [], 1)) (n := 1) rfl rfl]
  simp only [List.drop_succ_cons, List.drop_zero, List.nil_append]
  rw [toks_blank _ _ _ rfl, toks_some _ _ (t := (5, [45], 0)) (n := 1) rfl rfl]
  simp only [List.drop_succ_cons, List.drop_zero]
  rw [toks_blank _ _ _ rfl, toks_some _ _ (t := (1, [], 2)) (n := 1) rfl rfl]
  simp only [List.drop_succ_cons, List.drop_zero]
  rw [toks_blank _ _ _ rfl, toks_some _ _ (t := (5, [45], 0)) (n := 1) rfl rfl]
  simp only [List.drop_succ_cons, List.drop_zero]
  rw [toks_blank _ _ _ rfl, toks_some _ _ (t := (1, [], 3)) (n := 1) rfl rfl]
  simp only [List.drop_succ_cons, List.drop_zero]
  rw [toks_nil]
  rfl
set_option maxRecDepth 100000 in
theorem aw_run : runJ (.lev 1 awToks) = some (awTree, []) := by kernel_rfl
theorem aw_parse : parseP ⟨#[49, 32, 45, 32, 50, 32, 45, 32, 51]⟩ = (0, awTree) := by
  unfold parseP
  rw [if_neg (by decide), show ns ⟨#[49, 32, 45, 32, 50, 32, 45, 32, 51]⟩ = awTxt from rfl, aw_toks]
  simp only [aw_run]
  rw [if_neg (by simp [awTree, callE, Ex.depth, Ex.depths])]

set_option maxRecDepth 100000 in
set_option maxHeartbeats 1500000 in
theorem awake_any (w : World) : Calls Try.prog 9 #[] w fun e w' => e = .returned (.bool true) ∧ Below w.heap.size w w' := by
  have HP := Lib.hid (parse_any ⟨#[49, 32, 45, 32, 50, 32, 45, 32, 51]⟩ w (by decide))
  unfold ParsePost at HP
  rw [aw_parse] at HP
  go_enter Try.func9, Try.ntmps9
  go_upto_region 2 with (go_at_call 11; refine HP.out.mono ?_; rintro e w2 ⟨aa, cc, rfl, hcc, hra, hb2⟩; simp only [exV, errN_zero])
  obtain ⟨w4, hw4⟩ : ∃ w4, w4 = w2.alloc (.cells #[.int .i64 awTree.kind, .string awTree.text, .int .i64 awTree.num, .slice aa awTree.args.length cc] 38) := ⟨_, rfl⟩
  rw [← hw4]
  obtain ⟨bx, hbx⟩ : ∃ bx, bx = w2.heap.size := ⟨_, rfl⟩
  have hb4 : Below w2.heap.size w2 w4 := by rw [hw4]; exact below_alloc _ _
  have HB4 : Hid (Below w.heap.size w w4) := Lib.hid (bthen hb2 hb4)
  have z1 : w4.cell? ⟨bx, 1, none⟩ = some (.string ⟨#[45]⟩) := by rw [hw4, hbx]; simp; rfl
  have hra4 := hra.below hb4
  obtain ⟨b', o', rfl, he0⟩ := hra4.get (i := 0) (t := callE [45] [.mk 1 (bs []) ((1 : Nat) : Int) [], .mk 1 (bs []) ((2 : Nat) : Int) []]) rfl
  obtain ⟨b1, o1, hab, he1⟩ := hra4.get (i := 1) (t := .mk 1 (bs []) ((3 : Nat) : Int) []) rfl
  simp only [Option.some.injEq, Addr.mk.injEq, and_true] at hab
  obtain ⟨rfl, rfl⟩ := hab
  have z3 : w4.cell? ⟨bx, 3, none⟩ = some (.slice (some ⟨b', o', none⟩) 2 cc) := by rw [hw4, hbx]; simp; rfl
  obtain ⟨_, a0, c0, hn0, _⟩ := he0.node
  obtain ⟨_, a1, c1, hn1, _⟩ := he1.node
  have y1 : w4.cell? ⟨b', o' + 1, none⟩ = some (.string ⟨#[45]⟩) := hn0.cells.2.1
  have y2 : w4.cell? ⟨b', o' + 4 + 2, none⟩ = some (.int .i64 3) := hn1.cells.2.2.1
  have y2' : w4.cell? ⟨b', o' + 6, none⟩ = some (.int .i64 3) := y2
  rw [← hbx]
  clear hw4 hbx hb4 hb2 hra hra4 he0 he1 hn0 hn1
  go_wp2
  go_ret
  exact ⟨rfl, HB4.out⟩

end Go.Proofs.Ytpabngicbfcdkaa
