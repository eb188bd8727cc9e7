/-
  evergreenlaw54.Tree: the walk.
-/
import Derived.Test.YtpabngicbfcdkaaTr2
namespace Go.Proofs.Ytpabngicbfcdkaa
open Go.RowKit
set_option linter.unusedVariables false
set_option linter.unusedSimpArgs false

/-- what Tree returns -/
def TreeRet (good : Int → ByteArray → Int → Bool) (w : World) (e : Ending) (w' : World) : Prop :=
  ∃ (t : Ex) (a : Option Addr) (c : Nat) (ok : Bool), e = .returned (.tuple #[exV t a c, .bool ok]) ∧ t.args.length ≤ c ∧ RdA (fun b => w.heap.size ≤ b) w' t.args a ∧ (ok = true → t.size ≤ 300) ∧ t.all (goodE good) ∧ Below w.heap.size w w'

theorem fin_Tree {good : Int → ByteArray → Int → Bool} {w w2 w4 wf : World} {pb : Nat} {x' : Int} {t : Ex} {aa : Option Addr} {cc : Nat} (h2 : Below w.heap.size w w2) (hs : w.heap.size + 1 < w2.heap.size) (hpb : w.heap.size < pb) (hcc : t.args.length ≤ cc) (hra : RdA (fun b => w2.heap.size ≤ b) w4 t.args aa)
    (h3 : 0 ≤ x' → (t.size : Int) = 300 - x') (h4 : t.all (goodE good)) (hf : Fr (fun b => b = pb) w2 w4) (hfr : Fr (fun b => b = w.heap.size) w4 wf) (ok : Bool) (hok : ok = decide (0 ≤ x')) :
    TreeRet good w (.returned (.tuple #[exV t aa cc, .bool ok])) wf :=
  ⟨t, aa, cc, ok, rfl, hcc, (hra.fr hfr (fun i hi e => by omega)).mono (fun i _ hi => by omega), fun h => by
    rw [hok, decide_eq_true_eq] at h
    have := h3 h; omega, h4, (((Fr.of_below (S := fun b => w.heap.size ≤ b) h2).then hf (fun i e => .inl (by omega))).then hfr (fun i e => .inl (by omega))).below (fun i h => h) (Nat.le_refl _)⟩

set_option maxRecDepth 100000 in
set_option maxHeartbeats 3000000 in
theorem Tree_any (good : Int → ByteArray → Int → Bool) (h0 : good 0 ⟨#[]⟩ 0 = true) (ns : List Nd) (hg : ∀ x ∈ ns, good x.1 x.2.1 x.2.2.1 = true) (a : Option Addr) (n c : Nat) (w : World) (hr : RdN w (fun b => b < w.heap.size) a n ns) :
    Calls Try.prog 16 #[.slice a n c] w (TreeRet good w) := by
  obtain ⟨w1, hw1⟩ : ∃ w1, w1 = w.alloc (.cells #[.int .i64 0, .string ⟨#[]⟩, .int .i64 0, .slice none 0 0] 38) := ⟨_, rfl⟩
  obtain ⟨pb, hpb⟩ : ∃ pb, pb = w1.heap.size := ⟨_, rfl⟩
  obtain ⟨w2, hw2⟩ : ∃ w2, w2 = w1.alloc (.cells #[.int .i64 300] 3) := ⟨_, rfl⟩
  have HB1 : Hid (Below w.heap.size w w1) := Lib.hid (by rw [hw1]; exact below_alloc _ _)
  have HS1 : Hid (w1.heap.size = w.heap.size + 1) := Lib.hid (by rw [hw1]; simp)
  have HB12 : Hid (Below w1.heap.size w1 w2) := Lib.hid (by rw [hw2]; exact below_alloc _ _)
  have HB2 : Hid (Below w.heap.size w w2) := Lib.hid (bthen HB1.out HB12.out)
  have HS2 : Hid (w2.heap.size = w1.heap.size + 1) := Lib.hid (by rw [hw2]; simp)
  have HTC : Hid (EC w2 w.heap.size eE none 0) := Lib.hid ((by rw [hw1]; exact alloc_ec w eE none 0 _ : EC w1 w.heap.size eE none 0).below HB12.out)
  have hct : CtA w2 pb 300 := by rw [hw2, hpb]; exact ⟨by simp, by simp⟩
  have HPB : Hid (w.heap.size < pb) := Lib.hid (by have := HS1.out; omega)
  have HC : Hid (Calls Try.prog 27 #[.slice a n c, .int .i64 0, .pointer (some ⟨pb, 0, none⟩)] w2 (TreePost good 300 pb w2)) := Lib.hid (by
    have := tree_any good h0 ns hg 301 (fun b => b < w.heap.size) a n c 0 pb 300 w2 (hr.below HB2.out) (by have := HPB.out; omega) hct (by omega) (by omega) (by omega) (by omega)
    exact this)
  have HPB2 : Hid (pb < w2.heap.size) := Lib.hid hct.lt
  have HW1 := Lib.hid hw1
  have HW2 := Lib.hid hw2
  have HPW := Lib.hid hpb
  clear hw1 hpb hw2 hct hr
  go_enter Try.func16, Try.ntmps16
  go_upto_region 1 with fail
  rw [← HW1.out]
  go_upto_region 2 with fail
  rw [← HW2.out, ← HPW.out]
  go_upto_region 3 with (go_at_call 27; refine HC.out.mono ?_; rintro e w3 ⟨t, aa, cc, x', rfl, hcc, hra, hct, h1, h2, h3, h4, hf⟩; simp only [exV])
  obtain ⟨w4, hw4⟩ : ∃ w4, w4 = w3.alloc (.cells #[.int .i64 t.kind, .string t.text, .int .i64 t.num, .slice aa t.args.length cc] 38) := ⟨_, rfl⟩
  rw [← hw4]
  obtain ⟨be, hbe⟩ : ∃ be, be = w3.heap.size := ⟨_, rfl⟩
  rw [← hbe]
  have HB4 : Hid (Below w3.heap.size w3 w4) := Lib.hid (by rw [hw4]; exact below_alloc _ _)
  have HEC : Hid (EC w4 be t aa cc) := Lib.hid (by rw [hw4, hbe]; exact alloc_ec w3 t aa cc _)
  have HTC4 : Hid (EC w4 w.heap.size eE none 0) := Lib.hid ((HTC.out.fr hf (by have := HPB.out; omega)).below HB4.out)
  have hct4 := hct.below HB4.out
  have HF : Hid (Fr (fun b => b = pb) w2 w4) := Lib.hid (hf.trans (.of_below HB4.out))
  have n1 : ¬ (be = w.heap.size) := by have h1 := hf.size; have h2 := HPB2.out; have h3 := HPB.out; omega
  have n1' : ¬ (w.heap.size = be) := fun e => n1 e.symm
  have n2 : ¬ (pb = w.heap.size) := by have h3 := HPB.out; omega
  have n2' : ¬ (w.heap.size = pb) := fun e => n2 e.symm
  obtain ⟨x0, x1, x2, x3, xf⟩ := HEC.out
  obtain ⟨y0, y1, y2, y3, yf⟩ := HTC4.out
  obtain ⟨z0, zf⟩ := hct4
  have yf0 := yf 0
  have yf1 := yf 1
  have yf2 := yf 2
  have yf3 := yf 3
  have HFIN : Hid (∀ (wd wf : World) (ok : Bool), Below w4.heap.size w4 wd → ok = decide (0 ≤ x') → Fr (fun b => b = w.heap.size) wd wf → TreeRet good w (.returned (.tuple #[.agg #[.int .i64 t.kind, .string t.text, .int .i64 t.num, .slice aa t.args.length cc], .bool ok])) wf) := Lib.hid (fun wd wf ok hbd hok hfr => fin_Tree (w2 := w2) (w4 := wd) (pb := pb) (x' := x') (t := t) HB2.out (by have h1 := HS1.out; have h2 := HS2.out; omega) HPB.out hcc ((hra.below HB4.out).below hbd) h3 h4 (HF.out.trans (.of_below hbd)) hfr ok hok)
  clear hw4 hbe hcc hra hct h2 h3 h4 hf xf yf
  by_cases hx : 0 ≤ x'
  all_goals
    go_region_held3 (fun w' => w'.cell? ⟨be, 0, none⟩ = some (.int .i64 t.kind) ∧ w'.cell? ⟨be, 1, none⟩ = some (.string t.text) ∧ w'.cell? ⟨be, 2, none⟩ = some (.int .i64 t.num) ∧ w'.cell? ⟨be, 3, none⟩ = some (.slice aa t.args.length cc) ∧ w'.cell? ⟨pb, 0, none⟩ = some (.int .i64 x')) (go_keep) (fail)
    go_wp2
    have HX := Lib.hid hx
    exact bodyPost_ret (v := .tuple #[.agg #[.int .i64 t.kind, .string t.text, .int .i64 t.num, .slice aa t.args.length cc], .bool (decide (0 ≤ x'))]) (by simp [results, Try.results16, go_sem, y0, y1, y2, y3, hx]; try rfl) rfl (HFIN.out _ _ _ (by first | exact Below.refl _ _ | exact (Below.refl _ _).drew) rfl (fr4 _ w.heap.size (.int .i64 t.kind) (.string t.text) (.int .i64 t.num) (.slice aa t.args.length cc)).drew)

end Go.Proofs.Ytpabngicbfcdkaa
