/-
  Joined texts: End and Hits of the table. · slices.Clone of numbers and of bools; transfer.clone. · transfer.clone: a machine copied. · transfer.New: the table of a literal machine.
-/
import Derived.Test.YtflgmodofemifaaWC13

/- End and Hits of the table. -/
namespace Go.Proofs.Ytflgmodofemifaa
open Go.RowKit Go.Maps
set_option linter.unusedVariables false
set_option linter.unusedSimpArgs false

/-- the table behind a question -/
def AskPost (m : Mc) (acc : List Bool) (B bs most : Nat) (L : List En) (x : Tb) (tb : Nat) (v : Value) (w : World) (e : Ending) (w' : World) : Prop :=
  e = .returned (.tuple #[v, .nilIface]) ∧ ∃ nk K, TB m acc B bs most L x w' tb nk K ∧ Fr (fun b => b = x.bk) w w'

set_option maxRecDepth 100000 in
set_option maxHeartbeats 2000000 in
theorem end_any {m acc B bs most L x w tb nk K} (h : TB m acc B bs most L x w tb nk K) (hv : Valid 0 m.cls m.next acc) (id q : Nat) (h0 : 0 < id) (hid : id ≤ L.length) (hq : q < m.next.length) (hsh : 8 * (tx L id).length ≤ ML) :
    Calls Try.prog 12 #[.pointer (some ⟨tb, 0, none⟩), .int .i64 (id : Nat), .int .i64 (q : Nat)] w (AskPost m acc B bs most L x tb (.int .i64 (m.st q (tx L id) : Nat)) w) := by
  have HE := Lib.hid (effect_any h hv id q h0 hid hq hsh)
  have hne : ∀ w, (binOp .neq 34 .nilIface .nilIface).run Try.prog w = .ok (.bool false) w := fun w => by kernel_rfl
  have hid0 : ((id : Int) == 0) = false := by simp; omega
  have hst : m.st q (tx L id) < 256 := by have h1 := h.ok.st_lt (tx L id) q hq (tx_bts h.si.good _ id (Nat.le_refl _) h0 hid); have h2 := h.ok.n9; omega
  obtain ⟨z, hz⟩ : ∃ z, z = m.st q (tx L id) := ⟨_, rfl⟩
  obtain ⟨n, hn⟩ : ∃ n, n = m.next.length := ⟨_, rfl⟩
  have HN := Lib.hid hn
  have hqn : (q : Int) < (n : Int) := by omega
  have HQ := Lib.hid hq
  have hzw : IntKind.i64.wrap (z : Int) = (z : Int) := IntWalk.i64_in _ (by omega)
  have HZ := Lib.hid hz
  rw [← hz]
  clear h hv h0 hid hq hn hst hz hsh
  go_enter Try.func12, Try.ntmps12
  go_wp2_with fail
  refine HE.out.mono ?_
  rintro e w2 ⟨ae, ce, ah, ch, nk', K', rfl, hef, ht, hf⟩
  obtain ⟨b1, o1, rfl, c1⟩ := hef.e.cell q HQ.out
  rw [m.endL_get _ HQ.out, ← HZ.out] at c1
  rw [← HN.out]
  have HT := Lib.hid ht
  have HF := Lib.hid hf
  have c1' := fun o => below_cell (below_alloc w2 o) c1
  clear hef ht hf c1
  go_wp2
  go_ret2
  exact ⟨rfl, nk', K', HT.out.below (below_alloc _ _), HF.out.alloc _⟩

set_option maxRecDepth 100000 in
set_option maxHeartbeats 2000000 in
theorem hits_any' {m acc B bs most L x w tb nk K} (h : TB m acc B bs most L x w tb nk K) (hv : Valid 0 m.cls m.next acc) (id q : Nat) (h0 : 0 < id) (hid : id ≤ L.length) (hq : q < m.next.length) (hsh : 8 * (tx L id).length ≤ ML) :
    Calls Try.prog 13 #[.pointer (some ⟨tb, 0, none⟩), .int .i64 (id : Nat), .int .i64 (q : Nat)] w (AskPost m acc B bs most L x tb (.int .i64 (m.hs q (tx L id) : Nat)) w) := by
  have HE := Lib.hid (effect_any h hv id q h0 hid hq hsh)
  have hne : ∀ w, (binOp .neq 34 .nilIface .nilIface).run Try.prog w = .ok (.bool false) w := fun w => by kernel_rfl
  have hid0 : ((id : Int) == 0) = false := by simp; omega
  have hst := h.ok.hs_le (tx L id) q
  rw [ML_val] at hsh
  obtain ⟨z, hz⟩ : ∃ z, z = m.hs q (tx L id) := ⟨_, rfl⟩
  obtain ⟨n, hn⟩ : ∃ n, n = m.next.length := ⟨_, rfl⟩
  have HN := Lib.hid hn
  have hqn : (q : Int) < (n : Int) := by omega
  have HQ := Lib.hid hq
  have hzb : decide ((1152921504606846976 : Int) < (z : Int)) = false := by rw [decide_eq_false_iff_not]; omega
  have HZ := Lib.hid hz
  rw [← hz]
  clear h hv h0 hid hq hn hst hz hsh
  go_enter Try.func13, Try.ntmps13
  go_wp2_with fail
  refine HE.out.mono ?_
  rintro e w2 ⟨ae, ce, ah, ch, nk', K', rfl, hef, ht, hf⟩
  obtain ⟨b1, o1, rfl, c1⟩ := hef.h.cell q HQ.out
  rw [m.hitL_get _ HQ.out, ← HZ.out] at c1
  rw [← HN.out]
  have HT := Lib.hid ht
  have HF := Lib.hid hf
  have c1' := fun o => below_cell (below_alloc w2 o) c1
  clear hef ht hf c1
  go_wp2
  go_ret2
  exact ⟨rfl, nk', K', HT.out.below (below_alloc _ _), HF.out.alloc _⟩

end Go.Proofs.Ytflgmodofemifaa

/- slices.Clone of numbers and of bools; transfer.clone. -/
namespace Go.Proofs.Ytflgmodofemifaa
open Go.RowKit Go.Maps
set_option linter.unusedVariables false
set_option linter.unusedSimpArgs false

theorem Rd.none0 {w k n l} (h : Rd w k none n l) : n = 0 := by
  rcases Nat.eq_zero_or_pos n with e | e
  · exact e
  · obtain ⟨b, off, ha, _⟩ := h.cell 0 e; cases ha
theorem RdB.none0 {w n l} (h : RdB w none n l) : n = 0 := by
  rcases Nat.eq_zero_or_pos n with e | e
  · exact e
  · obtain ⟨b, off, ha, _⟩ := h.cell 0 e; cases ha
theorem Rd.cells {w : World} {k : IntKind} {a : Option Addr} {n : Nat} {l : List Int} (h : Rd w k a n l) : RdG w 1 a n (l.map (Value.int k)) :=
  ⟨by simp [h.len], fun j u hu => by
    simp only [List.getElem?_map] at hu
    cases hl : l[j]? with
    | none => rw [hl] at hu; cases hu
    | some z =>
      rw [hl] at hu
      cases hu
      have hj := (List.getElem?_eq_some_iff.1 hl).1
      obtain ⟨b, off, ha, hc⟩ := h.cell j (by rw [← h.len]; exact hj)
      exact ⟨b, off, ha, by rw [hc]; simp [List.getD, hl]⟩⟩
theorem RdB.cells {w : World} {a : Option Addr} {n : Nat} {l : List Bool} (h : RdB w a n l) : RdG w 1 a n (l.map Value.bool) :=
  ⟨by simp [h.len], fun j u hu => by
    simp only [List.getElem?_map] at hu
    cases hl : l[j]? with
    | none => rw [hl] at hu; cases hu
    | some z =>
      rw [hl] at hu
      cases hu
      have hj := (List.getElem?_eq_some_iff.1 hl).1
      obtain ⟨b, off, ha, hc⟩ := h.cell j (by rw [← h.len]; exact hj)
      exact ⟨b, off, ha, by rw [hc]; simp [List.getD, hl]⟩⟩
theorem RdG.rd {w : World} {k : IntKind} {a : Option Addr} {n : Nat} {l : List Int} (h : RdG w 1 a n (l.map (Value.int k))) (hm : n ≤ 9223372036854775807) (hw : ∀ x ∈ l, (Lit.int k x).wf = true) : Rd w k a n l := by
  have hl : l.length = n := by have := h.len; simpa using this
  refine ⟨hl, hm, fun i hi => ?_, hw⟩
  obtain ⟨b, off, ha, hc⟩ := h.cell i (.int k (l.getD i 0)) (by simp [List.getD, hl, hi])
  exact ⟨b, off, ha, hc⟩
theorem RdG.rdB {w : World} {a : Option Addr} {n : Nat} {l : List Bool} (h : RdG w 1 a n (l.map Value.bool)) (hm : n ≤ 9223372036854775807) : RdB w a n l := by
  have hl : l.length = n := by have := h.len; simpa using this
  refine ⟨hl, hm, fun i hi => ?_⟩
  obtain ⟨b, off, ha, hc⟩ := h.cell i (.bool (l.getD i false)) (by simp [List.getD, hl, hi])
  exact ⟨b, off, ha, hc⟩

def ClonePost (R : World → Option Addr → Prop) (n : Nat) (w : World) (e : Ending) (w' : World) : Prop :=
  ∃ a' c', e = .returned (.slice a' n c') ∧ R w' a' ∧ n ≤ c' ∧ Below w.heap.size w w' ∧ (∀ x, a' = some x → w.heap.size ≤ x.block)

theorem eqNilI1 (n c : Nat) (w : World) : (binOp .eql 28 (.slice none n c) (.slice none 0 0)).run Try.prog w = .ok (.bool true) w := by kernel_rfl
theorem eqNilI2 (a : Addr) (n c : Nat) (w : World) : (binOp .eql 28 (.slice (some a) n c) (.slice none 0 0)).run Try.prog w = .ok (.bool false) w := by kernel_rfl
set_option maxRecDepth 100000 in
theorem cloneI_any (w : World) (a : Option Addr) (n c : Nat) (l : List Int) (hr : Rd w .i64 a n l) (hn : n ≤ 65536) :
    Calls Try.prog 29 #[.slice a n c] w (ClonePost (fun w' a' => Rd w' .i64 a' n l) n w) := by
  cases a with
  | none =>
    have hn0 := hr.none0
    have hq := eqNilI1 0 c
    have HR := Lib.hid hr
    subst hn0
    clear hr hn
    go_enter Try.func29, Try.ntmps29
    go_wp2
    go_ret
    exact ⟨none, 0, rfl, HR.out, Nat.le_refl _, Below.refl _ _, fun x hx => by cases hx⟩
  | some a =>
    have HR := Lib.hid (hr.below (below_alloc w (.cells #[] 3))).cells
    have HW := Lib.hid (And.intro hr.max hr.wf)
    have HN := Lib.hid hn
    have hq := eqNilI2 a n c
    clear hr hn
    go_enter Try.func29, Try.ntmps29
    go_wp2_with (at_builtin; refine app_row_at _ _ EI64G rfl rfl w.heap.size (.slice (some ⟨w.heap.size, 0, none⟩) 0 0) 0 [] rfl (World.ownsRow_lit w #[] 0 (Nat.le_refl _) (by decide) rfl) (some a) n c _ rfl HR.out (by simp [Value.oneCell']) (by have := HN.out; omega) (by decide) (by simp) ?_; intro a7 c7 w7 hr7 hg7 hat7; simp only [Nat.zero_add, List.nil_append] at hr7; have HR7 := Lib.hid hr7; have HB7 := Lib.hid ((below_alloc w (.cells #[] 3)).grown hg7 (by simp) (fun x hx => by cases hx; exact Nat.le_refl _)); clear hr7 hg7 hat7)
    go_ret
    refine ⟨a7, c7, rfl, (Row.rdG HR7.out).rd HW.out.1 HW.out.2, Row.cap HR7.out, HB7.out, fun x hx => ?_⟩
    exact (Row.block_lt HR7.out (g := x.block) (by rw [hx]; rfl)).2

theorem eqNilB1 (n c : Nat) (w : World) : (binOp .eql 30 (.slice none n c) (.slice none 0 0)).run Try.prog w = .ok (.bool true) w := by kernel_rfl
theorem eqNilB2 (a : Addr) (n c : Nat) (w : World) : (binOp .eql 30 (.slice (some a) n c) (.slice none 0 0)).run Try.prog w = .ok (.bool false) w := by kernel_rfl
set_option maxRecDepth 100000 in
theorem cloneB_any (w : World) (a : Option Addr) (n c : Nat) (l : List Bool) (hr : RdB w a n l) (hn : n ≤ 65536) :
    Calls Try.prog 44 #[.slice a n c] w (ClonePost (fun w' a' => RdB w' a' n l) n w) := by
  cases a with
  | none =>
    have hn0 := hr.none0
    have hq := eqNilB1 0 c
    have HR := Lib.hid hr
    subst hn0
    clear hr hn
    go_enter Try.func44, Try.ntmps44
    go_wp2
    go_ret
    exact ⟨none, 0, rfl, HR.out, Nat.le_refl _, Below.refl _ _, fun x hx => by cases hx⟩
  | some a =>
    have HR := Lib.hid (hr.below (below_alloc w (.cells #[] 4))).cells
    have HW := Lib.hid hr.max
    have HN := Lib.hid hn
    have HO := Lib.hid (show ∀ u ∈ l.map Value.bool, u.oneCell' = true from fun u hu => by obtain ⟨x, _, rfl⟩ := List.mem_map.1 hu; rfl)
    have hq := eqNilB2 a n c
    clear hr hn
    go_enter Try.func44, Try.ntmps44
    go_wp2_with (at_builtin; refine app_row_at _ _ EBG rfl rfl w.heap.size (.slice (some ⟨w.heap.size, 0, none⟩) 0 0) 0 [] rfl (World.ownsRow_lit w #[] 0 (Nat.le_refl _) (by decide) rfl) (some a) n c _ rfl HR.out HO.out (by have := HN.out; omega) (by decide) (by simp) ?_; intro a7 c7 w7 hr7 hg7 hat7; simp only [Nat.zero_add, List.nil_append] at hr7; have HR7 := Lib.hid hr7; have HB7 := Lib.hid ((below_alloc w (.cells #[] 4)).grown hg7 (by simp) (fun x hx => by cases hx; exact Nat.le_refl _)); clear hr7 hg7 hat7)
    go_ret
    refine ⟨a7, c7, rfl, (Row.rdG HR7.out).rdB HW.out, Row.cap HR7.out, HB7.out, fun x hx => ?_⟩
    exact (Row.block_lt HR7.out (g := x.block) (by rw [hx]; rfl)).2

end Go.Proofs.Ytflgmodofemifaa

/- transfer.clone: a machine copied. -/
namespace Go.Proofs.Ytflgmodofemifaa
open Go.RowKit Go.Maps
set_option linter.unusedVariables false
set_option linter.unusedSimpArgs false

/-- the first i rows have been copied -/
def CN (next : List (List Int)) (w : World) (g : Nat) (xs : List Value) (i : Nat) : Prop :=
  ∀ j, j < i → ∃ aj cj, xs[j]? = some (.slice aj (next.getD j []).length cj) ∧ Rd w .i64 aj (next.getD j []).length (next.getD j []) ∧ (next.getD j []).length ≤ cj ∧ (∀ z, aj = some z → g < z.block)
theorem CN.below {next w w' g xs i} (h : CN next w g xs i) (hb : Below w.heap.size w w') : CN next w' g xs i := fun j hj => by
  obtain ⟨aj, cj, h1, h2, h3, h4⟩ := h j hj
  exact ⟨aj, cj, h1, h2.below hb, h3, h4⟩
theorem CN.frS {next w w' g xs i} {S : Nat → Prop} (h : CN next w g xs i) (hf : Fr S w w') (hS : ∀ b, S b → b = g) : CN next w' g xs i := fun j hj => by
  obtain ⟨aj, cj, h1, h2, h3, h4⟩ := h j hj
  exact ⟨aj, cj, h1, h2.frS' hf (fun z hz hs => by have h5 := h4 z hz; have h6 := hS _ hs; omega), h3, h4⟩
theorem CN.set {next w g xs i} (h : CN next w g xs i) (hi : i < xs.length) {a c} (hr : Rd w .i64 a (next.getD i []).length (next.getD i [])) (hc : (next.getD i []).length ≤ c) (hg : ∀ z, a = some z → g < z.block) : CN next w g (xs.set i (.slice a (next.getD i []).length c)) (i + 1) := fun j hj => by
  by_cases e : j = i
  · subst e
    exact ⟨a, c, by rw [List.getElem?_set_self hi], hr, hc, hg⟩
  · obtain ⟨aj, cj, h1, h2, h3, h4⟩ := h j (by omega)
    exact ⟨aj, cj, by rw [List.getElem?_set_ne (Ne.symm e)]; exact h1, h2, h3, h4⟩

def MclPost (n : Nat) (cls : List Int) (next : List (List Int)) (acc : List Bool) (w : World) (e : Ending) (w' : World) : Prop :=
  ∃ ac cc an cn aa ca, e = .returned (.agg #[.int .i64 0, .slice ac 256 cc, .slice an n cn, .slice aa n ca]) ∧ RdM w' ac 256 an n aa n cls next acc ∧ Below w.heap.size w w'

set_option maxRecDepth 100000 in
set_option maxHeartbeats 2000000 in
theorem mclone_any (w : World) (ac an aa : Option Addr) (cc cn ca n : Nat) (cls : List Int) (next : List (List Int)) (acc : List Bool) (h : RdM w ac 256 an n aa n cls next acc) (hv : Valid 0 cls next acc) :
    Calls Try.prog 28 #[.agg #[.int .i64 0, .slice ac 256 cc, .slice an n cn, .slice aa n ca]] w (MclPost n cls next acc w) := by
  obtain ⟨w1, hw1⟩ : ∃ w1, w1 = (w.alloc (.cells [.int .i64 0, .slice ac 256 cc, .slice an n cn, .slice aa n ca].toArray 32)).alloc (.cells [.int .i64 0, .slice none 0 0, .slice none 0 0, .slice none 0 0].toArray 32) := ⟨_, rfl⟩
  have HB := Lib.hid (show Below w.heap.size w w1 by rw [hw1]; exact (below_alloc _ _).alloc (by simp) _)
  have HX := Lib.hid (show BX w1 w.heap.size [.int .i64 0, .slice ac 256 cc, .slice an n cn, .slice aa n ca] by rw [hw1]; exact BX.alloc2 _ _ _ _)
  have HZ := Lib.hid (show BX w1 (w.heap.size + 1) [.int .i64 0, .slice none 0 0, .slice none 0 0, .slice none 0 0] by rw [hw1]; exact BX.allocAt (by simp) _ _)
  have HS1 : Hid (w1.heap.size = w.heap.size + 2) := Lib.hid (by rw [hw1]; simp)
  have HM := Lib.hid (h.below HB.out)
  have HV := Lib.hid hv
  have HLN := Lib.hid h.n.len
  have hn9 : n ≤ 256 := by have h1 := hv.n1; have h2 := h.n.len; omega
  have HN9 := Lib.hid hn9
  have hnm : n ≤ 9223372036854775807 := by omega
  have HW1 := Lib.hid hw1
  have c2 := HX.out.cell (j := 2) rfl
  have HRF0 := Lib.hid (RF.nil (B := w1.heap.size) (N := fun b => b = w.heap.size ∨ b = w.heap.size + 1) (w := w1) (fun b hb => by have := HS1.out; omega) (Nat.le_refl _))
  clear h hv hw1 hn9
  go_enter Try.func28, Try.ntmps28
  go_upto_region 1 with fail
  rw [← HW1.out]
  go_upto_region 2 with (refine RF.make HRF0.out ESI rfl rfl (.tmp 8) (.tmp 8) rfl .i64 .i64 (n : Int) (n : Int) n rfl rfl rfl rfl (by have := HN9.out; omega) (by have := HN9.out; omega) ?_; intro w2 hrf2 hb2 hlt2; have HRF2 := Lib.hid hrf2; have HB2 := Lib.hid hb2; clear hrf2 hb2 hlt2)
  have c2' := (HX.out.below HB2.out).cell (j := 2) rfl
  clear c2
  go_upto_region 3 with fail
  go_loopg [13] n (fun gg iv wr => ∃ (i : Nat) (xs : List Value), i ≤ n ∧ gg = n - i ∧ iv = .int .i64 (i : Nat) ∧ xs.length = n ∧ RF w1.heap.size (fun b => b = w.heap.size ∨ b = w.heap.size + 1) wr [some (28, .slice (some ⟨w1.heap.size, 0, none⟩) n n, xs)] ∧ CN next wr w1.heap.size xs i ∧ Below w1.heap.size w1 wr)
  case atStart => exact ⟨0, List.replicate n (.slice none 0 0), by omega, rfl, rfl, by simp, HRF2.out, fun j hj => by omega, HB2.out⟩
  case round =>
    obtain ⟨i, xs, hi, rfl, rfl, hxl, hrf, hcn, hbl⟩ := hrel
    have HRF := Lib.hid hrf
    have HCN := Lib.hid hcn
    have HBL := Lib.hid hbl
    have HXL := Lib.hid hxl
    clear hrf hcn hbl hxl c2'
    by_cases hlt : i < n
    · obtain ⟨b1, o1, ai, ni, ci, rfl, hrc, hrr, hnc⟩ := HM.out.n.cell i hlt
      have hrc' := below_cell HBL.out hrc
      have HRR := Lib.hid (hrr.below HBL.out)
      have HNI : Hid ((next.getD i []).length = ni) := Lib.hid hrr.len
      have HNB : Hid (ni ≤ 65536) := Lib.hid (by
        have h1 := (valid_row HV.out i (by rw [HLN.out]; exact hlt)).1
        have h2 := HV.out.c1
        have h3 := HNI.out
        have h4 : ncls next = (next.getD 0 []).length := rfl
        omega)
      have HCL := Lib.hid (cloneI_any wr ai ni ci (next.getD i []) HRR.out HNB.out)
      have hin : (i : Int) < (n : Int) := by omega
      have HLT := Lib.hid hlt
      clear hrc hrr hnc hlt
      go_wp2_with fail
      refine HCL.out.mono ?_
      rintro e w3 ⟨a', c', rfl, hrd, hc', hb3, hfr⟩
      have HRF3 := Lib.hid (HRF.out.below hb3)
      have HCN3 := Lib.hid (HCN.out.below hb3)
      have HBL3 := Lib.hid (HBL.out.trans (hb3.mono HBL.out.size))
      have HRD := Lib.hid hrd
      have HC' := Lib.hid hc'
      have HFR := Lib.hid hfr
      clear hrd hc' hb3 hfr hrc'
      go_wp2_with (refine cguard (.store 28 (.tmp 22) (.tmp 21)) rfl ?_; refine RF.store HRF3.out (i := 0) rfl rfl 28 (.tmp 22) (.tmp 21) rfl i rfl (.slice a' ni c') rfl rfl rfl (by kernel_rfl) (by rw [HXL.out]; exact HLT.out) ?_; intro w10 hrf10 hg10 hbl10 hfr10; have HRF10 := Lib.hid hrf10; have HG10 := Lib.hid hg10; have HBL10 := Lib.hid (HBL3.out.trans hbl10); clear hrf10 hg10 hbl10 hfr10)
      go_roundg (n - (i + 1))
      case measure => have := HLT.out; omega
      case rel =>
        have hgb := (HRF.out.lt (i := 0) rfl (g := w1.heap.size) rfl)
        have hne : ∀ z, a' = some z → w1.heap.size < z.block := fun z hz => by have := HFR.out z hz; omega
        have hrow : Rd w3 .i64 a' (next.getD i []).length (next.getD i []) := by rw [HNI.out]; exact HRD.out
        have hcl : (next.getD i []).length ≤ c' := by rw [HNI.out]; exact HC'.out
        have hset := HCN3.out.set (by rw [HXL.out]; exact HLT.out) hrow hcl hne
        refine ⟨i + 1, xs.set i (.slice a' ni c'), HLT.out, rfl, by go_num, by rw [List.length_set]; exact HXL.out, HRF10.out, ?_, HBL10.out⟩
        rw [HNI.out] at hset
        exact hset.frS (Fr.of_grown (S := fun b => some b = some w1.heap.size) HG10.out (fun k hk => hk.symm ▸ rfl)) (fun b hb => Option.some.inj hb)
    · obtain rfl : i = n := by omega
      have HC1 := Lib.hid (fun (wx : World) (hb : Below wr.heap.size wr wx) => cloneI_any wx ac 256 cc cls (HM.out.c.below (HBL.out.trans (hb.mono HBL.out.size))) (by decide))
      have HC2 := Lib.hid (fun (wx : World) (hb : Below wr.heap.size wr wx) => cloneB_any wx aa i ca acc (HM.out.a.below (HBL.out.trans (hb.mono HBL.out.size))) (by have := HN9.out; omega))
      have HCC := Lib.hid (fun (wx : World) (hb : Below wr.heap.size wr wx) => And.intro ((HX.out.below (HBL.out.trans (hb.mono HBL.out.size))).cell (j := 0) rfl) (And.intro ((HX.out.below (HBL.out.trans (hb.mono HBL.out.size))).cell (j := 1) rfl) ((HX.out.below (HBL.out.trans (hb.mono HBL.out.size))).cell (j := 3) rfl)))
      have HZZ := Lib.hid (fun (wx : World) (hb : Below wr.heap.size wr wx) => (HZ.out.below (HBL.out.trans (hb.mono HBL.out.size))))
      go_upto_region 7 with fail
      go_region_held3 (fun wx => wx.cell? ⟨w.heap.size, 0, none⟩ = some (.int .i64 0) ∧ wx.cell? ⟨w.heap.size, 1, none⟩ = some (.slice ac 256 cc) ∧ wx.cell? ⟨w.heap.size, 3, none⟩ = some (.slice aa i ca))
        (first | exact HCC.out _ (Below.refl _ _).drew | exact HCC.out _ HB5.out | exact HCC.out _ HB6.out | exact HC7.out)
        (first
          | (go_at_call 29; refine (HC1.out _ (Below.refl _ _).drew).mono ?_; rintro e w5 ⟨a5, c5, rfl, hr5, -, hb5, hx5⟩; have HB5 : Hid (Below wr.heap.size wr w5) := Lib.hid ((Below.refl _ _).drew.trans hb5); have HR5 := Lib.hid hr5; have HX5 := Lib.hid hx5; clear hr5 hb5 hx5)
          | (go_at_call 44; refine (HC2.out _ HB5.out).mono ?_; rintro e w6 ⟨a6, c6, rfl, hr6, -, hb6, hx6⟩; have HB6 : Hid (Below wr.heap.size wr w6) := Lib.hid (HB5.out.trans (hb6.mono HB5.out.size)); have HR6 := Lib.hid hr6; have HX6 := Lib.hid hx6; have HR56 := Lib.hid (HR5.out.below hb6); have HC7 := Lib.hid (show (w6.setCells (w.heap.size + 1) 0 [.int .i64 0, .slice a5 256 c5, .slice (some ⟨w1.heap.size, 0, none⟩) i i, .slice a6 i c6]).cell? ⟨w.heap.size, 0, none⟩ = some (.int .i64 0) ∧ (w6.setCells (w.heap.size + 1) 0 [.int .i64 0, .slice a5 256 c5, .slice (some ⟨w1.heap.size, 0, none⟩) i i, .slice a6 i c6]).cell? ⟨w.heap.size, 1, none⟩ = some (.slice ac 256 cc) ∧ (w6.setCells (w.heap.size + 1) 0 [.int .i64 0, .slice a5 256 c5, .slice (some ⟨w1.heap.size, 0, none⟩) i i, .slice a6 i c6]).cell? ⟨w.heap.size, 3, none⟩ = some (.slice aa i ca) from (by have hf := frSetCells (w.heap.size + 1) [.int .i64 0, .slice a5 256 c5, .slice (some ⟨w1.heap.size, 0, none⟩) i i, .slice a6 i c6] 0 w6; have h6 := HCC.out _ HB6.out; exact ⟨hf.cell h6.1 (by show w.heap.size ≠ w.heap.size + 1; omega), hf.cell h6.2.1 (by show w.heap.size ≠ w.heap.size + 1; omega), hf.cell h6.2.2 (by show w.heap.size ≠ w.heap.size + 1; omega)⟩)); have y0 := (HZZ.out _ HB6.out).cell (j := 0) rfl; have y1 := (HZZ.out _ HB6.out).cell (j := 1) rfl; have y2 := (HZZ.out _ HB6.out).cell (j := 2) rfl; have y3 := (HZZ.out _ HB6.out).cell (j := 3) rfl; have z0 := (HZZ.out _ HB6.out).fz 0; have z1 := (HZZ.out _ HB6.out).fz 1; have z2 := (HZZ.out _ HB6.out).fz 2; have z3 := (HZZ.out _ HB6.out).fz 3; clear hr6 hb6 hx6))
      go_wp2
      have hz := (HZZ.out _ HB6.out).putAll [.int .i64 0, .slice a5 256 c5, .slice (some ⟨w1.heap.size, 0, none⟩) i i, .slice a6 i c6] rfl
      refine bodyPost_ret (res_cell rfl _ _ (w.heap.size + 1) _ _ rfl hz.rng Try.underlying32 rfl mach_info) rfl ?_
      have hf := frSetCells (w.heap.size + 1) [.int .i64 0, .slice a5 256 c5, .slice (some ⟨w1.heap.size, 0, none⟩) i i, .slice a6 i c6] 0 w6
      have hs1 := HS1.out
      have hs2 := HBL.out.size
      have hs6 := HB6.out.size
      have hdr : wr.drew.heap.size = wr.heap.size := rfl
      have hs5 := HB5.out.size
      refine ⟨a5, c5, some ⟨w1.heap.size, 0, none⟩, i, a6, c6, rfl, ⟨?_, ⟨HLN.out, hnm, fun j hj => ?_⟩, ?_⟩, ?_⟩
      · exact HR56.out.frS' hf (fun z hz e2 => by have := HX5.out z hz; omega)
      · obtain ⟨aj, cj, h1, h2, h3, h4⟩ := HCN.out j hj
        have hcj := hf.cell (below_cell HB6.out (HRF.out.cell (i := 0) rfl h1)) (by show ¬ w1.heap.size = w.heap.size + 1; omega)
        refine ⟨w1.heap.size, 0, aj, _, cj, rfl, ?_, (h2.below HB6.out).frS' hf (fun z hz e2 => by have := h4 z hz; omega), h3⟩
        rw [Nat.zero_add]; exact hcj
      · have h := HR6.out
        refine ⟨h.len, h.max, fun j hj => ?_⟩
        obtain ⟨b, off, ha, hc⟩ := h.cell j hj
        exact ⟨b, off, ha, hf.cell hc (show ¬ b = w.heap.size + 1 from by have h9 : w5.heap.size ≤ b := HX6.out _ ha; omega)⟩
      · exact belowSetCells (B := w.heap.size) (b := w.heap.size + 1) (HB.out.trans (((HBL.out.trans (HB6.out.mono HBL.out.size))).mono HB.out.size)) (by omega) 0 [.int .i64 0, .slice a5 256 c5, .slice (some ⟨w1.heap.size, 0, none⟩) i i, .slice a6 i c6] (by have := HB.out.size; omega)

end Go.Proofs.Ytflgmodofemifaa

/- transfer.New: the table of a literal machine. -/
namespace Go.Proofs.Ytflgmodofemifaa
open Go.RowKit Go.Maps
set_option linter.unusedVariables false
set_option linter.unusedSimpArgs false

/-- a table that knows nothing -/
def NewPost (m : Mc) (acc : List Bool) (B bs most : Nat) (L : List En) (w : World) (e : Ending) (w' : World) : Prop :=
  ∃ tb x, e = .returned (.tuple #[.pointer (some ⟨tb, 0, none⟩), .nilIface]) ∧ TB m acc B bs most L x w' tb 0 (fun _ => none) ∧ Below w.heap.size w w' ∧ w.heap.size ≤ x.bk

set_option maxRecDepth 100000 in
set_option maxHeartbeats 2000000 in
theorem tabNew_any (w : World) (m : Mc) (hm : McOk m) (acc : List Bool) (hv : Valid 0 m.cls m.next acc) (ac an aa ah : Option Addr) (cc cn ca ch : Nat) (B bs most : Nat) (L : List En)
    (hrd : RdM w ac 256 an m.next.length aa m.next.length m.cls m.next acc) (hh : Rd w .i64 ah m.next.length m.hits) (hs : SI B w bs most L) :
    Calls Try.prog 11 #[.pointer (some ⟨bs, 0, none⟩), .agg #[.int .i64 0, .slice ac 256 cc, .slice an m.next.length cn, .slice aa m.next.length ca], .slice ah m.next.length ch, .bool false] w (NewPost m acc B bs most L w) := by
  obtain ⟨n, hn⟩ : ∃ n, n = m.next.length := ⟨_, rfl⟩
  obtain ⟨w1, hw1⟩ : ∃ w1, w1 = w.alloc (.cells [.int .i64 0, .slice ac 256 cc, .slice an n cn, .slice aa n ca].toArray 32) := ⟨_, rfl⟩
  have HB := Lib.hid (show Below w.heap.size w w1 by rw [hw1]; exact below_alloc _ _)
  have HX := Lib.hid (show BX w1 w.heap.size [.int .i64 0, .slice ac 256 cc, .slice an n cn, .slice aa n ca] by rw [hw1]; exact BX.alloc _ _ _)
  have HM := Lib.hid (hrd.below HB.out)
  have HH := Lib.hid (hh.below HB.out)
  have HV := Lib.hid hv
  have HMO := Lib.hid hm
  have HS := Lib.hid hs
  have HCK := Lib.hid (check_ok 0 ac 256 cc an m.next.length cn aa m.next.length ca m.cls m.next acc w1 HM.out hv)
  have HN := Lib.hid hn
  have HN9 := Lib.hid hm.n9
  have hnm : n ≤ 9223372036854775807 := by have := hm.n9; omega
  have HW1 := Lib.hid hw1
  have hne : ∀ w, (binOp .neq 34 .nilIface .nilIface).run Try.prog w = .ok (.bool false) w := fun w => by kernel_rfl
  have c0 := HX.out.cell (j := 0) rfl
  have c1 := HX.out.cell (j := 1) rfl
  have c2 := HX.out.cell (j := 2) rfl
  have c3 := HX.out.cell (j := 3) rfl
  rw [← hn] at HCK HH HM ⊢
  clear hm hv hrd hh hs hn hw1
  go_enter Try.func11, Try.ntmps11
  go_upto_region 1 with fail
  rw [← HW1.out]
  go_wp2_with fail
  refine HCK.out.mono ?_
  rintro e w2 ⟨rfl, hb2⟩
  have HB2 := Lib.hid hb2
  have HX2 := Lib.hid (HX.out.below hb2)
  have HH2 := Lib.hid (HH.out.below hb2)
  have d2 := HX2.out.cell (j := 2) rfl
  clear hb2 c0 c1 c2 c3
  go_upto_region 9 with fail
  go_loopg [30] n (fun gg iv wr => ∃ i : Nat, i ≤ n ∧ gg = n - i ∧ iv = .int .i64 (i : Nat) ∧ wr = w2)
  case atStart => exact ⟨0, by omega, rfl, rfl, rfl⟩
  case round =>
    obtain ⟨i, hi, rfl, rfl, rfl⟩ := hrel
    by_cases hlt : i < n
    · obtain ⟨b1, o1, rfl, hc⟩ := HH2.out.cell i hlt
      obtain ⟨h0, h4⟩ := HMO.out.h4 _ (getD_mem (d := 0) (show i < m.hits.length by rw [HMO.out.hl, ← HN.out]; exact hlt))
      obtain ⟨z, hz⟩ := Int.eq_ofNat_of_zero_le h0
      rw [hz] at hc h4
      have hz1 : decide ((1048576 : Int) < (z : Int)) = false := by have h4' : (z : Int) ≤ 4 := h4; rw [decide_eq_false_iff_not]; omega
      have hin : (i : Int) < (n : Int) := by omega
      have HLT := Lib.hid hlt
      clear h0 h4 hz hlt
      go_wp2
      go_roundg (n - (i + 1))
      case measure => have := HLT.out; omega
      case rel => exact ⟨i + 1, HLT.out, rfl, by go_num, rfl⟩
    · obtain rfl : i = n := by omega
      have e0 := HX2.out.cell (j := 0) rfl
      have e1 := HX2.out.cell (j := 1) rfl
      have e3 := HX2.out.cell (j := 3) rfl
      have HM2 := Lib.hid (HM.out.below HB2.out)
      have HCL := Lib.hid (by have h := mclone_any wr ac an aa cc cn ca i m.cls m.next acc HM2.out HV.out; exact h)
      go_wp2_with fail
      refine HCL.out.mono ?_
      rintro e w3 ⟨ac', cc', an', cn', aa', ca', rfl, hrd', hb3⟩
      have HRD := Lib.hid hrd'
      have HB3 := Lib.hid (HB2.out.trans (hb3.mono HB2.out.size))
      have HC2 := Lib.hid (cloneI_any w3 ah i ch m.hits (HH2.out.below hb3) (by have := HN9.out; have := HN.out; omega))
      clear hrd' hb3 e0 e1 e3 d2
      go_wp2_with fail
      refine HC2.out.mono ?_
      rintro e w4 ⟨ah', ch', rfl, hh', hc', hb4, hx4⟩
      have HB4 := Lib.hid (HB.out.trans ((HB3.out.trans (hb4.mono HB3.out.size)).mono HB.out.size))
      have HH4 := Lib.hid hh'
      have HR4 := Lib.hid (HRD.out.below hb4)
      clear hh' hc' hb4 hx4
      have hmm := @run_makeMap Try.prog
      go_wp2
      go_ret2
      obtain ⟨w6, hw6⟩ : ∃ w6, w6 = (w4.alloc (.map #[] 0)).alloc (.cells (tbC bs i ⟨ac', cc', an', cn', aa', ca', ah', ch', w4.heap.size⟩).toArray 87) := ⟨_, rfl⟩
      have hb46 : Below w4.heap.size w4 w6 := by rw [hw6]; exact (below_alloc _ _).alloc (by simp) _
      have hs4 := HS.out.below HB4.out
      have hts : TS m acc B bs most L ⟨ac', cc', an', cn', aa', ca', ah', ch', w4.heap.size⟩ (w4.heap.size + 1) w6 := by
        refine ⟨?_, ?_, ?_, ⟨w4, hs4, hb46, Nat.le_refl _⟩, ⟨#[], 0, ?_⟩⟩
        · rw [← HN.out, hw6]
          exact BX.allocAt (by simp) _ _
        · rw [← HN.out]; exact HR4.out.below hb46
        · rw [← HN.out]; exact HH4.out.below hb46
        · rw [hw6]
          exact (heap_alloc_old' _ _ _ (by simp)).trans (heap_alloc_new w4 _)
      have hfr : Fr (fun b => b = w4.heap.size) w6 w6 := Fr.refl _ _
      have hres : NewPost m acc B bs most L w (.returned (.tuple #[.pointer (some ⟨w4.heap.size + 1, 0, none⟩), .nilIface])) w6 := by
        refine ⟨w4.heap.size + 1, ⟨ac', cc', an', cn', aa', ca', ah', ch', w4.heap.size⟩, rfl, ⟨hts.bx' hfr, hts.rd' hfr, hts.hr' hfr, hts.si' hfr, ?_, HMO.out, (fun id v hv => by cases hv), Nat.zero_le _, w6, hts, hfr⟩, HB4.out.trans (hb46.mono HB4.out.size), HB4.out.size⟩
        rw [hw6]
        exact (KM.made w4).below (below_alloc _ _)
      rw [hw6] at hres
      have hsz : (w4.alloc (.map #[] 0)).heap.size = w4.heap.size + 1 := by simp
      first
        | exact hres
        | (simpa [hsz] using hres)
        | (rw [hsz]; exact hres)

end Go.Proofs.Ytflgmodofemifaa
