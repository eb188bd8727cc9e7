/-
  the walk of HistoryRelates.
-/
import Derived.Test.YtoakelgjofdmpaaHRBas
namespace Go.Proofs.Ytoakelgjofdmpaa
open Go.RowKit
set_option linter.unusedVariables false
set_option linter.unusedSimpArgs false

theorem nat_wf {x : Int} (h : ∃ i : Nat, x = (i : Int) ∧ i ≤ 65536) : (Lit.int .i64 x).wf = true := by
  obtain ⟨i, rfl, hi⟩ := h
  exact WalkArith.wf_i64 (by omega)
theorem ancsTo_wf {L : List Cm} {n k : Nat} (hk : k ≤ 65536) : ∀ x ∈ ancsTo L n k, (Lit.int .i64 x).wf = true := by
  intro x hx
  obtain ⟨i, hi, rfl⟩ := List.mem_map.1 hx
  have := List.mem_range.1 (List.mem_filter.1 hi).1
  exact nat_wf ⟨i, rfl, by omega⟩
theorem lineOf_mem {L : List Cm} (hL : GoodL L) : ∀ k n, n ≤ k → ∀ x ∈ lineOf L n, ∃ i : Nat, x = (i : Int) ∧ i ≤ n
  | 0, n, h => by
    obtain rfl : n = 0 := by omega
    have : parsOf L 0 = [] := by
      cases h : parsOf L 0 with
      | nil => rfl
      | cons p r => have := pars_lt hL (i := 0) (p := p) (by rw [h]; simp); omega
    rw [lineOf_nil this]
    intro x hx; rw [List.mem_singleton] at hx; exact ⟨0, hx, Nat.le_refl _⟩
  | k + 1, n, h => by
    cases hp : parsOf L n with
    | nil =>
      rw [lineOf_nil hp]
      intro x hx; rw [List.mem_singleton] at hx; exact ⟨n, hx, Nat.le_refl _⟩
    | cons p r =>
      have hq := pars_lt hL (i := n) (p := p) (by rw [hp]; simp)
      rw [lineOf_cons hL hp]
      intro x hx
      rcases List.mem_cons.1 hx with rfl | hx
      · exact ⟨n, rfl, Nat.le_refl _⟩
      · obtain ⟨i, hi, hin⟩ := lineOf_mem hL k p.toNat (by omega) x hx
        exact ⟨i, hi, by omega⟩
theorem lineOf_wf {L : List Cm} (hL : GoodL L) {n : Nat} (hn : n ≤ 65536) : ∀ x ∈ lineOf L n, (Lit.int .i64 x).wf = true := fun x hx => by
  obtain ⟨i, hi, hin⟩ := lineOf_mem hL n n (Nat.le_refl _) x hx
  exact nat_wf ⟨i, hi, by omega⟩
theorem bases_wf {L : List Cm} (hL : L.length ≤ 65536) (a b : Nat) : ∀ x ∈ bases L a b, (Lit.int .i64 x).wf = true := fun x hx => by
  obtain ⟨i, hi, rfl⟩ := List.mem_map.1 hx
  have := List.mem_range.1 (List.mem_filter.1 hi).1
  exact nat_wf ⟨i, rfl, by omega⟩

set_option maxRecDepth 100000 in
set_option maxHeartbeats 8000000 in
theorem walk_HistoryRelates (a0 : Option Addr) (n cp : Nat) (list : List Cm) (a b : Int) (w : World) (hr : RdC w (fun i => i < w.heap.size) a0 n list) (_h1 : (Lit.int .i64 a).wf = true) (_h2 : (Lit.int .i64 b).wf = true) :
    Calls Try.prog 8 #[.slice a0 n cp, .int .i64 a, .int .i64 b] w fun e w' => e = .returned (.bool true) ∧ Below w.heap.size w w' := by
  have HR := Lib.hid hr
  have HL := Lib.hid hr.len
  have hmx := hr.max
  have hne : ∀ w, (binOp .neq 33 .nilIface .nilIface).run Try.prog w = .ok (.bool false) w := fun w => by kernel_rfl
  have hne2 : ∀ w, (binOp .eql 33 .nilIface .nilIface).run Try.prog w = .ok (.bool true) w := fun w => by kernel_rfl
  have HGL := Lib.hid (buildL_good list)
  have HN1 := Lib.hid (buildL_len list)
  clear hr
  go_enter Try.func8, Try.ntmps8
  go_wp2_with fail
  refine (alive_any _).mono ?_
  rintro e w1 ⟨rfl, hb1⟩
  have HB1 := Lib.hid hb1
  clear hb1
  by_cases h40 : 40 < n
  · have h41 : (40 : Int) < (n : Int) := by omega
    go_wp2
    go_ret
    exact ⟨rfl, HB1.out⟩
  have h41 : (n : Int) ≤ 40 := by omega
  clear h40
  go_wp2_with fail
  refine (build_any (fun i => i < w.heap.size) a0 n cp list w1 (HR.out.below HB1.out) (fun i hi => Nat.lt_of_lt_of_le hi HB1.out.size)).mono ?_
  rintro e w2 ⟨bg, al, cl, S, T, rfl, htw⟩
  have HTW := Lib.hid htw
  have HB2 := Lib.hid (bthen HB1.out htw.bel)
  have HG := Lib.hid htw.g.rg
  have HLL := Lib.hid htw.l
  have HM9 := Lib.hid htw.g.n1
  clear htw
  generalize buildL list = L at *
  have hM : L.length ≤ 9223372036854775807 := by have := HM9.out; omega
  by_cases ha : 0 ≤ a ∧ a < (L.length : Int)
  case neg =>
    have HNA : Hid (hasB L.length a = false) := Lib.hid (by simp [hasB]; omega)
    rcases (show a < 0 ∨ (0 ≤ a ∧ (L.length : Int) ≤ a) by omega) with h1 | ⟨h1, h2⟩
    · have h3 : decide (0 ≤ a) = false := by simp; omega
      clear ha
      go_wp2_with fail
      refine (anclist_range S bg L a _ HG.out HNA.out).mono ?_
      rintro e w3 ⟨rfl, rfl⟩
      go_wp2_with fail
      refine (line_range S bg L a _ HG.out HNA.out).mono ?_
      rintro e w3 ⟨rfl, rfl⟩
      go_wp2_with fail
      refine (bases_range S bg L a b _ HG.out (.inl HNA.out)).mono ?_
      rintro e w3 ⟨rfl, rfl⟩
      go_wp2_with fail
      refine (before_range S bg L a b _ HG.out (.inl HNA.out)).mono ?_
      rintro e w3 ⟨rfl, hb3⟩
      have HB3 := Lib.hid (bthen HB2.out hb3)
      have HC3 := Lib.hid hb3
      clear hb3
      go_wp2_with fail
      refine (get_range S bg L a _ (HG.out.below HC3.out) HNA.out).mono ?_
      rintro e w4 ⟨rfl, hb4⟩
      have HB4 := Lib.hid (bthen HB3.out hb4)
      have HC4 := Lib.hid hb4
      clear hb4
      go_wp2_with fail
      refine (is_errno 1 rfl _).mono ?_
      rintro e w5 ⟨rfl, rfl⟩
      go_wp2_with fail
      refine (is_errno 1 rfl _).mono ?_
      rintro e w5 ⟨rfl, rfl⟩
      go_wp2_with fail
      refine (is_errno 1 rfl _).mono ?_
      rintro e w5 ⟨rfl, rfl⟩
      go_wp2_with fail
      refine (is_errno 1 rfl _).mono ?_
      rintro e w5 ⟨rfl, rfl⟩
      go_wp2_with fail
      refine (is_errno 1 rfl _).mono ?_
      rintro e w5 ⟨rfl, rfl⟩
      go_wp2
      go_ret
      exact ⟨ret_eq (by simp), bthen HB4.out (below_alloc _ _)⟩
    · have h3 : decide (a < (L.length : Int)) = false := by simp; omega
      clear ha
      go_wp2_with fail
      refine (anclist_range S bg L a _ HG.out HNA.out).mono ?_
      rintro e w3 ⟨rfl, rfl⟩
      go_wp2_with fail
      refine (line_range S bg L a _ HG.out HNA.out).mono ?_
      rintro e w3 ⟨rfl, rfl⟩
      go_wp2_with fail
      refine (bases_range S bg L a b _ HG.out (.inl HNA.out)).mono ?_
      rintro e w3 ⟨rfl, rfl⟩
      go_wp2_with fail
      refine (before_range S bg L a b _ HG.out (.inl HNA.out)).mono ?_
      rintro e w3 ⟨rfl, hb3⟩
      have HB3 := Lib.hid (bthen HB2.out hb3)
      have HC3 := Lib.hid hb3
      clear hb3
      go_wp2_with fail
      refine (get_range S bg L a _ (HG.out.below HC3.out) HNA.out).mono ?_
      rintro e w4 ⟨rfl, hb4⟩
      have HB4 := Lib.hid (bthen HB3.out hb4)
      have HC4 := Lib.hid hb4
      clear hb4
      go_wp2_with fail
      refine (is_errno 1 rfl _).mono ?_
      rintro e w5 ⟨rfl, rfl⟩
      go_wp2_with fail
      refine (is_errno 1 rfl _).mono ?_
      rintro e w5 ⟨rfl, rfl⟩
      go_wp2_with fail
      refine (is_errno 1 rfl _).mono ?_
      rintro e w5 ⟨rfl, rfl⟩
      go_wp2_with fail
      refine (is_errno 1 rfl _).mono ?_
      rintro e w5 ⟨rfl, rfl⟩
      go_wp2_with fail
      refine (is_errno 1 rfl _).mono ?_
      rintro e w5 ⟨rfl, rfl⟩
      go_wp2
      go_ret
      exact ⟨ret_eq (by simp), bthen HB4.out (below_alloc _ _)⟩
  obtain ⟨ha0, ha1⟩ := ha
  obtain ⟨a, rfl⟩ := Int.eq_ofNat_of_zero_le ha0
  have Ha : Hid (a < L.length) := Lib.hid (by omega)
  have hA0 : decide ((0 : Int) ≤ (a : Int)) = true := by simp
  by_cases hb : 0 ≤ b ∧ b < (L.length : Int)
  case neg =>
    have HNB : Hid (hasB L.length b = false) := Lib.hid (by simp [hasB]; omega)
    rcases (show b < 0 ∨ (0 ≤ b ∧ (L.length : Int) ≤ b) by omega) with h1 | ⟨h1, h2⟩
    · have h3 : decide (0 ≤ b) = false := by simp; omega
      clear hb
      go_wp2_with fail
      refine (anclist_ok S bg L a w2 HG.out HGL.out Ha.out).mono ?_
      rintro e w3 ⟨xa, xc, rfl, ho3, hb3⟩
      have HO3 := Lib.hid ho3
      clear ho3
      have HB3 := Lib.hid (bthen HB2.out hb3)
      have HC3 := Lib.hid hb3
      clear hb3
      go_wp2_with fail
      refine (line_ok S bg L a w3 (HG.out.below HC3.out) HGL.out Ha.out).mono ?_
      rintro e w4 ⟨ya, yc, rfl, ho4, hb4⟩
      have HO4 := Lib.hid ho4
      have HC24 := Lib.hid (bthen HC3.out hb4)
      clear ho4
      have HB4 := Lib.hid (bthen HB3.out hb4)
      have HC4 := Lib.hid hb4
      clear hb4
      go_wp2_with fail
      refine (bases_range S bg L a b w4 (HG.out.below HC24.out) (.inr HNB.out)).mono ?_
      rintro e w5 ⟨rfl, rfl⟩
      go_wp2_with fail
      refine (before_range S bg L a b w4 (HG.out.below HC24.out) (.inr HNB.out)).mono ?_
      rintro e w6 ⟨rfl, hb6⟩
      have HC26 := Lib.hid (bthen HC24.out hb6)
      have HB6 := Lib.hid (bthen HB4.out hb6)
      have HC6 := Lib.hid hb6
      clear hb6
      go_wp2_with fail
      refine (get_ok S bg L a w6 (HG.out.below HC26.out) HGL.out Ha.out).mono ?_
      rintro e w7 ⟨ga7, gc7, gx7, hx7, rfl, ho7, hb7⟩
      obtain ⟨w8, hw8⟩ : ∃ w8, w8 = w7.alloc (.cells #[.slice ga7 gx7.1.length gc7, .int .i64 gx7.2.1, .string gx7.2.2] 27) := ⟨_, rfl⟩
      have HC28 : Hid (Below w2.heap.size w2 w8) := Lib.hid (by rw [hw8]; exact bthen HC26.out (bthen hb7 (below_alloc _ _)))
      have HC68 : Hid (Below w6.heap.size w6 w8) := Lib.hid (by rw [hw8]; exact bthen hb7 (below_alloc _ _))
      have HW8 := Lib.hid hw8
      have HB8 : Hid (Below w.heap.size w w8) := Lib.hid (bthen HB2.out HC28.out)
      clear ho7 hb7 hx7 hw8
      have HX8 := Lib.hid ((HO3.out.rd (ancsTo_wf (by have := HM9.out; have := Ha.out; omega))).below (bthen HC4.out (bthen HC6.out HC68.out)))
      have HY8 := Lib.hid ((HO4.out.rd (lineOf_wf HGL.out (by have := HM9.out; have := Ha.out; omega))).below (bthen HC6.out HC68.out))
      go_wp2_with fail
      rw [← HW8.out]
      refine (is_errno 1 rfl _).mono ?_
      rintro e w9 ⟨rfl, rfl⟩
      go_wp2_with fail
      refine (is_errno 1 rfl _).mono ?_
      rintro e w9 ⟨rfl, rfl⟩
      go_wp2_with fail
      refine (ranc_any T al L.length cl L a w8 (HLL.out.below HC28.out) HGL.out HM9.out Ha.out).mono ?_
      rintro e w9 ⟨ra, rc, rfl, ho9, hb9⟩
      have HO9 := Lib.hid ho9
      clear ho9
      have HB9 := Lib.hid (bthen HB8.out hb9)
      have HC9 := Lib.hid hb9
      clear hb9
      go_wp2_with fail
      refine (ints_any xa ra _ _ xc rc (ancsTo L a (a + 1)) (ancsTo L a (a + 1)) w9 (HX8.out.below HC9.out) (HO9.out.rd (ancsTo_wf (by have := HM9.out; have := Ha.out; omega)))).mono ?_
      rintro e w10 ⟨rfl, hb10⟩
      rw [decide_eq_true (rfl : ancsTo L a (a + 1) = ancsTo L a (a + 1))]
      have HB10 := Lib.hid (bthen HB9.out hb10)
      have HC10 := Lib.hid hb10
      clear hb10
      have HC810 := Lib.hid (bthen HC9.out HC10.out)
      go_wp2_with fail
      refine (rline_any T al L.length cl L a w10 (HLL.out.below (bthen HC28.out HC810.out)) HGL.out HM9.out Ha.out).mono ?_
      rintro e w11 ⟨rla, rlc, rfl, ho11, hb11⟩
      have HO11 := Lib.hid ho11
      clear ho11
      have HB11 := Lib.hid (bthen HB10.out hb11)
      have HC11 := Lib.hid hb11
      clear hb11
      go_wp2_with fail
      refine (ints_any ya rla _ _ yc rlc (lineOf L a) (lineOf L a) w11 (HY8.out.below (bthen HC810.out HC11.out)) (HO11.out.rd (lineOf_wf HGL.out (by have := HM9.out; have := Ha.out; omega)))).mono ?_
      rintro e w12 ⟨rfl, hb12⟩
      rw [decide_eq_true (rfl : lineOf L a = lineOf L a)]
      have HB12 := Lib.hid (bthen HB11.out hb12)
      have HC12 := Lib.hid hb12
      clear hb12
      go_wp2
      go_ret
      exact ⟨ret_eq (by simp), HB12.out⟩
    · have h3 : decide (b < (L.length : Int)) = false := by simp; omega
      clear hb
      go_wp2_with fail
      refine (anclist_ok S bg L a w2 HG.out HGL.out Ha.out).mono ?_
      rintro e w3 ⟨xa, xc, rfl, ho3, hb3⟩
      have HO3 := Lib.hid ho3
      clear ho3
      have HB3 := Lib.hid (bthen HB2.out hb3)
      have HC3 := Lib.hid hb3
      clear hb3
      go_wp2_with fail
      refine (line_ok S bg L a w3 (HG.out.below HC3.out) HGL.out Ha.out).mono ?_
      rintro e w4 ⟨ya, yc, rfl, ho4, hb4⟩
      have HO4 := Lib.hid ho4
      have HC24 := Lib.hid (bthen HC3.out hb4)
      clear ho4
      have HB4 := Lib.hid (bthen HB3.out hb4)
      have HC4 := Lib.hid hb4
      clear hb4
      go_wp2_with fail
      refine (bases_range S bg L a b w4 (HG.out.below HC24.out) (.inr HNB.out)).mono ?_
      rintro e w5 ⟨rfl, rfl⟩
      go_wp2_with fail
      refine (before_range S bg L a b w4 (HG.out.below HC24.out) (.inr HNB.out)).mono ?_
      rintro e w6 ⟨rfl, hb6⟩
      have HC26 := Lib.hid (bthen HC24.out hb6)
      have HB6 := Lib.hid (bthen HB4.out hb6)
      have HC6 := Lib.hid hb6
      clear hb6
      go_wp2_with fail
      refine (get_ok S bg L a w6 (HG.out.below HC26.out) HGL.out Ha.out).mono ?_
      rintro e w7 ⟨ga7, gc7, gx7, hx7, rfl, ho7, hb7⟩
      obtain ⟨w8, hw8⟩ : ∃ w8, w8 = w7.alloc (.cells #[.slice ga7 gx7.1.length gc7, .int .i64 gx7.2.1, .string gx7.2.2] 27) := ⟨_, rfl⟩
      have HC28 : Hid (Below w2.heap.size w2 w8) := Lib.hid (by rw [hw8]; exact bthen HC26.out (bthen hb7 (below_alloc _ _)))
      have HC68 : Hid (Below w6.heap.size w6 w8) := Lib.hid (by rw [hw8]; exact bthen hb7 (below_alloc _ _))
      have HW8 := Lib.hid hw8
      have HB8 : Hid (Below w.heap.size w w8) := Lib.hid (bthen HB2.out HC28.out)
      clear ho7 hb7 hx7 hw8
      have HX8 := Lib.hid ((HO3.out.rd (ancsTo_wf (by have := HM9.out; have := Ha.out; omega))).below (bthen HC4.out (bthen HC6.out HC68.out)))
      have HY8 := Lib.hid ((HO4.out.rd (lineOf_wf HGL.out (by have := HM9.out; have := Ha.out; omega))).below (bthen HC6.out HC68.out))
      go_wp2_with fail
      rw [← HW8.out]
      refine (is_errno 1 rfl _).mono ?_
      rintro e w9 ⟨rfl, rfl⟩
      go_wp2_with fail
      refine (is_errno 1 rfl _).mono ?_
      rintro e w9 ⟨rfl, rfl⟩
      go_wp2_with fail
      refine (ranc_any T al L.length cl L a w8 (HLL.out.below HC28.out) HGL.out HM9.out Ha.out).mono ?_
      rintro e w9 ⟨ra, rc, rfl, ho9, hb9⟩
      have HO9 := Lib.hid ho9
      clear ho9
      have HB9 := Lib.hid (bthen HB8.out hb9)
      have HC9 := Lib.hid hb9
      clear hb9
      go_wp2_with fail
      refine (ints_any xa ra _ _ xc rc (ancsTo L a (a + 1)) (ancsTo L a (a + 1)) w9 (HX8.out.below HC9.out) (HO9.out.rd (ancsTo_wf (by have := HM9.out; have := Ha.out; omega)))).mono ?_
      rintro e w10 ⟨rfl, hb10⟩
      rw [decide_eq_true (rfl : ancsTo L a (a + 1) = ancsTo L a (a + 1))]
      have HB10 := Lib.hid (bthen HB9.out hb10)
      have HC10 := Lib.hid hb10
      clear hb10
      have HC810 := Lib.hid (bthen HC9.out HC10.out)
      go_wp2_with fail
      refine (rline_any T al L.length cl L a w10 (HLL.out.below (bthen HC28.out HC810.out)) HGL.out HM9.out Ha.out).mono ?_
      rintro e w11 ⟨rla, rlc, rfl, ho11, hb11⟩
      have HO11 := Lib.hid ho11
      clear ho11
      have HB11 := Lib.hid (bthen HB10.out hb11)
      have HC11 := Lib.hid hb11
      clear hb11
      go_wp2_with fail
      refine (ints_any ya rla _ _ yc rlc (lineOf L a) (lineOf L a) w11 (HY8.out.below (bthen HC810.out HC11.out)) (HO11.out.rd (lineOf_wf HGL.out (by have := HM9.out; have := Ha.out; omega)))).mono ?_
      rintro e w12 ⟨rfl, hb12⟩
      rw [decide_eq_true (rfl : lineOf L a = lineOf L a)]
      have HB12 := Lib.hid (bthen HB11.out hb12)
      have HC12 := Lib.hid hb12
      clear hb12
      go_wp2
      go_ret
      exact ⟨ret_eq (by simp), HB12.out⟩
  obtain ⟨hb0, hb1⟩ := hb
  obtain ⟨b, rfl⟩ := Int.eq_ofNat_of_zero_le hb0
  have Hb : Hid (b < L.length) := Lib.hid (by omega)
  go_wp2_with fail
  refine (anclist_ok S bg L a w2 HG.out HGL.out Ha.out).mono ?_
  rintro e w3 ⟨xa, xc, rfl, ho3, hb3⟩
  have HO3 := Lib.hid ho3
  clear ho3
  have HB3 := Lib.hid (bthen HB2.out hb3)
  have HC3 := Lib.hid hb3
  clear hb3
  go_wp2_with fail
  refine (line_ok S bg L a w3 (HG.out.below HC3.out) HGL.out Ha.out).mono ?_
  rintro e w4 ⟨ya, yc, rfl, ho4, hb4⟩
  have HO4 := Lib.hid ho4
  have HC24 := Lib.hid (bthen HC3.out hb4)
  clear ho4
  have HB4 := Lib.hid (bthen HB3.out hb4)
  have HC4 := Lib.hid hb4
  clear hb4
  go_wp2_with fail
  refine (bases_ok S bg L a b w4 (HG.out.below HC24.out) HGL.out Ha.out Hb.out).mono ?_
  rintro e w5 ⟨za, zc, rfl, ho5, hb5⟩
  have HO5 := Lib.hid ho5
  have HC25 := Lib.hid (bthen HC24.out hb5)
  clear ho5
  have HB5 := Lib.hid (bthen HB4.out hb5)
  have HC5 := Lib.hid hb5
  clear hb5
  go_wp2_with fail
  refine (before_ok S bg L a b w5 (HG.out.below HC25.out) HGL.out Ha.out Hb.out).mono ?_
  rintro e w6 ⟨rfl, hb6⟩
  have HC26 := Lib.hid (bthen HC25.out hb6)
  have HB6 := Lib.hid (bthen HB5.out hb6)
  have HC6 := Lib.hid hb6
  clear hb6
  have HZ := Lib.hid (Eq.refl (ancB L a b))
  go_wp2_with fail
  refine (get_ok S bg L a w6 (HG.out.below HC26.out) HGL.out Ha.out).mono ?_
  rintro e w7 ⟨ga7, gc7, gx7, hx7, rfl, ho7, hb7⟩
  obtain ⟨w8, hw8⟩ : ∃ w8, w8 = w7.alloc (.cells #[.slice ga7 gx7.1.length gc7, .int .i64 gx7.2.1, .string gx7.2.2] 27) := ⟨_, rfl⟩
  have HC28 : Hid (Below w2.heap.size w2 w8) := Lib.hid (by rw [hw8]; exact bthen HC26.out (bthen hb7 (below_alloc _ _)))
  have HC68 : Hid (Below w6.heap.size w6 w8) := Lib.hid (by rw [hw8]; exact bthen hb7 (below_alloc _ _))
  have HW8 := Lib.hid hw8
  have HB8 : Hid (Below w.heap.size w w8) := Lib.hid (bthen HB2.out HC28.out)
  clear ho7 hb7 hx7 hw8
  have HX8 := Lib.hid ((HO3.out.rd (ancsTo_wf (by have := HM9.out; have := Ha.out; omega))).below (bthen HC4.out (bthen HC5.out (bthen HC6.out HC68.out))))
  have HY8 := Lib.hid ((HO4.out.rd (lineOf_wf HGL.out (by have := HM9.out; have := Ha.out; omega))).below (bthen HC5.out (bthen HC6.out HC68.out)))
  have HZ8 := Lib.hid ((HO5.out.rd (bases_wf HM9.out a b)).below (bthen HC6.out HC68.out))
  go_wp2_with fail
  rw [← HW8.out]
  refine (ranc_any T al L.length cl L a w8 (HLL.out.below HC28.out) HGL.out HM9.out Ha.out).mono ?_
  rintro e w9 ⟨ra, rc, rfl, ho9, hb9⟩
  have HO9 := Lib.hid ho9
  clear ho9
  have HB9 := Lib.hid (bthen HB8.out hb9)
  have HC9 := Lib.hid hb9
  clear hb9
  go_wp2_with fail
  refine (ints_any xa ra _ _ xc rc (ancsTo L a (a + 1)) (ancsTo L a (a + 1)) w9 (HX8.out.below HC9.out) (HO9.out.rd (ancsTo_wf (by have := HM9.out; have := Ha.out; omega)))).mono ?_
  rintro e w10 ⟨rfl, hb10⟩
  rw [decide_eq_true (rfl : ancsTo L a (a + 1) = ancsTo L a (a + 1))]
  have HB10 := Lib.hid (bthen HB9.out hb10)
  have HC10 := Lib.hid hb10
  clear hb10
  have HC810 := Lib.hid (bthen HC9.out HC10.out)
  go_wp2_with fail
  refine (rline_any T al L.length cl L a w10 (HLL.out.below (bthen HC28.out HC810.out)) HGL.out HM9.out Ha.out).mono ?_
  rintro e w11 ⟨rla, rlc, rfl, ho11, hb11⟩
  have HO11 := Lib.hid ho11
  clear ho11
  have HB11 := Lib.hid (bthen HB10.out hb11)
  have HC11 := Lib.hid hb11
  clear hb11
  go_wp2_with fail
  refine (ints_any ya rla _ _ yc rlc (lineOf L a) (lineOf L a) w11 (HY8.out.below (bthen HC810.out HC11.out)) (HO11.out.rd (lineOf_wf HGL.out (by have := HM9.out; have := Ha.out; omega)))).mono ?_
  rintro e w12 ⟨rfl, hb12⟩
  rw [decide_eq_true (rfl : lineOf L a = lineOf L a)]
  have HB12 := Lib.hid (bthen HB11.out hb12)
  have HC12 := Lib.hid hb12
  clear hb12
  have HC812 := Lib.hid (bthen HC810.out (bthen HC11.out HC12.out))
  go_wp2_with fail
  refine (rbases_any T al L.length cl L a b w12 (HLL.out.below (bthen HC28.out HC812.out)) HGL.out HM9.out Ha.out Hb.out).mono ?_
  rintro e w13 ⟨rba, rbc, rfl, ho13, hb13⟩
  have HO13 := Lib.hid ho13
  clear ho13
  have HB13 := Lib.hid (bthen HB12.out hb13)
  have HC13 := Lib.hid hb13
  clear hb13
  go_wp2_with fail
  refine (ints_any za rba _ _ zc rbc (bases L a b) (bases L a b) w13 (HZ8.out.below (bthen HC812.out HC13.out)) (HO13.out.rd (bases_wf HM9.out a b))).mono ?_
  rintro e w14 ⟨rfl, hb14⟩
  rw [decide_eq_true (rfl : bases L a b = bases L a b)]
  have HB14 := Lib.hid (bthen HB13.out hb14)
  have HC14 := Lib.hid hb14
  clear hb14
  go_wp2_with fail
  refine (rbefore_any T al L.length cl L a b w14 (HLL.out.below (bthen HC28.out (bthen HC812.out (bthen HC13.out HC14.out)))) HGL.out HM9.out Ha.out Hb.out).mono ?_
  rintro e w15 ⟨rfl, hb15⟩
  have HB15 := Lib.hid (bthen HB14.out hb15)
  have HC15 := Lib.hid hb15
  clear hb15
  generalize ancB L a b = z at *
  go_wp2
  go_ret
  exact ⟨ret_eq (by simp), HB15.out⟩

end Go.Proofs.Ytoakelgjofdmpaa
