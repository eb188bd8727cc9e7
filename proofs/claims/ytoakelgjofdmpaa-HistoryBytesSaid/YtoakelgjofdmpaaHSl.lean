/-
  slices.Clone, Index and Contains at []int; small methods of a graph: New, Len, has.
-/
import Derived.Test.YtoakelgjofdmpaaHBase
import Derived.Lib.SliceRun
namespace Go.Proofs.Ytoakelgjofdmpaa
open Go.RowKit
set_option linter.unusedVariables false
set_option linter.unusedSimpArgs false

theorem EI : Elt Try.prog 24 3 .i64 8 := ⟨Try.underlying24, info_parts (by kernel_rfl)⟩

theorem RdF.nil0 {w : World} {T : Nat → Prop} {k n l} (h : RdF w T k none n l) : n = 0 ∧ l = [] := by
  have h0 : n = 0 := by
    rcases Nat.eq_zero_or_pos n with h0 | h0
    · exact h0
    · obtain ⟨b, off, ha, _⟩ := h.rd.cell 0 h0; cases ha
  exact ⟨h0, List.eq_nil_of_length_eq_zero (by rw [h.rd.len]; exact h0)⟩
theorem Rd.nil0 {w : World} {k n l} (h : Rd w k none n l) : n = 0 ∧ l = [] := RdF.nil0 (T := fun _ => True) ⟨h, fun _ _ _ => trivial⟩

def ClonePost (l : List Int) (w : World) (e : Ending) (w' : World) : Prop :=
  ∃ a c, e = .returned (.slice a l.length c) ∧ Own w' w.heap.size 3 .i64 (.slice a l.length c) l ∧ Below w.heap.size w w'

set_option maxRecDepth 100000 in
set_option maxHeartbeats 1000000 in
theorem clone_any (a : Option Addr) (n c : Nat) (l : List Int) (w : World) (hr : Rd w .i64 a n l) (hn : n * 8 ≤ 140737488355328) (hc : a = none → c = 0) :
    Calls Try.prog 41 #[.slice a n c] w (ClonePost l w) := by
  cases a with
  | none =>
    obtain ⟨rfl, rfl⟩ := Rd.nil0 hr
    obtain rfl := hc rfl
    have he := fun w => Lib.run_eql_slice_nil (P := Try.prog) w 24 _ none 0 0 0 0 Try.underlying24
    go_enter Try.func41, Try.ntmps41
    go_wp2
    go_ret
    exact ⟨none, 0, rfl, Own.nil _ _ _ _, Below.refl _ _⟩
  | some a =>
    have HR := Lib.hid (hr.below (below_alloc w (.cells #[] 3)))
    have HL := Lib.hid hr.len
    clear hr hc
    have he := fun w => Lib.run_eql_slice_nil (P := Try.prog) w 24 _ (some a) n c 0 0 Try.underlying24
    go_enter Try.func41, Try.ntmps41
    go_wp2_with (at_builtin; refine app_rd _ _ EI rfl rfl w.heap.size _ [] rfl (Own.lits w .i64 _ [] _ (Nat.le_refl _) (by simp)) _ _ _ l rfl HR.out (by rw [HL.out]; simp; omega) (by omega) (by simp) ?_; intro a7 c7 w7 ho7 hg7)
    go_ret
    exact ⟨a7, c7, rfl, ho7, (Below.alloc (Below.refl w.heap.size w) (Nat.le_refl _) _).trans (grown_below (Own.lits w .i64 3 [] w.heap.size (Nat.le_refl _) (by simp)) hg7 (by simp))⟩

/-- where v stands first; -1: nowhere -/
def idxOf (l : List Int) (v : Int) : Int := if v ∈ l then (l.idxOf v : Int) else -1

set_option maxHeartbeats 1000000 in
theorem index_any (a : Option Addr) (n c : Nat) (l : List Int) (v : Int) (w : World) (hr : Rd w .i64 a n l) :
    Calls Try.prog 52 #[.slice a n c, .int .i64 v] w fun e w' => (∃ k : Int, e = .returned (.int .i64 k) ∧ (0 ≤ k ↔ v ∈ l)) ∧ w = w' := by
  have HR := Lib.hid hr
  have hmx := hr.max
  have HL := Lib.hid hr.len
  clear hr
  go_enter Try.func52, Try.ntmps52
  go_wp2
  go_loop [8] (fun iv => ∃ i : Nat, i ≤ n ∧ iv = .int .i64 i ∧ (∀ j, j < i → l.getD j 0 ≠ v)) (fun iv => n - (intOf iv).toNat)
  case atStart => exact ⟨0, by omega, rfl, fun j hj => by omega⟩
  case round =>
    obtain ⟨i, hi, rfl, heq⟩ := hrel
    have HEQ := Lib.hid heq
    clear heq
    by_cases hlt : i < n
    · obtain ⟨b1, o1, rfl, h1⟩ := HR.out.cell i hlt
      by_cases hne : v = l.getD i 0
      · have HM : Hid (v ∈ l) := Lib.hid (by rw [hne]; exact getD_mem (by rw [HL.out]; exact hlt))
        rw [← hne] at h1
        clear hne
        go_wp2
        go_ret
        exact ⟨⟨_, rfl, fun _ => HM.out, fun _ => by omega⟩, rfl⟩
      · have HN := Lib.hid hne
        generalize hz : l.getD i 0 = z at *
        have HZ := Lib.hid hz
        have hvz : (v == z) = false := by simpa using hne
        clear hne hz
        go_wp2
        go_round
        case rel => exact ⟨i + 1, by omega, by go_num, fun j hj => (by
          by_cases hji : j < i
          · exact HEQ.out j hji
          · have : j = i := by omega
            subst this; rw [HZ.out]; exact fun h => HN.out h.symm)⟩
        case measure => simp [intOf]; omega
    · have HE : Hid (v ∉ l) := Lib.hid (by
        intro hv
        obtain ⟨j, hj, he⟩ := List.getElem_of_mem hv
        exact HEQ.out j (by rw [HL.out] at hj; omega) (by simp [List.getD, hj, he]))
      go_wp2
      go_ret
      exact ⟨⟨-1, rfl, fun h => by omega, fun h => absurd h HE.out⟩, rfl⟩

/-- v stands in l -/
def memB (l : List Int) (v : Int) : Bool := decide (v ∈ l)

theorem contains_any (a : Option Addr) (n c : Nat) (l : List Int) (v : Int) (w : World) (hr : Rd w .i64 a n l) :
    Calls Try.prog 46 #[.slice a n c, .int .i64 v] w fun e w' => e = .returned (.bool (memB l v)) ∧ w = w' := by
  have H := Lib.hid (index_any a n c l v w hr)
  clear hr
  go_enter Try.func46, Try.ntmps46
  go_wp2_with fail
  refine H.out.mono ?_
  rintro e w' ⟨⟨k, rfl, hk⟩, rfl⟩
  have HK : Hid (memB l v = decide (0 ≤ k)) := Lib.hid (decide_eq_decide.2 hk.symm)
  clear hk
  go_wp2
  go_ret
  exact ⟨ret_eq (by rw [HK.out]; rfl), rfl⟩

theorem new_any (w : World) : Calls Try.prog 39 #[] w fun e w' => e = .returned (.pointer (some ⟨w.heap.size, 0, none⟩)) ∧ w' = w.alloc (.cells #[.slice none 0 0] 76) := by
  go_enter Try.func39, Try.ntmps39
  go_wp2
  go_ret
  exact ⟨rfl, rfl⟩

theorem len_any (bg : Nat) (a : Option Addr) (n c : Nat) (w : World) (h : w.cell? ⟨bg, 0, none⟩ = some (.slice a n c)) :
    Calls Try.prog 13 #[.pointer (some ⟨bg, 0, none⟩)] w fun e w' => e = .returned (.int .i64 n) ∧ w = w' := by
  go_enter Try.func13, Try.ntmps13
  go_wp2
  go_ret
  exact ⟨rfl, rfl⟩

/-- there is a commit k -/
def hasB (n : Nat) (k : Int) : Bool := decide (0 ≤ k ∧ k < n)

theorem has_any (bg : Nat) (a : Option Addr) (n c : Nat) (k : Int) (w : World) (h : w.cell? ⟨bg, 0, none⟩ = some (.slice a n c)) :
    Calls Try.prog 40 #[.pointer (some ⟨bg, 0, none⟩), .int .i64 k] w fun e w' => e = .returned (.bool (hasB n k)) ∧ w = w' := by
  by_cases h0 : 0 ≤ k
  · by_cases h1 : k < n
    · have HE : Hid (hasB n k = true) := Lib.hid (by simp [hasB, h0, h1])
      go_enter Try.func40, Try.ntmps40
      go_wp2
      go_ret
      exact ⟨ret_eq (by rw [HE.out]; rfl), rfl⟩
    · have h3 : decide (k < (n : Int)) = false := by simpa using h1
      have HE : Hid (hasB n k = false) := Lib.hid (by simp [hasB, h0]; omega)
      go_enter Try.func40, Try.ntmps40
      go_wp2
      go_ret
      exact ⟨ret_eq (by rw [HE.out]; rfl), rfl⟩
  · have HE : Hid (hasB n k = false) := Lib.hid (by simp [hasB, h0])
    have h2 : decide (0 ≤ k) = false := by simpa using h0
    go_enter Try.func40, Try.ntmps40
    go_wp2
    go_ret
    exact ⟨ret_eq (by rw [HE.out]; rfl), rfl⟩

end Go.Proofs.Ytoakelgjofdmpaa
