/-
  evergreenref32.Error of few short patterns.
-/
import Derived.Test.YtfhoaehoccfadaaLPref
namespace Go.Proofs.Ytfhoaehoccfadaa
open Go.RowKit Go.Maps
set_option linter.unusedVariables false
set_option linter.unusedSimpArgs false

theorem empty_str (s : ByteArray) : s.toList.isEmpty = decide (s.size = 0) := by
  rw [str_toList, Bool.eq_iff_iff, decide_eq_true_eq, List.isEmpty_iff]
  exact ⟨fun h => by have := congrArg List.length h; exact this, fun h => List.eq_nil_of_length_eq_zero h⟩

set_option maxRecDepth 100000 in
set_option maxHeartbeats 1500000 in
theorem error_any (a : Option Addr) (n cp : Nat) (ss : List ByteArray) (W : World) (hr : RdS W a n ss) (hs : Small ss) :
    Calls Try.prog 14 #[.slice a n cp] W fun e w' => e = .returned (.int .i64 (ocode (pats ss))) ∧ Below W.heap.size W w' := by
  have HR := Lib.hid hr
  have HL := Lib.hid hr.len
  have hmax := hr.max
  have HS := Lib.hid hs
  have HPC := Lib.hid (prefixes_any a n cp ss W hr hs)
  have HPL : Hid ((prefs (pats ss)).length ≤ 121) := Lib.hid (by rw [← trie_len]; exact hs.trie)
  clear hr hs
  by_cases hn0 : n = 0
  · have HC : Hid (ocode (pats ss) = 4) := Lib.hid (by
      have : pats ss = [] := List.eq_nil_of_length_eq_zero (by rw [pats_len, HL.out]; exact hn0)
      unfold ocode; rw [if_pos (.inl this)])
    subst hn0
    go_enter Try.func14, Try.ntmps14
    go_wp2
    go_ret
    exact ⟨ret_eq (by rw [HC.out]; rfl), Below.refl _ _⟩
  · have hn1 : ((n : Int) == 0) = false := by simp; omega
    have hn2 : (n == 0) = false := by simp; omega
    have HNE : Hid (pats ss ≠ []) := Lib.hid (by intro e; have := congrArg List.length e; rw [pats_len, HL.out] at this; exact hn0 this)
    go_enter Try.func14, Try.ntmps14
    go_wp2
    go_loopg [3] n (fun gg iv wr => ∃ k : Nat, k ≤ n ∧ gg = n - k ∧ iv = .int .i64 k ∧ W = wr ∧ ∀ i, i < k → (ss.getD i ByteArray.empty).size ≠ 0)
    case atStart => exact ⟨0, by omega, rfl, rfl, rfl, fun i hi => by omega⟩
    case round =>
      obtain ⟨k, hk, rfl, rfl, hw, hne⟩ := hrel
      subst hw
      have HNS := Lib.hid hne
      clear hne
      by_cases hlt : k < n
      · obtain ⟨b, off, rfl, hc⟩ := HR.out.cell k hlt
        have hkz : (k : Int) < (n : Int) := by omega
        have HES := Lib.hid (empty_str (ss.getD k ByteArray.empty))
        by_cases h0 : (ss.getD k ByteArray.empty).size = 0
        · have hz : (ss.getD k ByteArray.empty).toList.isEmpty = true := by rw [HES.out]; exact decide_eq_true h0
          have HC : Hid (ocode (pats ss) = 4) := Lib.hid (by
            have hm : (pats ss).getD k [] ∈ pats ss := getD_mem (by rw [pats_len, HL.out]; exact hlt)
            have he : (pats ss).getD k [] = [] := List.eq_nil_of_length_eq_zero (by rw [pats_getD, numsOf_len]; exact h0)
            rw [he] at hm
            unfold ocode; rw [if_pos (.inr hm)])
          generalize ss.getD k ByteArray.empty = s at *
          clear h0
          go_wp2
          go_ret
          exact ⟨ret_eq (by rw [HC.out]; rfl), Below.refl _ _⟩
        · have hz : (ss.getD k ByteArray.empty).toList.isEmpty = false := by rw [HES.out]; exact decide_eq_false h0
          have H0 := Lib.hid h0
          have HN2 : Hid (∀ i, i < k + 1 → (ss.getD i ByteArray.empty).size ≠ 0) := Lib.hid (fun i hi => by
            by_cases e : i < k
            · exact HNS.out i e
            · obtain rfl : i = k := by omega
              exact h0)
          clear h0 H0
          generalize ss.getD k ByteArray.empty = s at hc hz
          go_wp2
          go_roundg (n - (k + 1))
          case measure => omega
          case rel => exact ⟨k + 1, by omega, rfl, by go_num, rfl, HN2.out⟩
      · have hkn : k = n := by omega
        subst hkn
        have HC : Hid (ocode (pats ss) = 0) := Lib.hid (by
          unfold ocode
          rw [if_neg, if_neg]
          · have := HPL.out; rw [trie_len]; omega
          · rintro (h | h)
            · exact HNE.out h
            · obtain ⟨q1, q2⟩ := mem_getD (d := []) h
              rw [pats_getD] at q2
              rw [pats_len, HL.out] at q1
              exact HNS.out _ q1 (by rw [← numsOf_len, q2]; rfl))
        clear HNS
        go_wp2_with fail
        refine HPC.out.mono ?_
        rintro e w5 ⟨g, m, c, outs, rfl, hpf⟩
        have hm121 : m ≤ 121 := by rw [← hpf.len, ← List.length_map (f := numsOf), hpf.words]; exact HPL.out
        have HB := Lib.hid hpf.bel
        clear hpf
        go_wp2
        go_ret
        exact ⟨ret_eq (by rw [HC.out]; rfl), HB.out⟩

end Go.Proofs.Ytfhoaehoccfadaa
