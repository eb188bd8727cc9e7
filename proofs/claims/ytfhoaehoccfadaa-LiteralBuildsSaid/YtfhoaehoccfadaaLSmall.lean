/-
  the statements' small and bytesOf.
-/
import Derived.Test.YtfhoaehoccfadaaLEnds
import Derived.Test.YtfhoaehoccfadaaStrs
namespace Go.Proofs.Ytfhoaehoccfadaa
open Go.RowKit Go.Maps
set_option linter.unusedVariables false
set_option linter.unusedSimpArgs false

/-- how small the first k patterns are -/
def ssum (ss : List ByteArray) : Nat → Nat
  | 0 => 0
  | k + 1 => ssum ss k + (1 + min (ss.getD k ByteArray.empty).size 200)
theorem ssum_mono (ss) {i j : Nat} (h : i ≤ j) : ssum ss i ≤ ssum ss j := by
  induction j with
  | zero => have : i = 0 := (by omega); rw [this]; exact Nat.le_refl _
  | succ j ih =>
    by_cases e : i = j + 1
    · rw [e]; exact Nat.le_refl _
    · have := ih (by omega); show _ ≤ ssum ss j + _; omega
theorem ssum_k (ss) : ∀ k, k ≤ ssum ss k
  | 0 => Nat.le_refl _
  | k + 1 => by have := ssum_k ss k; show _ ≤ ssum ss k + _; omega

/-- the patterns -/
def pats (ss : List ByteArray) : List (List Int) := ss.map numsOf
theorem pats_len (ss) : (pats ss).length = ss.length := by simp [pats]
theorem pats_getD (ss : List ByteArray) (i : Nat) : (pats ss).getD i [] = numsOf (ss.getD i ByteArray.empty) := by
  unfold pats
  simp only [List.getD, List.getElem?_map]
  cases ss[i]? <;> rfl
/-- small: few short patterns -/
structure Small (ss : List ByteArray) : Prop where
  n : ss.length ≤ 120
  len : ∀ i, (ss.getD i ByteArray.empty).size ≤ 120
  sum : ((pats ss).map List.length).foldr (· + ·) 0 ≤ 120 - ss.length
theorem foldr_add_append (l m : List Nat) : (l ++ m).foldr (· + ·) 0 = l.foldr (· + ·) 0 + m.foldr (· + ·) 0 := by
  induction l with
  | nil => simp
  | cons a r ih => simp only [List.cons_append, List.foldr_cons, ih]; omega
theorem small_of {ss : List ByteArray} (h : ssum ss ss.length ≤ 120) : Small ss := by
  have hl : ∀ i, i < ss.length → (ss.getD i ByteArray.empty).size ≤ 120 := by
    intro i hi
    have h1 := ssum_mono ss (show i + 1 ≤ ss.length from hi)
    have h2 : ssum ss (i + 1) = ssum ss i + (1 + min (ss.getD i ByteArray.empty).size 200) := rfl
    omega
  refine ⟨by have := ssum_k ss ss.length; omega, fun i => ?_, ?_⟩
  · by_cases hi : i < ss.length
    · exact hl i hi
    · rw [show ss.getD i ByteArray.empty = ByteArray.empty by simp [List.getD, List.getElem?_eq_none (show ss.length ≤ i by omega)]]
      decide
  · have h3 : ∀ k, k ≤ ss.length → ssum ss k = k + (((pats ss).take k).map List.length).foldr (· + ·) 0 := by
      intro k
      induction k with
      | zero => intro _; rfl
      | succ k ih =>
        intro hk
        have e1 : (pats ss).take (k + 1) = (pats ss).take k ++ [(pats ss).getD k []] := getD_take_snoc (by rw [pats_len]; exact hk)
        rw [e1, List.map_append, foldr_add_append]
        show ssum ss k + (1 + min (ss.getD k ByteArray.empty).size 200) = _
        rw [ih (by omega)]
        simp only [List.map_cons, List.map_nil, List.foldr_cons, List.foldr_nil]
        rw [pats_getD, numsOf_len]
        have := hl k (by omega)
        omega
    have h4 := h3 ss.length (Nat.le_refl _)
    rw [List.take_of_length_le (by rw [pats_len]; exact Nat.le_refl _)] at h4
    omega
theorem Small.trie {ss} (h : Small ss) : (trieOf (pats ss)).length ≤ 121 := by
  have := trie_le (pats ss); have := h.sum; omega
theorem Small.code {ss} (h : Small ss) : ocode (pats ss) = 0 ∨ ocode (pats ss) = 4 := by
  unfold ocode
  split
  · exact .inr rfl
  · rw [if_neg (by have := h.trie; omega)]; exact .inl rfl

set_option maxRecDepth 100000 in
set_option maxHeartbeats 4000000 in
theorem small_any (a : Option Addr) (n c : Nat) (ss : List ByteArray) (w : World) (hr : RdS w a n ss) :
    Calls Try.prog 11 #[.slice a n c] w fun e w' => (∃ z : Bool, e = .returned (.bool z) ∧ (z = true → ssum ss ss.length ≤ 120)) ∧ w = w' := by
  have HR := Lib.hid hr
  have HL := Lib.hid hr.len
  have hmax := hr.max
  clear hr
  go_enter Try.func11, Try.ntmps11
  go_wp2
  go_loopg [3, 4] n (fun gg sv iv wr => ∃ k : Nat, k ≤ n ∧ gg = n - k ∧ iv = .int .i64 k ∧ sv = .int .i64 (ssum ss k : Nat) ∧ ssum ss k ≤ 1000 ∧ w = wr)
  case atStart => exact ⟨0, by omega, rfl, rfl, rfl, by simp [ssum], rfl⟩
  case round =>
    obtain ⟨k, hk, rfl, rfl, rfl, hs, hw⟩ := hrel
    subst hw
    by_cases hbig : 120 < ssum ss k
    · have HB := Lib.hid hbig
      have HM := Lib.hid (ssum_mono ss (show k ≤ ss.length by rw [HL.out]; exact hk))
      generalize ssum ss k = q at *
      have hq1 : decide ((q : Int) ≤ 120) = false := by simp; omega
      by_cases hkn : k < n
      · have hkz : (k : Int) < (n : Int) := by omega
        go_wp2
        go_ret
        exact ⟨⟨false, ret_eq rfl, fun h => by cases h⟩, rfl⟩
      · go_wp2
        go_ret
        exact ⟨⟨false, ret_eq rfl, fun h => by cases h⟩, rfl⟩
    · have hq0 : ssum ss k ≤ 120 := by omega
      by_cases hkn : k < n
      · obtain ⟨b, off, rfl, hc⟩ := HR.out.cell k hkn
        have hkz : (k : Int) < (n : Int) := by omega
        have HSS : Hid (ssum ss (k + 1) = ssum ss k + (1 + min (ss.getD k ByteArray.empty).size 200)) := Lib.hid rfl
        generalize ss.getD k ByteArray.empty = s at *
        obtain ⟨q, hq⟩ : ∃ q, q = ssum ss k := ⟨_, rfl⟩
        rw [← hq] at HSS hs hq0 hbig ⊢
        have HQ := Lib.hid hq
        have hq1 : decide ((q : Int) ≤ 120) = true := by simp; omega
        clear hq
        go_wp2
        all_goals
          go_roundg (n - (k + 1))
          case measure => omega
          case rel =>
            have e := HSS.out
            refine ⟨k + 1, by omega, rfl, by go_num, ?_, by rw [e]; omega, rfl⟩
            rw [e]
            first
              | (congr 1; omega)
              | (rename_i h9; congr 1; omega)
      · have hkn2 : k = n := by omega
        subst hkn2
        have HF : Hid (ssum ss ss.length ≤ 120) := Lib.hid (by rw [HL.out]; exact hq0)
        generalize ssum ss k = q at *
        have hq1 : decide ((q : Int) ≤ 120) = true := by simp; omega
        go_wp2
        go_ret
        exact ⟨⟨true, ret_eq rfl, fun _ => HF.out⟩, rfl⟩

/-- the rows that bytesOf lays -/
def BRows (N : Nat → Prop) (w : World) (xs : List Value) (ss : List ByteArray) (k : Nat) : Prop :=
  xs.length = k ∧ ∀ i, i < k → ∃ b c, N b ∧ xs[i]? = some (.slice (some ⟨b, 0, none⟩) (ss.getD i ByteArray.empty).size c) ∧ (ss.getD i ByteArray.empty).size ≤ c ∧ Rd w .u8 (some ⟨b, 0, none⟩) (ss.getD i ByteArray.empty).size (numsOf (ss.getD i ByteArray.empty))

theorem ESU : EltG Try.prog 33 44 (.slice none 0 0) 1 24 := ⟨Try.underlying33, info_parts (by kernel_rfl), rfl, by decide⟩

set_option maxRecDepth 100000 in
set_option maxHeartbeats 4000000 in
theorem bytesOf_any (a : Option Addr) (n c : Nat) (ss : List ByteArray) (w : World) (hr : RdS w a n ss) (hn : n ≤ 100000) :
    Calls Try.prog 13 #[.slice a n c] w fun e w' => (∃ a' c', e = .returned (.slice a' n c') ∧ RdRows w' .u8 a' n (pats ss)) ∧ Below w.heap.size w w' := by
  have HR := Lib.hid hr
  have HL := Lib.hid hr.len
  have hmax := hr.max
  clear hr
  go_enter Try.func13, Try.ntmps13
  go_wp2
  go_loopg [3, 4] n (fun gg sv iv wr => ∃ (k : Nat) (la : Option Addr) (lc : Nat) (N : Nat → Prop) (xs : List Value), k ≤ n ∧ gg = n - k ∧ iv = .int .i64 k ∧ sv = .slice la k lc ∧ RF w.heap.size N wr [some (44, .slice la k lc, xs)] ∧ BRows N wr xs ss k ∧ Below w.heap.size w wr)
  case atStart =>
    exact ⟨0, none, 0, fun _ => False, [], by omega, rfl, rfl, rfl, RF.one (World.ownsRow_nil _ _ _ _) (fun g hg => by cases hg) (fun b hb => hb.elim) (Nat.le_refl _), ⟨rfl, fun i hi => by omega⟩, Below.refl _ _⟩
  case round =>
    obtain ⟨k, la, lc, N, xs, hk, rfl, rfl, rfl, hrf, hbr, hbl⟩ := hrel
    have HF := Lib.hid hrf
    have HBR := Lib.hid hbr
    have HBL := Lib.hid hbl
    clear hrf hbr hbl
    by_cases hlt : k < n
    · obtain ⟨b, off, rfl, hc⟩ := (HR.out.below HBL.out).cell k hlt
      have HSZ := Lib.hid (HR.out.wfD k)
      obtain ⟨s, hs⟩ : ∃ s, s = ss.getD k ByteArray.empty := ⟨_, rfl⟩
      rw [← hs] at hc HSZ
      have HS := Lib.hid hs
      have hkz : (k : Int) < (n : Int) := by omega
      have hcv := Lib.run_convert_string_bytes (P := Try.prog) wr 9 44 5 s Try.underlying9 Try.underlying44 Try.underlying5
      obtain ⟨w5, hw5⟩ : ∃ w5, w5 = Lib.bytesWorld wr 5 s := ⟨_, rfl⟩
      obtain ⟨q, hq⟩ : ∃ q, q = grownCap wr s.size 0 5 := ⟨_, rfl⟩
      have HB5 : Hid (Below wr.heap.size wr w5) := Lib.hid (by rw [hw5]; exact bytesWorld_below _ _ _)
      have HS5 : Hid (wr.heap.size < w5.heap.size) := Lib.hid (by rw [hw5, Lib.bytesWorld_size]; omega)
      have HR5 : Hid (Rd w5 .u8 (some ⟨wr.heap.size, 0, none⟩) s.size (numsOf s)) := Lib.hid (by rw [hw5]; exact bytesWorld_rd _ _ _ HSZ.out)
      have HQ : Hid (s.size ≤ q) := Lib.hid (by rw [hq]; exact grownCap_ge _ _ _ _)
      rw [← hw5, ← hq] at hcv
      clear hs hw5 hq
      have HF5 := Lib.hid (HF.out.addN' HB5.out HS5.out)
      have HXL : Hid (k = xs.length) := Lib.hid HBR.out.1.symm
      go_wp2_with (at_builtin; refine RF.append HF5.out (i := 0) rfl k HXL.out (below_alloc w5 _) (.tmp 11) (.tmp 17) ESU rfl rfl rfl _ 1 _ [.slice (some ⟨wr.heap.size, 0, none⟩) s.size q] rfl (RdG.lits w5 1 44 1 [.slice (some ⟨wr.heap.size, 0, none⟩) s.size q] rfl) (by simp [Value.oneCell']) (by omega) (by decide) ?_; intro a6 c6 w6 hrf6 hg6 hbl6 hfr6; have HR6 := Lib.hid hrf6; have HB6 := Lib.hid hbl6; have HF6 := Lib.hid hfr6; clear hrf6 hg6 hbl6 hfr6)
      go_roundg (n - (k + 1))
      case measure => omega
      case rel =>
        refine ⟨k + 1, a6, c6, _, xs ++ [.slice (some ⟨wr.heap.size, 0, none⟩) s.size q], by omega, rfl, by go_num, rfl, HR6.out, ⟨by simp [← HXL.out], fun i hi => ?_⟩, (HBL.out.trans (HB5.out.mono HBL.out.size)).trans HB6.out⟩
        by_cases e : i < k
        · obtain ⟨b', c', hN, hx, hc', hrd⟩ := HBR.out.2 i e
          refine ⟨b', c', .inl hN, by rw [List.getElem?_append_left (by rw [← HXL.out]; exact e)]; exact hx, hc', ?_⟩
          exact (hrd.below HB5.out).frN (N := fun b => N b ∨ b = wr.heap.size) (.inl hN) HF6.out
        · obtain rfl : i = k := by omega
          rw [← HS.out]
          refine ⟨wr.heap.size, q, .inr rfl, by rw [List.getElem?_append_right (by rw [← HXL.out]; omega), ← HXL.out]; simp, HQ.out, ?_⟩
          exact HR5.out.frN (N := fun b => N b ∨ b = wr.heap.size) (.inr rfl) HF6.out
    · have hkn : k = n := by omega
      subst hkn
      go_wp2
      go_ret
      refine ⟨⟨la, lc, rfl, by rw [pats_len, HL.out], by omega, fun i hi => ?_⟩, HBL.out⟩
      obtain ⟨b', c', hN, hx, hc', hrd⟩ := HBR.out.2 i hi
      obtain ⟨g, rfl⟩ := HF.out.addr (i := 0) rfl (by rw [HBR.out.1]; omega)
      exact ⟨g, 0, some ⟨b', 0, none⟩, _, c', rfl, by rw [Nat.zero_add]; exact HF.out.cell (i := 0) rfl hx, by rw [pats_getD]; exact hrd, hc'⟩

end Go.Proofs.Ytfhoaehoccfadaa
