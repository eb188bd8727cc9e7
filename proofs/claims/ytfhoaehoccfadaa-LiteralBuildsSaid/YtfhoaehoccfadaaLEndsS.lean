/-
  Ends of strings: the three steps that the statements take (bytesOf, []byte, Ends), told in one; what Ends hands back under a small list.
-/
import Derived.Test.YtfhoaehoccfadaaLAwake
namespace Go.Proofs.Ytfhoaehoccfadaa
open Go.RowKit Go.Maps
set_option linter.unusedVariables false
set_option linter.unusedSimpArgs false

theorem ecode_eq {ps : List (List Int)} {t : List Int} (h : t.length ≤ 65536) : ecode ps t = ocode ps := by
  unfold ecode
  by_cases h0 : ocode ps ≠ 0
  · rw [if_pos h0]
  · rw [if_neg h0, if_neg (by omega)]; omega
theorem EndsPost.ok {ps t w e w'} (h : EndsPost ps t w e w') (h0 : ecode ps t = 0) : Below w.heap.size w w' ∧ ∃ a c, e = .returned (.tuple #[.slice a t.length c, .nilIface]) ∧ t.length ≤ c ∧ Rd w' .i64 a t.length (endsL ps t) := by
  obtain ⟨hb, ⟨h1, _⟩ | ⟨_, h2⟩⟩ := h
  · exact absurd h0 h1
  · exact ⟨hb, h2⟩
theorem EndsPost.bad {ps t w e w'} {k : Int} (h : EndsPost ps t w e w') (hk : ecode ps t = k) (h0 : k ≠ 0) : Below w.heap.size w w' ∧ e = .returned (.tuple #[.slice none 0 0, errV k]) := by
  obtain ⟨hb, ⟨_, h2⟩ | ⟨h1, _⟩⟩ := h
  · rw [hk] at h2; exact ⟨hb, h2⟩
  · exact absurd (hk ▸ h1) h0
theorem numsOf_append (s t : ByteArray) : numsOf (s ++ t) = numsOf s ++ numsOf t := by
  unfold numsOf; rw [ByteArray.data_append, Array.toList_append, List.map_append]
/-- the ends of a string, once bytesOf has laid the patterns -/
theorem ends_str (ss : List ByteArray) (s : ByteArray) (n c : Nat) (a : Option Addr) (w : World) (hr : RdRows w .u8 a n (pats ss)) (hss : ss.length ≤ 120) (hs : s.size ≤ 65536) (cap m : Nat) (hm : m = s.size) :
    Calls Try.prog 20 #[.slice a n c, .slice (some ⟨w.heap.size, 0, none⟩) m cap] (Lib.bytesWorld w 5 s) (EndsPost (pats ss) (numsOf s) (Lib.bytesWorld w 5 s)) := by
  subst hm
  exact ends_any a n c (pats ss) _ s.size cap (numsOf s) _ (hr.below (bytesWorld_below _ _ _)) (by rw [pats_len]; omega) (bytesWorld_rd _ _ _ (by omega))
theorem endsL_getD {ps : List (List Int)} {t : List Int} {i : Nat} (h : i < t.length) : (endsL ps t).getD i 0 = (cnt ps (t.take (i + 1)) : Int) := by
  simp [endsL, List.getD, h]

/-- LiteralConcatenates, the plain law: what ends in a text behind another one -/
theorem cnt_mono {ps : List (List Int)} (a b : List Int) : cnt ps b ≤ cnt ps (a ++ b) := by
  unfold cnt
  rw [← List.countP_eq_length_filter, ← List.countP_eq_length_filter]
  exact List.countP_mono_left fun p _ h => by
    simp only [decide_eq_true_eq] at *
    exact h.trans (List.suffix_append a b)
theorem cnt_long {ps : List (List Int)} (a b : List Int) (h : ∀ p ∈ ps, p.length ≤ b.length) : cnt ps (a ++ b) = cnt ps b := by
  unfold cnt
  congr 1
  refine List.filter_congr fun p hp => ?_
  rw [decide_eq_decide]
  constructor
  · intro hs
    exact List.suffix_of_suffix_length_le hs (List.suffix_append a b) (h p hp)
  · intro hs; exact hs.trans (List.suffix_append a b)

end Go.Proofs.Ytfhoaehoccfadaa
