/-
  PLAIN LAW: the machine hangs on which patterns there are alone; the hits count how often.
-/
import Derived.Test.YtfhoaehoccfadaaLSmall
namespace Go.Proofs.Ytfhoaehoccfadaa
set_option linter.unusedVariables false
set_option linter.unusedSimpArgs false

theorem prefs_congr {ps qs : List (List Int)} (h : ∀ x, x ∈ qs ↔ x ∈ ps) : prefs qs = prefs ps :=
  sorted_unique (prefs_sorted _) (prefs_sorted _) fun x => by
    rw [mem_prefs, mem_prefs]
    constructor
    · rintro (e | ⟨p, hp, hx⟩)
      · exact .inl e
      · exact .inr ⟨p, (h p).1 hp, hx⟩
    · rintro (e | ⟨p, hp, hx⟩)
      · exact .inl e
      · exact .inr ⟨p, (h p).2 hp, hx⟩
theorem used_congr {ps qs : List (List Int)} (h : ∀ x, x ∈ qs ↔ x ∈ ps) : usedB qs = usedB ps := by
  funext b
  unfold usedB
  rw [Bool.eq_iff_iff, List.any_eq_true, List.any_eq_true]
  constructor
  · rintro ⟨p, hp, hx⟩; exact ⟨p, (h p).1 hp, hx⟩
  · rintro ⟨p, hp, hx⟩; exact ⟨p, (h p).2 hp, hx⟩
theorem litC_congr {ps qs : List (List Int)} (h : ∀ x, x ∈ qs ↔ x ∈ ps) : litC qs = litC ps := by unfold litC; rw [used_congr h]
theorem litN_congr {ps qs : List (List Int)} (h : ∀ x, x ∈ qs ↔ x ∈ ps) : litN qs = litN ps := by unfold litN litL; rw [prefs_congr h, used_congr h]
theorem litA_of {ps qs : List (List Int)} (h : ∀ x, x ∈ qs ↔ x ∈ ps) (hc : ∀ x, 0 < cnt qs x ↔ 0 < cnt ps x) : litA qs = litA ps := by
  unfold litA
  rw [prefs_congr h]
  exact List.map_congr_left fun x _ => by rw [decide_eq_decide]; exact hc x
theorem ocode_congr {ps qs : List (List Int)} (h : ∀ x, x ∈ qs ↔ x ∈ ps) : ocode qs = ocode ps := by
  have h1 : (qs = [] ∨ [] ∈ qs) ↔ (ps = [] ∨ [] ∈ ps) := by
    rw [h []]
    have : qs = [] ↔ ps = [] := by
      rw [List.eq_nil_iff_forall_not_mem, List.eq_nil_iff_forall_not_mem]
      exact ⟨fun g x hx => g x ((h x).2 hx), fun g x hx => g x ((h x).1 hx)⟩
    rw [this]
  unfold ocode
  by_cases h2 : ps = [] ∨ [] ∈ ps
  · rw [if_pos h2, if_pos (h1.2 h2)]
  · rw [if_neg h2, if_neg (fun g => h2 (h1.1 g)), trie_len, trie_len, prefs_congr h]
theorem cnt_pos (ps : List (List Int)) (x : List Int) : 0 < cnt ps x ↔ ∃ p ∈ ps, p <:+ x := by
  unfold cnt
  rw [List.length_pos_iff_exists_mem]
  constructor
  · rintro ⟨p, hp⟩
    rw [List.mem_filter] at hp
    exact ⟨p, hp.1, by simpa using hp.2⟩
  · rintro ⟨p, hp, hx⟩
    exact ⟨p, List.mem_filter.2 ⟨hp, by simpa using hx⟩⟩
theorem litA_congr {ps qs : List (List Int)} (h : ∀ x, x ∈ qs ↔ x ∈ ps) : litA qs = litA ps :=
  litA_of h fun x => by
    rw [cnt_pos, cnt_pos]
    exact ⟨fun ⟨p, hp, hx⟩ => ⟨p, (h p).1 hp, hx⟩, fun ⟨p, hp, hx⟩ => ⟨p, (h p).2 hp, hx⟩⟩

end Go.Proofs.Ytfhoaehoccfadaa
