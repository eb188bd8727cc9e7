/-
  square: the steps that consist of two steps.
-/
import Derived.Test.YtajajkganamfiaaMWordS
namespace Go.Proofs.Ytajajkganamfiaa
open Go.RowKit
set_option linter.unusedVariables false
set_option linter.unusedSimpArgs false

/-- sums by rows: after some rows, and some entries of the next row -/
def acc2 (M : Nat → Nat → Nat) (n q : Nat) (L : List Nat) (p : Nat) : Nat := sml L (fun r => M q r * M r p)
theorem acc2_all (M : Nat → Nat → Nat) (n q p : Nat) : acc2 M n q (lsf (M q) n) p = mm n M M q p := by
  unfold acc2 mm; exact sml_lsf (M q) (fun r => M r p) n

/-- within row r: the entries of K are added -/
def part2 (M : Nat → Nat → Nat) (q r : Nat) (K : List Nat) (p : Nat) : Nat := if p ∈ K then M q r * M r p else 0

theorem part2_all (M : Nat → Nat → Nat) (n q r p : Nat) (hp : p < n) : part2 M q r (lsf (M r) n) p = M q r * M r p := by
  unfold part2
  split
  · rfl
  · rename_i h
    have : M r p = 0 := by
      rcases Nat.eq_zero_or_pos (M r p) with e | e
      · exact e
      · exact absurd (List.mem_filter.2 ⟨List.mem_range.2 hp, by simpa using e⟩) h
    rw [this, Nat.mul_zero]

theorem lsf_nodup (f : Nat → Nat) (n : Nat) : (lsf f n).Nodup := List.Nodup.sublist List.filter_sublist List.nodup_range

theorem part2_snoc (M : Nat → Nat → Nat) (q r : Nat) {K : List Nat} {t : Nat} (hK : t ∉ K) (p : Nat) : part2 M q r (K ++ [t]) p = part2 M q r K p + (if p = t then M q r * M r t else 0) := by
  unfold part2
  by_cases e : p = t
  · subst e; rw [if_pos (by simp), if_neg hK, if_pos rfl, Nat.zero_add]
  · rw [if_neg e, Nat.add_zero]
    by_cases h : p ∈ K
    · rw [if_pos h, if_pos (by simp [h])]
    · rw [if_neg h, if_neg (by simp [h, e])]

/-- what square leaves -/
def cpM (M : Nat → Nat → Nat) : Nat → Nat → Nat := fun q p => cp (M q p)
theorem cpM_le (M : Nat → Nat → Nat) (q p : Nat) : cpM M q p ≤ capM := cp_le _

end Go.Proofs.Ytajajkganamfiaa
