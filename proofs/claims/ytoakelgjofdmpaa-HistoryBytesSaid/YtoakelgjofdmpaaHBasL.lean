/-
  the plain laws of the bases: they are common ancestors, none is an ancestor of another one, each common ancestor is an ancestor of one.
-/
import Derived.Test.YtoakelgjofdmpaaHBasP
namespace Go.Proofs.Ytoakelgjofdmpaa
set_option linter.unusedVariables false
set_option linter.unusedSimpArgs false

def basesN (L : List Cm) (a b : Nat) : List Nat := (List.range L.length).filter (baseB L a b)
theorem bases_map (L : List Cm) (a b : Nat) : bases L a b = (basesN L a b).map (fun (n : Nat) => (n : Int)) := rfl
theorem basesN_nodup (L : List Cm) (a b : Nat) : (basesN L a b).Nodup := List.Nodup.sublist List.filter_sublist List.nodup_range
theorem basesN_mem {L : List Cm} {a b n : Nat} : n ∈ basesN L a b ↔ n < L.length ∧ baseB L a b n = true := by
  unfold basesN; rw [List.mem_filter, List.mem_range]

/-- element i of the bases -/
theorem bases_at {L : List Cm} {a b i : Nat} (hi : i < (bases L a b).length) : ∃ m : Nat, (bases L a b).getD i 0 = (m : Int) ∧ (basesN L a b)[i]? = some m ∧ m < L.length ∧ baseB L a b m = true := by
  have hi2 : i < (basesN L a b).length := by rw [bases_map, List.length_map] at hi; exact hi
  have hm := List.getElem_mem hi2
  refine ⟨(basesN L a b)[i], ?_, List.getElem?_eq_getElem hi2, basesN_mem.1 hm⟩
  rw [bases_map]
  simp [List.getD, hi2]

theorem base_com {L : List Cm} {a b n : Nat} (h : baseB L a b n = true) : com L a b n = true ∧ covered L a b n = false := by
  unfold baseB at h
  rw [Bool.and_eq_true] at h
  exact ⟨h.1, by simpa using h.2⟩
theorem com_anc {L : List Cm} {a b n : Nat} (h : com L a b n = true) : ancB L n a = true ∧ ancB L n b = true := by
  unfold com at h
  rwa [Bool.and_eq_true] at h

theorem bases_apart {L : List Cm} (hL : GoodL L) {a b i k m q : Nat} (h1 : (basesN L a b)[i]? = some m) (h2 : (basesN L a b)[k]? = some q) (hne : k ≠ i) : ancB L m q = false := by
  have m1 := basesN_mem.1 (List.mem_of_getElem? h1)
  have m2 := basesN_mem.1 (List.mem_of_getElem? h2)
  have hmq : q ≠ m := by
    intro e
    subst e
    have hi := (List.getElem?_eq_some_iff.1 h1)
    have hk := (List.getElem?_eq_some_iff.1 h2)
    obtain ⟨hi1, hi2⟩ := hi
    obtain ⟨hk1, hk2⟩ := hk
    have hnd := List.pairwise_iff_getElem.1 (basesN_nodup L a b)
    rcases Nat.lt_or_gt_of_ne hne with h | h
    · exact hnd k i hk1 hi1 h (by rw [hi2, hk2])
    · exact hnd i k hi1 hk1 h (by rw [hi2, hk2])
  rw [Bool.eq_false_iff]
  intro ha
  have hc := (base_com m1.2).2
  have : covered L a b m = true := (covered_iff hL).2 ⟨q, hmq, (base_com m2.2).1, (ancB_iff hL).1 ha⟩
  rw [hc] at this; cases this

theorem bases_above {L : List Cm} (hL : GoodL L) {a b : Nat} (ha : a < L.length) : ∀ d n, a - n ≤ d → com L a b n = true → ∃ m, m ∈ basesN L a b ∧ ancB L n m = true
  | 0, n, hd, hn => by
    cases hc : covered L a b n with
    | false => exact ⟨n, basesN_mem.2 ⟨by have := com_le hL hn; omega, by unfold baseB; rw [hn, hc]; rfl⟩, ancB_refl hL n⟩
    | true =>
      obtain ⟨m, hne, hm, han⟩ := (covered_iff hL).1 hc
      have := han.le hL
      have := com_le hL hm
      omega
  | d + 1, n, hd, hn => by
    cases hc : covered L a b n with
    | false => exact ⟨n, basesN_mem.2 ⟨by have := com_le hL hn; omega, by unfold baseB; rw [hn, hc]; rfl⟩, ancB_refl hL n⟩
    | true =>
      obtain ⟨m, hne, hm, han⟩ := (covered_iff hL).1 hc
      have h1 := han.le hL
      have h2 := com_le hL hm
      obtain ⟨q, hq, haq⟩ := bases_above hL ha d m (by omega) hm
      exact ⟨q, hq, (ancB_iff hL).2 (han.trans ((ancB_iff hL).1 haq))⟩

theorem bases_one {L : List Cm} (hL : GoodL L) {a b : Nat} (ha : a < L.length) (hab : ancB L a b = true) : bases L a b = [(a : Int)] := by
  have hca : com L a b a = true := by unfold com; rw [ancB_refl hL, hab]; rfl
  have hin : a ∈ basesN L a b := by
    refine basesN_mem.2 ⟨ha, ?_⟩
    have hc : covered L a b a = false := by
      rw [Bool.eq_false_iff]
      intro hc
      obtain ⟨m, hne, hm, han⟩ := (covered_iff hL).1 hc
      have := han.le hL
      have := com_le hL hm
      omega
    unfold baseB; rw [hca, hc]; rfl
  have hall : ∀ n ∈ basesN L a b, n = a := by
    intro n hn
    have hb := base_com (basesN_mem.1 hn).2
    refine Classical.byContradiction fun hne => ?_
    have : covered L a b n = true := (covered_iff hL).2 ⟨a, fun e => hne e.symm, hca, (ancB_iff hL).1 (com_anc hb.1).1⟩
    rw [hb.2] at this; cases this
  have hnd := basesN_nodup L a b
  rw [bases_map]
  have : basesN L a b = [a] := by
    revert hin hall hnd
    generalize basesN L a b = l
    intro hin hall hnd
    match l, hin, hall, hnd with
    | [x], hin, hall, _ => rw [hall x (by simp)]
    | x :: y :: r, _, hall, hnd =>
      have h1 := hall x (by simp)
      have h2 := hall y (by simp)
      rw [h1, h2] at hnd
      simp at hnd
  rw [this]; rfl

end Go.Proofs.Ytoakelgjofdmpaa
