/-
  the plain law of Bases: the marks from above, and the list that is then reversed.
-/
import Derived.Test.YtoakelgjofdmpaaHAnc
namespace Go.Proofs.Ytoakelgjofdmpaa
set_option linter.unusedVariables false
set_option linter.unusedSimpArgs false

def covM (L : List Cm) (a b : Nat) : Nat → List Bool
  | 0 => List.replicate (a + 1) false
  | k + 1 => if com L a b (a - k) then markP (covM L a b k) (parsOf L (a - k)) else covM L a b k
theorem covM_len (L : List Cm) (a b : Nat) : ∀ k, (covM L a b k).length = a + 1
  | 0 => by simp [covM]
  | k + 1 => by
    have := covM_len L a b k
    unfold covM
    split
    · rw [markP_len]; exact this
    · exact this

theorem covM_inv {L : List Cm} (hL : GoodL L) {a b : Nat} : ∀ k, k ≤ a + 1 → ∀ j, j < a + 1 → ((covM L a b k).getD j false = true ↔ ∃ i, a < i + k ∧ i ≤ a ∧ com L a b i = true ∧ (j : Int) ∈ parsOf L i)
  | 0, _, j, hj => by
    unfold covM
    constructor
    · intro h; simp [List.getD, hj] at h
    · rintro ⟨i, h1, h2, _⟩; omega
  | k + 1, hk, j, hj => by
    have ih := covM_inv hL (b := b) k (by omega) j hj
    unfold covM
    by_cases hc : com L a b (a - k) = true
    · rw [if_pos hc, markP_get _ _ _ (by rw [covM_len]; exact hj) (fun p hp => (pars_lt hL hp).1), ih]
      constructor
      · rintro (⟨i, h1, h2, h3, h4⟩ | h)
        · exact ⟨i, by omega, h2, h3, h4⟩
        · exact ⟨a - k, by omega, by omega, hc, h⟩
      · rintro ⟨i, h1, h2, h3, h4⟩
        by_cases hi : a < i + k
        · exact .inl ⟨i, hi, h2, h3, h4⟩
        · have : i = a - k := by omega
          subst this; exact .inr h4
    · rw [if_neg hc, ih]
      constructor
      · rintro ⟨i, h1, h2, h3, h4⟩; exact ⟨i, by omega, h2, h3, h4⟩
      · rintro ⟨i, h1, h2, h3, h4⟩
        by_cases hi : a < i + k
        · exact ⟨i, hi, h2, h3, h4⟩
        · have : i = a - k := by omega
          subst this; exact absurd h3 hc

theorem com_le {L : List Cm} (hL : GoodL L) {a b n : Nat} (h : com L a b n = true) : n ≤ a ∧ n ≤ b := by
  unfold com at h
  rw [Bool.and_eq_true, ancB_iff hL, ancB_iff hL] at h
  exact ⟨h.1.le hL, h.2.le hL⟩

theorem covM_eq {L : List Cm} (hL : GoodL L) {a b q : Nat} (hq : q ≤ a) : (covM L a b (a - q)).getD q false = covered L a b q := by
  rw [Bool.eq_iff_iff, covM_inv hL (a - q) (by omega) q (by omega)]
  unfold covered
  rw [List.any_eq_true]
  constructor
  · rintro ⟨i, h1, h2, h3, h4⟩
    exact ⟨i, List.mem_range.2 (pars_lt hL h4).2.2, by rw [Bool.and_eq_true, List.contains_iff_mem]; exact ⟨h3, h4⟩⟩
  · rintro ⟨i, _, hi⟩
    rw [Bool.and_eq_true, List.contains_iff_mem] at hi
    have := pars_lt hL hi.2
    have := com_le hL hi.1
    exact ⟨i, by omega, by omega, hi.1, hi.2⟩

def listM (L : List Cm) (a b : Nat) : Nat → List Int
  | 0 => []
  | k + 1 => if baseB L a b (a - k) then listM L a b k ++ [((a - k : Nat) : Int)] else listM L a b k

theorem listM_len (L : List Cm) (a b : Nat) : ∀ k, (listM L a b k).length ≤ k
  | 0 => by simp [listM]
  | k + 1 => by
    have := listM_len L a b k
    unfold listM
    split
    · simp; omega
    · omega

theorem listM_rev (L : List Cm) (a b : Nat) : ∀ k, k ≤ a + 1 → (listM L a b k).reverse = ((List.range' (a + 1 - k) k).filter (baseB L a b)).map (fun (n : Nat) => (n : Int))
  | 0, _ => by simp [listM]
  | k + 1, hk => by
    have ih := listM_rev L a b k (by omega)
    have e : List.range' (a + 1 - (k + 1)) (k + 1) = (a - k) :: List.range' (a + 1 - k) k := by
      rw [List.range'_succ, show a + 1 - (k + 1) = a - k by omega, show a - k + 1 = a + 1 - k by omega]
    unfold listM
    rw [e, List.filter_cons]
    by_cases hb : baseB L a b (a - k) = true
    · rw [if_pos hb, if_pos hb, List.reverse_append, ih]; rfl
    · rw [if_neg hb, if_neg hb, ih]

theorem listM_bases {L : List Cm} (hL : GoodL L) {a b : Nat} (ha : a < L.length) : (listM L a b (a + 1)).reverse = bases L a b := by
  rw [listM_rev L a b (a + 1) (Nat.le_refl _), Nat.sub_self]
  unfold bases
  congr 1
  have e : List.range L.length = List.range' 0 (a + 1) ++ List.range' (a + 1) (L.length - (a + 1)) := by
    have h := List.range'_append_1 (s := 0) (m := a + 1) (n := L.length - (a + 1))
    rw [Nat.zero_add, show a + 1 + (L.length - (a + 1)) = L.length by omega] at h
    rw [List.range_eq_range', h]
  have h0 : (List.range' (a + 1) (L.length - (a + 1))).filter (baseB L a b) = [] := by
    rw [List.filter_eq_nil_iff]
    intro n hn hb
    rw [List.mem_range'_1] at hn
    unfold baseB at hb
    rw [Bool.and_eq_true] at hb
    have := com_le hL hb.1
    omega
  rw [e, List.filter_append, h0, List.append_nil]

end Go.Proofs.Ytoakelgjofdmpaa
