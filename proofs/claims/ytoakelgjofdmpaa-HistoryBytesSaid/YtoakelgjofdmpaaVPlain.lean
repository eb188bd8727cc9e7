/-
  plain laws on the encoding of numbers: 'put' and 'tk' are inverse to each other; how long 'put' is.
-/
import Derived.Test.YtoakelgjofdmpaaVTake
namespace Go.Proofs.Ytoakelgjofdmpaa

/-- the encoding of a number -/
def put (n : Nat) : List Int := if _h : n < 128 then [(n : Int)] else ((n % 128 + 128 : Nat) : Int) :: put (n / 128)
termination_by n
decreasing_by omega

theorem put_small {n : Nat} (h : n < 128) : put n = [(n : Int)] := by rw [put, dif_pos h]
theorem put_big {n : Nat} (h : ¬ n < 128) : put n = ((n % 128 + 128 : Nat) : Int) :: put (n / 128) := by rw [put, dif_neg h]

theorem put_bytes (n : Nat) : ∀ x ∈ put n, 0 ≤ x ∧ x ≤ 255 := by
  induction n using Nat.strongRecOn with
  | _ n ih =>
    intro x hx
    by_cases h : n < 128
    · rw [put_small h] at hx; simp at hx; omega
    · rw [put_big h] at hx
      rcases List.mem_cons.1 hx with rfl | hx
      · omega
      · exact ih (n / 128) (by omega) x hx

theorem put_len_pos (n : Nat) : 1 ≤ (put n).length := by
  by_cases h : n < 128
  · rw [put_small h]; simp
  · rw [put_big h]; simp

/-- the length is at most j+1 exactly below 2^(7(j+1)) -/
theorem put_len_le : ∀ (j n : Nat), (put n).length ≤ j + 1 ↔ n < 2 ^ (7 * (j + 1))
  | 0, n => by
    by_cases h : n < 128
    · rw [put_small h]; simp; omega
    · have h1 := put_len_pos (n / 128)
      rw [put_big h, List.length_cons]
      constructor
      · intro h2; omega
      · intro h2; exact absurd (show n < 128 by simpa using h2) h
  | j + 1, n => by
    have e : 2 ^ (7 * (j + 1 + 1)) = 128 * 2 ^ (7 * (j + 1)) := by rw [show 7 * (j + 1 + 1) = 7 + 7 * (j + 1) by omega, Nat.pow_add]
    have hp : 0 < 2 ^ (7 * (j + 1)) := Nat.two_pow_pos _
    by_cases h : n < 128
    · rw [put_small h, e]
      generalize 2 ^ (7 * (j + 1)) = p at *
      simp; omega
    · rw [put_big h, List.length_cons, Nat.add_le_add_iff_right, put_len_le j, e]
      generalize 2 ^ (7 * (j + 1)) = p at *
      omega

theorem put_len_ten {n : Nat} (h : n < 18446744073709551616) : (put n).length ≤ 10 := (put_len_le 9 n).2 (by simp; omega)

theorem put_len_mono {a b : Nat} (h : a ≤ b) : (put a).length ≤ (put b).length := by
  have h1 := put_len_pos b
  have h2 := (put_len_le ((put b).length - 1) b).1 (by omega)
  have h3 := (put_len_le ((put b).length - 1) a).2 (by omega)
  omega

/-- the length by the number of bits -/
theorem put_len_bits (n L : Nat) (hL : n < 2 ^ L) (hlo : 2 ≤ L → 2 ^ (L - 1) ≤ n) : (put n).length = max 1 ((L + 6) / 7) := by
  have h0 := put_len_pos n
  by_cases hL1 : L ≤ 7
  · have h : n < 2 ^ (7 * (0 + 1)) := Nat.lt_of_lt_of_le hL (Nat.pow_le_pow_right (by omega) (by omega))
    have := (put_len_le 0 n).2 h
    omega
  · have h1 : n < 2 ^ (7 * ((L + 6) / 7 - 1 + 1)) := Nat.lt_of_lt_of_le hL (Nat.pow_le_pow_right (by omega) (by omega))
    have h2 := (put_len_le _ n).2 h1
    have h3 : ¬ n < 2 ^ (7 * ((L + 6) / 7 - 2 + 1)) := by
      have := Nat.le_trans (Nat.pow_le_pow_right (show 0 < 2 by omega) (show 7 * ((L + 6) / 7 - 2 + 1) ≤ L - 1 by omega)) (hlo (by omega))
      omega
    have h4 := mt (put_len_le ((L + 6) / 7 - 2) n).1 h3
    omega

theorem pow7 (k : Nat) : (2 : Int) ^ (7 * (k + 1)) = 128 * 2 ^ (7 * k) := by
  rw [show 7 * (k + 1) = 7 * k + 7 by omega, Int.pow_add]; omega

theorem pow7_le {k : Nat} (h : 9 ≤ k) : (9223372036854775808 : Int) ≤ 2 ^ (7 * k) := by
  have : (2 : Nat) ^ 63 ≤ 2 ^ (7 * k) := Nat.pow_le_pow_right (by omega) (by omega)
  have h2 : ((2 ^ (7 * k) : Nat) : Int) = 2 ^ (7 * k) := by simp
  rw [← h2]; omega

theorem digit_join (m : Int) (n : Nat) (p : Int) : m + (((n % 128 + 128 : Nat) : Int) - 128) * p + ((n / 128 : Nat) : Int) * (128 * p) = m + n * p := by
  have h : (n : Int) = ((n % 128 : Nat) : Int) + 128 * ((n / 128 : Nat) : Int) := by omega
  have h2 : ((n % 128 + 128 : Nat) : Int) = ((n % 128 : Nat) : Int) + 128 := by omega
  rw [h2, h]
  generalize ((n % 128 : Nat) : Int) = r
  generalize ((n / 128 : Nat) : Int) = q
  grind

theorem digit_join' (m X n p : Int) : m + (X - 128) * p + n * (128 * p) = m + (X - 128 + 128 * n) * p := by grind

theorem tkGo_put (n : Nat) : ∀ (k : Nat) (m : Int) (tail : List Int), (n : Int) * 2 ^ (7 * k) < 18446744073709551616 → (0 < k → 0 < n) →
    tkGo k m (put n ++ tail) = some (m + n * 2 ^ (7 * k), k + (put n).length) := by
  induction n using Nat.strongRecOn with
  | _ n ih =>
    intro k m tail hn h0
    have hk : k = 9 → n ≤ 1 := by intro h; subst h; simp at hn; omega
    by_cases h : n < 128
    · rw [put_small h, List.singleton_append, tkGo, if_neg (by omega), if_pos (by omega), if_neg (by omega)]
      simp
    · rw [put_big h, List.cons_append, tkGo, if_neg (by omega), if_neg (by omega), ih (n / 128) (by omega)]
      · rw [pow7, List.length_cons, digit_join m n, show k + 1 + (put (n / 128)).length = k + ((put (n / 128)).length + 1) by omega]
      · rw [pow7]
        generalize hP : (2 : Int) ^ (7 * k) = p at *
        have hp : 0 < p := by rw [← hP]; exact Int.pow_pos (by decide)
        have : ((n / 128 : Nat) : Int) * (128 * p) ≤ n * p := by
          rw [← Int.mul_assoc]; exact Int.mul_le_mul_of_nonneg_right (by omega) (by omega)
        omega
      · intro _; omega

theorem tk_put {n : Nat} (tail : List Int) (h : n < 18446744073709551616) : tk (put n ++ tail) = some ((n : Int), (put n).length) := by
  rw [tk, tkGo_put n 0 0 tail (by simp; omega) (by omega)]
  simp

theorem tkGo_inv : ∀ (l : List Int) (k : Nat) (m v : Int) (u : Nat), k ≤ 9 → (∀ x ∈ l, 0 ≤ x ∧ x ≤ 255) → tkGo k m l = some (v, u) →
    ∃ n : Nat, v = m + n * 2 ^ (7 * k) ∧ k < u ∧ u - k ≤ l.length ∧ put n = l.take (u - k) ∧ (0 < k → 0 < n) ∧ (n : Int) * 2 ^ (7 * k) < 18446744073709551616
  | [], k, m, v, u, _, _, h => by simp [tkGo] at h
  | x :: r, k, m, v, u, hk, hb, h => by
    have hx := hb x (by simp)
    rw [tkGo] at h
    by_cases h9 : k = 9 ∧ 1 < x
    · rw [if_pos h9] at h; cases h
    rw [if_neg h9] at h
    by_cases h1 : x < 128
    · rw [if_pos h1] at h
      by_cases h2 : x = 0 ∧ 0 < k
      · rw [if_pos h2] at h; cases h
      rw [if_neg h2] at h
      simp only [Option.some.injEq, Prod.mk.injEq] at h
      obtain ⟨rfl, rfl⟩ := h
      obtain ⟨X, rfl⟩ := Int.eq_ofNat_of_zero_le hx.1
      refine ⟨X, rfl, by omega, by simp, ?_, by omega, ?_⟩
      · rw [put_small (by omega), show k + 1 - k = 1 by omega]; simp
      · have h : k = 0 ∨ k = 1 ∨ k = 2 ∨ k = 3 ∨ k = 4 ∨ k = 5 ∨ k = 6 ∨ k = 7 ∨ k = 8 ∨ k = 9 := by omega
        rcases h with rfl | rfl | rfl | rfl | rfl | rfl | rfl | rfl | rfl | rfl
        all_goals simp only [Nat.reduceMul, Int.reducePow]
        all_goals omega
    · rw [if_neg h1] at h
      have hk8 : k ≠ 9 := by intro e; exact h9 ⟨e, by omega⟩
      obtain ⟨n, hv, hu, hlen, hput, hpos, hbd⟩ := tkGo_inv r (k + 1) _ v u (by omega) (fun y hy => hb y (by simp [hy])) h
      have hn := hpos (by omega)
      obtain ⟨X, rfl⟩ := Int.eq_ofNat_of_zero_le hx.1
      rw [pow7] at hv hbd
      have hP : 0 < (2 : Int) ^ (7 * k) := Int.pow_pos (by decide)
      refine ⟨(X - 128) + 128 * n, ?_, by omega, by simp; omega, ?_, by omega, ?_⟩
      · rw [hv, digit_join', show (((X - 128) + 128 * n : Nat) : Int) = (X : Int) - 128 + 128 * n by omega]
      · rw [put_big (by omega), show (X - 128 + 128 * n) / 128 = n by omega, hput, show u - k = (u - (k + 1)) + 1 by omega, List.take_succ_cons]
        congr 1; omega
      · have h : k = 0 ∨ k = 1 ∨ k = 2 ∨ k = 3 ∨ k = 4 ∨ k = 5 ∨ k = 6 ∨ k = 7 ∨ k = 8 := by omega
        rcases h with rfl | rfl | rfl | rfl | rfl | rfl | rfl | rfl | rfl
        all_goals simp only [Nat.reduceMul, Int.reducePow] at *
        all_goals omega

theorem tk_inv {l : List Int} {v : Int} {u : Nat} (hb : ∀ x ∈ l, 0 ≤ x ∧ x ≤ 255) (h : tk l = some (v, u)) :
    ∃ n : Nat, v = n ∧ n < 18446744073709551616 ∧ 1 ≤ u ∧ u ≤ l.length ∧ put n = l.take u := by
  obtain ⟨n, hv, hu, hlen, hput, _, hbd⟩ := tkGo_inv l 0 0 v u (by omega) hb h
  simp at hv hbd
  exact ⟨n, hv, by omega, by omega, by omega, by simpa using hput⟩

end Go.Proofs.Ytoakelgjofdmpaa
