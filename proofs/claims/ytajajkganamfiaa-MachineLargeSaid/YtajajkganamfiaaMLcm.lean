/-
  the first multiple of ni that nk divides: the plain law of MachineLarge's loop.
-/
import Derived.Test.YtajajkganamfiaaMCycP
namespace Go.Proofs.Ytajajkganamfiaa

theorem lcm_form (ni nk : Nat) : ∃ m, Nat.lcm ni nk = ni * m ∧ nk ∣ ni * m := by
  obtain ⟨m, hm⟩ := Nat.dvd_lcm_left ni nk
  exact ⟨m, hm, by rw [← hm]; exact Nat.dvd_lcm_right ni nk⟩
theorem lcm_more {ni nk k : Nat} (h0 : 0 < ni) (hk0 : 0 < nk) (hno : ∀ j, 0 < j → j < k → ¬ nk ∣ ni * j) : ni * k ≤ Nat.lcm ni nk := by
  obtain ⟨m, hm, hd⟩ := lcm_form ni nk
  have hp := Nat.lcm_pos h0 hk0
  have hm0 : 0 < m := by
    rcases Nat.eq_zero_or_pos m with e | e
    · rw [e, Nat.mul_zero] at hm; omega
    · exact e
  rw [hm]
  apply Nat.mul_le_mul_left
  rcases Nat.lt_or_ge m k with h | h
  · exact absurd hd (hno m hm0 h)
  · exact h
theorem lcm_first {ni nk k : Nat} (h0 : 0 < ni) (hk0 : 0 < nk) (hk : 0 < k) (hd : nk ∣ ni * k) (hno : ∀ j, 0 < j → j < k → ¬ nk ∣ ni * j) : ni * k = Nat.lcm ni nk :=
  Nat.le_antisymm (lcm_more h0 hk0 hno) (Nat.le_of_dvd (Nat.mul_pos h0 hk) (Nat.lcm_dvd (Nat.dvd_mul_right ni k) hd))
theorem lcm_le {ni nk : Nat} (h0 : 0 < ni) (hk0 : 0 < nk) (hi : ni ≤ 256) (hk : nk ≤ 256) : Nat.lcm ni nk ≤ 65536 := by
  have h1 := Nat.le_of_dvd (Nat.mul_pos h0 hk0) (Nat.lcm_dvd (Nat.dvd_mul_right ni nk) (Nat.dvd_mul_left nk ni))
  have h2 := Nat.mul_le_mul hi hk
  omega

end Go.Proofs.Ytajajkganamfiaa
