/-
  varint.Size: how many bytes the encoding has.
-/
import Derived.Test.YtjibameejjfdjaaVPut
import Derived.Test.YtjibameejjfdjaaShelf
import Derived.Laws.Bits64b
namespace Go.Proofs.Ytjibameejjfdjaa
open Go.RowKit

theorem bitLen_zero : Lib.bitLen 0 = 0 := by decide
theorem bitLen_spec' : ∀ (x : Nat), x < 2 ^ 64 → x < 2 ^ Lib.bitLen x ∧ (x ≠ 0 → 2 ^ (Lib.bitLen x - 1) ≤ x) := by
  intro x
  induction x using Nat.strongRecOn with
  | _ x ih =>
    intro hx
    by_cases h0 : x = 0
    · subst h0; exact ⟨by rw [bitLen_zero]; decide, fun h => absurd rfl h⟩
    · have h := Lib.bitLen_half x h0 hx
      obtain ⟨h1, h2⟩ := ih (x / 2) (by omega) (by omega)
      rw [h]
      refine ⟨by rw [Nat.pow_add]; omega, fun _ => ?_⟩
      by_cases h3 : x / 2 = 0
      · rw [h3, bitLen_zero]; omega
      · have h4 := h2 h3
        have h5 : Lib.bitLen (x / 2) ≠ 0 := by
          intro e; rw [e] at h1; simp at h1; omega
        rw [show 1 + Lib.bitLen (x / 2) - 1 = (Lib.bitLen (x / 2) - 1) + 1 by omega, Nat.pow_succ]
        omega

theorem or_one (n : Nat) : n ||| 1 = 2 * (n / 2) + 1 := by
  have e : ∀ a : Nat, 2 * a + 1 = 2 * a ||| 1 := fun a => by
    have := Nat.two_pow_add_eq_or_of_lt (i := 1) (b := 1) (by decide) a
    simpa using this
  rcases Nat.mod_two_eq_zero_or_one n with h | h
  · have : n = 2 * (n / 2) := by omega
    rw [e, ← this]
  · have : n = 2 * (n / 2) + 1 := by omega
    rw [e]
    conv => lhs; rw [this, e]
    rw [Nat.or_assoc, Nat.or_self]

theorem size_len {n : Nat} (h : n < 18446744073709551616) : (Lib.bitLen (n ||| 1) + 6) / 7 = (put n).length := by
  have hb : n ||| 1 < 2 ^ 64 := by rw [or_one]; omega
  obtain ⟨h1, h2⟩ := bitLen_spec' (n ||| 1) hb
  have h3 := h2 (by rw [or_one]; omega)
  rw [or_one] at *
  generalize hL : Lib.bitLen (2 * (n / 2) + 1) = L at *
  have hL1 : 1 ≤ L := by
    rcases Nat.eq_zero_or_pos L with h0 | h0
    · subst h0; simp at h1
    · exact h0
  rw [put_len_bits n L (by omega) (fun hh => ?_)]
  · omega
  · have e : 2 ^ (L - 1) = 2 * 2 ^ (L - 2) := by rw [show L - 1 = (L - 2) + 1 by omega, Nat.pow_succ]; omega
    omega

theorem len64_any (x : Int) (w : World) (h0 : 0 ≤ x) (h1 : x ≤ 18446744073709551615) :
    Calls Try.prog 29 #[.int .u64 x] w fun e w' => e = .returned (.int .i64 (Lib.bitLen x.toNat)) ∧ w = w' :=
  (Try.bits_Len64 x w h0 h1).mono fun _ _ h => ⟨h.1, h.2.symm⟩

theorem bitLen_le64 {x : Nat} (h : x < 2 ^ 64) : Lib.bitLen x ≤ 64 := by
  have h1 := (bitLen_spec' x h).2
  by_cases h0 : x = 0
  · subst h0; rw [bitLen_zero]; omega
  · have h2 := h1 h0
    have h3 : 2 ^ (Lib.bitLen x - 1) < 2 ^ 64 := by omega
    have := (Nat.pow_lt_pow_iff_right (a := 2) (by omega)).1 h3
    omega

set_option maxRecDepth 100000 in
theorem size_any (n : Int) (w : World) (h0 : 0 ≤ n) (h1 : n ≤ 18446744073709551615) :
    Calls Try.prog 23 #[.int .u64 n] w fun e w' => e = .returned (.int .i64 ((put n.toNat).length : Nat)) ∧ w = w' := by
  obtain ⟨N, rfl⟩ := Int.eq_ofNat_of_zero_le h0
  rw [Int.toNat_natCast]
  have hor : bits .or .u64 (N : Int) 1 = ((N ||| 1 : Nat) : Int) := bits_or_u64_nat N 1 (by omega) (by omega)
  have hS := Lib.hid (size_len (n := N) (by omega))
  have hlt : (N ||| 1) < 2 ^ 64 := by rw [or_one]; omega
  have hle := bitLen_le64 hlt
  have H := Lib.hid (fun w => len64_any ((N ||| 1 : Nat) : Int) w (by omega) (by omega))
  have HO := Lib.hid hor
  rw [Int.toNat_natCast] at H
  clear h1 hlt hor
  go_enter Try.func23, Try.ntmps23
  go_wp2_with fail
  rw [HO.out]
  refine (H.out _).mono ?_
  rintro e w' ⟨rfl, rfl⟩
  go_wp2
  go_ret
  refine ⟨ret_eq ?_, rfl⟩
  rw [← hS.out]
  simp

end Go.Proofs.Ytjibameejjfdjaa
