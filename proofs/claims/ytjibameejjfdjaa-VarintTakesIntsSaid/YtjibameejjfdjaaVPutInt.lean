/-
  varint.PutInt: the encoding of the zigzag number.
-/
import Derived.Test.YtjibameejjfdjaaVInt
namespace Go.Proofs.Ytjibameejjfdjaa
open Go.RowKit

theorem zig_pos {n : Int} (h0 : 0 ≤ n) (h1 : n ≤ 9223372036854775807) : bits .xor .u64 (n * 2) (n / 9223372036854775808) = zig n := by
  obtain ⟨N, rfl⟩ := Int.eq_ofNat_of_zero_le h0
  have e : (N : Int) / 9223372036854775808 = ((0 : Nat) : Int) := by omega
  have e2 : (N : Int) * 2 = ((2 * N : Nat) : Int) := by omega
  rw [e, e2, bits_xor_u64_nat _ _ (by omega) (by omega), Nat.xor_zero]
  unfold zig; rw [if_pos h0]; omega

theorem zig_neg {n : Int} (h0 : n < 0) (h1 : -9223372036854775808 ≤ n) :
    bits .xor .u64 (IntKind.u64.wrap (IntKind.u64.wrap n * 2)) (IntKind.u64.wrap (n / 9223372036854775808)) = zig n := by
  have e : IntKind.u64.wrap (n / 9223372036854775808) = ((2 ^ 64 - 1 : Nat) : Int) := by rw [IntKind.wrap_u64]; omega
  have e2 : IntKind.u64.wrap (IntKind.u64.wrap n * 2) = (((2 * n + 18446744073709551616).toNat : Nat) : Int) := by
    rw [IntKind.wrap_u64, IntKind.wrap_u64]; omega
  rw [e, e2, bits_xor_u64_nat _ _ (by omega) (by decide), Nat.xor_comm, Lib.xor_ones64 _ (by omega)]
  unfold zig; rw [if_neg (by omega)]; omega

set_option maxRecDepth 100000 in
theorem putInt_any (n : Int) (w : World) (h0 : -9223372036854775808 ≤ n) (h1 : n ≤ 9223372036854775807) :
    Calls Try.prog 24 #[.int .i64 n] w (Enc w.heap.size (zig n).toNat w) := by
  have hz := zig_bd h0 h1
  have H := Lib.hid (fun w => put_any (zig n) w hz.1 hz.2)
  clear hz
  by_cases hn : 0 ≤ n
  · have HZ := Lib.hid (zig_pos hn h1)
    go_enter Try.func24, Try.ntmps24
    go_wp2_with fail
    rw [HZ.out]
    refine (H.out _).mono ?_
    rintro e w' ⟨a, c, rfl, ho, hb⟩
    have ho := Lib.hid ho
    have hb := Lib.hid hb
    go_wp2
    go_ret
    exact ⟨a, c, rfl, ho.out, hb.out⟩
  · have HZ := Lib.hid (zig_neg (n := n) (by omega) h0)
    go_enter Try.func24, Try.ntmps24
    go_wp2_with fail
    rw [HZ.out]
    refine (H.out _).mono ?_
    rintro e w' ⟨a, c, rfl, ho, hb⟩
    have ho := Lib.hid ho
    have hb := Lib.hid hb
    go_wp2
    go_ret
    exact ⟨a, c, rfl, ho.out, hb.out⟩

end Go.Proofs.Ytjibameejjfdjaa
