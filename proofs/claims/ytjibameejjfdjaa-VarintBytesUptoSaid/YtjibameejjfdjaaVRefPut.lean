/-
  evergreenref07.Put: for any number the encoding 'put', in new memory.
-/
import Derived.Test.YtjibameejjfdjaaVPut
namespace Go.Proofs.Ytjibameejjfdjaa
open Go.RowKit

theorem mod128 (m : Nat) : IntKind.u8.wrap ((m : Int) % 128) = (m : Int) % 128 := by rw [IntKind.wrap_u8]; omega

set_option maxRecDepth 100000 in
set_option maxHeartbeats 1000000 in
theorem refPut_any (n : Int) (w : World) (h0 : 0 ≤ n) (h1 : n ≤ 18446744073709551615) :
    Calls Try.prog 25 #[.int .u64 n] w (Enc w.heap.size n.toNat w) := by
  obtain ⟨N, rfl⟩ := Int.eq_ofNat_of_zero_le h0
  rw [Int.toNat_natCast]
  have hten := put_len_ten (n := N) (by omega)
  obtain ⟨B, hB⟩ : ∃ B, B = w.heap.size := ⟨_, rfl⟩
  have HB := Lib.hid hB
  rw [← hB]; clear hB
  go_enter Try.func25, Try.ntmps25
  go_wp2
  go_loopw [0, 3] (fun nv ov wr => ∃ (m : Nat) (a : Option Addr) (q c : Nat) (l : List Int), nv = .int .u64 m ∧ m ≤ N ∧ ov = .slice a q c ∧ q = l.length ∧ Own wr B 5 .u8 (.slice a q c) l ∧ Below B w wr ∧ put N = l ++ put m) (fun nv _ _ => (intOf nv).toNat)
  case atStart => exact ⟨N, _, 0, _, [], rfl, by omega, rfl, rfl, Own.nil _ _ _ _, Below.refl _ _, rfl⟩
  case round =>
    obtain ⟨m, a, q, c, l, rfl, hm, rfl, hq, hown, hbl, hput⟩ := hrel
    have hlen : q + 1 ≤ 10 := by
      have h := congrArg List.length hput
      have h2 := put_len_pos m
      rw [List.length_append] at h
      omega
    have HQ := Lib.hid hq
    have HO := Lib.hid hown
    have HBL := Lib.hid hbl
    have HP := Lib.hid hput
    have hsz : B ≤ wr.heap.size := by have := hbl.size; have := HB.out; omega
    clear hq hown hbl hput
    by_cases hm1 : 127 < m
    · have HR := Lib.hid (Rd.one wr .u8 5 ((m : Int) % 128 + 128) (WalkArith.wf_u8 (by omega)))
      go_wp2_with (at_builtin; refine app_rd (.tmp 6) (.tmp 11) E8 rfl rfl B _ l rfl (HO.out.alloc _) _ _ _ _ rfl HR.out (by rw [← HQ.out]; simp; omega) (by omega) (by simp; omega) ?_; intro a' c' w2 ho2 hg2)
      have hb2 := Lib.hid (grown_below (HO.out.alloc _) hg2 (by simp; omega))
      have hb2' := Lib.hid ((Below.alloc (Below.refl B wr) hsz _).trans hb2.out)
      have ho2 := Lib.hid ho2
      clear hg2
      go_roundw
      case rel =>
        refine ⟨m / 128, a', l.length + 1, c', l ++ [(m : Int) % 128 + 128], by go_num, by omega, rfl, by simp, by simpa using ho2.out, HBL.out.trans hb2'.out, ?_⟩
        rw [HP.out, put_big (by omega), List.append_assoc]
        congr 1
      case measure => simp [intOf]; omega
    · have HR := Lib.hid (Rd.one wr .u8 5 (m : Int) (WalkArith.wf_u8 (by omega)))
      go_wp2_with (at_builtin; refine app_rd (.tmp 15) (.tmp 18) E8 rfl rfl B _ l rfl (HO.out.alloc _) _ _ _ _ rfl HR.out (by rw [← HQ.out]; simp; omega) (by omega) (by simp; omega) ?_; intro a' c' w2 ho2 hg2)
      have hb2 := Lib.hid (grown_below (HO.out.alloc _) hg2 (by simp; omega))
      have hb2' := Lib.hid ((Below.alloc (Below.refl B wr) hsz _).trans hb2.out)
      have ho2 := Lib.hid ho2
      clear hg2
      go_ret
      have hN : put N = l ++ [(m : Int)] := by
        rw [HP.out, put_small (by omega)]
      refine ⟨a', c', ret_eq (by rw [hN]; simp), by rw [hN]; simpa using ho2.out, HBL.out.trans hb2'.out⟩

end Go.Proofs.Ytjibameejjfdjaa
