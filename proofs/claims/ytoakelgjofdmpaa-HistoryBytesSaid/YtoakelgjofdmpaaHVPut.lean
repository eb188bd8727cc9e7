/-
  varint.Put and evergreenref07.Put: for any number the encoding 'put', in new memory.
-/
import Derived.Test.YtoakelgjofdmpaaVPlain
import Derived.Test.YtoakelgjofdmpaaHVSmall
import Derived.Lib.Varint
namespace Go.Proofs.Ytoakelgjofdmpaa
open Go.RowKit

theorem put_wf (n : Nat) : ∀ x ∈ put n, (Lit.int .u8 x).wf = true := fun x hx => by have := put_bytes n x hx; go_wf

theorem or128 (m : Nat) : bits .or .u8 (IntKind.u8.wrap (m : Int)) 128 = ((m % 128 + 128 : Nat) : Int) := by
  rw [IntKind.wrap_u8, Lib.u8_or128_any _ (by omega) (by omega)]; omega

theorem or128_wf (m : Nat) : (Lit.int .u8 (bits .or .u8 (IntKind.u8.wrap (m : Int)) 128)).wf = true := by
  rw [or128]; exact WalkArith.wf_u8 (by omega)

theorem wrap8_wf (m : Int) : (Lit.int .u8 (IntKind.u8.wrap m)).wf = true := by
  rw [IntKind.wrap_u8]; exact WalkArith.wf_u8 (by omega)

/-- what is made: the encoding of N, in memory from block B on -/
def Enc (B : Nat) (N : Nat) (w : World) (e : Ending) (w' : World) : Prop :=
  ∃ a c, e = .returned (.slice a (put N).length c) ∧ Own w' B 5 .u8 (.slice a (put N).length c) (put N) ∧ Below B w w'

set_option maxRecDepth 100000 in
set_option maxHeartbeats 1000000 in
theorem put_any (n : Int) (w : World) (h0 : 0 ≤ n) (h1 : n ≤ 18446744073709551615) :
    Calls Try.prog 47 #[.int .u64 n] w (Enc w.heap.size n.toNat w) := by
  obtain ⟨N, rfl⟩ := Int.eq_ofNat_of_zero_le h0
  rw [Int.toNat_natCast]
  have hten := put_len_ten (n := N) (by omega)
  obtain ⟨B, hB⟩ : ∃ B, B = w.heap.size := ⟨_, rfl⟩
  have HB := Lib.hid hB
  rw [← hB]; clear hB
  have H1 := Lib.hid h1; clear h1
  go_enter Try.func47, Try.ntmps47
  go_wp2_with (at_make; refine make_own E8 rfl _ _ rfl B _ _ _ 10 rfl rfl rfl (by omega) (by omega) (by rw [HB.out]; exact Nat.le_refl _) ?_)
  intro w1 ho hg
  have hb1 := Lib.hid (grown_below' hg (base := B) (by rw [HB.out]; exact Nat.le_refl _))
  have ho := Lib.hid ho
  clear hg
  go_wp2
  go_loopw [0, 3] (fun nv ov wr => ∃ (m : Nat) (a : Option Addr) (q c : Nat) (l : List Int), nv = .int .u64 m ∧ m ≤ N ∧ ov = .slice a q c ∧ q = l.length ∧ Own wr B 5 .u8 (.slice a q c) l ∧ Below B w wr ∧ put N = l ++ put m) (fun nv _ _ => (intOf nv).toNat)
  case atStart => exact ⟨N, _, 0, _, [], rfl, by omega, rfl, rfl, ho.out, hb1.out, rfl⟩
  case round =>
    obtain ⟨m, a, q, c, l, rfl, hm, rfl, hq, hown, hbl, hput⟩ := hrel
    have hlen : q + 1 ≤ 10 := by
      have h := congrArg List.length hput
      have h2 := put_len_pos m
      rw [List.length_append] at h
      omega
    have HQ := Lib.hid hq
    have HO := Lib.hid hown
    have HBL := Lib.hid hbl
    have HP := Lib.hid hput
    have hsz : B ≤ wr.heap.size := by have := hbl.size; have := HB.out; omega
    clear hq hown hbl hput hb1 ho
    by_cases hm1 : 128 ≤ m
    · have HR := Lib.hid (Rd.one wr .u8 5 (bits .or .u8 (IntKind.u8.wrap (m : Int)) 128) (or128_wf m))
      go_wp2_with (at_builtin; refine app_rd (.tmp 9) (.tmp 13) E8 rfl rfl B _ l rfl (HO.out.alloc _) _ _ _ _ rfl HR.out (by rw [← HQ.out]; simp; omega) (by omega) (by simp; omega) ?_; intro a' c' w2 ho2 hg2)
      have hb2 := Lib.hid (grown_below (HO.out.alloc _) hg2 (by simp; omega))
      have hb2' := Lib.hid ((Below.alloc (Below.refl B wr) hsz _).trans hb2.out)
      have ho2 := Lib.hid ho2
      clear hg2
      go_roundw
      case rel =>
        refine ⟨m / 128, a', l.length + 1, c', l ++ [bits .or .u8 (IntKind.u8.wrap (m : Int)) 128], by go_num, by omega, rfl, by simp, by simpa using ho2.out, HBL.out.trans hb2'.out, ?_⟩
        rw [HP.out, put_big (by omega), or128, List.append_assoc]; rfl
      case measure => simp [intOf]; omega
    · have HR := Lib.hid (Rd.one wr .u8 5 (m : Int) (WalkArith.wf_u8 (by omega)))
      go_wp2_with (at_builtin; refine app_rd (.tmp 15) (.tmp 18) E8 rfl rfl B _ l rfl (HO.out.alloc _) _ _ _ _ rfl HR.out (by rw [← HQ.out]; simp; omega) (by omega) (by simp; omega) ?_; intro a' c' w2 ho2 hg2)
      have hb2 := Lib.hid (grown_below (HO.out.alloc _) hg2 (by simp; omega))
      have hb2' := Lib.hid ((Below.alloc (Below.refl B wr) hsz _).trans hb2.out)
      have ho2 := Lib.hid ho2
      clear hg2
      go_ret
      have hN : put N = l ++ [(m : Int)] := by
        rw [HP.out, put_small (by omega)]
      refine ⟨a', c', ret_eq (by rw [hN]; simp), by rw [hN]; simpa using ho2.out, HBL.out.trans hb2'.out⟩

end Go.Proofs.Ytoakelgjofdmpaa
