/-
  the walks of VarintInts and VarintTakesInts.
-/
import Derived.Test.YtjibameejjfdjaaVPutInt
import Derived.Test.YtjibameejjfdjaaVRefPut
import Derived.Test.YtjibameejjfdjaaVRefTake
namespace Go.Proofs.Ytjibameejjfdjaa
open Go.RowKit

theorem put_wf8 (n : Nat) : ∀ x ∈ put n, 0 ≤ x ∧ x ≤ 255 := put_bytes n

set_option maxRecDepth 100000 in
set_option maxHeartbeats 1000000 in
theorem walk_VarintInts (n : Int) (a : Option Addr) (m c : Nat) (l : List Int) (w : World) (wn : (Lit.int .i64 n).wf = true) (hr : Rd w .u8 a m l) (hm : m * 1 ≤ 140737488351232) (_hc : m ≤ c) :
    Calls Try.prog 8 #[.int .i64 n, .slice a m c] w fun e w' => e = .returned (.bool true) ∧ Below w.heap.size w w' := by
  obtain ⟨h0, h1⟩ := bd_i64 wn
  have hz := zig_bd h0 h1
  have HL := Lib.hid hr.len
  have HR := Lib.hid hr
  have H1 := Lib.hid (fun w => putInt_any n w h0 h1)
  have H2 := Lib.hid (fun w => refZig_any n w h0 h1)
  have H3 := Lib.hid (fun w => refPut_any (zig n) w hz.1 hz.2)
  have HW := Lib.hid (put_wf (zig n).toNat)
  have HT := Lib.hid (tk_put (n := (zig n).toNat) l (by omega))
  have HB := Lib.hid (back_zig n)
  have HZ := Lib.hid hz
  have hten := put_len_ten (n := (zig n).toNat) (by omega)
  obtain ⟨Z, hZ⟩ : ∃ Z, Z = zig n := ⟨_, rfl⟩
  rw [← hZ] at H2 H3 HW HT HB hten H1 HZ
  have HT' : Hid (tk (put Z.toNat ++ l) = some (Z, (put Z.toNat).length)) := Lib.hid (by have h := HT.out; rw [Int.toNat_of_nonneg HZ.out.1] at h; exact h)
  clear wn hz h0 h1 hr hZ HT
  go_enter Try.func8, Try.ntmps8
  go_wp2_with fail
  refine (H1.out _).mono ?_
  rintro e w1 ⟨a1, c1, rfl, ho1, hb1⟩
  have ho1 := Lib.hid ho1
  have hb1 := Lib.hid hb1
  go_wp2_with fail
  refine (awake_any _).mono ?_
  rintro e w2 ⟨rfl, hb2⟩
  have hb2 := Lib.hid hb2
  go_wp2_with fail
  refine (H2.out _).mono ?_
  rintro e w3 ⟨rfl, rfl⟩
  go_wp2_with fail
  refine (H3.out _).mono ?_
  rintro e w3 ⟨a3, c3, rfl, ho3, hb3⟩
  have ho3 := Lib.hid ho3
  have hb3 := Lib.hid hb3
  have hb13 := Lib.hid (bthen hb2.out hb3.out)
  go_wp2_with fail
  refine (bytes_eq _ _ _ _ _ _ _ _ ((ho1.out.rd HW.out).below hb13.out) (ho3.out.rd HW.out)).mono ?_
  rintro e w4 ⟨rfl, rfl⟩
  go_wp2_with fail
  refine (copied_any _ _ _ _ _ ((ho1.out.rd HW.out).below hb13.out) (by omega)).mono ?_
  rintro e w4 ⟨a4, c4, rfl, ho4, hb4⟩
  have ho4 := Lib.hid ho4
  have hb4 := Lib.hid hb4
  have hbw4 := Lib.hid (bthen hb1.out (bthen hb13.out hb4.out))
  have hsz := hb4.out.size
  go_wp2_with (at_builtin; refine app_rd _ _ E8 rfl rfl w3.heap.size _ _ rfl ho4.out _ _ _ l rfl (HR.out.below hbw4.out) (by rw [HL.out]; omega) (by omega) hsz ?_; intro a5 c5 w5 ho5 hg5)
  have hb5 := Lib.hid (grown_below ho4.out hg5 hsz)
  have ho5 := Lib.hid ho5
  clear hg5
  have HRd := Lib.hid (ho5.out.rd (fun x hx => by
    rcases List.mem_append.1 hx with h | h
    · exact HW.out x h
    · exact HR.out.wf x h))
  have H4 := takeInt_some _ _ c5 _ w5 HRd.out Z _ HT'.out (by have := HZ.out; omega) (by have := HZ.out; omega)
  rw [HB.out, List.length_append] at H4
  refine H4.mono ?_
  rintro e w6 ⟨rfl, rfl⟩
  go_wp2
  go_ret
  exact ⟨ret_eq (by simp), hbw4.out.trans (hb5.out.mono (bthen hb1.out hb13.out).size)⟩

set_option maxRecDepth 100000 in
set_option maxHeartbeats 1000000 in
theorem walk_VarintTakesInts (a : Option Addr) (n c : Nat) (l : List Int) (w : World) (hr : Rd w .u8 a n l) (hn : n * 1 ≤ 140737488351232) (_hc : n ≤ c) :
    Calls Try.prog 5 #[.slice a n c] w fun e w' => e = .returned (.bool true) ∧ Below w.heap.size w w' := by
  have HR := Lib.hid hr
  have hw8 := Lib.hid hr.wf
  cases hk : tk l with
  | none =>
    have HK := Lib.hid hk; clear hk hr
    go_enter Try.func5, Try.ntmps5
    go_wp2_with fail
    refine (copied_any a n c l _ HR.out (by omega)).mono ?_
    rintro e w1 ⟨a', c', rfl, ho, hb1⟩
    have ho := Lib.hid ho
    have hb1 := Lib.hid hb1
    go_wp2_with fail
    refine (takeInt_none _ _ _ l _ (ho.out.rd hw8.out) HK.out).mono ?_
    rintro e w2 ⟨rfl, rfl⟩
    go_wp2_with fail
    refine (rtake_none _ _ _ l _ (HR.out.below hb1.out) HK.out).mono ?_
    rintro e w2 ⟨rfl, rfl⟩
    go_wp2_with fail
    refine (awake_any _).mono ?_
    rintro e w3 ⟨rfl, hb2⟩
    have hb2 := Lib.hid hb2
    go_wp2_with fail
    refine (num_errno _ _).mono ?_
    rintro e w4 ⟨rfl, rfl⟩
    go_wp2_with fail
    go_ret
    exact ⟨rfl, bthen hb1.out hb2.out⟩
  | some r =>
    obtain ⟨v, u⟩ := r
    obtain ⟨N, hN, hN1, hu1, hu2, _⟩ := tk_inv (fun x hx => bd_u8 (hr.wf x hx)) hk
    subst hN
    have HK := Lib.hid hk; clear hk hr
    have HB := Lib.hid (fun w => refBack_any (N : Int) w (by omega) (by omega))
    have HT := Lib.hid (fun a n c w hr => takeInt_some a n c l w hr (N : Int) u HK.out (by omega) (by omega))
    generalize back (N : Int) = z at *
    go_enter Try.func5, Try.ntmps5
    go_wp2_with fail
    refine (copied_any a n c l _ HR.out (by omega)).mono ?_
    rintro e w1 ⟨a', c', rfl, ho, hb1⟩
    have ho := Lib.hid ho
    have hb1 := Lib.hid hb1
    go_wp2_with fail
    refine (HT.out _ _ _ _ (ho.out.rd hw8.out)).mono ?_
    rintro e w2 ⟨rfl, rfl⟩
    go_wp2_with fail
    refine (rtake_some _ _ _ l _ (HR.out.below hb1.out) _ u HK.out).mono ?_
    rintro e w2 ⟨rfl, rfl⟩
    go_wp2_with fail
    refine (HB.out _).mono ?_
    rintro e w2 ⟨rfl, rfl⟩
    go_wp2_with fail
    refine (awake_any _).mono ?_
    rintro e w3 ⟨rfl, hb2⟩
    have hb2 := Lib.hid hb2
    go_wp2_with fail
    refine (num_nil _).mono ?_
    rintro e w4 ⟨rfl, rfl⟩
    go_wp2_with fail
    go_ret
    exact ⟨ret_eq (by simp), bthen hb1.out hb2.out⟩

end Go.Proofs.Ytjibameejjfdjaa
