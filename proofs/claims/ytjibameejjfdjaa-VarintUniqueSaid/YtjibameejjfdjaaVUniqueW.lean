/-
  the walk of VarintUnique.
-/
import Derived.Test.YtjibameejjfdjaaVSize
import Derived.Deep.RegionHeld3
namespace Go.Proofs.Ytjibameejjfdjaa
open Go.RowKit

set_option maxRecDepth 100000 in
set_option maxHeartbeats 400000 in
theorem walk_VarintUnique (a : Option Addr) (n c : Nat) (l : List Int) (w : World) (hr : Rd w .u8 a n l) (hn : n * 1 ≤ 140737488351232) (hc : n ≤ c) :
    Calls Try.prog 11 #[.slice a n c] w fun e w' => e = .returned (.bool true) ∧ Below w.heap.size w w' := by
  have HR := Lib.hid hr
  have hw8 := Lib.hid hr.wf
  have hl := hr.len
  cases hk : tk l with
  | none =>
    have HK := Lib.hid hk; clear hk hr hl
    have hne : ∀ w, (binOp .neq 25 (.iface 52 (.int .i64 4)) .nilIface).run Try.prog w = .ok (.bool true) w := fun w => by kernel_rfl
    go_enter Try.func11, Try.ntmps11
    go_wp2_with fail
    refine (copied_any a n c l _ HR.out (by omega)).mono ?_
    rintro e w1 ⟨a', c', rfl, ho, hb1⟩
    have ho := Lib.hid ho
    have hb1 := Lib.hid hb1
    go_wp2_with fail
    refine (take_none _ _ _ l _ (ho.out.rd hw8.out) HK.out).mono ?_
    rintro e w2 ⟨rfl, rfl⟩
    go_wp2_with fail
    refine (awake_any _).mono ?_
    rintro e w3 ⟨rfl, hb2⟩
    have hb2 := Lib.hid hb2
    go_wp2_with fail
    refine (awake_any _).mono ?_
    rintro e w4 ⟨rfl, hb3⟩
    have hb3 := Lib.hid hb3
    go_wp2_with fail
    go_ret
    exact ⟨rfl, bthen hb1.out (bthen hb2.out hb3.out)⟩
  | some r =>
    obtain ⟨v, u⟩ := r
    obtain ⟨N, hN, hN1, hu1, hu2, hp⟩ := tk_inv (fun x hx => bd_u8 (hr.wf x hx)) hk
    subst hN
    rw [hl] at hu2
    have HK := Lib.hid hk; clear hk
    have HS := Lib.hid (fun w => size_any (N : Int) w (by omega) (by omega))
    have HP := Lib.hid (fun w => put_any (N : Int) w (by omega) (by omega))
    rw [Int.toNat_natCast] at HS HP
    have hpl : (put N).length = u := by rw [hp, List.length_take, hl]; omega
    obtain ⟨ax, hrx, hcut⟩ := hr.cutH E8 (c := c) hu2 hc
    have HX := Lib.hid hrx
    have HPW := Lib.hid (put_wf N)
    have HPU := Lib.hid hp
    have HPL := Lib.hid hpl
    rw [hpl] at HS
    clear hr hl hrx hp hpl
    go_enter Try.func11, Try.ntmps11
    go_wp2_with fail
    refine (copied_any a n c l _ HR.out (by omega)).mono ?_
    rintro e w1 ⟨a', c', rfl, ho, hb1⟩
    have ho := Lib.hid ho
    have hb1 := Lib.hid hb1
    go_wp2_with fail
    refine (take_some _ _ _ l _ (ho.out.rd hw8.out) _ _ HK.out).mono ?_
    rintro e w2 ⟨rfl, rfl⟩
    go_wp2_with fail
    refine (awake_any _).mono ?_
    rintro e w3 ⟨rfl, hb2⟩
    have hb2 := Lib.hid hb2
    go_wp2_with fail
    have hs1 : (u : Int) ≤ n := by omega
    have hs2 : (1 : Int) ≤ u := by omega
    go_region_held3 (fun _ => True) (trivial) (first
      | (go_at_call 23; refine (HS.out _).mono ?_; rintro e w4 ⟨rfl, rfl⟩)
      | (go_at_call 17; refine (HP.out _).mono ?_; rintro e w4 ⟨a4, c4, rfl, ho4, hb4⟩; have ho4 := Lib.hid ho4; have hb4 := Lib.hid hb4)
      | (go_at_call 22; refine (bytes_eq _ _ _ _ _ _ _ _ (ho4.out.rd HPW.out) (by rw [HPU.out]; exact HX.out.below (bthen hb1.out (bthen hb2.out.drew hb4.out)))).mono ?_; rintro e w5 ⟨rfl, rfl⟩))
    go_wp2
    go_ret
    exact ⟨rfl, bthen hb1.out (bthen hb2.out.drew hb4.out)⟩

end Go.Proofs.Ytjibameejjfdjaa
