/-
  the walk of VarintTakes: for any bytes that can be read it returns true and writes nothing that was there.
-/
import Derived.Test.YtjibameejjfdjaaVRefTake
import Derived.Test.YtjibameejjfdjaaVSmall
namespace Go.Proofs.Ytjibameejjfdjaa
open Go.RowKit

set_option maxHeartbeats 1000000 in
theorem walk_VarintTakes (a : Option Addr) (n c : Nat) (l : List Int) (w : World) (hr : Rd w .u8 a n l) (hn : n * 1 ≤ 140737488351232) (_hc : n ≤ c) :
    Calls Try.prog 3 #[.slice a n c] w fun e w' => e = .returned (.bool true) ∧ Below w.heap.size w w' := by
  have HL := Lib.hid hr.len
  have HR := Lib.hid hr
  have hw8 := Lib.hid hr.wf
  cases hk : tk l with
  | none =>
    have HK := Lib.hid hk; clear hk hr
    go_enter Try.func3, Try.ntmps3
    go_wp2_with fail
    refine (copied_any a n c l _ HR.out (by omega)).mono ?_
    rintro e w1 ⟨a', c', rfl, ho, hb1⟩
    have ho := Lib.hid ho
    have hb1 := Lib.hid hb1
    go_wp2_with fail
    refine (take_none _ _ _ l _ (ho.out.rd hw8.out) HK.out).mono ?_
    rintro e w2 ⟨rfl, rfl⟩
    go_wp2_with fail
    refine (rtake_none _ _ _ l _ (HR.out.below hb1.out) HK.out).mono ?_
    rintro e w2 ⟨rfl, rfl⟩
    go_wp2_with fail
    refine (awake_any _).mono ?_
    rintro e w3 ⟨rfl, hb2⟩
    have hb2 := Lib.hid hb2
    go_wp2_with fail
    refine (num_errno _ _).mono ?_
    rintro e w4 ⟨rfl, rfl⟩
    go_wp2_with fail
    go_ret
    exact ⟨rfl, bthen hb1.out hb2.out⟩
  | some r =>
    obtain ⟨v, u⟩ := r
    have HK := Lib.hid hk; clear hk hr
    go_enter Try.func3, Try.ntmps3
    go_wp2_with fail
    refine (copied_any a n c l _ HR.out (by omega)).mono ?_
    rintro e w1 ⟨a', c', rfl, ho, hb1⟩
    have ho := Lib.hid ho
    have hb1 := Lib.hid hb1
    go_wp2_with fail
    refine (take_some _ _ _ l _ (ho.out.rd hw8.out) v u HK.out).mono ?_
    rintro e w2 ⟨rfl, rfl⟩
    go_wp2_with fail
    refine (rtake_some _ _ _ l _ (HR.out.below hb1.out) v u HK.out).mono ?_
    rintro e w2 ⟨rfl, rfl⟩
    go_wp2_with fail
    refine (awake_any _).mono ?_
    rintro e w3 ⟨rfl, hb2⟩
    have hb2 := Lib.hid hb2
    go_wp2_with fail
    refine (num_nil _).mono ?_
    rintro e w4 ⟨rfl, rfl⟩
    go_wp2_with fail
    go_ret
    exact ⟨rfl, bthen hb1.out hb2.out⟩

end Go.Proofs.Ytjibameejjfdjaa
