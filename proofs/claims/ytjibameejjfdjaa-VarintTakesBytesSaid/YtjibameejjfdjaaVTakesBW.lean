/-
  the walk of VarintTakesBytes.
-/
import Derived.Test.YtjibameejjfdjaaVRefTakeB
namespace Go.Proofs.Ytjibameejjfdjaa
open Go.RowKit

set_option maxRecDepth 100000 in
set_option maxHeartbeats 1000000 in
theorem walk_VarintTakesBytes (a : Option Addr) (n c : Nat) (l : List Int) (most : Int) (w : World) (hr : Rd w .u8 a n l) (hn : n * 1 ≤ 140737488351232) (hc : n ≤ c) (wm : (Lit.int .i64 most).wf = true) :
    Calls Try.prog 6 #[.slice a n c, .int .i64 most] w fun e w' => e = .returned (.bool true) ∧ Below w.heap.size w w' := by
  obtain ⟨h0, h1⟩ := bd_i64 wm
  have HR := Lib.hid hr
  have hw8 := Lib.hid hr.wf
  cases hk : tb l most with
  | inl k =>
    have HT := Lib.hid (fun a c w hr => takeBytes_err a n c l most w hr h0 h1 k hk)
    have HU := Lib.hid (fun a c w hr => rtakeBytes_err a n c l most w hr h0 h1 k hk)
    clear hk hr wm h0 h1
    go_enter Try.func6, Try.ntmps6
    go_wp2_with fail
    refine (copied_any a n c l _ HR.out (by omega)).mono ?_
    rintro e w1 ⟨a', c', rfl, ho, hb1⟩
    have ho := Lib.hid ho
    have hb1 := Lib.hid hb1
    go_wp2_with fail
    refine (HT.out _ _ _ (ho.out.rd hw8.out)).mono ?_
    rintro e w2 ⟨rfl, rfl⟩
    go_wp2_with fail
    refine (HU.out _ _ _ (HR.out.below hb1.out)).mono ?_
    rintro e w2 ⟨rfl, rfl⟩
    go_wp2_with fail
    refine (awake_any _).mono ?_
    rintro e w3 ⟨rfl, hb2⟩
    have hb2 := Lib.hid hb2
    go_wp2_with fail
    refine (bytes_eq _ _ _ _ _ _ [] _ ((Own.nil _ 0 0 .u8).rd (by simp)) ((Own.nil _ 0 0 .u8).rd (by simp))).mono ?_
    rintro e w4 ⟨rfl, rfl⟩
    go_wp2_with fail
    refine (num_errno _ _).mono ?_
    rintro e w4 ⟨rfl, rfl⟩
    go_wp2
    go_ret
    exact ⟨ret_eq (by simp), bthen hb1.out hb2.out⟩
  | inr r =>
    obtain ⟨r, q⟩ := r
    have hrw : ∀ x ∈ r, (Lit.int .u8 x).wf = true := by
      intro x hx
      unfold tb at hk
      cases ht : tk l with
      | none => rw [ht] at hk; cases hk
      | some y =>
        obtain ⟨v, u⟩ := y
        rw [ht] at hk
        simp only at hk
        split at hk
        · cases hk
        · split at hk
          · cases hk
          · simp only [Sum.inr.injEq, Prod.mk.injEq] at hk
            obtain ⟨rfl, _⟩ := hk
            exact hr.wf x (List.mem_of_mem_drop (List.mem_of_mem_take hx))
    have HW := Lib.hid hrw
    have HT := Lib.hid (fun a c w hr hc => takeBytes_ok a n c l most w hr hc (by omega) h0 h1 r q hk)
    have HU := Lib.hid (fun a c w hr hc => rtakeBytes_ok a n c l most w hr hc (by omega) h0 h1 r q hk)
    clear hk hr wm h0 h1 hrw
    go_enter Try.func6, Try.ntmps6
    go_wp2_with fail
    refine (copied_any a n c l _ HR.out (by omega)).mono ?_
    rintro e w1 ⟨a', c', rfl, ho, hb1⟩
    have ho := Lib.hid ho
    have hb1 := Lib.hid hb1
    go_wp2_with fail
    refine (HT.out _ _ _ (ho.out.rd hw8.out) ho.out.cap).mono ?_
    rintro e w2 ⟨a2, c2, rfl, ho2, hb2⟩
    have ho2 := Lib.hid ho2
    have hb2 := Lib.hid hb2
    go_wp2_with fail
    refine (HU.out _ _ _ (HR.out.below (bthen hb1.out hb2.out)) hc).mono ?_
    rintro e w3 ⟨a3, c3, rfl, ho3, hb3⟩
    have ho3 := Lib.hid ho3
    have hb3 := Lib.hid hb3
    go_wp2_with fail
    refine (awake_any _).mono ?_
    rintro e w4 ⟨rfl, hb4⟩
    have hb4 := Lib.hid hb4
    go_wp2_with fail
    refine (bytes_eq _ _ _ _ _ _ r _ ((ho2.out.rd HW.out).below (bthen hb3.out hb4.out)) ((ho3.out.rd HW.out).below hb4.out)).mono ?_
    rintro e w5 ⟨rfl, rfl⟩
    go_wp2_with fail
    refine (num_nil _).mono ?_
    rintro e w5 ⟨rfl, rfl⟩
    go_wp2
    go_ret
    exact ⟨ret_eq (by simp), bthen hb1.out (bthen hb2.out (bthen hb3.out hb4.out))⟩

end Go.Proofs.Ytjibameejjfdjaa
