/-
  tree.All, tree.Finite: the walks.
-/
import Derived.Test.YtpabngicbfcdkaaSamP
namespace Go.Proofs.Ytpabngicbfcdkaa
open Go.RowKit
set_option linter.unusedVariables false
set_option linter.unusedSimpArgs false

theorem cf_fin (args : Array Value) (w : World) : (callFunc 49 args).run Try.prog w = .ok (.enter 49 args) w := by
  obtain ⟨c, hc⟩ : ∃ c, Try.f49.body = some c := ⟨_, rfl⟩
  exact cf_enter Try.func49 (by kernel_rfl) hc args w
theorem true_fin (p : Addr) (w : World) : Calls Try.prog 49 #[.pointer (some p)] w fun e w' => e = .returned (.bool true) ∧ w = w' := by
  go_enter Try.func49, Try.ntmps49
  go_wp2
  go_ret
  exact ⟨rfl, rfl⟩

set_option maxRecDepth 100000 in
theorem AllT_any (T : Nat → Prop) (root : Ex) (p0 : Addr) (w : World) (hr : RdP T w root p0) (hsz : root.size ≤ 1000000000) :
    Calls Try.prog 48 #[.pointer (some p0), .func (.func 49) #[] #[]] w fun e w' => e = .returned (.bool true) ∧ Below w.heap.size w w' := by
  have HO := Lib.hid (order_any 49 (fun _ => true) T root p0 w hr hsz cf_fin (fun wx t p _ _ _ => (true_fin p wx).mono fun e w' h => ⟨h.1, by rw [h.2]; exact Below.refl _ _⟩))
  clear hr hsz
  go_enter Try.func48, Try.ntmps48
  go_wp2_with fail
  refine HO.out.mono ?_
  rintro e w2 ⟨hb, ⟨L, a, c, rfl, h1, h2, h3, h4, h5⟩ | ⟨rfl, h1⟩⟩
  · have HF := Lib.hid hb
    clear hb h1 h2 h3 h4 h5
    go_wp2
    go_ret
    exact ⟨rfl, HF.out⟩
  · exact absurd (Ex.all_true root) h1

set_option maxRecDepth 100000 in
theorem Finite_any (T : Nat → Prop) (root : Ex) (p0 : Addr) (w : World) (hr : RdP T w root p0) (hsz : root.size ≤ 1000000000) :
    Calls Try.prog 28 #[.pointer (some p0)] w fun e w' => e = .returned (.bool true) ∧ Below w.heap.size w w' := by
  have HO := Lib.hid (AllT_any T root p0 w hr hsz)
  clear hr hsz
  go_enter Try.func28, Try.ntmps28
  go_wp2_with (go_at_call 48; refine HO.out.mono ?_; rintro e w2 ⟨rfl, hb⟩; have HB := Lib.hid hb; clear hb)
  go_ret
  exact ⟨rfl, HB.out⟩

end Go.Proofs.Ytpabngicbfcdkaa
