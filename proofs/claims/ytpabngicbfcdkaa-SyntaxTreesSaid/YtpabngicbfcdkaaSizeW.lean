/-
  tree.Order, Finite; syntax.deeper, Size: the walks.
-/
import Derived.Test.YtpabngicbfcdkaaOrder
namespace Go.Proofs.Ytpabngicbfcdkaa
open Go.RowKit
set_option linter.unusedVariables false
set_option linter.unusedSimpArgs false

/-- a call through a value, of a function with a body -/
theorem cf_enter {P : Program} {f : FuncId} {fn : Func} {c : Code} (hf : P.funcs[f]? = some fn) (hname : (fn.name == "runtime.NumGoroutine") = false) (hb : fn.body = some c) (args : Array Value) (w : World) : (callFunc f args).run P w = .ok (.enter f args) w := by
  have h1 : fn.name ≠ "runtime.NumGoroutine" := by simpa using hname
  simp [callFunc, hf, h1, hb]
theorem cf_ord (args : Array Value) (w : World) : (callFunc 47 args).run Try.prog w = .ok (.enter 47 args) w := by
  obtain ⟨c, hc⟩ : ∃ c, Try.f47.body = some c := ⟨_, rfl⟩
  exact cf_enter Try.func47 (by kernel_rfl) hc args w
theorem true_ord (p : Addr) (w : World) : Calls Try.prog 47 #[.pointer (some p)] w fun e w' => e = .returned (.bool true) ∧ w = w' := by
  go_enter Try.func47, Try.ntmps47
  go_wp2
  go_ret
  exact ⟨rfl, rfl⟩

def OrderPost (T : Nat → Prop) (root : Ex) (p0 : Addr) (w : World) (e : Ending) (w' : World) : Prop :=
  Below w.heap.size w w' ∧ ∃ L a c, e = .returned (.tuple #[.slice a L.length c, .bool true]) ∧ RdG w' 1 a L.length (L.map penc) ∧ Topo T w root L ∧ p0 ∈ L ∧ L.length ≤ 2 * root.size

theorem Ex.all_true : ∀ t : Ex, t.all (fun _ => true) := by
  have key : ∀ (n : Nat) (t : Ex), t.size ≤ n → t.all (fun _ => true) := by
    intro n
    induction n with
    | zero => intro t h; have := t.size_pos; omega
    | succ n ih =>
      intro t h
      refine (Ex.all_eq _ t).2 ⟨rfl, fun i u hu => ih u ?_⟩
      have := Ex.size_kid hu
      have := t.size_eq
      omega
  exact fun t => key t.size t (Nat.le_refl _)

set_option maxRecDepth 100000 in
theorem Order_any (T : Nat → Prop) (root : Ex) (p0 : Addr) (w : World) (hr : RdP T w root p0) (hsz : root.size ≤ 1000000000) :
    Calls Try.prog 26 #[.pointer (some p0)] w (OrderPost T root p0 w) := by
  have HO := Lib.hid (order_any 47 (fun _ => true) T root p0 w hr hsz cf_ord (fun wx t p _ _ _ => (true_ord p wx).mono fun e w' h => ⟨h.1, by rw [h.2]; exact Below.refl _ _⟩))
  clear hr hsz
  go_enter Try.func26, Try.ntmps26
  go_wp2_with fail
  refine HO.out.mono ?_
  rintro e w2 ⟨hb, ⟨L, a, c, rfl, h1, h2, h3, h4, h5⟩ | ⟨rfl, h1⟩⟩
  · have HF := Lib.hid (And.intro hb (And.intro h1 (And.intro h2 (And.intro h3 h5))))
    clear hb h1 h2 h3 h4 h5
    go_wp2
    go_ret2
    exact ⟨HF.out.1, L, a, c, rfl, HF.out.2.1, HF.out.2.2.1, HF.out.2.2.2.1, HF.out.2.2.2.2⟩
  · exact absurd (Ex.all_true root) h1



/-- the states of a fold over all nodes: each node's value comes from its arguments' values -/
structure Vals (T : Nat → Prop) (w : World) (val : Ex → Nat) (L : List Addr) (j : Nat) (f : Addr → Option Value) : Prop where
  some_ : ∀ p v, f p = some v → ∃ t, RdP T w t p ∧ v = .int .i64 (val t : Nat)
  dom : ∀ m p, m < j → L[m]? = some p → f p ≠ none
theorem Vals.start (T w val L) : Vals T w val L 0 (fun _ => none) := ⟨fun p v h => (by cases h), fun m p h => by omega⟩
theorem Vals.get {T w val L j f} (h : Vals T w val L j f) {m : Nat} {p : Addr} {t : Ex} (hm : m < j) (hp : L[m]? = some p) (ht : RdP T w t p) : f p = some (.int .i64 (val t : Nat)) := by
  cases hf : f p with
  | none => exact absurd hf (h.dom m p hm hp)
  | some v =>
    obtain ⟨t', h1, h2⟩ := h.some_ p v hf
    rw [h2, h1.uniq ht]
theorem Vals.put {T w val L j f} (h : Vals T w val L j f) {p : Addr} {t : Ex} (hp : L[j]? = some p) (ht : RdP T w t p) : Vals T w val L (j + 1) (fun y => if y = p then some (.int .i64 (val t : Nat)) else f y) :=
  ⟨fun q v hv => by
    by_cases e : q = p
    · rw [if_pos e] at hv; subst e; exact ⟨t, ht, (Option.some.inj hv).symm⟩
    · rw [if_neg e] at hv; exact h.some_ q v hv, fun m q hm hq hn => by
    by_cases e : q = p
    · simp [e] at hn
    · rw [if_neg e] at hn
      by_cases e2 : m = j
      · subst e2; rw [hp] at hq; cases hq; exact e rfl
      · exact h.dom m q (by omega) hq hn⟩
theorem Vals.ok {T w val L j f} (h : Vals T w val L j f) : ∀ y v, f y = some v → OkA w y := fun y v hv => by
  obtain ⟨t, h1, _⟩ := h.some_ y v hv
  exact h1.ok

end Go.Proofs.Ytpabngicbfcdkaa
