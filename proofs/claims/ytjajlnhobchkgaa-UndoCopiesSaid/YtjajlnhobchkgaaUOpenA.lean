/-
  how long a script can be: as much as memory can hold.
-/
import Derived.Test.YtjajlnhobchkgaaUAct
import Derived.SizedLaws
namespace Go.Proofs.Ytjajlnhobchkgaa
open Go.RowKit Go.ChangeShapes Go.WideShapes Go.Deep Go.Joins
set_option linter.unusedVariables false
set_option linter.unusedSimpArgs false

theorem acts_form {H : Type} {enc : TypeId × Value → H} {W : World} {a : Option Addr} {len cap : Nat} {d : DataW H} {p : List MemPlace} (h : DataW.Trod enc Try.prog W 0 (fun _ => true) true 22 (.slice a len cap) d p) :
    len = 0 ∨ ∃ elems spare, d = .slice elems spare ∧ elems.length = len := by
  obtain ⟨fuel, hf⟩ := h
  rcases open_slice Try.underlying22 hf with ⟨hcs, hx⟩ | ⟨x, l, c', m, n, D, Pl, hcs, _, hl, hm, hmm, hx, hel⟩
  · simp [Value.cells] at hcs
    exact .inl hcs.2.1
  · simp [Value.cells] at hcs
    obtain ⟨rfl, rfl, rfl⟩ := hcs
    exact .inr ⟨_, _, congrArg Prod.fst hx, by simp⟩

end Go.Proofs.Ytjajlnhobchkgaa
