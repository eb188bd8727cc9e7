/-
  fields of arguments, opened: a list of integers.
-/
import Derived.Test.YtpabngicbfcdkaaBase
import Derived.Deep.Slices
import Derived.Lib.SmallJoins
namespace Go.Proofs.Ytpabngicbfcdkaa
open Go.RowKit Go.ChangeShapes Go.WideShapes Go.Deep Go.Joins
set_option linter.unusedVariables false
set_option linter.unusedSimpArgs false

theorem spot_none {w : World} {a : Addr} {v : Value} (h : w.cell? (a.add 0) = some v) : ∃ b off, a = ⟨b, off, none⟩ := by
  have hs := World.cell?_spot h
  obtain ⟨b, off, spot⟩ := a
  have : spot = none := by simpa [Addr.add] using hs
  subst this
  exact ⟨b, off, rfl⟩

theorem open_rd1 {H : Type} {enc : TypeId × Value → H} {P : Program} {W : World} {n : Nat} {v : Value} {y : DataW H × List MemPlace} {t e : TypeId} {k : IntKind} (ht : P.underlying t = some (.slice e)) (he : P.underlying e = some (.int k)) (hc : P.cellsOf e = 1)
    (h : DataW.trod enc P W 0 (fun _ => true) true n t [v] = some y) : ∃ a len cap l, v = .slice a len cap ∧ Rd W k a len l ∧ (len ≤ cap ∧ (a = none → cap = 0)) := by
  have h2 : ∃ a len cap, v = .slice a len cap ∧ (a = none → cap = 0) := by
    rcases open_ints ht he hc h with ⟨hcs, _⟩ | ⟨x, l, c', zs, hcs, _⟩
    · exact ⟨none, 0, 0, by simpa using hcs, fun _ => rfl⟩
    · exact ⟨_, _, _, by simpa using hcs, fun h => by cases h⟩
  obtain ⟨a, len, cap, rfl, h0⟩ := h2
  obtain ⟨l, h3, h4, _⟩ := open_rd (d := y.1) (p := y.2) ht he hc ⟨n, by simpa [Value.cells] using h⟩
  exact ⟨a, len, cap, l, rfl, h3, h4, h0⟩

end Go.Proofs.Ytpabngicbfcdkaa
