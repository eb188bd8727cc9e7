/-
  an argument of type [3]int.
-/
import Derived.Test.YtoakelgjofdmpaaOpen1
import Derived.OpenShut
namespace Go.Proofs.Ytoakelgjofdmpaa
open Go.RowKit Go.ChangeShapes Go.WideShapes Go.Deep Go.Joins
set_option linter.unusedVariables false
set_option linter.unusedSimpArgs false

theorem open_arr3 {H : Type} {enc : TypeId × Value → H} {W : World} {r : Reach} {b0 : Nat} {v : Value} {d : DataW H} {p : List MemPlace}
    (hv : Value.okWide Try.prog W r b0 45 v) (h : DataW.Trod enc Try.prog W 0 (fun _ => true) true 45 v d p) :
    ∃ a b c, v = .agg #[.int .i64 a, .int .i64 b, .int .i64 c] := by
  simp only [Value.okWide, Try.underlying45] at hv
  obtain ⟨cs, rfl, hsz, _⟩ := hv
  rw [show Try.prog.cellsOf 45 = 3 by kernel_rfl] at hsz
  obtain ⟨fuel, hf⟩ := h
  obtain ⟨xs, m, _, _, _, hxl, hel⟩ := DataW.trod_array Try.underlying45 hf
  rw [show Try.prog.cellsOf 3 = 1 by kernel_rfl] at hel
  obtain ⟨l⟩ := cs
  match l, hsz with
  | [c0, c1, c2], _ =>
    have g : ∀ i (hi : i < 3) c, (([c0, c1, c2] : List Value).drop (i * 1)).take 1 = [c] → ∃ k, c = .int .i64 k := by
      intro i hi c hc
      have h1 := hel i hi
      rw [show (Value.agg { toList := [c0, c1, c2] }).cells.toList = [c0, c1, c2] from rfl, hc] at h1
      have hx : xs[i]? = some (xs[i]'(by omega)) := List.getElem?_eq_getElem (by omega)
      rw [hx] at h1
      obtain ⟨k, e1, _, _⟩ := DataW.trod_int Try.underlying3 h1
      exact ⟨k, by simpa using e1⟩
    obtain ⟨a, rfl⟩ := g 0 (by omega) c0 rfl
    obtain ⟨b, rfl⟩ := g 1 (by omega) c1 rfl
    obtain ⟨c, rfl⟩ := g 2 (by omega) c2 rfl
    exact ⟨a, b, c, rfl⟩

end Go.Proofs.Ytoakelgjofdmpaa
