/-
  commits as arguments: by value, and in a slice.
-/
import Derived.Test.YtoakelgjofdmpaaHBase
import Derived.Test.YtoakelgjofdmpaaOpen1
namespace Go.Proofs.Ytoakelgjofdmpaa
open Go.RowKit Go.ChangeShapes Go.WideShapes Go.Deep Go.Joins
set_option linter.unusedVariables false
set_option linter.unusedSimpArgs false

section
variable {H : Type} {enc : TypeId × Value → H} {W : World}

theorem open_par {n : Nat} {v : Value} {y : DataW H × List MemPlace} (h : DataW.trod enc Try.prog W 0 (fun _ => true) true n 24 [v] = some y) : ∃ ps, Par W (fun i => i < W.heap.size) v ps ∧ ∀ p ∈ ps, (Lit.int .i64 p).wf = true := by
  obtain ⟨a, len, cap, l, rfl, hr, h0⟩ := open_rd1 Try.underlying24 Try.underlying3 (by kernel_rfl) h
  exact ⟨l, ⟨a, len, cap, rfl, h0, hr, fun x hx hn => hr.lt x hx hn⟩, hr.wf⟩

theorem cells_cm {n : Nat} {cs : List Value} {y : DataW H × List MemPlace} (h : DataW.trod enc Try.prog W 0 (fun _ => true) true n 27 cs = some y) :
    ∃ v ps t s, cs = [v, .int .i64 t, .string s] ∧ Par W (fun i => i < W.heap.size) v ps ∧ (∀ p ∈ ps, (Lit.int .i64 p).wf = true) ∧ (Lit.int .i64 t).wf = true ∧ s.size ≤ 9223372036854775807 := by
  obtain ⟨y0, y1, y2, m, _, hlen, h0, h1, h2⟩ := trod_struct3 Try.underlying27 h
  rw [show Try.prog.cellsOf 27 = 3 by kernel_rfl] at hlen
  match cs, hlen with
  | [c0, c1, c2], _ =>
    rw [show Try.prog.cellsOf 24 = 1 by kernel_rfl] at h0
    rw [show Try.prog.cellsOf 25 = 1 by kernel_rfl] at h1
    rw [show Try.prog.cellsOf 9 = 1 by kernel_rfl] at h2
    have h0 : DataW.trod enc Try.prog W 0 (fun _ => true) true m 24 [c0] = some y0 := h0
    have h1 : DataW.trod enc Try.prog W 0 (fun _ => true) true m 25 [c1] = some y1 := h1
    have h2 : DataW.trod enc Try.prog W 0 (fun _ => true) true m 9 [c2] = some y2 := h2
    obtain ⟨ps, hp, hw⟩ := open_par h0
    obtain ⟨t, e1, _, e3⟩ := DataW.trod_int Try.underlying25 h1
    obtain ⟨s, f1, _, f3⟩ := DataW.trod_string Try.underlying9 h2
    refine ⟨c0, ps, t, s, ?_, hp, hw, e3, by unfold maxLen at f3; omega⟩
    simp only [List.cons.injEq, and_true] at e1 f1
    rw [e1, f1]

theorem open_cm {r : Reach} {b0 : Nat} {v : Value} {d : DataW H} {p : List MemPlace}
    (hv : Value.okWide Try.prog W r b0 27 v) (h : DataW.Trod enc Try.prog W 0 (fun _ => true) true 27 v d p) :
    ∃ v0 ps t s, v = .agg #[v0, .int .i64 t, .string s] ∧ Par W (fun i => i < W.heap.size) v0 ps ∧ (∀ p ∈ ps, (Lit.int .i64 p).wf = true) ∧ (Lit.int .i64 t).wf = true ∧ s.size ≤ 9223372036854775807 := by
  obtain ⟨cs, rfl, hsz⟩ := okWide_struct Try.underlying27 hv
  obtain ⟨fuel, hf⟩ := h
  obtain ⟨v0, ps, t, s, hcs, h1, h2, h3, h4⟩ := cells_cm hf
  refine ⟨v0, ps, t, s, ?_, h1, h2, h3, h4⟩
  have : cs.toList = [v0, .int .i64 t, .string s] := by simpa [Value.cells] using hcs
  rw [← this]

theorem open_cms {a : Option Addr} {len cap : Nat} {d : DataW H} {p : List MemPlace} (h : DataW.Trod enc Try.prog W 0 (fun _ => true) true 22 (.slice a len cap) d p) :
    ∃ L, RdC W (fun i => i < W.heap.size) a len L ∧ len ≤ cap ∧ ((d = .nil ∧ len = 0) ∨ ∃ elems spare, d = .slice elems spare ∧ elems.length = len) := by
  obtain ⟨fuel, hf⟩ := h
  rcases open_slice Try.underlying22 hf with ⟨hcs, hx⟩ | ⟨x, l, c', m, n, D, Pl, hcs, _, hl, hm, hmm, hx, hel⟩
  · simp [Value.cells] at hcs
    obtain ⟨rfl, rfl, rfl⟩ := hcs
    exact ⟨[], ⟨rfl, by omega, fun i x hx => by simp at hx, fun x hx => by simp at hx⟩, Nat.le_refl _, .inl ⟨congrArg Prod.fst hx, rfl⟩⟩
  · simp [Value.cells] at hcs
    obtain ⟨rfl, rfl, rfl⟩ := hcs
    simp only [if_true] at hmm
    subst hmm
    rw [show Try.prog.cellsOf 27 = 3 by kernel_rfl] at hel
    have each : ∀ i, i < len → ∃ y : Value × Cm, W.cell? (x.add (i * 3)) = some y.1 ∧ W.cell? ((x.add (i * 3)).add 1) = some (.int .i64 y.2.2.1) ∧ W.cell? ((x.add (i * 3)).add 2) = some (.string y.2.2.2) ∧ Par W (fun i => i < W.heap.size) y.1 y.2.1 ∧
        (Lit.int .i64 y.2.2.1).wf = true ∧ y.2.2.2.size ≤ 9223372036854775807 ∧ ∀ p ∈ y.2.1, (Lit.int .i64 p).wf = true := by
      intro i hi
      obtain ⟨cs', hc, ht⟩ := hel i (by omega)
      obtain ⟨v, ps, t, s, rfl, h1, h2, h3, h4⟩ := cells_cm ht
      obtain ⟨_, _, hat⟩ := World.cells?_some hc
      have a0 := hat 0 (by omega)
      rw [show (x.add (i * 3)).add 0 = x.add (i * 3) from rfl] at a0
      exact ⟨(v, ps, t, s), a0, hat 1 (by omega), hat 2 (by omega), h1, h3, h4, h2⟩
    obtain ⟨f, hf⟩ := choose_lt each
    refine ⟨(List.range len).map fun i => (f i).2, ⟨by simp, by unfold maxLen at hm; omega, fun i z hz => ?_, fun z hz => ?_⟩, hl, .inr ⟨_, _, congrArg Prod.fst hx, by simp⟩⟩
    · rw [List.getElem?_map, Option.map_eq_some_iff] at hz
      obtain ⟨j, hj, rfl⟩ := hz
      have hil : i < len := by have := (List.getElem?_eq_some_iff.1 hj).1; simpa using this
      have : j = i := by simpa [hil] using hj.symm
      subst this
      obtain ⟨b, off, rfl⟩ := spot_none (show W.cell? (x.add 0) = some (f 0).1 from (hf 0 (by omega)).1)
      obtain ⟨c0, c1, c2, hp, _, _, _⟩ := hf j hil
      rw [Addr.add_lit] at c0 c1 c2
      rw [Addr.add_lit] at c1 c2
      exact ⟨b, off, (f j).1, rfl, World.block_lt_of_cell? W _ c0, c0, c1, c2, hp⟩
    · obtain ⟨i, hi, rfl⟩ := List.mem_map.1 hz
      have := hf i (by simpa using hi)
      exact ⟨this.2.2.2.2.1, this.2.2.2.2.2.1, this.2.2.2.2.2.2⟩
end

end Go.Proofs.Ytoakelgjofdmpaa
