/-
  a list of nodes as an argument.
-/
import Derived.Test.YtpabngicbfcdkaaTr1
import Derived.Test.YtpabngicbfcdkaaOpen1
namespace Go.Proofs.Ytpabngicbfcdkaa
open Go.RowKit Go.ChangeShapes Go.WideShapes Go.Deep Go.Joins
set_option linter.unusedVariables false
set_option linter.unusedSimpArgs false

section
variable {H : Type} {enc : TypeId × Value → H} {W : World}

theorem open_rdi {n : Nat} {v : Value} {y : DataW H × List MemPlace} (h : DataW.trod enc Try.prog W 0 (fun _ => true) true n 93 [v] = some y) : ∃ aa l cc, v = .slice aa l.length cc ∧ RdI W (fun b => b < W.heap.size) aa l := by
  obtain ⟨a, len, cap, l, rfl, hr, h0⟩ := open_rd1 Try.underlying93 Try.underlying3 (by kernel_rfl) h
  refine ⟨a, l, cap, by rw [hr.len], ⟨by have := hr.max; have := hr.len; omega, fun j y hy => ?_, hr.wf⟩⟩
  have hj := (List.getElem?_eq_some_iff.1 hy).1
  obtain ⟨b, off, ha, hc⟩ := hr.cell j (by rw [← hr.len]; exact hj)
  have hg : l.getD j 0 = y := by simp [List.getD, hy]
  rw [hg] at hc
  exact ⟨b, off, ha, World.block_lt_of_cell? W _ hc, hc⟩

set_option maxRecDepth 100000 in
theorem cells_nd {n : Nat} {cs : List Value} {y : DataW H × List MemPlace} (h : DataW.trod enc Try.prog W 0 (fun _ => true) true n 95 cs = some y) :
    ∃ k s m aa gs cc, cs = [.int .i64 k, .string s, .int .i64 m, .slice aa (gs : List Int).length cc] ∧ RdI W (fun b => b < W.heap.size) aa gs ∧ (Lit.int .i64 k).wf = true ∧ (Lit.int .i64 m).wf = true ∧ s.size ≤ 9223372036854775807 := by
  obtain ⟨y0, y1, y2, y3, m, _, hlen, h0, h1, h2, h3⟩ := trod_struct4 Try.underlying95 h
  rw [show Try.prog.cellsOf 95 = 4 by kernel_rfl] at hlen
  match cs, hlen with
  | [c0, c1, c2, c3], _ =>
    rw [show Try.prog.cellsOf 3 = 1 by kernel_rfl] at h0 h2
    rw [show Try.prog.cellsOf 9 = 1 by kernel_rfl] at h1
    rw [show Try.prog.cellsOf 93 = 1 by kernel_rfl] at h3
    have h0 : DataW.trod enc Try.prog W 0 (fun _ => true) true m 3 [c0] = some y0 := h0
    have h1 : DataW.trod enc Try.prog W 0 (fun _ => true) true m 9 [c1] = some y1 := h1
    have h2 : DataW.trod enc Try.prog W 0 (fun _ => true) true m 3 [c2] = some y2 := h2
    have h3 : DataW.trod enc Try.prog W 0 (fun _ => true) true m 93 [c3] = some y3 := h3
    obtain ⟨k, e1, _, e3⟩ := DataW.trod_int Try.underlying3 h0
    obtain ⟨s, f1, _, f3⟩ := DataW.trod_string Try.underlying9 h1
    obtain ⟨q, g1, _, g3⟩ := DataW.trod_int Try.underlying3 h2
    obtain ⟨aa, gs, cc, k1, k2⟩ := open_rdi h3
    refine ⟨k, s, q, aa, gs, cc, ?_, k2, e3, g3, by unfold maxLen at f3; omega⟩
    simp only [List.cons.injEq, and_true] at e1 f1 g1
    rw [e1, f1, g1, k1]

theorem open_nds {a : Option Addr} {len cap : Nat} {d : DataW H} {p : List MemPlace} (h : DataW.Trod enc Try.prog W 0 (fun _ => true) true 49 (.slice a len cap) d p) :
    ∃ L, RdN W (fun i => i < W.heap.size) a len L ∧ len ≤ cap ∧ ∀ x ∈ L, x.2.1.size ≤ 9223372036854775807 := by
  obtain ⟨fuel, hf⟩ := h
  rcases open_slice Try.underlying49 hf with ⟨hcs, hx⟩ | ⟨x, l, c', m, n, D, Pl, hcs, _, hl, hm, hmm, hx, hel⟩
  · simp [Value.cells] at hcs
    obtain ⟨rfl, rfl, rfl⟩ := hcs
    exact ⟨[], ⟨rfl, by omega, fun i x hx => by simp at hx⟩, Nat.le_refl _, fun x hx => by simp at hx⟩
  · simp [Value.cells] at hcs
    obtain ⟨rfl, rfl, rfl⟩ := hcs
    simp only [if_true] at hmm
    subst hmm
    rw [show Try.prog.cellsOf 95 = 4 by kernel_rfl] at hel
    have each : ∀ i, i < len → ∃ y : Nd × Option Addr × Nat, W.cell? (x.add (i * 4)) = some (.int .i64 y.1.1) ∧ W.cell? ((x.add (i * 4)).add 1) = some (.string y.1.2.1) ∧ W.cell? ((x.add (i * 4)).add 2) = some (.int .i64 y.1.2.2.1) ∧ W.cell? ((x.add (i * 4)).add 3) = some (.slice y.2.1 y.1.2.2.2.length y.2.2) ∧ RdI W (fun b => b < W.heap.size) y.2.1 y.1.2.2.2 ∧ y.1.2.1.size ≤ 9223372036854775807 := by
      intro i hi
      obtain ⟨cs', hc, ht⟩ := hel i (by omega)
      obtain ⟨k, s, q, aa, gs, cc, rfl, h1, h2, h3, h4⟩ := cells_nd ht
      obtain ⟨_, _, hat⟩ := World.cells?_some hc
      have a0 := hat 0 (by omega)
      rw [show (x.add (i * 4)).add 0 = x.add (i * 4) from rfl] at a0
      exact ⟨((k, s, q, gs), aa, cc), a0, hat 1 (by omega), hat 2 (by omega), hat 3 (by omega), h1, h4⟩
    obtain ⟨f, hf⟩ := choose_lt each
    refine ⟨(List.range len).map fun i => (f i).1, ⟨by simp, by unfold maxLen at hm; omega, fun i z hz => ?_⟩, hl, fun z hz => ?_⟩
    · rw [List.getElem?_map, Option.map_eq_some_iff] at hz
      obtain ⟨j, hj, rfl⟩ := hz
      have hil : i < len := by have := (List.getElem?_eq_some_iff.1 hj).1; simpa using this
      have : j = i := by simpa [hil] using hj.symm
      subst this
      obtain ⟨b, off, rfl⟩ := spot_none (show W.cell? (x.add 0) = some (.int .i64 (f 0).1.1) from (hf 0 (by omega)).1)
      obtain ⟨c0, c1, c2, c3, hI, _⟩ := hf j hil
      rw [Addr.add_lit] at c0 c1 c2 c3
      rw [Addr.add_lit] at c1 c2 c3
      exact ⟨b, off, _, _, rfl, World.block_lt_of_cell? W _ c0, c0, c1, c2, c3, hI⟩
    · obtain ⟨i, hi, rfl⟩ := List.mem_map.1 hz
      exact (hf i (by simpa using hi)).2.2.2.2.2
end

end Go.Proofs.Ytpabngicbfcdkaa
