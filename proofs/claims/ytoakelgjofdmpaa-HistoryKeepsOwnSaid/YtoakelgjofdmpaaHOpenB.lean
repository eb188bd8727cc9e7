/-
  how long the parents of the commits of an argument can be: as much as memory can hold.
-/
import Derived.Test.YtoakelgjofdmpaaHOpen
import Derived.SizedLaws
namespace Go.Proofs.Ytoakelgjofdmpaa
open Go.RowKit Go.ChangeShapes Go.WideShapes Go.Deep Go.Joins
set_option linter.unusedVariables false
set_option linter.unusedSimpArgs false

theorem weightsAll_mem {H : Type} {P : Program} {e : TypeId} : ∀ (l : List (DataW H)) (d : DataW H), d ∈ l → ∀ n ∈ d.weights P e, n ∈ DataW.weightsAll P e l
  | x :: r, d, hd, n, hn => by
    rw [DataW.weightsAll, List.mem_append]
    rcases List.mem_cons.1 hd with rfl | hd
    · exact .inl hn
    · exact .inr (weightsAll_mem r d hd n hn)

theorem cms_sz {H : Type} {enc : TypeId × Value → H} {W : World} {a : Option Addr} {len cap : Nat} {d : DataW H} {p : List MemPlace} (h : DataW.Trod enc Try.prog W 0 (fun _ => true) true 22 (.slice a len cap) d p)
    (hw : (d.weights Try.prog 22).all (· ≤ reachBytes) = true) {L : List Cm} (hr : RdC W (fun i => i < W.heap.size) a len L) : ∀ x ∈ L, x.1.length * 8 ≤ 140737488351232 := by
  intro x hxL
  obtain ⟨i, hx⟩ := List.getElem?_of_mem hxL
  have hi : i < len := by rw [← hr.len]; exact (List.getElem?_eq_some_iff.1 hx).1
  obtain ⟨b, off, v, ha, _, c0, _, _, pa, pn, pc, rfl, _, hpf⟩ := hr.cell i x hx
  have hpn := hpf.rd.len
  obtain ⟨fuel, hf⟩ := h
  rcases open_slice Try.underlying22 hf with ⟨hcs, hx⟩ | ⟨x', l, c', m, n, D, Pl, hcs, _, hl, hm, hmm, hx, hel⟩
  · simp [Value.cells] at hcs
    obtain ⟨rfl, rfl, rfl⟩ := hcs
    omega
  · simp [Value.cells] at hcs
    obtain ⟨rfl, rfl, rfl⟩ := hcs
    simp only [if_true] at hmm
    subst hmm
    rw [show Try.prog.cellsOf 27 = 3 by kernel_rfl] at hel
    obtain ⟨cs', hc, ht⟩ := hel i (by omega)
    cases ha
    obtain ⟨_, _, hat⟩ := World.cells?_some hc
    have a0 := hat 0 (by omega)
    rw [Addr.add_lit] at a0
    obtain ⟨y0, y1, y2, q, hD, hlen, h0, _, _⟩ := trod_struct3 Try.underlying27 ht
    rw [show Try.prog.cellsOf 27 = 3 by kernel_rfl] at hlen
    match cs', hlen with
    | [e0, e1, e2], _ =>
      rw [show Try.prog.cellsOf 24 = 1 by kernel_rfl] at h0
      have h0 : DataW.trod enc Try.prog W 0 (fun _ => true) true q 24 [e0] = some y0 := h0
      have a0 : W.cell? ⟨b, off + i * 3, none⟩ = some e0 := a0
      rw [c0] at a0
      cases a0
      obtain ⟨l0, _, _, hd⟩ := open_rd (d := y0.1) (p := y0.2) Try.underlying24 Try.underlying3 (by kernel_rfl) ⟨q, by simpa [Value.cells] using h0⟩
      rcases hd with ⟨_, hz⟩ | ⟨el, sp, hd, hel⟩
      · omega
      · have hm1 : (el.length + sp.length) * Try.prog.bytesOf 3 ∈ y0.1.weights Try.prog 24 := by
          rw [hd]
          simp [DataW.weights, Try.underlying24]
        have hm2 : (el.length + sp.length) * Try.prog.bytesOf 3 ∈ (D i).weights Try.prog 27 := by
          rw [show D i = .agg [y0.1, y1.1, y2.1] from congrArg Prod.fst hD]
          simp only [DataW.weights, Try.underlying27]
          exact DataW.weights_mem_each (j := 0) rfl rfl _ hm1
        have hm3 : (el.length + sp.length) * Try.prog.bytesOf 3 ∈ d.weights Try.prog 22 := by
          rw [show d = _ from congrArg Prod.fst hx]
          simp only [DataW.weights, Try.underlying22, List.mem_cons, List.mem_append]
          exact .inr (.inl (weightsAll_mem _ (D i) (List.mem_map.2 ⟨i, List.mem_range.2 hi, rfl⟩) _ hm2))
        have h9 := List.all_eq_true.1 hw _ hm3
        have h9 : (el.length + sp.length) * Try.prog.bytesOf 3 ≤ reachBytes := by simpa using h9
        rw [show Try.prog.bytesOf 3 = 8 by kernel_rfl] at h9
        have h8 := slice_reach h9 hel
        omega

end Go.Proofs.Ytoakelgjofdmpaa
