/-
  an argument of type api.Machine, opened: what its four fields read as.
-/
import Derived.Test.YtajajkganamfiaaMBase
import Derived.Deep.Matrix
import Derived.Deep.Grids
import Derived.Lib.SmallJoins
namespace Go.Proofs.Ytajajkganamfiaa
open Go.RowKit Go.ChangeShapes Go.WideShapes Go.Deep Go.Joins

theorem spot_none {w : World} {a : Addr} {v : Value} (h : w.cell? (a.add 0) = some v) : ∃ b off, a = ⟨b, off, none⟩ := by
  have hs := World.cell?_spot h
  obtain ⟨b, off, spot⟩ := a
  have : spot = none := by simpa [Addr.add] using hs
  subst this
  exact ⟨b, off, rfl⟩

section
variable {H : Type} {enc : TypeId × Value → H} {P : Program} {W : World} {n : Nat} {v : Value} {y : DataW H × List MemPlace}

theorem open_rd1 {t e : TypeId} {k : IntKind} (ht : P.underlying t = some (.slice e)) (he : P.underlying e = some (.int k)) (hc : P.cellsOf e = 1)
    (h : DataW.trod enc P W 0 (fun _ => true) true n t [v] = some y) : ∃ a len cap l, v = .slice a len cap ∧ Rd W k a len l ∧ len ≤ cap := by
  have h2 : ∃ a len cap, v = .slice a len cap := by
    rcases open_ints ht he hc h with ⟨hcs, _⟩ | ⟨x, l, c', zs, hcs, _⟩
    · exact ⟨_, _, _, by simpa using hcs⟩
    · exact ⟨_, _, _, by simpa using hcs⟩
  obtain ⟨a, len, cap, rfl⟩ := h2
  obtain ⟨l, h3, h4, _⟩ := open_rd (d := y.1) (p := y.2) ht he hc ⟨n, by simpa [Value.cells] using h⟩
  exact ⟨a, len, cap, l, rfl, h3, h4⟩

theorem open_rows1 {t e q : TypeId} {k : IntKind} (ht : P.underlying t = some (.slice e)) (he : P.underlying e = some (.slice q)) (hq : P.underlying q = some (.int k)) (ce : P.cellsOf e = 1) (cq : P.cellsOf q = 1)
    (h : DataW.trod enc P W 0 (fun _ => true) true n t [v] = some y) : ∃ a len cap ll, v = .slice a len cap ∧ RdRows W k a len ll ∧ len ≤ cap := by
  rcases open_int_rows ht he hq ce cq h with ⟨hcs, _⟩ | ⟨a, len, cap, A, L, C, Z, hcs, _, hl, hm, _, hrow⟩
  · exact ⟨none, 0, 0, [], by simpa using hcs, ⟨rfl, by omega, fun i hi => by omega⟩, Nat.le_refl _⟩
  · refine ⟨some a, len, cap, (List.range len).map fun r => (Z r).take (L r), by simpa using hcs, ⟨by simp, by unfold maxLen at hm; omega, fun i hi => ?_⟩, hl⟩
    obtain ⟨h1, h2, h3, h4, h5, h6, h7⟩ := hrow i (by omega)
    obtain ⟨b, off, rfl⟩ := spot_none (hrow 0 (by omega)).1
    refine ⟨b, off, A i, L i, C i, rfl, by rw [Addr.add_lit] at h1; exact h1, ?_, h2⟩
    have e : ((List.range len).map fun r => (Z r).take (L r)).getD i [] = (Z i).take (L i) := by simp [List.getD, hi]
    rw [e]
    refine ⟨by rw [List.length_take]; omega, by unfold maxLen at h3; omega, fun j hj => ?_, fun x hx => h5 x (List.mem_of_mem_take hx)⟩
    cases hA : A i with
    | none => have := h6 hA; omega
    | some a' =>
      have h8 := (h7 a' hA).2 j (by omega)
      obtain ⟨b', off', rfl⟩ := spot_none ((h7 a' hA).2 0 (by omega))
      refine ⟨b', off', rfl, ?_⟩
      rw [Addr.add_lit] at h8
      rw [h8]
      simp [List.getD, hj]

theorem open_bools1 {t e : TypeId} (ht : P.underlying t = some (.slice e)) (he : P.underlying e = some .bool) (hc : P.cellsOf e = 1)
    (h : DataW.trod enc P W 0 (fun _ => true) true n t [v] = some y) : ∃ a len cap l, v = .slice a len cap ∧ RdB W a len l ∧ len ≤ cap := by
  rcases open_bools ht he hc h with ⟨hcs, _⟩ | ⟨a, len, cap, B, hcs, _, hl, hm, _, hcell⟩
  · exact ⟨none, 0, 0, [], by simpa using hcs, ⟨rfl, by omega, fun i hi => by omega⟩, Nat.le_refl _⟩
  · refine ⟨some a, len, cap, (List.range len).map B, by simpa using hcs, ⟨by simp, by unfold maxLen at hm; omega, fun i hi => ?_⟩, hl⟩
    have h1 := hcell i (by omega)
    obtain ⟨b, off, rfl⟩ := spot_none (hcell 0 (by omega))
    refine ⟨b, off, rfl, ?_⟩
    rw [Addr.add_lit] at h1
    rw [h1]
    simp [List.getD, hi]
end

theorem open_mach {H : Type} {enc : TypeId × Value → H} {W : World} {r : Reach} {b0 : Nat} {v : Value} {d : DataW H} {p : List MemPlace}
    (hv : Value.okWide Try.prog W r b0 26 v) (h : DataW.Trod enc Try.prog W 0 (fun _ => true) true 26 v d p) :
    ∃ s ac nc cc an nn cn aa na ca cls next acc, v = .agg #[.int .i64 s, .slice ac nc cc, .slice an nn cn, .slice aa na ca] ∧ RdM W ac nc an nn aa na cls next acc ∧ (Lit.int .i64 s).wf = true := by
  obtain ⟨v0, v1, v2, v3, y0, y1, y2, y3, n, rfl, _, _, h0, h1, h2, h3⟩ := open_agg4 Try.underlying26 (by kernel_rfl) (by kernel_rfl) hv h
  obtain ⟨ac, nc, cc, cls, rfl, r1, _⟩ := open_rd1 Try.underlying22 Try.underlying3 (by kernel_rfl) h1
  obtain ⟨an, nn, cn, next, rfl, r2, _⟩ := open_rows1 Try.underlying23 Try.underlying22 Try.underlying3 (by kernel_rfl) (by kernel_rfl) h2
  obtain ⟨aa, na, ca, acc, rfl, r3, _⟩ := open_bools1 Try.underlying24 Try.underlying4 (by kernel_rfl) h3
  obtain ⟨s, e1, e2, e3⟩ := DataW.trod_int Try.underlying3 h0
  obtain rfl : v0 = .int .i64 s := by simpa using e1
  exact ⟨s, ac, nc, cc, an, nn, cn, aa, na, ca, cls, next, acc, rfl, ⟨r1, r2, r3⟩, e3⟩

end Go.Proofs.Ytajajkganamfiaa
