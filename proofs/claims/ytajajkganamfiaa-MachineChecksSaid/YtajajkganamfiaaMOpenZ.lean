/-
  how long the slices of a machine that came in can be: as much as memory can hold.
-/
import Derived.Test.YtajajkganamfiaaMOpen
import Derived.Test.YtajajkganamfiaaBase
import Derived.SizedLaws
namespace Go.Proofs.Ytajajkganamfiaa
open Go.RowKit Go.ChangeShapes Go.WideShapes Go.Deep Go.Joins
set_option linter.unusedVariables false
set_option linter.unusedSimpArgs false

theorem weightsAll_mem {H : Type} {P : Program} {e : TypeId} : ∀ (l : List (DataW H)) (d : DataW H), d ∈ l → ∀ n ∈ d.weights P e, n ∈ DataW.weightsAll P e l
  | x :: r, d, hd, n, hn => by
    rw [DataW.weightsAll, List.mem_append]
    rcases List.mem_cons.1 hd with rfl | hd
    · exact .inl hn
    · exact .inr (weightsAll_mem r d hd n hn)

theorem mach_sz {H : Type} {enc : TypeId × Value → H} {W : World} {r : Reach} {b0 : Nat} {s : Int} {ac : Option Addr} {nc cc : Nat} {an : Option Addr} {nn cn : Nat} {aa : Option Addr} {na ca : Nat} {d : DataW H} {p : List MemPlace}
    (hv : Value.okWide Try.prog W r b0 26 (.agg #[.int .i64 s, .slice ac nc cc, .slice an nn cn, .slice aa na ca])) (h : DataW.Trod enc Try.prog W 0 (fun _ => true) true 26 (.agg #[.int .i64 s, .slice ac nc cc, .slice an nn cn, .slice aa na ca]) d p)
    (hw : (d.weights Try.prog 26).all (· ≤ reachBytes) = true) :
    nc * 8 ≤ 140737488351232 ∧ na * 1 ≤ 140737488351232 := by
  obtain ⟨v0, v1, v2, v3, y0, y1, y2, y3, n, hve, rfl, _, h0, h1, h2, h3⟩ := open_agg4 Try.underlying26 (by kernel_rfl) (by kernel_rfl) hv h
  simp only [Value.agg.injEq, Array.mk.injEq, List.cons.injEq, and_true] at hve
  obtain ⟨rfl, rfl, rfl, rfl⟩ := hve
  constructor
  · obtain ⟨l0, _, _, hd⟩ := open_rd (d := y1.1) (p := y1.2) Try.underlying22 Try.underlying3 (by kernel_rfl) ⟨n, by simpa [Value.cells] using h1⟩
    rcases hd with ⟨_, hz⟩ | ⟨el, sp, hd, hel⟩
    · omega
    · have hm1 : (el.length + sp.length) * Try.prog.bytesOf 3 ∈ y1.1.weights Try.prog 22 := by
        rw [hd]
        simp [DataW.weights, Try.underlying22]
      have hm2 : (el.length + sp.length) * Try.prog.bytesOf 3 ∈ (DataW.agg [y0.1, y1.1, y2.1, y3.1]).weights Try.prog 26 := by
        simp only [DataW.weights, Try.underlying26]
        exact DataW.weights_mem_each (j := 1) rfl rfl _ hm1
      have h9 := List.all_eq_true.1 hw _ hm2
      have h9 : (el.length + sp.length) * Try.prog.bytesOf 3 ≤ reachBytes := by simpa using h9
      rw [show Try.prog.bytesOf 3 = 8 by kernel_rfl] at h9
      exact slice_reach h9 hel
  · have h3' : DataW.trod enc Try.prog W 0 (fun _ => true) true n 24 [.slice aa na ca] = some y3 := h3
    rcases open_slice Try.underlying24 h3' with ⟨hcs, hx⟩ | ⟨x', l, c', m, n', D, Pl, hcs, _, hl, hm, hmm, hx, hel⟩
    · simp at hcs
      omega
    · simp at hcs
      obtain ⟨rfl, rfl, rfl⟩ := hcs
      have hm1 : (((List.range na).map D).length + ((List.range (m - na)).map fun j => D (na + j)).length) * Try.prog.bytesOf 4 ∈ y3.1.weights Try.prog 24 := by
        rw [show y3.1 = _ from congrArg Prod.fst hx]
        simp [DataW.weights, Try.underlying24]
      have hm2 : (((List.range na).map D).length + ((List.range (m - na)).map fun j => D (na + j)).length) * Try.prog.bytesOf 4 ∈ (DataW.agg [y0.1, y1.1, y2.1, y3.1]).weights Try.prog 26 := by
        simp only [DataW.weights, Try.underlying26]
        exact DataW.weights_mem_each (j := 3) rfl rfl _ hm1
      have h9 := List.all_eq_true.1 hw _ hm2
      have h9 : (((List.range na).map D).length + ((List.range (m - na)).map fun j => D (na + j)).length) * Try.prog.bytesOf 4 ≤ reachBytes := by simpa using h9
      rw [show Try.prog.bytesOf 4 = 1 by kernel_rfl] at h9
      exact slice_reach (elems := (List.range na).map D) h9 (by simp)

theorem mach_rows {H : Type} {enc : TypeId × Value → H} {W : World} {r : Reach} {b0 : Nat} {s : Int} {ac : Option Addr} {nc cc : Nat} {an : Option Addr} {nn cn : Nat} {aa : Option Addr} {na ca : Nat} {d : DataW H} {p : List MemPlace} {next : List (List Int)}
    (hv : Value.okWide Try.prog W r b0 26 (.agg #[.int .i64 s, .slice ac nc cc, .slice an nn cn, .slice aa na ca])) (h : DataW.Trod enc Try.prog W 0 (fun _ => true) true 26 (.agg #[.int .i64 s, .slice ac nc cc, .slice an nn cn, .slice aa na ca]) d p)
    (hw : (d.weights Try.prog 26).all (· ≤ reachBytes) = true) (hr : RdRows W .i64 an nn next) :
    ∀ row ∈ next, row.length * 8 ≤ 140737488351232 := by
  obtain ⟨v0, v1, v2, v3, y0, y1, y2, y3, n, hve, rfl, _, h0, h1, h2, h3⟩ := open_agg4 Try.underlying26 (by kernel_rfl) (by kernel_rfl) hv h
  simp only [Value.agg.injEq, Array.mk.injEq, List.cons.injEq, and_true] at hve
  obtain ⟨rfl, rfl, rfl, rfl⟩ := hve
  intro row hrow
  obtain ⟨i, hi, rfl⟩ := List.getElem_of_mem hrow
  have hin : i < nn := by rw [← hr.len]; exact hi
  obtain ⟨b, off, ai, ni, ci, ha, hc, hrd, _⟩ := hr.cell i hin
  have hln : (next[i]).length = ni := by rw [← hrd.len]; simp [List.getD, hi]
  have h2' : DataW.trod enc Try.prog W 0 (fun _ => true) true n 23 [.slice an nn cn] = some y2 := h2
  rcases open_int_rows Try.underlying23 Try.underlying22 Try.underlying3 (by kernel_rfl) (by kernel_rfl) h2' with ⟨hcs, hx⟩ | ⟨a, len, cap, A, L, C, Z, hcs, _, hl, hm, hx, hrows⟩
  · simp at hcs; omega
  · simp only [List.cons.injEq, Value.slice.injEq, and_true] at hcs
    obtain ⟨rfl, rfl, rfl⟩ := hcs
    simp only [Option.some.injEq] at ha
    subst ha
    obtain ⟨k1, k2, k3, k4, k5, k6, k7⟩ := hrows i (by omega)
    rw [Addr.add_lit, hc] at k1
    simp only [Option.some.injEq, Value.slice.injEq] at k1
    obtain ⟨e1, e2, e3⟩ := k1
    rw [hln, e2]
    cases hA : A i with
    | none => have := k6 hA; omega
    | some a' =>
      have hm1 : ((lits (H := H) .i64 ((Z i).take (L i))).length + (lits (H := H) .i64 ((Z i).drop (L i))).length) * Try.prog.bytesOf 3 ∈ (intRow (H := H) .i64 (A i) (L i) (Z i)).weights Try.prog 22 := by
        rw [hA]
        simp [intRow, DataW.weights, Try.underlying22]
      have hm2 : ((lits (H := H) .i64 ((Z i).take (L i))).length + (lits (H := H) .i64 ((Z i).drop (L i))).length) * Try.prog.bytesOf 3 ∈ y2.1.weights Try.prog 23 := by
        rw [show y2.1 = _ from congrArg Prod.fst hx]
        simp only [DataW.weights, Try.underlying23, List.mem_cons, List.mem_append]
        exact .inr (.inl (weightsAll_mem _ _ (List.mem_map.2 ⟨i, List.mem_range.2 hin, rfl⟩) _ hm1))
      have hm3 : ((lits (H := H) .i64 ((Z i).take (L i))).length + (lits (H := H) .i64 ((Z i).drop (L i))).length) * Try.prog.bytesOf 3 ∈ (DataW.agg [y0.1, y1.1, y2.1, y3.1]).weights Try.prog 26 := by
        simp only [DataW.weights, Try.underlying26]
        exact DataW.weights_mem_each (j := 2) rfl rfl _ hm2
      have h9 := List.all_eq_true.1 hw _ hm3
      have h9 : ((lits (H := H) .i64 ((Z i).take (L i))).length + (lits (H := H) .i64 ((Z i).drop (L i))).length) * Try.prog.bytesOf 3 ≤ reachBytes := by simpa using h9
      rw [show Try.prog.bytesOf 3 = 8 by kernel_rfl] at h9
      exact slice_reach (elems := lits (H := H) .i64 ((Z i).take (L i))) h9 (by simp [lits]; omega)

end Go.Proofs.Ytajajkganamfiaa
