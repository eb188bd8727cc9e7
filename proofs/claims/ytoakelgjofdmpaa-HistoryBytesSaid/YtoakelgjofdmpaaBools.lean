/-
  bools in memory of the call's own; a graph as it is read.
-/
import Derived.Test.YtoakelgjofdmpaaHBuild
import Derived.Test.YtoakelgjofdmpaaHAnc
namespace Go.Proofs.Ytoakelgjofdmpaa
open Go.RowKit
set_option linter.unusedVariables false
set_option linter.unusedSimpArgs false

theorem EB : EltG Try.prog 80 4 (.bool false) 1 1 := ⟨Try.underlying80, info_parts (by kernel_rfl), rfl, by decide⟩

def OwnB (w : World) (base : Nat) (v : Value) (l : List Bool) : Prop := Row w base 4 1 v l.length (l.map Value.bool)

/-- l[j] = u in a row of bools -/
theorem store_bool {P : Program} {w : World} {ops : Array Oper} {rest : List Oper} {o : Oper} {a : Act} {Q : Exit → Act → World → Prop} (hgd : o.guard = none) (x y : Operand) (ho : o.op = .store 4 x y)
    (g j : Nat) (hx : a.eval x = .pointer (some ⟨g, j, none⟩)) (u : Bool) (hy : a.eval y = .bool u) (hi : (P.info? 4).map (·.size) = some 1)
    (base n cap : Nat) (l : List Bool) (hown : OwnB w base (.slice (some ⟨g, 0, none⟩) n cap) l) (hn : n = l.length) (hj : j < l.length)
    (h : ∀ w', OwnB w' base (.slice (some ⟨g, 0, none⟩) n cap) (l.set j u) → w.grownBy w' (some g) → wpList P ops Q rest (a.put o.dst undef) w') : wpList P ops Q (o :: rest) a w := by
  subst hn
  refine store_row hgd _ x y ho g j hx (.bool u) hy [.bool u] rfl hi (by simp [Value.oneCell']) base _ 1 l.length cap _ hown (by simp; omega) ?_
  intro w' hw' hg
  refine h w' ?_ hg
  unfold OwnB
  rw [List.length_set, List.map_set, List.set_eq_take_append_cons_drop, if_pos (by simpa using hj)]
  simpa using hw'

theorem OwnB.cell {w : World} {base g n c : Nat} {l : List Bool} (h : OwnB w base (.slice (some ⟨g, 0, none⟩) n c) l) {j : Nat} (hj : j < l.length) : w.cell? ⟨g, j, none⟩ = some (.bool (l.getD j false)) := by
  have hw := h
  unfold OwnB at hw
  have hn : n = l.length := by
    rcases hw.2 with ⟨hv, hn⟩ | ⟨g', cap, cur, hv, _⟩
    · cases hv
    · simp only [Value.slice.injEq] at hv; exact hv.2.1
  subst hn
  rw [World.ownsRow.cellAt hw j (by simpa using hj), List.getElem?_map]
  simp [List.getD, hj]

/-- a graph as it is read -/
structure RG (w : World) (T : Nat → Prop) (bg : Nat) (L : List Cm) : Prop where
  ex : ∃ a c, w.cell? ⟨bg, 0, none⟩ = some (.slice a L.length c) ∧ RdC w T a L.length L
  foot : T bg
  n1 : L.length ≤ 65536
theorem GI.rg {w : World} {S bg L} (h : GI w S bg L) : RG w S bg L := by
  obtain ⟨P, a, c, h1, h2, h3, h4⟩ := h.ex
  exact ⟨⟨a, c, h1, h2.rd (by have := h.n1; omega)⟩, h.foot, h.n1⟩
theorem RG.below {w w' : World} {T bg L} (h : RG w T bg L) (hb : Below w.heap.size w w') : RG w' T bg L := by
  obtain ⟨a, c, h1, h2⟩ := h.ex
  exact ⟨⟨a, c, below_cell hb h1, h2.below hb⟩, h.foot, h.n1⟩

/-- a commit of the graph, with its parents -/
theorem RdC.pars {w : World} {T a n L} (h : RdC w T a n L) {i : Nat} (hi : i < n) : ∃ b off pa pn pc, a = some ⟨b, off, none⟩ ∧ w.cell? ⟨b, off + i * 3, none⟩ = some (.slice pa pn pc) ∧ Rd w .i64 pa pn (parsOf L i) ∧ pn = (parsOf L i).length := by
  have hil : i < L.length := by rw [h.len]; exact hi
  obtain ⟨b, off, v, ha, _, h1, _, _, pa, pn, pc, rfl, _, hr⟩ := h.cell i _ (List.getElem?_eq_getElem hil)
  have e : parsOf L i = L[i].1 := by unfold parsOf; simp [List.getD, hil]
  exact ⟨b, off, pa, pn, pc, ha, h1, by rw [e]; exact hr.rd, by rw [e]; exact hr.rd.len.symm⟩

theorem make_bools {P : Program} {w : World} {ops : Array Oper} {rest : List Oper} {o : Oper} {a : Act} {Q : Exit → Act → World → Prop} (E : EltG P 80 4 (.bool false) 1 1)
    (hgd : o.guard = none) (s x : Operand) (ho : o.op = Op.makeSlice 80 s x) (base : Nat) (kl kc : IntKind) (L C : Int) (n : Nat) (hs : a.eval s = .int kl L) (hx : a.eval x = .int kc C) (hL : L = (n : Int)) (hC : C = (n : Int))
    (hb : n ≤ 281474976710656) (hbase : base ≤ w.heap.size)
    (h : ∀ w', OwnB w' base (.slice (some ⟨w.heap.size, 0, none⟩) n n) (List.replicate n false) → w.grownBy w' none → wpList P ops Q rest (a.put o.dst (.slice (some ⟨w.heap.size, 0, none⟩) n n)) w') : wpList P ops Q (o :: rest) a w := by
  refine make_row E hgd s x ho base kl kc L C n hs hx hL hC (by omega) (by omega) hbase fun w' h1 h2 => h w' ?_ h2
  unfold OwnB
  rw [List.length_replicate]
  have e1 : (madeCells (Value.bool false).cells (n * 1)).toList = (List.replicate n false).map Value.bool := by
    rw [Nat.mul_one, show (Value.bool false).cells = #[.bool false] from rfl, toList_madeCells_one, List.map_replicate]
  rw [← e1]; exact h1

end Go.Proofs.Ytoakelgjofdmpaa
