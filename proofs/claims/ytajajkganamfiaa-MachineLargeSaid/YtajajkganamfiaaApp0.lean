/-
  GENERIC, over any program: append onto an empty slice without capacity, wherever it lies: what comes back reads as what was appended.
-/
import Derived.Test.YtajajkganamfiaaRF
import Derived.ArgAppend
namespace Go.Proofs.Ytajajkganamfiaa
open Go.RowKit
set_option linter.unusedVariables false
set_option linter.unusedSimpArgs false

theorem run_app_empty {P : Program} (w : World) {t e : TypeId} {z : Value} {size bytes : Nat} (E : EltG P t e z size bytes) (ty : TypeId) (g0 : Nat)
    (ad : Option Addr) (m c : Nat) (news : List Value) (hr : RdG w size ad m news) (h1 : ∀ u ∈ news, u.oneCell' = true) (hlen : m * bytes ≤ 140737488355328) (hpos : 0 < bytes) :
    ∃ a' c' w', (Builtin.append_ #[t, t] ty #[.slice (some ⟨g0, 0, none⟩) 0 0, .slice ad m c]).run P w = .ok (.slice a' m c') w' ∧ RdG w' size a' m news ∧ Below w.heap.size w w' ∧ m ≤ c' ∧ (∀ x, a' = some x → 0 < m → w.heap.size ≤ x.block ∧ x.block < w'.heap.size) := by
  obtain ⟨i, hi, hz, hsz, hby⟩ := E.hi
  have hb2 : m ≤ 140737488355328 := Nat.le_trans (Nat.le_mul_of_pos_right _ hpos) hlen
  rcases Nat.eq_zero_or_pos m with h0 | h0
  · subst h0
    have hn : news = [] := List.eq_nil_of_length_eq_zero (by have := hr.len; omega)
    subst hn
    refine ⟨some ⟨g0, 0, none⟩, 0, w, ?_, ⟨by simp, fun j u hu => by simp at hu⟩, Below.refl _ _, Nat.le_refl _, fun x _ h => absurd h (Nat.lt_irrefl _)⟩
    cases ad with
    | none => simp [Builtin.append_, run_underlying E.ht, sizeOf, typeInfo, hi, Builtin.lenOf, Builtin.firstCells, storeCells]
    | some a => simp [Builtin.append_, run_underlying E.ht, sizeOf, typeInfo, hi, Builtin.lenOf, Builtin.firstCells, loadCells, loadCellsFrom, storeCells]
  · cases ad with
    | none =>
      have hl := hr.len
      have : news ≠ [] := by
        intro h; subst h
        have h3 := E.h0
        simp only [List.length_nil] at hl
        rcases Nat.mul_eq_zero.1 hl.symm with h4 | h4 <;> omega
      cases news with
      | nil => exact absurd rfl this
      | cons u r => obtain ⟨b, off, ha, _⟩ := hr.cell 0 u rfl; cases ha
    | some ad =>
      obtain ⟨v', w', hrun, ho, hg⟩ := run_append_arg_grows (P := P) w t ty e i z size bytes E.ht hi hz hsz hby E.hz E.h0 ⟨g0, 0, none⟩ 0 0 [] (by simp) (fun j u hu => by simp at hu) ad m c news hr.len hr.news (by omega) (by unfold maxLen; omega) (by rw [Nat.zero_add]; exact hlen)
      rw [Nat.zero_add] at ho
      obtain ⟨a', c', rfl⟩ := Row.form ho
      refine ⟨a', c', w', hrun, ?_, (Below.refl _ _).grown hg (Nat.le_refl _) (fun x hx => by cases hx), ?_, ?_⟩
      · have h := Row.rdG ho; simpa using h
      · rcases ho.2 with ⟨h1, h2⟩ | ⟨g', cap, cur, hv, _, _, hc, _⟩
        · omega
        · simp only [Value.slice.injEq] at hv; omega
      · intro x hx _
        have h2 := Row.block_lt ho (g := x.block) (by rw [hx]; rfl)
        exact ⟨h2.2, h2.1⟩

theorem RdG.fr1 {w w' : World} {size : Nat} {a : Option Addr} {n : Nat} {xs : List Value} {g : Nat} (h : RdG w size a n xs) (hs : 0 < size) (hf : Fr (fun x => x = g) w w') (hne : ∀ x, a = some x → 0 < n → x.block ≠ g) : RdG w' size a n xs :=
  ⟨h.len, fun j u hu => by
    obtain ⟨b, off, ha, hc⟩ := h.cell j u hu
    have hj := (List.getElem?_eq_some_iff.1 hu).1
    have hn : 0 < n := by
      rcases Nat.eq_zero_or_pos n with e | e
      · rw [h.len, e, Nat.zero_mul] at hj; omega
      · exact e
    exact ⟨b, off, ha, hf.cell hc (hne ⟨b, off, none⟩ ha hn)⟩⟩

section
variable {P : Program} {w : World} {ops : Array Oper} {rest : List Oper} {o : Oper} {a : Act} {Q : Exit → Act → World → Prop}

/-- at a step of a region that draws its order -/
theorem step_app_empty {K : Act → World → Prop} {G : Prop} (s x : Operand) {t e : TypeId} {z : Value} {size bytes : Nat} (E : EltG P t e z size bytes)
    (hgd : o.guard = none) (ho : o.op = .call { callee := .builtin .append, args := #[s, x], argTypes := #[t, t] })
    (g0 : Nat) (hs : a.eval s = .slice (some ⟨g0, 0, none⟩) 0 0) (ad : Option Addr) (m c : Nat) (news : List Value) (hx : a.eval x = .slice ad m c) (hr : RdG w size ad m news) (h1 : ∀ u ∈ news, u.oneCell' = true)
    (hlen : m * bytes ≤ 140737488355328) (hpos : 0 < bytes)
    (h : ∀ a' c' w', RdG w' size a' m news → Below w.heap.size w w' → m ≤ c' → (∀ x, a' = some x → 0 < m → w.heap.size ≤ x.block ∧ x.block < w'.heap.size) → K (a.put o.dst (.slice a' m c')) w') : if Region.wanted o (yielded ops a.tmps) = true then Oper.wp P o a w K Q else G := by
  have hw : Region.wanted o (yielded ops a.tmps) = true := by simp [Region.wanted, hgd]
  rw [if_pos hw]
  obtain ⟨a', c', w', hrun, hrd, hb, hc, hx2⟩ := run_app_empty w E o.type g0 ad m c news hr h1 hlen hpos
  unfold Oper.wp execOp
  simp only [ho, resolve, invoke, builtin, Sem.run_bind, Sem.run_pure, Result.andThen_ok, List.map_toArray, List.map_cons, List.map_nil, hs, hx, hrun]
  exact h a' c' w' hrd hb hc hx2
end

end Go.Proofs.Ytajajkganamfiaa
