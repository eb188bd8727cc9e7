/-
  commits as they are read, and a graph's commits as they lie; the plain law of Add.
-/
import Derived.Test.YtoakelgjofdmpaaFrame
import Derived.Test.YtoakelgjofdmpaaSmall
namespace Go.Proofs.Ytoakelgjofdmpaa
open Go.RowKit
set_option linter.unusedVariables false
set_option linter.unusedSimpArgs false

/-- a commit: its parents, its text, its note -/
abbrev Cm := List Int × Int × ByteArray

/-- a list of integers at blocks of T -/
def Par (w : World) (T : Nat → Prop) (v : Value) (ps : List Int) : Prop := ∃ a n c, v = .slice a n c ∧ (n ≤ c ∧ (a = none → c = 0)) ∧ RdF w T .i64 a n ps

theorem Par.below {w w' : World} {T v ps} (h : Par w T v ps) (hb : Below w.heap.size w w') : Par w' T v ps := by
  obtain ⟨a, n, c, rfl, h1, h2⟩ := h
  exact ⟨a, n, c, rfl, h1, h2.below hb⟩
theorem Par.mono {w : World} {T T' : Nat → Prop} {v ps} (h : Par w T v ps) (hT : ∀ i, T i → T' i) : Par w T' v ps := by
  obtain ⟨a, n, c, rfl, h1, h2⟩ := h
  exact ⟨a, n, c, rfl, h1, h2.mono hT⟩
theorem Par.fr {w w' : World} {S T v ps} (h : Par w T v ps) (hf : Fr S w w') (hd : ∀ i, T i → ¬ S i) : Par w' T v ps := by
  obtain ⟨a, n, c, rfl, h1, h2⟩ := h
  exact ⟨a, n, c, rfl, h1, h2.fr hf hd⟩

/-- numbers and notes are in range -/
def WfL (L : List Cm) : Prop := ∀ x ∈ L, (Lit.int .i64 x.2.1).wf = true ∧ x.2.2.size ≤ 9223372036854775807 ∧ ∀ p ∈ x.1, (Lit.int .i64 p).wf = true

/-- the n commits of a slice with address a, in blocks of T -/
structure RdC (w : World) (T : Nat → Prop) (a : Option Addr) (n : Nat) (L : List Cm) : Prop where
  len : L.length = n
  max : n ≤ 9223372036854775807
  cell : ∀ i x, L[i]? = some x → ∃ b off v, a = some ⟨b, off, none⟩ ∧ T b ∧ w.cell? ⟨b, off + i * 3, none⟩ = some v ∧ w.cell? ⟨b, off + i * 3 + 1, none⟩ = some (.int .i64 x.2.1) ∧ w.cell? ⟨b, off + i * 3 + 2, none⟩ = some (.string x.2.2) ∧ Par w T v x.1
  wf : WfL L

theorem RdC.below {w w' : World} {T a n L} (h : RdC w T a n L) (hb : Below w.heap.size w w') : RdC w' T a n L :=
  ⟨h.len, h.max, fun i x hx => by
    obtain ⟨b, off, v, ha, ht, h1, h2, h3, h4⟩ := h.cell i x hx
    exact ⟨b, off, v, ha, ht, below_cell hb h1, below_cell hb h2, below_cell hb h3, h4.below hb⟩, h.wf⟩
theorem RdC.mono {w : World} {T T' : Nat → Prop} {a n L} (h : RdC w T a n L) (hT : ∀ i, T i → T' i) : RdC w T' a n L :=
  ⟨h.len, h.max, fun i x hx => by
    obtain ⟨b, off, v, ha, ht, h1, h2, h3, h4⟩ := h.cell i x hx
    exact ⟨b, off, v, ha, hT _ ht, h1, h2, h3, h4.mono hT⟩, h.wf⟩
theorem RdC.fr {w w' : World} {S T a n L} (h : RdC w T a n L) (hf : Fr S w w') (hd : ∀ i, T i → ¬ S i) : RdC w' T a n L :=
  ⟨h.len, h.max, fun i x hx => by
    obtain ⟨b, off, v, ha, ht, h1, h2, h3, h4⟩ := h.cell i x hx
    exact ⟨b, off, v, ha, ht, hf.cell h1 (hd _ ht), hf.cell h2 (hd _ ht), hf.cell h3 (hd _ ht), h4.fr hf hd⟩, h.wf⟩
theorem Par.lt {w : World} {T : Nat → Prop} {v ps} (h : Par w T v ps) : Par w (fun i => T i ∧ i < w.heap.size) v ps := by
  obtain ⟨a, n, c, rfl, h1, h2⟩ := h
  exact ⟨a, n, c, rfl, h1, h2.lt⟩
theorem RdC.lt {w : World} {T a n L} (h : RdC w T a n L) : RdC w (fun i => T i ∧ i < w.heap.size) a n L :=
  ⟨h.len, h.max, fun i x hx => by
    obtain ⟨b, off, v, ha, ht, h1, h2, h3, h4⟩ := h.cell i x hx
    exact ⟨b, off, v, ha, ⟨ht, World.block_lt_of_cell? w _ h1⟩, h1, h2, h3, h4.lt⟩, h.wf⟩

/-- the cells of commits whose parents lie at the values vs -/
def cellsC (vs : List (Value × Cm)) : List Value := vs.flatMap fun x => [x.1, .int .i64 x.2.2.1, .string x.2.2.2]

theorem cellsC_len (vs : List (Value × Cm)) : (cellsC vs).length = vs.length * 3 := by
  induction vs with
  | nil => rfl
  | cons x r ih => simp only [cellsC, List.flatMap_cons, List.length_append, List.length_cons, List.length_nil] at *; omega

theorem cellsC_get : ∀ (vs : List (Value × Cm)) (i : Nat) (x : Value × Cm), vs[i]? = some x →
    (cellsC vs)[i * 3]? = some x.1 ∧ (cellsC vs)[i * 3 + 1]? = some (.int .i64 x.2.2.1) ∧ (cellsC vs)[i * 3 + 2]? = some (.string x.2.2.2)
  | [], _, _, h => by simp at h
  | y :: r, 0, x, h => by
    simp only [List.getElem?_cons_zero, Option.some.injEq] at h
    subst h
    exact ⟨rfl, rfl, rfl⟩
  | y :: r, i + 1, x, h => by
    simp only [List.getElem?_cons_succ] at h
    obtain ⟨h1, h2, h3⟩ := cellsC_get r i x h
    have e : cellsC (y :: r) = y.1 :: .int .i64 y.2.2.1 :: .string y.2.2.2 :: cellsC r := rfl
    rw [e, show (i + 1) * 3 = i * 3 + 1 + 1 + 1 by omega]
    refine ⟨?_, ?_, ?_⟩
    · rw [List.getElem?_cons_succ, List.getElem?_cons_succ, List.getElem?_cons_succ]; exact h1
    · rw [show i * 3 + 1 + 1 + 1 + 1 = (i * 3 + 1) + 1 + 1 + 1 by omega, List.getElem?_cons_succ, List.getElem?_cons_succ, List.getElem?_cons_succ]; exact h2
    · rw [show i * 3 + 1 + 1 + 1 + 2 = (i * 3 + 2) + 1 + 1 + 1 by omega, List.getElem?_cons_succ, List.getElem?_cons_succ, List.getElem?_cons_succ]; exact h3

theorem cellsC_append (vs : List (Value × Cm)) (x : Value × Cm) : cellsC (vs ++ [x]) = cellsC vs ++ [x.1, .int .i64 x.2.2.1, .string x.2.2.2] := by simp [cellsC]

theorem cellsC_inv : ∀ (vs : List (Value × Cm)) (j : Nat) (u : Value), (cellsC vs)[j]? = some u →
    ∃ i x, vs[i]? = some x ∧ ((j = i * 3 ∧ u = x.1) ∨ (j = i * 3 + 1 ∧ u = .int .i64 x.2.2.1) ∨ (j = i * 3 + 2 ∧ u = .string x.2.2.2))
  | [], j, u, h => by simp [cellsC] at h
  | y :: r, j, u, h => by
    have e : cellsC (y :: r) = y.1 :: .int .i64 y.2.2.1 :: .string y.2.2.2 :: cellsC r := rfl
    rw [e] at h
    match j, h with
    | 0, h => exact ⟨0, y, rfl, .inl ⟨rfl, by simpa using h.symm⟩⟩
    | 1, h => exact ⟨0, y, rfl, .inr (.inl ⟨rfl, by simpa using h.symm⟩)⟩
    | 2, h => exact ⟨0, y, rfl, .inr (.inr ⟨rfl, by simpa using h.symm⟩)⟩
    | j + 3, h =>
      simp only [List.getElem?_cons_succ] at h
      obtain ⟨i, x, hx, hh⟩ := cellsC_inv r j u h
      refine ⟨i + 1, x, by simpa using hx, ?_⟩
      rcases hh with ⟨h1, h2⟩ | ⟨h1, h2⟩ | ⟨h1, h2⟩
      · exact .inl ⟨by omega, h2⟩
      · exact .inr (.inl ⟨by omega, h2⟩)
      · exact .inr (.inr ⟨by omega, h2⟩)

theorem cellsC_one (vs : List (Value × Cm)) (h : ∀ x ∈ vs, ∃ a n c, x.1 = .slice a n c) : ∀ u ∈ cellsC vs, u.oneCell' = true := by
  intro u hu
  obtain ⟨j, hj, rfl⟩ := List.getElem_of_mem hu
  obtain ⟨i, x, hx, hh⟩ := cellsC_inv vs j _ (List.getElem?_eq_getElem hj)
  obtain ⟨a, n, c, hc⟩ := h x (List.mem_of_getElem? hx)
  rcases hh with ⟨_, h2⟩ | ⟨_, h2⟩ | ⟨_, h2⟩ <;> rw [h2]
  · rw [hc]; rfl
  · rfl
  · rfl

/-- the commits of a slice as cells -/
theorem RdC.cells {w : World} {T a n L} (h : RdC w T a n L) : ∃ vs : List (Value × Cm), L = vs.map (·.2) ∧ RdG w 3 a n (cellsC vs) ∧ (∀ x ∈ vs, Par w T x.1 x.2.1) := by
  have hlen := h.len
  have hv : ∀ i : Nat, ∃ v : Value, ∀ x, L[i]? = some x → ∃ b off, a = some ⟨b, off, none⟩ ∧ w.cell? ⟨b, off + i * 3, none⟩ = some v ∧ w.cell? ⟨b, off + i * 3 + 1, none⟩ = some (.int .i64 x.2.1) ∧ w.cell? ⟨b, off + i * 3 + 2, none⟩ = some (.string x.2.2) ∧ Par w T v x.1 := by
    intro i
    cases hx : L[i]? with
    | none => exact ⟨.nilIface, fun x hx => by cases hx⟩
    | some y =>
      obtain ⟨b, off, v, ha, _, h1, h2, h3, h4⟩ := h.cell i y hx
      exact ⟨v, fun x hx => by cases hx; exact ⟨b, off, ha, h1, h2, h3, h4⟩⟩
  let f : Nat → Value := fun i => Classical.choose (hv i)
  have hf : ∀ i x, L[i]? = some x → ∃ b off, a = some ⟨b, off, none⟩ ∧ w.cell? ⟨b, off + i * 3, none⟩ = some (f i) ∧ w.cell? ⟨b, off + i * 3 + 1, none⟩ = some (.int .i64 x.2.1) ∧ w.cell? ⟨b, off + i * 3 + 2, none⟩ = some (.string x.2.2) ∧ Par w T (f i) x.1 := fun i => Classical.choose_spec (hv i)
  have hz : ∀ i x, (L.mapIdx fun i x => (f i, x))[i]? = some x → L[i]? = some x.2 ∧ x.1 = f i := by
    intro i x hx
    rw [List.getElem?_mapIdx, Option.map_eq_some_iff] at hx
    obtain ⟨y, hy, rfl⟩ := hx
    exact ⟨hy, rfl⟩
  refine ⟨L.mapIdx fun i x => (f i, x), ?_, ⟨by rw [cellsC_len, List.length_mapIdx, hlen], fun j u hu => ?_⟩, fun x hx => ?_⟩
  · apply List.ext_getElem?
    intro i
    rw [List.getElem?_map, List.getElem?_mapIdx]
    cases L[i]? <;> rfl
  · obtain ⟨i, x, hx, hh⟩ := cellsC_inv _ j u hu
    obtain ⟨h1, h2⟩ := hz i x hx
    obtain ⟨b, off, ha, c1, c2, c3, _⟩ := hf i _ h1
    refine ⟨b, off, ha, ?_⟩
    rcases hh with ⟨rfl, rfl⟩ | ⟨rfl, rfl⟩ | ⟨rfl, rfl⟩
    · rw [h2]; exact c1
    · exact c2
    · exact c3
  · obtain ⟨i, hi⟩ := List.getElem?_of_mem hx
    obtain ⟨h1, h2⟩ := hz i x hi
    obtain ⟨b, off, ha, _, _, _, hp⟩ := hf i _ h1
    rw [h2]; exact hp

/-- commits in a row of the call's own, all in blocks of S, the parents in blocks of P -/
structure OwnC (w : World) (S P : Nat → Prop) (v : Value) (n : Nat) (L : List Cm) : Prop where
  ex : ∃ vs : List (Value × Cm), L = vs.map (·.2) ∧ Row w 0 27 3 v n (cellsC vs) ∧ ∀ x ∈ vs, Par w P x.1 x.2.1
  foot : ∀ g, v.ownBlock = some g → S g ∧ ¬ P g
  sub : ∀ i, P i → S i
  wf : WfL L

theorem OwnC.len {w : World} {S P v n L} (h : OwnC w S P v n L) : L.length = n := by
  obtain ⟨vs, rfl, h1, _⟩ := h.ex
  have := h1.1
  rw [cellsC_len] at this
  rw [List.length_map]; omega
theorem OwnC.below {w w' : World} {S P v n L} (h : OwnC w S P v n L) (hb : Below w.heap.size w w') : OwnC w' S P v n L := by
  obtain ⟨vs, h0, h1, h2⟩ := h.ex
  exact ⟨⟨vs, h0, Row.below h1 hb, fun x hx => (h2 x hx).below hb⟩, h.foot, h.sub, h.wf⟩
theorem OwnC.fr {w w' : World} {S P F v n L} (h : OwnC w S P v n L) (hf : Fr F w w') (hd : ∀ i, S i → ¬ F i) : OwnC w' S P v n L := by
  obtain ⟨vs, h0, h1, h2⟩ := h.ex
  exact ⟨⟨vs, h0, Row.fr h1 hf fun g hg => hd g (h.foot g hg).1, fun x hx => (h2 x hx).fr hf fun i hi => hd i (h.sub i hi)⟩, h.foot, h.sub, h.wf⟩
theorem OwnC.mono {w : World} {S S' P : Nat → Prop} {v n L} (h : OwnC w S P v n L) (hT : ∀ i, S i → S' i) : OwnC w S' P v n L := by
  obtain ⟨vs, h0, h1, h2⟩ := h.ex
  exact ⟨⟨vs, h0, h1, h2⟩, fun g hg => ⟨hT g (h.foot g hg).1, (h.foot g hg).2⟩, fun i hi => hT i (h.sub i hi), h.wf⟩
theorem OwnC.form {w : World} {S P v n L} (h : OwnC w S P v n L) : ∃ a c, v = .slice a n c := by
  obtain ⟨vs, h0, h1, h2⟩ := h.ex
  exact Row.form h1
theorem OwnC.rd {w : World} {S P a n c L} (h : OwnC w S P (.slice a n c) n L) (hn : n ≤ 9223372036854775807) : RdC w S a n L := by
  have hfoot := h.foot
  have hsub := h.sub
  refine ⟨h.len, hn, fun i x hx => ?_, h.wf⟩
  obtain ⟨vs, rfl, h1, h2⟩ := h.ex
  rw [List.getElem?_map, Option.map_eq_some_iff] at hx
  obtain ⟨y, hy, rfl⟩ := hx
  have hi : i < vs.length := (List.getElem?_eq_some_iff.1 hy).1
  have hn : vs.length = n := by have := h1.1; rw [cellsC_len] at this; omega
  obtain ⟨g1, g2, g3⟩ := cellsC_get vs i y hy
  obtain ⟨g, rfl, _⟩ : ∃ g, a = some ⟨g, 0, none⟩ ∧ 0 ≤ g := by
    rcases h1.2 with ⟨hv, _⟩ | ⟨g, cap, cur, hv, hb, _⟩
    · cases hv; omega
    · cases hv; exact ⟨g, rfl, hb⟩
  have hl := h1.1
  refine ⟨g, 0, y.1, rfl, (hfoot g rfl).1, ?_, ?_, ?_, (h2 y (List.mem_of_getElem? hy)).mono hsub⟩
  · rw [Nat.zero_add, World.ownsRow.cellAt h1 _ (by omega)]; exact g1
  · rw [Nat.zero_add, World.ownsRow.cellAt h1 _ (by omega)]; exact g2
  · rw [Nat.zero_add, World.ownsRow.cellAt h1 _ (by omega)]; exact g3

/-- a graph behind the pointer to block bg; all that it holds lies in blocks of S -/
structure GI (w : World) (S : Nat → Prop) (bg : Nat) (L : List Cm) : Prop where
  ex : ∃ P a c, w.cell? ⟨bg, 0, none⟩ = some (.slice a L.length c) ∧ OwnC w S P (.slice a L.length c) L.length L ∧ ¬ P bg ∧ (Value.slice a L.length c).ownBlock ≠ some bg
  fr0 : w.frozen? ⟨bg, 0, none⟩ = false
  foot : S bg
  n1 : L.length ≤ 65536

theorem GI.lt {w : World} {S bg L} (h : GI w S bg L) : bg < w.heap.size := by
  obtain ⟨P, a, c, h1, _⟩ := h.ex
  exact World.block_lt_of_cell? w _ h1
theorem GI.fr {w w' : World} {S F bg L} (h : GI w S bg L) (hf : Fr F w w') (hd : ∀ i, S i → ¬ F i) : GI w' S bg L := by
  have hlt := h.lt
  obtain ⟨P, a, c, h1, h2, h3, h4⟩ := h.ex
  exact ⟨⟨P, a, c, hf.cell h1 (hd _ h.foot), h2.fr hf hd, h3, h4⟩, (hf.frozen hlt (hd _ h.foot)).trans h.fr0, h.foot, h.n1⟩
theorem GI.below {w w' : World} {S bg L} (h : GI w S bg L) (hb : Below w.heap.size w w') : GI w' S bg L := h.fr (F := fun _ => False) (.of_below hb) (fun _ _ h => h)

/-- what Add does: the list with one commit more, and the error's number -/
def addBad (L : List Cm) (c : Cm) : Int :=
  if 8 < c.1.length ∨ 200 < c.2.2.size ∨ c.2.1 < 0 then 4
  else if ∃ p ∈ c.1, p < 0 ∨ (L.length : Int) ≤ p then 1
  else if ¬ c.1.Nodup then 4
  else if 65536 ≤ L.length then 3 else 0
def addC (L : List Cm) (c : Cm) : List Cm := if addBad L c = 0 then L ++ [c] else L

/-- what holds of all commits that Add took -/
def GoodL (L : List Cm) : Prop := ∀ (i : Nat) (x : Cm), L[i]? = some x → x.1.length ≤ 8 ∧ x.1.Nodup ∧ (∀ p ∈ x.1, 0 ≤ p ∧ p < (i : Int)) ∧ 0 ≤ x.2.1 ∧ x.2.2.size ≤ 200

theorem GoodL.add {L : List Cm} (h : GoodL L) (c : Cm) : GoodL (addC L c) := by
  unfold addC
  by_cases hb : addBad L c = 0
  · rw [if_pos hb]
    unfold addBad at hb
    by_cases h1 : 8 < c.1.length ∨ 200 < c.2.2.size ∨ c.2.1 < 0
    · rw [if_pos h1] at hb; cases hb
    rw [if_neg h1] at hb
    by_cases h2 : ∃ p ∈ c.1, p < 0 ∨ (L.length : Int) ≤ p
    · rw [if_pos h2] at hb; cases hb
    rw [if_neg h2] at hb
    by_cases h3 : ¬ c.1.Nodup
    · rw [if_pos h3] at hb; cases hb
    have h3 : c.1.Nodup := Classical.not_not.1 h3
    intro i x hx
    by_cases hi : i < L.length
    · rw [List.getElem?_append_left hi] at hx; exact h i x hx
    · rw [List.getElem?_append_right (by omega)] at hx
      have hi2 : i = L.length := by
        have := (List.getElem?_eq_some_iff.1 hx).1
        simp at this; omega
      subst hi2
      simp only [Nat.sub_self, List.getElem?_cons_zero, Option.some.injEq] at hx
      subst hx
      refine ⟨by omega, h3, fun p hp => ?_, by omega, by omega⟩
      have : ¬ (p < 0 ∨ (L.length : Int) ≤ p) := fun hh => h2 ⟨p, hp, hh⟩
      omega
  · rw [if_neg hb]; exact h

end Go.Proofs.Ytoakelgjofdmpaa
