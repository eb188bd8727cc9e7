/-
  machine.Shortest on a valid machine: the steps as they lie in memory.
-/
import Derived.Test.YtajajkganamfiaaMRefShort
import Derived.Test.YtajajkganamfiaaRev8
namespace Go.Proofs.Ytajajkganamfiaa
open Go.RowKit

theorem ES : EltG Try.prog 62 61 (.agg #[.int .i64 0, .int .i64 0, .int .u8 0]) 3 24 := ⟨Try.underlying62, info_parts (by kernel_rfl), rfl, by decide⟩

/-- a step: its state, the index of the step before, the letter; and its text -/
abbrev Stp := Int × Int × Int × List Int
def cells3 (T : List Stp) : List Value := T.flatMap fun x => [.int .i64 x.1, .int .i64 x.2.1, .int .u8 x.2.2.1]
def fnd (T : List Stp) : Fnd := T.map fun x => (x.1, x.2.2.2)

theorem cells3_len (T : List Stp) : (cells3 T).length = T.length * 3 := by
  induction T with
  | nil => rfl
  | cons x r ih => simp only [cells3, List.flatMap_cons, List.length_append, List.length_cons, List.length_nil] at *; omega

theorem cells3_get : ∀ (T : List Stp) (i : Nat) (x : Stp), T[i]? = some x →
    (cells3 T)[i * 3]? = some (.int .i64 x.1) ∧ (cells3 T)[i * 3 + 1]? = some (.int .i64 x.2.1) ∧ (cells3 T)[i * 3 + 2]? = some (.int .u8 x.2.2.1)
  | [], _, _, h => by simp at h
  | y :: r, 0, x, h => by
    simp only [List.getElem?_cons_zero, Option.some.injEq] at h
    subst h
    exact ⟨rfl, rfl, rfl⟩
  | y :: r, i + 1, x, h => by
    simp only [List.getElem?_cons_succ] at h
    obtain ⟨h1, h2, h3⟩ := cells3_get r i x h
    have e : cells3 (y :: r) = .int .i64 y.1 :: .int .i64 y.2.1 :: .int .u8 y.2.2.1 :: cells3 r := rfl
    rw [e, show (i + 1) * 3 = i * 3 + 1 + 1 + 1 by omega]
    refine ⟨?_, ?_, ?_⟩
    · rw [List.getElem?_cons_succ, List.getElem?_cons_succ, List.getElem?_cons_succ]; exact h1
    · rw [show i * 3 + 1 + 1 + 1 + 1 = (i * 3 + 1) + 1 + 1 + 1 by omega, List.getElem?_cons_succ, List.getElem?_cons_succ, List.getElem?_cons_succ]; exact h2
    · rw [show i * 3 + 1 + 1 + 1 + 2 = (i * 3 + 2) + 1 + 1 + 1 by omega, List.getElem?_cons_succ, List.getElem?_cons_succ, List.getElem?_cons_succ]; exact h3

theorem cells3_append (T : List Stp) (x : Stp) : cells3 (T ++ [x]) = cells3 T ++ [.int .i64 x.1, .int .i64 x.2.1, .int .u8 x.2.2.1] := by simp [cells3]

/-- each step hangs on an earlier one -/
def Wf3 (T : List Stp) : Prop := ∀ (i : Nat) (x : Stp), T[i]? = some x → (0 ≤ x.2.2.1 ∧ x.2.2.1 ≤ 255) ∧
  ((x.2.1 < 0 ∧ x.2.2.2 = []) ∨ ∃ (j : Nat) (y : Stp), x.2.1 = (j : Int) ∧ j < i ∧ T[j]? = some y ∧ x.2.2.2 = y.2.2.2 ++ [x.2.2.1])

theorem Wf3.push {T : List Stp} (h : Wf3 T) {i : Nat} {y : Stp} (hy : T[i]? = some y) (q b : Int) (hb : 0 ≤ b ∧ b ≤ 255) : Wf3 (T ++ [(q, (i : Int), b, y.2.2.2 ++ [b])]) := by
  intro k x hx
  have hi : i < T.length := (List.getElem?_eq_some_iff.1 hy).1
  by_cases hk : k < T.length
  · rw [List.getElem?_append_left hk] at hx
    obtain ⟨h1, h2⟩ := h k x hx
    refine ⟨h1, ?_⟩
    rcases h2 with h2 | ⟨j, z, h3, h4, h5, h6⟩
    · exact .inl h2
    · exact .inr ⟨j, z, h3, h4, by rw [List.getElem?_append_left (by omega)]; exact h5, h6⟩
  · have hk2 : k = T.length := by
      have := (List.getElem?_eq_some_iff.1 hx).1
      simp at this; omega
    subst hk2
    rw [List.getElem?_append_right (Nat.le_refl _), Nat.sub_self] at hx
    simp only [List.getElem?_cons_zero, Option.some.injEq] at hx
    subst hx
    exact ⟨hb, .inr ⟨i, y, rfl, hi, by rw [List.getElem?_append_left hi]; exact hy, rfl⟩⟩

/-- what the loops of Shortest know -/
structure StepInv (B nn : Nat) (w1 wr : World) (gS g q c : Nat) (T : List Stp) : Prop where
  ql : q = T.length
  row : Row wr B 61 3 (.slice (some ⟨g, 0, none⟩) q c) q (cells3 T)
  seen : OwnB wr B (.slice (some ⟨gS, 0, none⟩) nn nn) (fbits nn (fnd T))
  bel : Below B w1 wr
  good : Good nn (fnd T)
  wf : Wf3 T
  tl : ∀ x ∈ T, x.2.2.2.length < T.length

theorem StepInv.cells {B nn w1 wr gS g q c T} (h : StepInv B nn w1 wr gS g q c T) {i : Nat} {x : Stp} (hx : T[i]? = some x) :
    wr.cell? ⟨g, i * 3, none⟩ = some (.int .i64 x.1) ∧ wr.cell? ⟨g, i * 3 + 1, none⟩ = some (.int .i64 x.2.1) ∧ wr.cell? ⟨g, i * 3 + 2, none⟩ = some (.int .u8 x.2.2.1) := by
  have hi : i < q := by rw [h.ql]; exact (List.getElem?_eq_some_iff.1 hx).1
  obtain ⟨h1, h2, h3⟩ := cells3_get T i x hx
  have hw := h.row
  refine ⟨?_, ?_, ?_⟩
  · rw [World.ownsRow.cellAt hw _ (by omega)]; exact h1
  · rw [World.ownsRow.cellAt hw _ (by omega)]; exact h2
  · rw [World.ownsRow.cellAt hw _ (by omega)]; exact h3

theorem StepInv.below {B nn w1 wr w' gS g q c T} (h : StepInv B nn w1 wr gS g q c T) (hb : Below wr.heap.size wr w') (hB : B ≤ wr.heap.size) : StepInv B nn w1 w' gS g q c T :=
  ⟨h.ql, Row.below h.row hb, Row.below h.seen hb, h.bel.trans (hb.mono hB), h.good, h.wf, h.tl⟩

theorem StepInv.keep {B B' nn w1 wr w' gS g q c T v l} (h : StepInv B nn w1 wr gS g q c T) (h' : Own wr B' 5 .u8 v l) (hg : wr.grownBy w' v.ownBlock) (hB : B ≤ B') (hw : B ≤ wr.heap.size) : StepInv B nn w1 w' gS g q c T :=
  ⟨h.ql, Row.keep h.row h' (by decide) hg, Row.keep h.seen h' (by decide) hg, h.bel.trans (Row.grown (Row.mono h' hB) hg hw), h.good, h.wf, h.tl⟩

theorem fnd_get {T : List Stp} {i : Nat} {x : Stp} (h : T[i]? = some x) : (fnd T)[i]? = some (x.1, x.2.2.2) := by simp [fnd, h]

/-- the text found with its error, or none -/
def ShortPost3 (r : Option (List Int)) (w : World) (e : Ending) (w' : World) : Prop :=
  Below w.heap.size w w' ∧ match r with
  | some t => ∃ a c, e = .returned (.tuple #[.slice a t.length c, .bool true, .nilIface]) ∧ Rd w' .u8 a t.length t
  | none => e = .returned (.tuple #[.slice none 0 0, .bool false, .nilIface])

end Go.Proofs.Ytajajkganamfiaa
