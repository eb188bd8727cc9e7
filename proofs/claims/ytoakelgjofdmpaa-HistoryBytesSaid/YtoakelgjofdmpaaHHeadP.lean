/-
  the plain law of Heads: the commits that are nobody's parent.
-/
import Derived.Test.YtoakelgjofdmpaaHAnc
namespace Go.Proofs.Ytoakelgjofdmpaa
set_option linter.unusedVariables false
set_option linter.unusedSimpArgs false

/-- a parent of one of the first k commits -/
def kidB (L : List Cm) (n k : Nat) : Bool := (L.take k).any fun x => x.1.contains (n : Int)
def headB (L : List Cm) (n : Nat) : Bool := !kidB L n L.length
def headsTo (L : List Cm) (k : Nat) : List Int := ((List.range k).filter (headB L)).map fun (n : Nat) => (n : Int)
theorem headsTo_succ (L : List Cm) (k : Nat) : headsTo L (k + 1) = if headB L k then headsTo L k ++ [(k : Int)] else headsTo L k := by
  unfold headsTo
  rw [List.range_succ, List.filter_append]
  cases h : headB L k <;> simp [h]
theorem headsTo_len (L : List Cm) (k : Nat) : (headsTo L k).length ≤ k := by
  unfold headsTo
  rw [List.length_map]
  exact Nat.le_trans (List.length_filter_le _ _) (by simp)

/-- the marks of the parents of the first i commits -/
def parM (L : List Cm) (i : Nat) : List Bool := (L.take i).foldl (fun m x => markP m x.1) (List.replicate L.length false)
theorem parM_zero (L : List Cm) : parM L 0 = List.replicate L.length false := rfl
theorem take_snoc_at {L : List Cm} {i : Nat} {x : Cm} (hx : L[i]? = some x) : L.take (i + 1) = L.take i ++ [x] := by
  have hi : i < L.length := (List.getElem?_eq_some_iff.1 hx).1
  have e : L[i] = x := (List.getElem?_eq_some_iff.1 hx).2
  rw [List.take_succ_eq_append_getElem hi, e]
theorem parM_succ {L : List Cm} {i : Nat} {x : Cm} (hx : L[i]? = some x) : parM L (i + 1) = markP (parM L i) x.1 := by
  unfold parM
  rw [take_snoc_at hx, List.foldl_append]; rfl
theorem parM_len (L : List Cm) : ∀ i, (parM L i).length = L.length := by
  intro i
  unfold parM
  have : ∀ (l : List Cm) (m : List Bool), (l.foldl (fun m x => markP m x.1) m).length = m.length := by
    intro l
    induction l with
    | nil => intro m; rfl
    | cons x r ih => intro m; rw [List.foldl_cons, ih, markP_len]
  rw [this, List.length_replicate]
theorem parM_get {L : List Cm} (hL : GoodL L) (i : Nat) {j : Nat} (hj : j < L.length) : (parM L i).getD j false = kidB L j i := by
  unfold parM kidB
  have key : ∀ (l : List Cm) (m : List Bool), j < m.length → (∀ x ∈ l, ∀ p ∈ x.1, 0 ≤ p) → (l.foldl (fun m x => markP m x.1) m).getD j false = (m.getD j false || l.any fun x => x.1.contains (j : Int)) := by
    intro l
    induction l with
    | nil => intro m _ _; simp
    | cons x r ih =>
      intro m hm h0
      rw [List.foldl_cons, ih _ (by rw [markP_len]; exact hm) (fun y hy => h0 y (by simp [hy])), List.any_cons]
      rw [Bool.eq_iff_iff]
      have h := markP_get x.1 m j hm (h0 x (by simp))
      simp only [Bool.or_eq_true, List.contains_iff_mem]
      rw [h]
      constructor
      · rintro ((h | h) | h)
        · exact .inl h
        · exact .inr (.inl h)
        · exact .inr (.inr h)
      · rintro (h | h | h)
        · exact .inl (.inl h)
        · exact .inl (.inr h)
        · exact .inr h
  rw [key _ _ (by rw [List.length_replicate]; exact hj) (fun x hx p hp => by
    obtain ⟨k, hk⟩ := List.getElem?_of_mem (List.mem_of_mem_take hx)
    exact ((hL k x hk).2.2.1 p hp).1)]
  simp [List.getD, hj]
theorem parM_head {L : List Cm} (hL : GoodL L) {j : Nat} (hj : j < L.length) : (parM L L.length).getD j false = !headB L j := by
  rw [parM_get hL _ hj]; unfold headB; simp

/-- the reference's test: no parent of the first k commits, nor one of the first i parents of commit k -/
def isTo (L : List Cm) (n k i : Nat) : Bool := !kidB L n k && !((parsOf L k).take i).contains (n : Int)
theorem isTo_zero (L : List Cm) (n k : Nat) : isTo L n k 0 = !kidB L n k := by simp [isTo]
theorem isTo_step (L : List Cm) (n k : Nat) {i : Nat} (hi : i < (parsOf L k).length) : isTo L n k (i + 1) = (isTo L n k i && !decide ((parsOf L k).getD i 0 = (n : Int))) := by
  unfold isTo
  rw [getD_take_snoc (d := 0) hi, Bool.and_assoc]
  congr 1
  rw [← Bool.not_or]
  congr 1
  rw [Bool.eq_iff_iff]
  simp only [List.contains_iff_mem, List.mem_append, List.mem_singleton, Bool.or_eq_true, decide_eq_true_eq]
  exact ⟨fun h => h.imp id Eq.symm, fun h => h.imp id Eq.symm⟩
theorem isTo_all (L : List Cm) (n : Nat) {k : Nat} (hk : k < L.length) : isTo L n k (parsOf L k).length = !kidB L n (k + 1) := by
  unfold isTo kidB
  have e : L[k]? = some (L.getD k ([], 0, .empty)) := by simp [List.getD, hk]
  rw [take_snoc_at e, List.any_append, List.take_length, Bool.not_or]
  congr 1
  simp [parsOf]

end Go.Proofs.Ytoakelgjofdmpaa
