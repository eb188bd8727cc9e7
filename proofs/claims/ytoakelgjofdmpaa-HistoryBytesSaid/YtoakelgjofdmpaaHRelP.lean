/-
  the plain laws of Ancestors and Line.
-/
import Derived.Test.YtoakelgjofdmpaaHBasL
namespace Go.Proofs.Ytoakelgjofdmpaa
set_option linter.unusedVariables false
set_option linter.unusedSimpArgs false

/-- the ancestors of n, increasing -/
def ancsTo (L : List Cm) (n k : Nat) : List Int := ((List.range k).filter fun i => ancB L i n).map fun (i : Nat) => (i : Int)
theorem ancsTo_succ (L : List Cm) (n k : Nat) : ancsTo L n (k + 1) = if ancB L k n then ancsTo L n k ++ [(k : Int)] else ancsTo L n k := by
  unfold ancsTo
  rw [List.range_succ, List.filter_append]
  cases h : ancB L k n <;> simp [h]
theorem ancsTo_len (L : List Cm) (n k : Nat) : (ancsTo L n k).length ≤ k := by
  unfold ancsTo
  rw [List.length_map]
  have := List.length_filter_le (fun i => ancB L i n) (List.range k)
  simpa using this

/-- n, its first parent, and so on: k steps at most -/
def lineTo (L : List Cm) : Nat → Nat → List Int
  | 0, n => [(n : Int)]
  | k + 1, n => match parsOf L n with
    | [] => [(n : Int)]
    | p :: _ => (n : Int) :: lineTo L k p.toNat
/-- the whole line: n steps are enough -/
def lineOf (L : List Cm) (n : Nat) : List Int := lineTo L n n

theorem lineTo_more {L : List Cm} (hL : GoodL L) : ∀ k n m, n ≤ k → n ≤ m → lineTo L k n = lineTo L m n
  | 0, n, m, hk, hm => by
    obtain rfl : n = 0 := by omega
    have : parsOf L 0 = [] := by
      cases h : parsOf L 0 with
      | nil => rfl
      | cons p r => have := pars_lt hL (i := 0) (p := p) (by rw [h]; simp); omega
    cases m with
    | zero => rfl
    | succ m => unfold lineTo; rw [this]
  | k + 1, n, m, hk, hm => by
    cases h : parsOf L n with
    | nil => cases m <;> simp [lineTo, h]
    | cons p r =>
      have hp := pars_lt hL (i := n) (p := p) (by rw [h]; simp)
      cases m with
      | zero => omega
      | succ m =>
        unfold lineTo
        rw [h]
        simp only
        rw [lineTo_more hL k p.toNat m (by omega) (by omega)]
theorem lineOf_nil {L : List Cm} {n : Nat} (h : parsOf L n = []) : lineOf L n = [(n : Int)] := by
  unfold lineOf; cases n <;> simp [lineTo, h]
theorem lineOf_cons {L : List Cm} (hL : GoodL L) {n : Nat} {p : Int} {r : List Int} (h : parsOf L n = p :: r) : lineOf L n = (n : Int) :: lineOf L p.toNat := by
  have hp := pars_lt hL (i := n) (p := p) (by rw [h]; simp)
  unfold lineOf
  cases n with
  | zero => omega
  | succ m =>
    rw [lineTo, h]
    simp only
    rw [lineTo_more hL m p.toNat p.toNat (by omega) (Nat.le_refl _)]
theorem lineOf_len {L : List Cm} (hL : GoodL L) : ∀ k n, n ≤ k → (lineOf L n).length ≤ n + 1
  | 0, n, h => by
    obtain rfl : n = 0 := by omega
    have : parsOf L 0 = [] := by
      cases h : parsOf L 0 with
      | nil => rfl
      | cons p r => have := pars_lt hL (i := 0) (p := p) (by rw [h]; simp); omega
    rw [lineOf_nil this]; simp
  | k + 1, n, h => by
    cases hp : parsOf L n with
    | nil => rw [lineOf_nil hp]; simp
    | cons p r =>
      have hq := pars_lt hL (i := n) (p := p) (by rw [hp]; simp)
      rw [lineOf_cons hL hp]
      have := lineOf_len hL k p.toNat (by omega)
      simp; omega

/-- the reference's bases: common ancestors of which no other common ancestor is a descendant -/
def comTo (L : List Cm) (a b k : Nat) : List Nat := (List.range k).filter (com L a b)
theorem comTo_succ (L : List Cm) (a b k : Nat) : comTo L a b (k + 1) = if com L a b k then comTo L a b k ++ [k] else comTo L a b k := by
  unfold comTo
  rw [List.range_succ, List.filter_append]
  cases h : com L a b k <;> simp [h]
theorem comTo_len (L : List Cm) (a b k : Nat) : (comTo L a b k).length ≤ k := by
  have := List.length_filter_le (com L a b) (List.range k)
  simpa [comTo] using this
/-- the test of the second loop, for element i among the first k -/
def topB (L : List Cm) (C : List Nat) (i k : Nat) : Bool := (List.range k).all fun j => j == i || !ancB L (C.getD i 0) (C.getD j 0)
theorem topB_succ (L : List Cm) (C : List Nat) (i k : Nat) : topB L C i (k + 1) = (topB L C i k && (k == i || !ancB L (C.getD i 0) (C.getD k 0))) := by
  unfold topB
  rw [List.range_succ, List.all_append]; simp
theorem topB_base {L : List Cm} (hL : GoodL L) {a b i : Nat} (ha : a < L.length) (hi : i < (comTo L a b L.length).length) : topB L (comTo L a b L.length) i (comTo L a b L.length).length = baseB L a b ((comTo L a b L.length).getD i 0) := by
  have hnd : (comTo L a b L.length).Nodup := List.Nodup.sublist List.filter_sublist List.nodup_range
  have hmem : ∀ n, n ∈ comTo L a b L.length ↔ n < L.length ∧ com L a b n = true := fun n => by unfold comTo; rw [List.mem_filter, List.mem_range]
  generalize hC : comTo L a b L.length = C at *
  have hgi : C.getD i 0 = C[i] := by simp [List.getD, hi]
  have hci := (hmem C[i]).1 (List.getElem_mem hi)
  rw [hgi]
  unfold baseB
  rw [hci.2, Bool.true_and, Bool.eq_iff_iff]
  unfold topB
  rw [List.all_eq_true]
  have hcov := covered_iff hL (a := a) (b := b) (n := C[i])
  constructor
  · intro h
    rw [Bool.not_eq_true', Bool.eq_false_iff]
    intro hc
    obtain ⟨m, hne, hm, han⟩ := hcov.1 hc
    have hmC : m ∈ C := (hmem m).2 ⟨by have := com_le hL hm; omega, hm⟩
    obtain ⟨j, hj, hjm⟩ := List.getElem_of_mem hmC
    have h2 := h j (List.mem_range.2 hj)
    have hgj : C.getD j 0 = m := by simp [List.getD, hj, hjm]
    rw [hgi, hgj] at h2
    have hji : j ≠ i := by intro e; subst e; exact hne hjm.symm
    simp [hji, (ancB_iff hL).2 han] at h2
  · intro h j hj
    have hj := List.mem_range.1 hj
    by_cases hji : j = i
    · simp [hji]
    · have hgj : C.getD j 0 = C[j] := by simp [List.getD, hj]
      rw [hgi, hgj]
      have hcj := (hmem C[j]).1 (List.getElem_mem hj)
      have : ancB L C[i] C[j] = false := by
        rw [Bool.eq_false_iff]
        intro ha
        have hne : C[j] ≠ C[i] := by
          intro e
          have hp := List.pairwise_iff_getElem.1 hnd
          rcases Nat.lt_or_gt_of_ne hji with h5 | h5
          · exact hp j i hj hi h5 e
          · exact hp i j hi hj h5 e.symm
        have hc := hcov.2 ⟨C[j], hne, hcj.2, (ancB_iff hL).1 ha⟩
        rw [hc] at h; cases h
      simp [this]
/-- the second loop's list -/
def outTo (L : List Cm) (C : List Nat) (k : Nat) : List Int := ((List.range k).filter fun i => topB L C i C.length).map fun i => ((C.getD i 0 : Nat) : Int)
theorem outTo_succ (L : List Cm) (C : List Nat) (k : Nat) : outTo L C (k + 1) = if topB L C k C.length then outTo L C k ++ [((C.getD k 0 : Nat) : Int)] else outTo L C k := by
  unfold outTo
  rw [List.range_succ, List.filter_append]
  cases h : topB L C k C.length <;> simp [h]
theorem outTo_len (L : List Cm) (C : List Nat) (k : Nat) : (outTo L C k).length ≤ k := by
  unfold outTo
  rw [List.length_map]
  have := List.length_filter_le (fun i => topB L C i C.length) (List.range k)
  simpa using this
theorem outTo_bases {L : List Cm} (hL : GoodL L) {a : Nat} (ha : a < L.length) (b : Nat) : outTo L (comTo L a b L.length) (comTo L a b L.length).length = bases L a b := by
  have h1 : outTo L (comTo L a b L.length) (comTo L a b L.length).length = (((List.range (comTo L a b L.length).length).map fun i => (comTo L a b L.length).getD i 0).filter (baseB L a b)).map (fun (n : Nat) => (n : Int)) := by
    unfold outTo
    rw [List.filter_map, List.map_map]
    rw [List.filter_congr (q := (baseB L a b) ∘ fun i => (comTo L a b L.length).getD i 0) (fun i hi => topB_base hL ha (List.mem_range.1 hi))]
    rfl
  have h2 : (List.range (comTo L a b L.length).length).map (fun i => (comTo L a b L.length).getD i 0) = comTo L a b L.length := by
    apply List.ext_getElem?
    intro i
    rw [List.getElem?_map]
    by_cases hi : i < (comTo L a b L.length).length
    · rw [List.getElem?_range hi]; simp [List.getD, hi]
    · rw [List.getElem?_eq_none (by simpa using Nat.not_lt.1 hi), List.getElem?_eq_none (by omega)]; rfl
  rw [h1, h2]
  unfold comTo bases
  rw [List.filter_filter]
  congr 1
  apply List.filter_congr
  intro n _
  unfold baseB
  cases com L a b n <;> simp

end Go.Proofs.Ytoakelgjofdmpaa
