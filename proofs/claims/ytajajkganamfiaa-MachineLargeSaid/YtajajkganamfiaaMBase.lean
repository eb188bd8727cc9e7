/-
  machines as they are read: rows of integers, lists of bools; when a machine is valid.
-/
import Derived.Test.YtajajkganamfiaaBase
namespace Go.Proofs.Ytajajkganamfiaa
open Go.RowKit

/-- the n bools of a slice value -/
structure RdB (w : World) (a : Option Addr) (n : Nat) (l : List Bool) : Prop where
  len : l.length = n
  max : n ≤ 9223372036854775807
  cell : ∀ i, i < n → ∃ b off, a = some ⟨b, off, none⟩ ∧ w.cell? ⟨b, off + i, none⟩ = some (.bool (l.getD i false))

theorem RdB.below {w w' : World} {a n l} (h : RdB w a n l) (hb : Below w.heap.size w w') : RdB w' a n l :=
  ⟨h.len, h.max, fun i hi => by
    obtain ⟨b, off, ha, hc⟩ := h.cell i hi
    exact ⟨b, off, ha, (hb.cell (World.block_lt_of_cell? w _ hc)).trans hc⟩⟩

/-- the n rows of integers of a slice of slices -/
structure RdRows (w : World) (k : IntKind) (a : Option Addr) (n : Nat) (ll : List (List Int)) : Prop where
  len : ll.length = n
  max : n ≤ 9223372036854775807
  cell : ∀ i, i < n → ∃ b off ai ni ci, a = some ⟨b, off, none⟩ ∧ w.cell? ⟨b, off + i, none⟩ = some (.slice ai ni ci) ∧ Rd w k ai ni (ll.getD i []) ∧ ni ≤ ci

theorem RdRows.below {w w' : World} {k a n l} (h : RdRows w k a n l) (hb : Below w.heap.size w w') : RdRows w' k a n l :=
  ⟨h.len, h.max, fun i hi => by
    obtain ⟨b, off, ai, ni, ci, ha, hc, hr, hn⟩ := h.cell i hi
    exact ⟨b, off, ai, ni, ci, ha, (hb.cell (World.block_lt_of_cell? w _ hc)).trans hc, hr.below hb, hn⟩⟩

/-- a machine's four fields read -/
structure RdM (w : World) (ac : Option Addr) (nc : Nat) (an : Option Addr) (nn : Nat) (aa : Option Addr) (na : Nat) (cls : List Int) (next : List (List Int)) (acc : List Bool) : Prop where
  c : Rd w .i64 ac nc cls
  n : RdRows w .i64 an nn next
  a : RdB w aa na acc

theorem RdM.below {w w' : World} {ac nc an nn aa na cls next acc} (h : RdM w ac nc an nn aa na cls next acc) (hb : Below w.heap.size w w') : RdM w' ac nc an nn aa na cls next acc :=
  ⟨h.c.below hb, h.n.below hb, h.a.below hb⟩

/-- a row has c entries, each a state -/
def rowOk (n c : Nat) (row : List Int) : Bool := row.length == c && row.all fun q => decide (0 ≤ q) && decide (q < n)
/-- each letter has a class -/
def clsOk (c : Nat) (cls : List Int) : Bool := cls.all fun q => decide (0 ≤ q) && decide (q < c)
/-- how many classes there are -/
def ncls (next : List (List Int)) : Nat := (next.getD 0 []).length
/-- the first tests -/
def HeadBad (s : Int) (cls : List Int) (next : List (List Int)) (acc : List Bool) : Prop :=
  cls.length ≠ 256 ∨ next.length = 0 ∨ acc.length ≠ next.length ∨ s < 0 ∨ (next.length : Int) ≤ s
instance (s : Int) (cls : List Int) (next : List (List Int)) (acc : List Bool) : Decidable (HeadBad s cls next acc) := by unfold HeadBad; infer_instance

/-- the error code of a machine; 0: it is valid -/
def mcode (s : Int) (cls : List Int) (next : List (List Int)) (acc : List Bool) : Int :=
  if HeadBad s cls next acc then 4
  else if ncls next = 0 ∨ 256 < ncls next then 4
  else if next.all (rowOk next.length (ncls next)) = false then 4
  else if clsOk (ncls next) cls = false then 4
  else if 256 < next.length then 9 else 0

/-- a valid machine of at most 256 states -/
structure Valid (s : Int) (cls : List Int) (next : List (List Int)) (acc : List Bool) : Prop where
  clsL : cls.length = 256
  accL : acc.length = next.length
  s0 : 0 ≤ s
  s1 : s < next.length
  c0 : 0 < ncls next
  c1 : ncls next ≤ 256
  n1 : next.length ≤ 256
  row : ∀ row ∈ next, row.length = ncls next ∧ ∀ q ∈ row, 0 ≤ q ∧ q < next.length
  let_ : ∀ q ∈ cls, 0 ≤ q ∧ q < ncls next

theorem valid_of_code {s cls next acc} (h : mcode s cls next acc = 0) : Valid s cls next acc := by
  unfold mcode at h
  by_cases h1 : HeadBad s cls next acc
  · rw [if_pos h1] at h; cases h
  rw [if_neg h1] at h
  by_cases h2 : ncls next = 0 ∨ 256 < ncls next
  · rw [if_pos h2] at h; cases h
  rw [if_neg h2] at h
  by_cases h3 : next.all (rowOk next.length (ncls next)) = false
  · rw [if_pos h3] at h; cases h
  rw [if_neg h3] at h
  by_cases h4 : clsOk (ncls next) cls = false
  · rw [if_pos h4] at h; cases h
  rw [if_neg h4] at h
  by_cases h5 : 256 < next.length
  · rw [if_pos h5] at h; cases h
  unfold HeadBad at h1
  simp only [Bool.not_eq_false] at h3 h4
  refine ⟨by omega, by omega, by omega, by omega, by omega, by omega, by omega, fun row hr => ?_, fun q hq => ?_⟩
  · have := List.all_eq_true.1 h3 row hr
    unfold rowOk at this
    simp only [Bool.and_eq_true, beq_iff_eq, List.all_eq_true, decide_eq_true_eq] at this
    exact this
  · have := List.all_eq_true.1 h4 q hq
    simpa using this

theorem code_of_valid {s cls next acc} (h : Valid s cls next acc) : mcode s cls next acc = 0 := by
  unfold mcode
  have h1 : ¬ HeadBad s cls next acc := by
    have := h.clsL; have := h.accL; have := h.s0; have := h.s1
    unfold HeadBad; omega
  have h2 : ¬ (ncls next = 0 ∨ 256 < ncls next) := by have := h.c0; have := h.c1; omega
  have h3 : next.all (rowOk next.length (ncls next)) = true := List.all_eq_true.2 fun row hr => by
    have := h.row row hr
    unfold rowOk
    simp only [Bool.and_eq_true, beq_iff_eq, List.all_eq_true, decide_eq_true_eq]
    exact this
  have h4 : clsOk (ncls next) cls = true := List.all_eq_true.2 fun q hq => by simpa using h.let_ q hq
  rw [if_neg h1, if_neg h2, if_neg (by rw [h3]; simp), if_neg (by rw [h4]; simp), if_neg (by have := h.n1; omega)]

/-- rows up to i are in order -/
def rowsTo (next : List (List Int)) (i : Nat) : Prop := (next.take i).all (rowOk next.length (ncls next)) = true

theorem rowsTo_zero (next : List (List Int)) : rowsTo next 0 := by simp [rowsTo]
theorem rowsTo_succ {next : List (List Int)} {i : Nat} (hi : i < next.length) (h : rowsTo next i) (hr : rowOk next.length (ncls next) (next.getD i []) = true) : rowsTo next (i + 1) := by
  unfold rowsTo at *
  rw [getD_take_snoc (d := []) hi, List.all_append, h, List.all_cons, hr]
  rfl
theorem rowsTo_all {next : List (List Int)} (h : rowsTo next next.length) : next.all (rowOk next.length (ncls next)) = true := by
  unfold rowsTo at h; rwa [List.take_length] at h
theorem rows_bad {next : List (List Int)} {i : Nat} (hi : i < next.length) (hr : rowOk next.length (ncls next) (next.getD i []) = false) : next.all (rowOk next.length (ncls next)) = false := by
  rw [Bool.eq_false_iff]
  intro h
  have := List.all_eq_true.1 h _ (getD_mem (d := []) hi)
  rw [hr] at this; cases this

/-- entries of a row up to k are states -/
def entTo (n : Nat) (row : List Int) (k : Nat) : Prop := ∀ q ∈ row.take k, 0 ≤ q ∧ q < (n : Int)
theorem entTo_zero (n : Nat) (row : List Int) : entTo n row 0 := by simp [entTo]
theorem entTo_succ {n : Nat} {row : List Int} {k : Nat} (hk : k < row.length) (h : entTo n row k) (h0 : 0 ≤ row.getD k 0) (h1 : row.getD k 0 < n) : entTo n row (k + 1) := by
  intro q hq
  rw [getD_take_snoc (d := 0) hk] at hq
  rcases List.mem_append.1 hq with hq | hq
  · exact h q hq
  · rw [List.mem_singleton] at hq; subst hq; exact ⟨h0, h1⟩
theorem entTo_row {n c : Nat} {row : List Int} (hl : row.length = c) (h : entTo n row row.length) : rowOk n c row = true := by
  unfold entTo at h; rw [List.take_length] at h
  unfold rowOk
  simp only [Bool.and_eq_true, beq_iff_eq, List.all_eq_true, decide_eq_true_eq]
  exact ⟨hl, h⟩
theorem ent_bad {n c : Nat} {row : List Int} {k : Nat} (hk : k < row.length) (h : row.getD k 0 < 0 ∨ (n : Int) ≤ row.getD k 0) : rowOk n c row = false := by
  rw [Bool.eq_false_iff]
  intro h2
  unfold rowOk at h2
  simp only [Bool.and_eq_true, beq_iff_eq, List.all_eq_true, decide_eq_true_eq] at h2
  have := h2.2 _ (getD_mem (d := 0) hk)
  omega
theorem len_bad {n c : Nat} {row : List Int} (h : row.length ≠ c) : rowOk n c row = false := by
  unfold rowOk; simp [h]

/-- the classes of the letters up to k -/
theorem cls_ok {c : Nat} {cls : List Int} (h : entTo c cls cls.length) : clsOk c cls = true := by
  unfold entTo at h; rw [List.take_length] at h
  unfold clsOk
  simp only [Bool.and_eq_true, List.all_eq_true, decide_eq_true_eq]
  exact h
theorem cls_bad {c : Nat} {cls : List Int} {k : Nat} (hk : k < cls.length) (h : cls.getD k 0 < 0 ∨ (c : Int) ≤ cls.getD k 0) : clsOk c cls = false := by
  rw [Bool.eq_false_iff]
  intro h2
  unfold clsOk at h2
  simp only [Bool.and_eq_true, List.all_eq_true, decide_eq_true_eq] at h2
  have := h2 _ (getD_mem (d := 0) hk)
  omega

end Go.Proofs.Ytajajkganamfiaa
