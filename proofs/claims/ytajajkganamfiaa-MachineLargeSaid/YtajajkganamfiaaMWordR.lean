/-
  Words: the plain law of its two ways, one by one and by halves.
-/
import Derived.Test.YtajajkganamfiaaMWordQ
namespace Go.Proofs.Ytajajkganamfiaa
open Go.RowKit
set_option linter.unusedVariables false
set_option linter.unusedSimpArgs false

/-- which states accept -/
def cnt0 (acc : List Bool) : Nat → Nat := fun q => if acc.getD q false then 1 else 0
theorem cnt0_le (acc : List Bool) (q : Nat) : cnt0 acc q ≤ capM := by unfold cnt0 capM; split <;> omega
/-- how many texts of k letters lead from a state to one that accepts, up to a bound -/
def wcnt (cls : List Int) (next : List (List Int)) (acc : List Bool) (k q : Nat) : Nat := cp (pw next.length (lett cls next) k (cnt0 acc) q)
theorem wcnt_le (cls : List Int) (next : List (List Int)) (acc : List Bool) (k q : Nat) : wcnt cls next acc k q ≤ capM := cp_le _
theorem wcnt_zero (cls : List Int) (next : List (List Int)) (acc : List Bool) (q : Nat) : wcnt cls next acc 0 q = cnt0 acc q := cp_id (cnt0_le acc q)
theorem wcnt_succ (cls : List Int) (next : List (List Int)) (acc : List Bool) (k q : Nat) : cp (mv next.length (lett cls next) (wcnt cls next acc k) q) = wcnt cls next acc (k + 1) q := by
  unfold wcnt
  rw [pw_last]
  exact mv_cp (fun _ _ => rfl) (fun p _ => cp_cp _) q

/-- by halves: what is left to do, by the matrix A, from the counts c -/
structure Halves (n : Nat) (M : Nat → Nat → Nat) (N : Nat) (v0 : Nat → Nat) (A : Nat → Nat → Nat) (k : Nat) (c : Nat → Nat) : Prop where
  eq : ∀ q, q < n → cp (pw n A k c q) = cp (pw n M N v0 q)
  le : ∀ q, q < n → c q ≤ capM

theorem Halves.start (n : Nat) (M : Nat → Nat → Nat) (N : Nat) {v0 : Nat → Nat} (h : ∀ q, q < n → v0 q ≤ capM) : Halves n M N v0 M N v0 := ⟨fun _ _ => rfl, h⟩
theorem Halves.done {n M N v0 A c} (h : Halves n M N v0 A 0 c) {q : Nat} (hq : q < n) : c q = cp (pw n M N v0 q) := by
  rw [← h.eq q hq]; exact (cp_id (h.le q hq)).symm
theorem cpM_cp (M : Nat → Nat → Nat) (q p : Nat) : cp (cpM M q p) = cp (M q p) := cp_cp _
theorem Halves.even {n M N v0 A c j} (h : Halves n M N v0 A (2 * j) c) : Halves n M N v0 (cpM (mm n A A)) j c :=
  ⟨fun q hq => by rw [pw_cp (B := mm n A A) (fun q p => cpM_cp _ q p) j (w := c) (fun _ _ => rfl) q hq, pw_two]; exact h.eq q hq, h.le⟩
theorem Halves.odd {n M N v0 A c j} (h : Halves n M N v0 A (2 * j + 1) c) {c' : Nat → Nat} (hc : ∀ q, q < n → c' q = cp (mv n A c q)) : Halves n M N v0 (cpM (mm n A A)) j c' :=
  ⟨fun q hq => by
    rw [pw_cp (B := mm n A A) (fun q p => cpM_cp _ q p) j (w := mv n A c) (fun p hp => by rw [hc p hp, cp_cp]) q hq, pw_two]
    exact h.eq q hq, fun q hq => by rw [hc q hq]; exact cp_le _⟩
theorem Halves.one {n M N v0 A c} (h : Halves n M N v0 A 1 c) {c' : Nat → Nat} (hc : ∀ q, q < n → c' q = cp (mv n A c q)) : Halves n M N v0 A 0 c' :=
  ⟨fun q hq => by
    rw [← h.eq q hq]
    show cp (c' q) = cp (mv n A c q)
    rw [hc q hq, cp_cp], fun q hq => by rw [hc q hq]; exact cp_le _⟩

/-- the counts at the start, filled state by state -/
theorem fill_cnt {acc : List Bool} {n i : Nat} {us : List Nat} (hl : us.length = n) (hi : i < n) (h1 : ∀ r, r < i → us.getD r 0 = cnt0 acc r) (h2 : ∀ r, i ≤ r → us.getD r 0 = 0) {us' : List Nat}
    (h : us' = if acc.getD i false then us.set i 1 else us) : us'.length = n ∧ (∀ r, r < i + 1 → us'.getD r 0 = cnt0 acc r) ∧ (∀ r, i + 1 ≤ r → us'.getD r 0 = 0) := by
  subst h
  split
  · rename_i ha
    refine ⟨by rw [List.length_set]; exact hl, fun r hr => ?_, fun r hr => ?_⟩
    · rw [getD_set _ _ _ _ (by omega)]
      by_cases e : r = i
      · subst e; rw [if_pos rfl]; unfold cnt0; rw [ha]; rfl
      · rw [if_neg e]; exact h1 r (by omega)
    · rw [getD_set _ _ _ _ (by omega), if_neg (by omega)]; exact h2 r (by omega)
  · rename_i ha
    refine ⟨hl, fun r hr => ?_, fun r hr => h2 r (by omega)⟩
    by_cases e : r = i
    · subst e; rw [h2 r (Nat.le_refl _)]; unfold cnt0; rw [if_neg ha]
    · exact h1 r (by omega)

theorem list_fun {n : Nat} {us : List Nat} (hl : us.length = n) {f : Nat → Nat} (h : ∀ r, r < n → us.getD r 0 = f r) : us = (List.range n).map f := by
  apply List.ext_getElem (by simp [hl])
  intro p h1 h2
  simp only [List.getElem_map, List.getElem_range]
  rw [← h p (by omega)]
  simp [List.getD, List.getElem?_eq_getElem h1]

theorem let_cls {s cls next acc} (hv : Valid s cls next acc) {x : Nat} (hx : x < 256) : ∃ c : Nat, cls.getD x 0 = (c : Int) ∧ c < ncls next ∧ (nats cls).getD x 0 = c := by
  have hl : x < cls.length := by rw [hv.clsL]; exact hx
  have h := hv.let_ (cls.getD x 0) (by simp [List.getD, hl])
  obtain ⟨c, hc⟩ := Int.eq_ofNat_of_zero_le h.1
  have h2 : (nats cls)[x]? = some c := by
    simp only [nats, List.getElem?_map]
    rw [List.getElem?_eq_getElem hl]
    have : cls[x] = (c : Int) := by rw [← hc]; simp [List.getD, hl]
    simp [this]
  exact ⟨c, hc, by omega, by simp [List.getD, h2]⟩
theorem nx_lt {s cls next acc} (hv : Valid s cls next acc) {q x : Nat} (hq : q < next.length) (hx : x < 256) : nxN next q ((nats cls).getD x 0) < next.length := by
  obtain ⟨c, _, hc, he⟩ := let_cls hv hx
  rw [he]; exact (nxN_val hv hq hc).2.1

/-- the reference: a sum over the letters, capped at each -/
theorem wcnt_lett {s cls next acc} (hv : Valid s cls next acc) (k : Nat) {q : Nat} (hq : q < next.length) : wcnt cls next acc (k + 1) q = cp (sm 256 (fun x => wcnt cls next acc k (nxN next q ((nats cls).getD x 0)))) := by
  rw [← wcnt_succ, lett_mv (fun q x hq hx => nx_lt hv hq hx) _ hq]

end Go.Proofs.Ytajajkganamfiaa
