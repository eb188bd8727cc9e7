/-
  The plain law of the canonical machine: blocks that are parted until nothing changes; the machine of the blocks.
-/
import Derived.Test.YtajajkganamfiaaMBase
namespace Go.Proofs.Ytajajkganamfiaa
open Go.RowKit
set_option linter.unusedVariables false
set_option linter.unusedSimpArgs false

/-- the different ones, in the order in which they come first -/
def ddStep {κ : Type} [DecidableEq κ] (acc : List κ) (k : κ) : List κ := if k ∈ acc then acc else acc ++ [k]
def dd {κ : Type} [DecidableEq κ] (ks : List κ) : List κ := ks.foldl ddStep []

theorem dd_snoc {κ : Type} [DecidableEq κ] (ks : List κ) (k : κ) : dd (ks ++ [k]) = ddStep (dd ks) k := by simp [dd, List.foldl_append]
theorem ddStep_in {κ : Type} [DecidableEq κ] {acc : List κ} {k : κ} (h : k ∈ acc) : ddStep acc k = acc := if_pos h
theorem ddStep_out {κ : Type} [DecidableEq κ] {acc : List κ} {k : κ} (h : k ∉ acc) : ddStep acc k = acc ++ [k] := if_neg h

theorem dd_rev {κ : Type} [DecidableEq κ] {P : List κ → List κ → Prop} (h0 : P [] []) (hs : ∀ ks k, P ks (dd ks) → P (ks ++ [k]) (ddStep (dd ks) k)) (ks : List κ) : P ks (dd ks) := by
  have : ∀ n ks, ks.length = n → P ks (dd ks) := by
    intro n
    induction n with
    | zero => intro ks h; rw [List.eq_nil_of_length_eq_zero h]; exact h0
    | succ n ih =>
      intro ks h
      have hne : ks ≠ [] := by intro e; rw [e] at h; simp at h
      rw [← List.dropLast_concat_getLast hne, dd_snoc]
      exact hs _ _ (ih _ (by rw [List.length_dropLast]; omega))
  exact this _ ks rfl

theorem dd_mem {κ : Type} [DecidableEq κ] (ks : List κ) (x : κ) : x ∈ dd ks ↔ x ∈ ks := by
  refine dd_rev (P := fun ks acc => x ∈ acc ↔ x ∈ ks) (by simp) (fun ks k ih => ?_) ks
  unfold ddStep
  split
  · rename_i hk
    rw [List.mem_append, ih]
    simp only [List.mem_singleton]
    refine ⟨.inl, fun h => h.elim id (fun e => ?_)⟩
    rw [e]
    refine (dd_rev (P := fun ks acc => ∀ y, y ∈ acc → y ∈ ks) (fun y hy => by simp at hy) (fun ks k ih y hy => ?_) ks) k hk
    unfold ddStep at hy
    split at hy
    · exact List.mem_append.2 (.inl (ih y hy))
    · rcases List.mem_append.1 hy with hy | hy
      · exact List.mem_append.2 (.inl (ih y hy))
      · exact List.mem_append.2 (.inr hy)
  · rw [List.mem_append, List.mem_append, ih]

theorem dd_nodup {κ : Type} [DecidableEq κ] (ks : List κ) : (dd ks).Nodup := by
  refine dd_rev (P := fun _ acc => acc.Nodup) List.nodup_nil (fun ks k ih => ?_) ks
  unfold ddStep
  split
  · exact ih
  · rename_i hk
    rw [List.nodup_append]
    exact ⟨ih, by simp, fun a ha b hb e => hk (by rw [List.mem_singleton.1 hb] at e; exact e ▸ ha)⟩

theorem dd_len {κ : Type} [DecidableEq κ] (ks : List κ) : (dd ks).length ≤ ks.length := by
  refine dd_rev (P := fun ks acc => acc.length ≤ ks.length) (Nat.le_refl _) (fun ks k ih => ?_) ks
  unfold ddStep
  split <;> simp <;> omega

/-- where it stands -/
def ix {κ : Type} [DecidableEq κ] (acc : List κ) (k : κ) : Nat := acc.idxOf k

theorem idx_old {κ : Type} [DecidableEq κ] {acc : List κ} {k x : κ} (h : x ∈ acc) : ix (ddStep acc k) x = ix acc x := by
  unfold ddStep ix
  split
  · rfl
  · rw [List.idxOf_append, if_pos h]

theorem idx_new {κ : Type} [DecidableEq κ] {acc : List κ} {k : κ} (h : k ∉ acc) : ix (ddStep acc k) k = acc.length := by
  rw [ddStep_out h]; unfold ix; rw [List.idxOf_append, if_neg h]; simp

theorem idx_lt {κ : Type} [DecidableEq κ] {acc : List κ} {k : κ} (h : k ∈ acc) : ix acc k < acc.length := List.idxOf_lt_length_of_mem h

theorem idx_get {κ : Type} [DecidableEq κ] {acc : List κ} {k : κ} (h : k ∈ acc) : acc[ix acc k]'(idx_lt h) = k := List.getElem_idxOf (idx_lt h)

theorem idx_inj {κ : Type} [DecidableEq κ] {acc : List κ} {x y : κ} (hx : x ∈ acc) (hy : y ∈ acc) (h : ix acc x = ix acc y) : x = y := by
  rw [← idx_get hx, ← idx_get hy]
  simp only [h]

theorem idx_at {κ : Type} [DecidableEq κ] {acc : List κ} (hn : acc.Nodup) {i : Nat} (hi : i < acc.length) : ix acc acc[i] = i := by
  have hm : acc[i] ∈ acc := List.getElem_mem hi
  have h1 := idx_get hm
  exact (List.getElem_inj hn).1 h1

theorem cover_len {l : List Nat} {m : Nat} (hc : ∀ i, i < m → i ∈ l) : m ≤ l.length := by
  have h := List.Nodup.length_le_of_subset (l₁ := List.range m) (l₂ := l) List.nodup_range (fun i hi => hc i (List.mem_range.1 hi))
  simpa using h

/-- a list that covers 0 .. m - 1 and is not longer has no two alike -/
theorem cover_inj {l : List Nat} {m : Nat} (hl : l.length ≤ m) (hc : ∀ i, i < m → i ∈ l) : l.Nodup := by
  refine List.pairwise_iff_getElem.2 (fun i j hi hj hij e => ?_)
  have h := cover_len (l := l.eraseIdx j) (m := m) (fun x hx => by
    obtain ⟨k, hk, hkx⟩ := List.getElem_of_mem (hc x hx)
    rw [List.mem_eraseIdx_iff_getElem]
    by_cases hkj : k = j
    · subst hkj; exact ⟨i, hi, by omega, by rw [e, hkx]⟩
    · exact ⟨k, hk, hkj, hkx⟩)
  rw [List.length_eraseIdx, if_pos hj] at h
  omega

section
variable (nx : Nat → Nat → Nat) (ac : Nat → Bool) (classes states : List Nat)

/-- what parts a state from others: its block and those that its letters lead to -/
def pkey (b : Nat → Nat) (q : Nat) : List Nat := b q :: classes.map (fun c => b (nx q c))

structure Part (b : Nat → Nat) (first : List Nat) : Prop where
  rep : ∀ i (h : i < first.length), first[i] ∈ states ∧ b first[i] = i
  acc : ∀ q r, q ∈ states → r ∈ states → b q = b r → ac q = ac r
  bd : (first = [] ∧ ∀ q, b q ≤ 1) ∨ ∀ q, q ∈ states → b q < first.length

def Stable (b : Nat → Nat) : Prop := ∀ q r, q ∈ states → r ∈ states → b q = b r → ∀ c, c ∈ classes → b (nx q c) = b (nx r c)

variable {nx ac classes states}

/-- one round of parting -/
theorem part_round {b b' : Nat → Nat} {first first' : List Nat} (h : Part ac states b first) (hcl : ∀ q, q ∈ states → ∀ c, c ∈ classes → nx q c ∈ states)
    (hf : first'.map (pkey nx classes b) = dd (states.map (pkey nx classes b))) (hs : ∀ q, q ∈ first' → q ∈ states)
    (hb : ∀ q, q ∈ states → b' q = ix (dd (states.map (pkey nx classes b))) (pkey nx classes b q)) :
    Part ac states b' first' ∧ first.length ≤ first'.length ∧ (first'.length = first.length → first ≠ [] → Stable nx classes states b') := by
  have hmem : ∀ q, q ∈ states → pkey nx classes b q ∈ dd (states.map (pkey nx classes b)) := fun q hq => (dd_mem _ _).2 (List.mem_map.2 ⟨q, hq, rfl⟩)
  have hl : (dd (states.map (pkey nx classes b))).length = first'.length := by rw [← hf, List.length_map]
  have hkey : ∀ q r, q ∈ states → r ∈ states → b' q = b' r → pkey nx classes b q = pkey nx classes b r := fun q r hq hr e => by
    rw [hb q hq, hb r hr] at e; exact idx_inj (hmem q hq) (hmem r hr) e
  have hhead : ∀ q r, q ∈ states → r ∈ states → b' q = b' r → b q = b r := fun q r hq hr e => by
    have := hkey q r hq hr e; unfold pkey at this; exact (List.cons.inj this).1
  have hcov : ∀ i, i < first.length → i ∈ first'.map b := fun i hi => by
    obtain ⟨h1, h2⟩ := h.rep i hi
    have hm := hmem _ h1
    rw [← hf, List.mem_map] at hm
    obtain ⟨q, hq, e⟩ := hm
    refine List.mem_map.2 ⟨q, hq, ?_⟩
    unfold pkey at e
    rw [(List.cons.inj e).1, h2]
  refine ⟨⟨fun i hi => ?_, fun q r hq hr e => h.acc q r hq hr (hhead q r hq hr e), .inr fun q hq => ?_⟩, ?_, fun hlen hne => ?_⟩
  · have hst := hs _ (List.getElem_mem hi)
    refine ⟨hst, ?_⟩
    rw [hb _ hst]
    have hi' : i < (dd (states.map (pkey nx classes b))).length := by rw [hl]; exact hi
    have e : (dd (states.map (pkey nx classes b)))[i] = pkey nx classes b first'[i] := by
      have : (first'.map (pkey nx classes b))[i]'(by simpa using hi) = pkey nx classes b first'[i] := by simp
      rw [← this]; simp only [hf]
    rw [← e]
    exact idx_at (dd_nodup _) hi'
  · rw [hb q hq, ← hl]; exact idx_lt (hmem q hq)
  · have := cover_len hcov; simpa using this
  · -- the old blocks and the new ones are the same
    have hnd : (first'.map b).Nodup := cover_inj (m := first.length) (by rw [List.length_map]; omega) hcov
    have hsame : ∀ q r, q ∈ states → r ∈ states → b q = b r → pkey nx classes b q = pkey nx classes b r := fun q r hq hr e => by
      have m1 := hmem q hq
      have m2 := hmem r hr
      rw [← hf, List.mem_map] at m1 m2
      obtain ⟨x, hx, ex⟩ := m1
      obtain ⟨y, hy, ey⟩ := m2
      have e1 : b x = b q := by unfold pkey at ex; exact (List.cons.inj ex).1
      have e2 : b y = b r := by unfold pkey at ey; exact (List.cons.inj ey).1
      obtain ⟨i, hi, hix⟩ := List.getElem_of_mem hx
      obtain ⟨j, hj, hjy⟩ := List.getElem_of_mem hy
      have hij : i = j := by
        refine (List.getElem_inj (h₀ := by simpa using hi) (h₁ := by simpa using hj) hnd).1 ?_
        simp only [List.getElem_map, hix, hjy, e1, e2, e]
      subst hij
      rw [← ex, ← ey, ← hix, ← hjy]
    intro q r hq hr e c hc
    have hk := hkey q r hq hr e
    unfold pkey at hk
    have ht := (List.cons.inj hk).2
    have hbc : b (nx q c) = b (nx r c) := (List.map_inj_left.1 ht) c hc
    have := hsame _ _ (hcl q hq c hc) (hcl r hr c hc) hbc
    rw [hb _ (hcl q hq c hc), hb _ (hcl r hr c hc), this]
end

end Go.Proofs.Ytajajkganamfiaa
