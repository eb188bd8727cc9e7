/-
  PLAIN LAW: the prefixes of patterns in order, the letters that occur, the trie that adds pattern by pattern; the machine and where it leads.
-/
import Derived.Test.YtfhoaehoccfadaaLBfs
namespace Go.Proofs.Ytfhoaehoccfadaa
set_option linter.unusedVariables false
set_option linter.unusedSimpArgs false

instance (a b : List Int) : Decidable (wlt a b) := by unfold wlt; infer_instance

/-- a word laid into sorted words -/
def insW (p : List Int) : List (List Int) → List (List Int)
  | [] => [p]
  | x :: r => if wlt x p then x :: insW p r else if x = p then x :: r else p :: x :: r

theorem mem_insW (p : List Int) : ∀ (l : List (List Int)) (x : List Int), x ∈ insW p l ↔ x = p ∨ x ∈ l
  | [], x => by simp [insW]
  | y :: r, x => by
    unfold insW
    by_cases h : wlt y p
    · rw [if_pos h, List.mem_cons, mem_insW p r, List.mem_cons]
      constructor
      · rintro (h | h | h) <;> simp [h]
      · rintro (h | h | h) <;> simp [h]
    · rw [if_neg h]
      by_cases e : y = p
      · subst e; simp
      · rw [if_neg e]; simp
theorem insW_sorted (p : List Int) : ∀ (l : List (List Int)), l.Pairwise wlt → (insW p l).Pairwise wlt
  | [], _ => by simp [insW]
  | y :: r, h => by
    obtain ⟨h1, h2⟩ := List.pairwise_cons.1 h
    unfold insW
    by_cases hw : wlt y p
    · rw [if_pos hw, List.pairwise_cons]
      refine ⟨fun x hx => ?_, insW_sorted p r h2⟩
      rcases (mem_insW p r x).1 hx with rfl | hx
      · exact hw
      · exact h1 x hx
    · rw [if_neg hw]
      by_cases e : y = p
      · rw [if_pos e]; exact h
      · rw [if_neg e, List.pairwise_cons]
        have hp : wlt p y := (wlt_total e).resolve_left hw
        refine ⟨fun x hx => ?_, h⟩
        rcases List.mem_cons.1 hx with rfl | hx
        · exact hp
        · exact wlt_trans hp (h1 x hx)

/-- the first k prefixes of a pattern laid in -/
def insP (p : List Int) (o : List (List Int)) : Nat → List (List Int)
  | 0 => o
  | k + 1 => insW (p.take (k + 1)) (insP p o k)
/-- the prefixes of patterns, in order -/
def prefs (ps : List (List Int)) : List (List Int) := ps.foldl (fun o p => insP p o p.length) [[]]

theorem mem_insP (p : List Int) (o : List (List Int)) : ∀ k x, x ∈ insP p o k ↔ x ∈ o ∨ ∃ i, 0 < i ∧ i ≤ k ∧ x = p.take i
  | 0, x => by
    constructor
    · exact .inl
    · rintro (h | ⟨i, h1, h2, _⟩); exact h; omega
  | k + 1, x => by
    unfold insP
    rw [mem_insW, mem_insP p o k]
    constructor
    · rintro (rfl | h | ⟨i, h1, h2, h3⟩)
      · exact .inr ⟨k + 1, by omega, by omega, rfl⟩
      · exact .inl h
      · exact .inr ⟨i, h1, by omega, h3⟩
    · rintro (h | ⟨i, h1, h2, h3⟩)
      · exact .inr (.inl h)
      · by_cases e : i = k + 1
        · subst e; exact .inl h3
        · exact .inr (.inr ⟨i, h1, by omega, h3⟩)
theorem insP_sorted (p : List Int) (o : List (List Int)) (h : o.Pairwise wlt) : ∀ k, (insP p o k).Pairwise wlt
  | 0 => h
  | k + 1 => insW_sorted _ _ (insP_sorted p o h k)
theorem pre_iff {p x : List Int} : (∃ i, 0 < i ∧ i ≤ p.length ∧ x = p.take i) ↔ x ≠ [] ∧ x <+: p := by
  constructor
  · rintro ⟨i, h1, h2, rfl⟩
    refine ⟨?_, List.take_prefix i p⟩
    intro e
    have := congrArg List.length e
    rw [List.length_take] at this
    simp only [List.length_nil] at this
    omega
  · rintro ⟨h1, h2⟩
    refine ⟨x.length, ?_, h2.length_le, (List.prefix_iff_eq_take.1 h2)⟩
    cases x with | nil => exact absurd rfl h1 | cons a t => simp
theorem foldP {o : List (List Int)} : ∀ (ps : List (List Int)), o.Pairwise wlt → (ps.foldl (fun o p => insP p o p.length) o).Pairwise wlt ∧ ∀ x, x ∈ ps.foldl (fun o p => insP p o p.length) o ↔ x ∈ o ∨ ∃ p ∈ ps, x ≠ [] ∧ x <+: p := by
  intro ps
  induction ps generalizing o with
  | nil => intro h; exact ⟨h, fun x => by simp⟩
  | cons p r ih =>
    intro h
    obtain ⟨h1, h2⟩ := ih (o := insP p o p.length) (insP_sorted p o h _)
    refine ⟨h1, fun x => ?_⟩
    rw [List.foldl_cons, h2, mem_insP, pre_iff]
    simp only [List.mem_cons, exists_eq_or_imp]
    constructor
    · rintro ((h | h) | h)
      · exact .inl h
      · exact .inr (.inl h)
      · exact .inr (.inr h)
    · rintro (h | h | h)
      · exact .inl (.inl h)
      · exact .inl (.inr h)
      · exact .inr h
theorem prefs_sorted (ps : List (List Int)) : (prefs ps).Pairwise wlt := (foldP ps (by simp)).1
theorem mem_prefs (ps : List (List Int)) (x : List Int) : x ∈ prefs ps ↔ x = [] ∨ ∃ p ∈ ps, x <+: p := by
  unfold prefs
  rw [(foldP ps (by simp)).2, List.mem_singleton]
  constructor
  · rintro (h | ⟨p, h1, _, h3⟩)
    · exact .inl h
    · exact .inr ⟨p, h1, h3⟩
  · rintro (h | ⟨p, h1, h3⟩)
    · exact .inl h
    · by_cases e : x = []
      · exact .inl e
      · exact .inr ⟨p, h1, e, h3⟩

/-- the trie's words, in the order in which they were added: the first k prefixes of a pattern -/
def addP (p : List Int) (W : List (List Int)) : Nat → List (List Int)
  | 0 => W
  | k + 1 => if p.take (k + 1) ∈ addP p W k then addP p W k else addP p W k ++ [p.take (k + 1)]
def trieOf (ps : List (List Int)) : List (List Int) := ps.foldl (fun W p => addP p W p.length) [[]]

theorem mem_addP (p : List Int) (W : List (List Int)) : ∀ k x, x ∈ addP p W k ↔ x ∈ W ∨ ∃ i, 0 < i ∧ i ≤ k ∧ x = p.take i
  | 0, x => by
    constructor
    · exact .inl
    · rintro (h | ⟨i, h1, h2, _⟩); exact h; omega
  | k + 1, x => by
    have ih := mem_addP p W k
    unfold addP
    by_cases hm : p.take (k + 1) ∈ addP p W k
    · rw [if_pos hm, ih]
      constructor
      · rintro (h | ⟨i, h1, h2, h3⟩)
        · exact .inl h
        · exact .inr ⟨i, h1, by omega, h3⟩
      · rintro (h | ⟨i, h1, h2, h3⟩)
        · exact .inl h
        · by_cases e : i = k + 1
          · subst e; rw [h3]; exact (ih _).1 hm
          · exact .inr ⟨i, h1, by omega, h3⟩
    · rw [if_neg hm, List.mem_append, ih, List.mem_singleton]
      constructor
      · rintro ((h | ⟨i, h1, h2, h3⟩) | h)
        · exact .inl h
        · exact .inr ⟨i, h1, by omega, h3⟩
        · exact .inr ⟨k + 1, by omega, by omega, h⟩
      · rintro (h | ⟨i, h1, h2, h3⟩)
        · exact .inl (.inl h)
        · by_cases e : i = k + 1
          · subst e; exact .inr h3
          · exact .inl (.inr ⟨i, h1, by omega, h3⟩)
theorem addP_nodup (p : List Int) {W : List (List Int)} (h : W.Nodup) : ∀ k, (addP p W k).Nodup
  | 0 => h
  | k + 1 => by
    have ih := addP_nodup p h k
    unfold addP
    split
    · exact ih
    · rename_i hm
      rw [List.nodup_append]
      exact ⟨ih, by simp, fun x hx y hy e => by rw [List.mem_singleton] at hy; subst e; subst hy; exact hm hx⟩
theorem addP_len (p : List Int) (W : List (List Int)) : ∀ k, (addP p W k).length ≤ (addP p W (k + 1)).length
  | k => by
    show _ ≤ (if _ then _ else _ : List (List Int)).length
    split
    · exact Nat.le_refl _
    · simp
theorem addP_mono (p : List Int) (W : List (List Int)) {k m : Nat} (h : k ≤ m) : (addP p W k).length ≤ (addP p W m).length := by
  induction m with
  | zero => have e : k = 0 := (by omega); rw [e]; exact Nat.le_refl _
  | succ m ih =>
    by_cases e : k = m + 1
    · subst e; exact Nat.le_refl _
    · exact Nat.le_trans (ih (by omega)) (addP_len p W m)
theorem addP_pre (p : List Int) (W : List (List Int)) : ∀ k, W <+: addP p W k
  | 0 => List.prefix_refl _
  | k + 1 => by
    have ih := addP_pre p W k
    unfold addP
    split
    · exact ih
    · exact ih.trans (List.prefix_append _ _)

/-- what a trie's words are: those of the patterns added, no word twice, [] first -/
structure Tw (ps : List (List Int)) (W : List (List Int)) : Prop where
  nodup : W.Nodup
  hd : W.getD 0 [0] = []
  mem : ∀ x, x ∈ W ↔ x = [] ∨ ∃ p ∈ ps, x <+: p

theorem Tw.start : Tw [] [[]] := ⟨by simp, rfl, fun x => by simp⟩
theorem pre_getD {α : Type} {l m : List α} (h : l <+: m) {i : Nat} (hi : i < l.length) (d : α) : m.getD i d = l.getD i d := by
  obtain ⟨t, rfl⟩ := h
  simp [List.getD, List.getElem?_append, hi]
theorem Tw.add {ps W} (h : Tw ps W) (p : List Int) : Tw (ps ++ [p]) (addP p W p.length) := by
  refine ⟨addP_nodup p h.nodup _, ?_, fun x => ?_⟩
  · rw [pre_getD (addP_pre p W _) (hd_len h.hd)]; exact h.hd
  · rw [mem_addP, h.mem, pre_iff]
    simp only [List.mem_append, List.mem_singleton]
    constructor
    · rintro ((h | ⟨q, h1, h2⟩) | ⟨h1, h2⟩)
      · exact .inl h
      · exact .inr ⟨q, .inl h1, h2⟩
      · exact .inr ⟨p, .inr rfl, h2⟩
    · rintro (h | ⟨q, h1 | h1, h2⟩)
      · exact .inl (.inl h)
      · exact .inl (.inr ⟨q, h1, h2⟩)
      · subst h1
        by_cases e : x = []
        · exact .inl (.inl e)
        · exact .inr ⟨e, h2⟩
theorem trie_snoc (ps : List (List Int)) (p : List Int) : trieOf (ps ++ [p]) = addP p (trieOf ps) p.length := by simp [trieOf]
theorem trie_tw (ps : List (List Int)) : Tw ps (trieOf ps) := by
  suffices ∀ n (ps : List (List Int)), ps.length = n → Tw ps (trieOf ps) from this _ ps rfl
  intro n
  induction n with
  | zero => intro ps h; rw [List.eq_nil_of_length_eq_zero h]; exact Tw.start
  | succ n ih =>
    intro ps h
    have hne : ps ≠ [] := by intro e; subst e; simp at h
    rw [← List.dropLast_concat_getLast hne, trie_snoc]
    exact (ih _ (by rw [List.length_dropLast, h]; rfl)).add _
theorem Tw.closed {ps W} (h : Tw ps W) : Closed W := by
  refine ⟨(h.mem []).2 (.inl rfl), fun {u b} hm => ?_⟩
  rcases (h.mem _).1 hm with e | ⟨p, hp, hx⟩
  · simp at e
  · exact (h.mem u).2 (.inr ⟨p, hp, (List.prefix_append u [b]).trans hx⟩)
theorem trie_len (ps : List (List Int)) : (trieOf ps).length = (prefs ps).length := by
  have h := trie_tw ps
  refine Nat.le_antisymm (nodup_sub_len h.nodup fun x hx => (mem_prefs ps x).2 ((h.mem x).1 hx)) (nodup_sub_len (sorted_nodup (prefs_sorted ps)) fun x hx => (h.mem x).2 ((mem_prefs ps x).1 hx))
theorem trie_mono (ps qs : List (List Int)) : (trieOf ps).length ≤ (trieOf (ps ++ qs)).length :=
  nodup_sub_len (trie_tw ps).nodup fun x hx => ((trie_tw (ps ++ qs)).mem x).2 (by
    rcases ((trie_tw ps).mem x).1 hx with h | ⟨p, h1, h2⟩
    · exact .inl h
    · exact .inr ⟨p, by simp [h1], h2⟩)
/-- how many different prefixes there are is at most one and the letters' sum -/
theorem trie_le (ps : List (List Int)) : (trieOf ps).length ≤ 1 + (ps.map List.length).foldr (· + ·) 0 := by
  suffices ∀ (ps : List (List Int)) (W : List (List Int)), (ps.foldl (fun W p => addP p W p.length) W).length ≤ W.length + (ps.map List.length).foldr (· + ·) 0 from by
    have := this ps [[]]; simp at this; unfold trieOf; omega
  intro ps
  induction ps with
  | nil => intro W; simp
  | cons p r ih =>
    intro W
    have := ih (addP p W p.length)
    have h2 : ∀ k, (addP p W k).length ≤ W.length + k := by
      intro k
      induction k with
      | zero => exact Nat.le_refl _
      | succ k ih2 => unfold addP; split; omega; simp; omega
    have := h2 p.length
    simp only [List.foldl_cons, List.map_cons, List.foldr_cons]
    omega

/-- which letters occur -/
def usedB (ps : List (List Int)) (b : Nat) : Bool := ps.any fun p => p.contains (b : Int)
def letsTo (U : Nat → Bool) (n : Nat) : List Int := ((List.range n).filter U).map Int.ofNat
def clsTo (U : Nat → Bool) (n : Nat) : List Int := (List.range n).map fun b => if U b then ((letsTo U (b + 1)).length : Int) else 0

theorem letsTo_succ (U : Nat → Bool) (n : Nat) : letsTo U (n + 1) = if U n then letsTo U n ++ [(n : Int)] else letsTo U n := by
  unfold letsTo
  rw [List.range_succ, List.filter_append]
  by_cases h : U n <;> simp [h]
theorem clsTo_succ (U : Nat → Bool) (n : Nat) : clsTo U (n + 1) = clsTo U n ++ [if U n then ((letsTo U (n + 1)).length : Int) else 0] := by
  unfold clsTo; rw [List.range_succ, List.map_append]; rfl
theorem clsTo_len (U : Nat → Bool) (n : Nat) : (clsTo U n).length = n := by simp [clsTo]
theorem letsTo_len (U : Nat → Bool) (n : Nat) : (letsTo U n).length ≤ n := by
  unfold letsTo; rw [List.length_map]
  exact Nat.le_trans (List.length_filter_le _ _) (by simp)
theorem mem_letsTo {U : Nat → Bool} {n : Nat} {b : Int} : b ∈ letsTo U n ↔ ∃ m : Nat, m < n ∧ U m = true ∧ b = m := by
  unfold letsTo
  simp only [List.mem_map, List.mem_filter, List.mem_range]
  constructor
  · rintro ⟨m, ⟨h1, h2⟩, rfl⟩; exact ⟨m, h1, h2, rfl⟩
  · rintro ⟨m, h1, h2, rfl⟩; exact ⟨m, ⟨h1, h2⟩, rfl⟩
theorem letsTo_sorted (U : Nat → Bool) (n : Nat) : (letsTo U n).Pairwise (· < ·) := by
  unfold letsTo
  rw [List.pairwise_map]
  refine List.Pairwise.imp ?_ ((List.pairwise_lt_range (n := n)).filter U)
  intro a b h
  show Int.ofNat a < Int.ofNat b
  exact Int.ofNat_lt.2 h
theorem letsTo_pre (U : Nat → Bool) {m n : Nat} (h : m ≤ n) : letsTo U m <+: letsTo U n := by
  induction n with
  | zero => have e : m = 0 := (by omega); rw [e]; exact List.prefix_refl _
  | succ n ih =>
    by_cases e : m = n + 1
    · subst e; exact List.prefix_refl _
    · refine (ih (by omega)).trans ?_
      rw [letsTo_succ]; split
      · exact List.prefix_append _ _
      · exact List.prefix_refl _
theorem clsTo_getD (U : Nat → Bool) {n b : Nat} (hb : b < n) : (clsTo U n).getD b 0 = if U b then ((letsTo U (b + 1)).length : Int) else 0 := by
  simp [clsTo, List.getD, hb]
/-- a letter's class is one more than its place among those that occur -/
theorem cls_used {U : Nat → Bool} {n b : Nat} (hb : b < n) (hu : U b = true) : ∃ j, (clsTo U n).getD b 0 = ((j + 1 : Nat) : Int) ∧ j < (letsTo U n).length ∧ (letsTo U n).getD j 0 = b := by
  have h1 : letsTo U (b + 1) = letsTo U b ++ [(b : Int)] := by rw [letsTo_succ, if_pos hu]
  have hp := letsTo_pre U (show b + 1 ≤ n by omega)
  refine ⟨(letsTo U b).length, ?_, ?_, ?_⟩
  · rw [clsTo_getD U hb, if_pos hu, h1]; simp
  · have := hp.length_le; rw [h1] at this; simp at this; omega
  · rw [pre_getD hp (by rw [h1]; simp), h1]; simp [List.getD]
theorem cls_unused {U : Nat → Bool} {n b : Nat} (hb : b < n) (hu : U b = false) : (clsTo U n).getD b 0 = 0 := by
  rw [clsTo_getD U hb, hu]; rfl
theorem cls_bd (U : Nat → Bool) (n : Nat) : ∀ q ∈ clsTo U n, 0 ≤ q ∧ q < ((letsTo U n).length + 1 : Nat) := by
  intro q hq
  obtain ⟨b, hb, rfl⟩ := List.getElem_of_mem hq
  rw [clsTo_len] at hb
  have h1 := clsTo_getD U hb
  simp only [List.getD, List.getElem?_eq_getElem (show b < (clsTo U n).length by rw [clsTo_len]; exact hb), Option.getD_some] at h1
  rw [h1]
  split
  · have := (letsTo_pre U (show b + 1 ≤ n by omega)).length_le; omega
  · omega

/-- the machine: rows, what is accepted, hits -/
def litL (ps : List (List Int)) : List Int := letsTo (usedB ps) 256
def litC (ps : List (List Int)) : List Int := clsTo (usedB ps) 256
def litN (ps : List (List Int)) : List (List Int) := (prefs ps).map (rowOf (prefs ps) (prefs ps) (litL ps))
def litH (ps : List (List Int)) : List Int := (prefs ps).map fun x => (cnt ps x : Int)
def litA (ps : List (List Int)) : List Bool := (prefs ps).map fun x => decide (0 < cnt ps x)

/-- patterns of bytes -/
def Byt (ps : List (List Int)) : Prop := ∀ p ∈ ps, ∀ b ∈ p, 0 ≤ b ∧ b ≤ 255

theorem prefs_closed (ps : List (List Int)) : Closed (prefs ps) := by
  refine ⟨(mem_prefs ps []).2 (.inl rfl), fun {u b} hm => ?_⟩
  rcases (mem_prefs ps _).1 hm with e | ⟨p, hp, hx⟩
  · simp at e
  · exact (mem_prefs ps u).2 (.inr ⟨p, hp, (List.prefix_append u [b]).trans hx⟩)
theorem lit_letter {ps : List (List Int)} (hb : Byt ps) {u : List Int} {b : Int} (h : u ++ [b] ∈ prefs ps) : b ∈ litL ps := by
  rcases (mem_prefs ps _).1 h with e | ⟨p, hp, hx⟩
  · simp at e
  · have hbp : b ∈ p := hx.subset (by simp)
    have hbd := hb p hp b hbp
    refine mem_letsTo.2 ⟨b.toNat, by omega, ?_, by omega⟩
    unfold usedB
    rw [List.any_eq_true]
    exact ⟨p, hp, by rw [List.contains_iff_mem]; rw [show ((b.toNat : Nat) : Int) = b by omega]; exact hbp⟩
theorem prefs_len_pos (ps : List (List Int)) : 0 < (prefs ps).length := List.length_pos_of_mem ((mem_prefs ps []).2 (.inl rfl))
theorem prefs_zero (ps : List (List Int)) : (prefs ps).getD 0 [0] = [] := by
  have h := prefs_sorted ps
  have hm := (mem_prefs ps []).2 (.inl rfl)
  cases hq : prefs ps with
  | nil => rw [hq] at hm; simp at hm
  | cons a t =>
    rw [hq] at h hm
    show a = []
    rcases List.mem_cons.1 hm with e | e
    · exact e.symm
    · have := (List.pairwise_cons.1 h).1 [] e
      rcases this with k | ⟨k, _⟩
      · simp at k
      · exact List.eq_nil_of_length_eq_zero k
theorem idx_nil (ps : List (List Int)) : (prefs ps).idxOf [] = 0 := by
  have h := idx_getD (sorted_nodup (prefs_sorted ps)) (prefs_len_pos ps)
  have h0 := prefs_zero ps
  rw [getD_any (prefs_len_pos ps) [0] []] at h0
  rw [h0] at h; exact h

/-- what the search has when it is done is the machine -/
theorem St.final {ps : List (List Int)} {W S : List (List Int)} {F : List Int} {R : List (List Int)} {H : List Int} (hW : Tw ps W)
    (h : St W (litL ps) ps S.length S F R H) : S = prefs ps ∧ R = litN ps ∧ H = litH ps := by
  have hm := h.bfs.done hW.closed
  have hS : S = prefs ps := sorted_unique h.bfs.srt (prefs_sorted ps) fun x => by rw [hm, hW.mem, mem_prefs]
  have hWS : ∀ x, x ∈ W ↔ x ∈ prefs ps := fun x => by rw [hW.mem, mem_prefs]
  subst hS
  refine ⟨rfl, ?_, ?_⟩
  · refine List.ext_getElem (by rw [h.rl, litN, List.length_map]) fun i h1 h2 => ?_
    have hi : i < (prefs ps).length := by rw [h.rl] at h1; exact h1
    have := h.rv i hi
    simp only [List.getD, List.getElem?_eq_getElem h1, Option.getD_some] at this
    rw [this]
    simp only [litN, List.getElem_map]
    unfold rowOf
    simp only [List.getElem?_eq_getElem hi, Option.getD_some]
    congr 1
    exact List.map_congr_left fun b _ => by rw [lsuf_congr hWS]
  · refine List.ext_getElem (by rw [h.hl, litH, List.length_map]) fun i h1 h2 => ?_
    have hi : i < (prefs ps).length := by rw [h.hl] at h1; exact h1
    have := h.hv i hi
    simp only [List.getD, List.getElem?_eq_getElem h1, Option.getD_some, List.getElem?_eq_getElem hi] at this
    rw [this]
    simp [litH]

/-- where a letter leads -/
def litGo (ps : List (List Int)) (q : Int) (b : Nat) : Int := ((litN ps).getD q.toNat []).getD ((litC ps).getD b 0).toNat 0
theorem litGo_eq {ps : List (List Int)} {v : List Int} (hv : v ∈ prefs ps) {b : Nat} (hb : b < 256) : litGo ps ((prefs ps).idxOf v : Int) b = ((prefs ps).idxOf (lsuf (prefs ps) (v ++ [(b : Int)])) : Int) := by
  obtain ⟨q1, q2⟩ := mem_getD (d := []) hv
  have hrow : (litN ps).getD ((prefs ps).idxOf v) [] = rowOf (prefs ps) (prefs ps) (litL ps) v := by
    simp only [List.getD, List.getElem?_eq_getElem q1, Option.getD_some] at q2
    simp [litN, List.getD, q1]
  unfold litGo
  rw [Int.toNat_natCast, hrow]
  by_cases hu : usedB ps b = true
  · obtain ⟨j, h1, h2, h3⟩ := cls_used hb hu
    unfold litC
    rw [h1, Int.toNat_natCast, rowOf_getD (show j < (litL ps).length from h2)]
    unfold litL
    rw [h3]
  · simp only [Bool.not_eq_true] at hu
    unfold litC
    rw [cls_unused hb hu]
    have hnil : lsuf (prefs ps) (v ++ [(b : Int)]) = [] := by
      refine Classical.byContradiction fun hne => ?_
      have hm := lsuf_mem (prefs_closed ps).nil (v ++ [(b : Int)])
      have hs := lsuf_suffix (prefs ps) (v ++ [(b : Int)])
      obtain ⟨c, hc⟩ := snoc_of_ne hne
      obtain ⟨t, ht⟩ := hs
      rw [hc, ← List.append_assoc] at ht
      have hcb : c = (b : Int) := by
        have := List.append_inj_right' ht rfl
        simpa using this
      rw [hc, hcb] at hm
      rcases (mem_prefs ps _).1 hm with e | ⟨p, hp, hx⟩
      · simp at e
      · have hbp : (b : Int) ∈ p := hx.subset (by simp)
        have : usedB ps b = true := by unfold usedB; rw [List.any_eq_true]; exact ⟨p, hp, by rw [List.contains_iff_mem]; exact hbp⟩
        rw [hu] at this; cases this
    rw [hnil, idx_nil]
    rfl

/-- the state behind a text -/
def litAt (ps : List (List Int)) (t : List Int) : Nat := (prefs ps).idxOf (lsuf (prefs ps) t)
theorem litAt_nil (ps : List (List Int)) : litAt ps [] = 0 := idx_nil ps
theorem litAt_lt (ps : List (List Int)) (t : List Int) : litAt ps t < (prefs ps).length := List.idxOf_lt_length_of_mem (lsuf_mem (prefs_closed ps).nil t)
theorem litAt_snoc {ps : List (List Int)} (t : List Int) {b : Nat} (hb : b < 256) : litGo ps (litAt ps t : Int) b = (litAt ps (t ++ [(b : Int)]) : Int) := by
  unfold litAt
  rw [litGo_eq (lsuf_mem (prefs_closed ps).nil t) hb, ← lsuf_snoc (prefs_closed ps)]
theorem all_pref {ps : List (List Int)} : ∀ p ∈ ps, p ∈ prefs ps := fun p hp => (mem_prefs ps p).2 (.inr ⟨p, hp, List.prefix_refl p⟩)
theorem litH_at (ps : List (List Int)) (t : List Int) : (litH ps).getD (litAt ps t) 0 = (cnt ps t : Int) := by
  obtain ⟨q1, q2⟩ := mem_getD (d := []) (lsuf_mem (prefs_closed ps).nil t)
  have : (litH ps).getD (litAt ps t) 0 = (cnt ps ((prefs ps).getD (litAt ps t) []) : Int) := by
    unfold litH; simp [List.getD, litAt, q1]
  rw [this]
  unfold litAt
  rw [q2, ← cnt_lsuf all_pref]
theorem litA_at (ps : List (List Int)) (t : List Int) : (litA ps).getD (litAt ps t) false = decide (0 < cnt ps t) := by
  obtain ⟨q1, q2⟩ := mem_getD (d := []) (lsuf_mem (prefs_closed ps).nil t)
  have : (litA ps).getD (litAt ps t) false = decide (0 < cnt ps ((prefs ps).getD (litAt ps t) [])) := by
    unfold litA; simp [List.getD, litAt, q1]
  rw [this]
  unfold litAt
  rw [q2, ← cnt_lsuf all_pref]
theorem litN_len (ps) : (litN ps).length = (prefs ps).length := by simp [litN]
theorem litH_len (ps) : (litH ps).length = (prefs ps).length := by simp [litH]
theorem litA_len (ps) : (litA ps).length = (prefs ps).length := by simp [litA]
theorem litC_len (ps) : (litC ps).length = 256 := clsTo_len _ _
theorem litN_row {ps : List (List Int)} : ∀ row ∈ litN ps, row.length = (litL ps).length + 1 ∧ ∀ q ∈ row, 0 ≤ q ∧ q < ((prefs ps).length : Int) := by
  intro row hr
  unfold litN at hr
  obtain ⟨u, _, rfl⟩ := List.mem_map.1 hr
  refine ⟨by simp [rowOf], fun q hq => ?_⟩
  unfold rowOf at hq
  rcases List.mem_cons.1 hq with rfl | hq
  · have := prefs_len_pos ps; omega
  · obtain ⟨b, _, rfl⟩ := List.mem_map.1 hq
    have := List.idxOf_lt_length_of_mem (lsuf_mem (prefs_closed ps).nil (u ++ [b]))
    omega

end Go.Proofs.Ytfhoaehoccfadaa
