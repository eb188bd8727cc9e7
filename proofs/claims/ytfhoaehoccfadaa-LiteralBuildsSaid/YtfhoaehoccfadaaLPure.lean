/-
  PLAIN LAW of the literal machine: words, their order, the longest suffix in a set of words that holds all its prefixes, the machine of a set of words, the search that finds them in order.
-/
namespace Go.Proofs.Ytfhoaehoccfadaa
set_option linter.unusedVariables false
set_option linter.unusedSimpArgs false

/-- lexicographic, for words of one length -/
def llt : List Int → List Int → Bool
  | a :: s, b :: t => decide (a < b) || (a == b && llt s t)
  | _, _ => false
/-- by length, then bytewise -/
def wlt (a b : List Int) : Prop := a.length < b.length ∨ (a.length = b.length ∧ llt a b = true)

theorem llt_irrefl : ∀ a, llt a a = false
  | [] => rfl
  | a :: s => by simp [llt, llt_irrefl s]
theorem llt_trans : ∀ {a b c : List Int}, llt a b = true → llt b c = true → llt a c = true
  | [], _, _, h, _ => by simp [llt] at h
  | _ :: _, [], _, h, _ => by simp [llt] at h
  | _ :: _, _ :: _, [], _, h => by simp [llt] at h
  | a :: s, b :: t, c :: u, h, k => by
    simp only [llt, Bool.or_eq_true, decide_eq_true_eq, Bool.and_eq_true, beq_iff_eq] at *
    rcases h with h | ⟨rfl, h⟩ <;> rcases k with k | ⟨rfl, k⟩
    · exact .inl (by omega)
    · exact .inl h
    · exact .inl k
    · exact .inr ⟨rfl, llt_trans h k⟩
theorem llt_total : ∀ {a b : List Int}, a.length = b.length → a ≠ b → llt a b = true ∨ llt b a = true
  | [], [], _, h => absurd rfl h
  | [], _ :: _, h, _ => by simp at h
  | _ :: _, [], h, _ => by simp at h
  | a :: s, b :: t, h, hn => by
    simp only [llt, Bool.or_eq_true, decide_eq_true_eq, Bool.and_eq_true, beq_iff_eq]
    by_cases e : a = b
    · subst e
      rcases llt_total (a := s) (b := t) (by simpa using h) (fun e => hn (by rw [e])) with k | k
      · exact .inl (.inr ⟨rfl, k⟩)
      · exact .inr (.inr ⟨rfl, k⟩)
    · rcases Int.lt_or_gt_of_ne e with k | k
      · exact .inl (.inl k)
      · exact .inr (.inl k)
theorem llt_snoc : ∀ {s t : List Int} (a b : Int), llt s t = true → llt (s ++ [a]) (t ++ [b]) = true
  | [], _, _, _, h => by simp [llt] at h
  | _ :: _, [], _, _, h => by simp [llt] at h
  | x :: s, y :: t, a, b, h => by
    simp only [List.cons_append, llt, Bool.or_eq_true, decide_eq_true_eq, Bool.and_eq_true, beq_iff_eq] at *
    rcases h with h | ⟨rfl, h⟩
    · exact .inl h
    · exact .inr ⟨rfl, llt_snoc a b h⟩
theorem llt_snoc_same : ∀ {s : List Int} {a b : Int}, a < b → llt (s ++ [a]) (s ++ [b]) = true
  | [], a, b, h => by simp [llt, h]
  | x :: s, a, b, h => by simp [llt, llt_snoc_same h]

theorem wlt_irrefl (a : List Int) : ¬ wlt a a := by
  rintro (h | ⟨_, h⟩)
  · omega
  · rw [llt_irrefl] at h; cases h
theorem wlt_trans {a b c : List Int} (h : wlt a b) (k : wlt b c) : wlt a c := by
  rcases h with h | ⟨h, h2⟩ <;> rcases k with k | ⟨k, k2⟩
  · exact .inl (by omega)
  · exact .inl (by omega)
  · exact .inl (by omega)
  · exact .inr ⟨by omega, llt_trans h2 k2⟩
theorem wlt_total {a b : List Int} (h : a ≠ b) : wlt a b ∨ wlt b a := by
  rcases Nat.lt_trichotomy a.length b.length with k | k | k
  · exact .inl (.inl k)
  · rcases llt_total k h with m | m
    · exact .inl (.inr ⟨k, m⟩)
    · exact .inr (.inr ⟨k.symm, m⟩)
  · exact .inr (.inl k)
theorem wlt_snoc {s t : List Int} (a b : Int) (h : wlt s t) : wlt (s ++ [a]) (t ++ [b]) := by
  rcases h with h | ⟨h, h2⟩
  · exact .inl (by simpa using h)
  · exact .inr ⟨by simpa using h, llt_snoc a b h2⟩
theorem wlt_snoc_same {s : List Int} {a b : Int} (h : a < b) : wlt (s ++ [a]) (s ++ [b]) := .inr ⟨by simp, llt_snoc_same h⟩
theorem wlt_nil {s : List Int} (h : s ≠ []) : wlt [] s := .inl (by cases s <;> simp_all)
theorem wlt_len {s t : List Int} (h : s.length < t.length) : wlt s t := .inl h

/-- two sorted lists of the same words are one -/
theorem sorted_unique : ∀ {l m : List (List Int)}, l.Pairwise wlt → m.Pairwise wlt → (∀ x, x ∈ l ↔ x ∈ m) → l = m
  | [], [], _, _, _ => rfl
  | [], b :: m, _, _, h => by have := (h b).2 (by simp); simp at this
  | a :: l, [], _, _, h => by have := (h a).1 (by simp); simp at this
  | a :: l, b :: m, hl, hm, h => by
    obtain ⟨la, lr⟩ := List.pairwise_cons.1 hl
    obtain ⟨ma, mr⟩ := List.pairwise_cons.1 hm
    have e : a = b := by
      refine Classical.byContradiction fun hne => ?_
      have h1 : a ∈ m := by rcases List.mem_cons.1 ((h a).1 (by simp)) with k | k; exact absurd k hne; exact k
      have h2 : b ∈ l := by rcases List.mem_cons.1 ((h b).2 (by simp)) with k | k; exact absurd k.symm hne; exact k
      exact wlt_irrefl a (wlt_trans (la b h2) (ma a h1))
    subst e
    rw [sorted_unique lr mr fun x => ?_]
    constructor
    · intro hx
      rcases List.mem_cons.1 ((h x).1 (by simp [hx])) with k | k
      · subst k; exact absurd (la x hx) (wlt_irrefl x)
      · exact k
    · intro hx
      rcases List.mem_cons.1 ((h x).2 (by simp [hx])) with k | k
      · subst k; exact absurd (ma x hx) (wlt_irrefl x)
      · exact k
theorem sorted_nodup {l : List (List Int)} (h : l.Pairwise wlt) : l.Nodup := h.imp (fun {a b} k e => by subst e; exact wlt_irrefl a k)

theorem nodup_sub_len {α : Type} [DecidableEq α] : ∀ {l m : List α}, l.Nodup → (∀ x ∈ l, x ∈ m) → l.length ≤ m.length
  | [], _, _, _ => by simp
  | a :: l, m, hn, hs => by
    obtain ⟨h1, h2⟩ := List.nodup_cons.1 hn
    have := nodup_sub_len (m := m.erase a) h2 (fun x hx => (List.mem_erase_of_ne (fun e => h1 (by rw [← e]; exact hx))).2 (hs x (by simp [hx])))
    have hm : a ∈ m := hs a (by simp)
    have h3 := List.length_erase_of_mem hm
    have h4 := List.length_pos_of_mem hm
    simp only [List.length_cons]
    omega

/-- the longest suffix that is in W -/
def lsuf (W : List (List Int)) : List Int → List Int
  | [] => []
  | a :: t => if a :: t ∈ W then a :: t else lsuf W t
/-- W holds all prefixes of its words, [] too -/
structure Closed (W : List (List Int)) : Prop where
  nil : [] ∈ W
  pre : ∀ {u : List Int} {b : Int}, u ++ [b] ∈ W → u ∈ W

theorem Closed.cut {W : List (List Int)} (h : Closed W) : ∀ (n : Nat) {u v : List Int}, v.length = n → u ++ v ∈ W → u ∈ W
  | 0, u, v, hn, hv => by have : v = [] := List.eq_nil_of_length_eq_zero hn; subst this; simpa using hv
  | n + 1, u, v, hn, hv => by
    have hne : v ≠ [] := by intro e; subst e; simp at hn
    have e := List.dropLast_concat_getLast hne
    rw [← e, ← List.append_assoc] at hv
    exact h.cut n (by rw [List.length_dropLast, hn]; rfl) (h.pre hv)
theorem lsuf_mem {W : List (List Int)} (h : [] ∈ W) : ∀ u, lsuf W u ∈ W
  | [] => h
  | a :: t => by unfold lsuf; split; assumption; exact lsuf_mem h t
theorem lsuf_self {W : List (List Int)} {u : List Int} (h : u ∈ W) : lsuf W u = u := by
  cases u with
  | nil => rfl
  | cons a t => unfold lsuf; rw [if_pos h]
theorem lsuf_len (W : List (List Int)) : ∀ u, (lsuf W u).length ≤ u.length
  | [] => Nat.le_refl _
  | a :: t => by unfold lsuf; split; exact Nat.le_refl _; have := lsuf_len W t; simp; omega
theorem lsuf_suffix (W : List (List Int)) : ∀ u, lsuf W u <:+ u
  | [] => List.suffix_refl _
  | a :: t => by unfold lsuf; split; exact List.suffix_refl _; exact (lsuf_suffix W t).trans (List.suffix_cons a t)
theorem lsuf_snoc {W : List (List Int)} (h : Closed W) (b : Int) : ∀ u, lsuf W (u ++ [b]) = lsuf W (lsuf W u ++ [b])
  | [] => rfl
  | a :: t => by
    by_cases hm : a :: t ∈ W
    · rw [lsuf_self hm]
    · have e1 : lsuf W (a :: t) = lsuf W t := by rw [lsuf, if_neg hm]
      rw [e1, ← lsuf_snoc h b t]
      show lsuf W (a :: (t ++ [b])) = _
      rw [lsuf, if_neg]
      intro hc
      exact hm (h.pre (u := a :: t) hc)
theorem suffix_lsuf {W : List (List Int)} {p : List Int} (hp : p ∈ W) : ∀ u, p <:+ u ↔ p <:+ lsuf W u
  | [] => Iff.rfl
  | a :: t => by
    by_cases hm : a :: t ∈ W
    · rw [lsuf_self hm]
    · have e1 : lsuf W (a :: t) = lsuf W t := by rw [lsuf, if_neg hm]
      rw [e1, ← suffix_lsuf hp t, List.suffix_cons_iff]
      constructor
      · rintro (rfl | k)
        · exact absurd hp hm
        · exact k
      · exact .inr
theorem lsuf_congr {W W' : List (List Int)} (h : ∀ x, x ∈ W ↔ x ∈ W') : ∀ u, lsuf W u = lsuf W' u
  | [] => rfl
  | a :: t => by
    unfold lsuf
    by_cases hm : a :: t ∈ W
    · rw [if_pos hm, if_pos ((h _).1 hm)]
    · rw [if_neg hm, if_neg (fun k => hm ((h _).2 k)), lsuf_congr h t]
theorem lsuf_tail_step {W : List (List Int)} (h : Closed W) {u : List Int} {b : Int} (hu : u ≠ []) (hn : u ++ [b] ∉ W) : lsuf W (u ++ [b]) = lsuf W (lsuf W u.tail ++ [b]) := by
  cases u with
  | nil => exact absurd rfl hu
  | cons a t =>
    rw [List.tail_cons, ← lsuf_snoc h]
    show lsuf W (a :: (t ++ [b])) = _
    rw [lsuf, if_neg (show a :: (t ++ [b]) ∉ W from hn)]
theorem lsuf_nil_step {W : List (List Int)} {b : Int} (hn : [b] ∉ W) : lsuf W [b] = [] := by
  rw [lsuf, if_neg hn]; rfl

/-- how many of the patterns are suffixes -/
def cnt (ps : List (List Int)) (x : List Int) : Nat := (ps.filter (fun p => decide (p <:+ x))).length
/-- how many of the patterns are the word -/
def eqs (ps : List (List Int)) (x : List Int) : Nat := (ps.filter (fun p => p == x)).length

theorem cnt_lsuf {W ps : List (List Int)} (h : ∀ p ∈ ps, p ∈ W) (u : List Int) : cnt ps u = cnt ps (lsuf W u) := by
  unfold cnt
  congr 1
  refine List.filter_congr fun p hp => ?_
  simp only [decide_eq_decide]
  exact suffix_lsuf (h p hp) u
theorem cnt_split {W ps : List (List Int)} (h : ∀ p ∈ ps, p ∈ W) {u : List Int} (hu : u ≠ []) : cnt ps u = eqs ps u + cnt ps (lsuf W u.tail) := by
  rw [← cnt_lsuf h]
  unfold cnt eqs
  clear h
  induction ps with
  | nil => rfl
  | cons p ps ih =>
    simp only [List.filter_cons]
    cases u with
    | nil => exact absurd rfl hu
    | cons a t =>
      by_cases e : p = a :: t
      · have h1 : ¬ p <:+ t := fun k => by have := k.length_le; rw [e, List.length_cons] at this; omega
        have h2 : p <:+ a :: t := e ▸ List.suffix_refl _
        simp only [List.tail_cons] at ih ⊢
        simp [e, h2, ih]
        rw [if_neg (by rw [← e]; exact h1)]
        omega
      · have h0 : (p <:+ a :: t) ↔ p <:+ t := by rw [List.suffix_cons_iff]; constructor; rintro (k | k); exact absurd k e; exact k; exact .inr
        simp only [List.tail_cons] at ih ⊢
        by_cases h1 : p <:+ t
        · simp [e, h0, h1, ih]; omega
        · simp [e, h0, h1, ih]
theorem cnt_le (ps : List (List Int)) (x : List Int) : cnt ps x ≤ ps.length := List.length_filter_le _ _
theorem cnt_nil {ps : List (List Int)} : cnt ps [] = eqs ps [] := by
  unfold cnt eqs
  congr 1
  refine List.filter_congr fun p hp => ?_
  rw [Bool.eq_iff_iff]; simp

end Go.Proofs.Ytfhoaehoccfadaa
