/-
  Joined texts: the store in memory: its list, its map keyed by rules. · PLAIN LAW of the literal machine: words, their order, the longest suffix in a set of words that holds all its prefixes, the machine of a set of words, the search that finds them in order. · PLAIN LAW: the search through a set of words that holds its prefixes: in which order it finds them, where each falls, the rows of the machine. · PLAIN LAW: the prefixes of patterns in order, the letters that occur, the trie that adds pattern by pattern; the machine and where it leads.
-/
import Derived.Test.YtflgmodofemifaaWC4
import Derived.Maps.OwnSet
import Derived.DeepKeys4

/- the store in memory: its list, its map keyed by rules. -/
namespace Go.Proofs.Ytflgmodofemifaa
open Go.RowKit Go.Maps
set_option linter.unusedVariables false
set_option linter.unusedSimpArgs false

theorem cLaidOut : laidOutB Try.prog = true := by kernel_rfl
theorem ruLaw : Keyed Try.prog 67 := Keyed.of_law (deep_law_laid cLaidOut (m := 100) (by decide) (by decide +kernel) (by kernel_rfl) (by kernel_rfl))

/-- a rule as cells, as a value, as a key -/
def ruC (r : Ru) : List Value := [.int .i64 (r.kind : Nat), .int .u8 (r.letter : Nat), .int .i64 (r.left : Nat), .int .i64 (r.right : Nat), .int .i64 (r.times : Nat)]
def ruV (r : Ru) : Value := .agg #[.int .i64 (r.kind : Nat), .int .u8 (r.letter : Nat), .int .i64 (r.left : Nat), .int .i64 (r.right : Nat), .int .i64 (r.times : Nat)]
def ruK (r : Ru) : Lit := .string (keyBytes [.int .i64 (r.kind : Nat), .int .u8 (r.letter : Nat), .int .i64 (r.left : Nat), .int .i64 (r.right : Nat), .int .i64 (r.times : Nat)])
/-- its numbers are in their ranges -/
structure RuWf (r : Ru) : Prop where
  kk : r.kind < 9223372036854775808
  kb : r.letter < 256
  kl : r.left < 9223372036854775808
  kr : r.right < 9223372036854775808
  kt : r.times < 9223372036854775808

theorem wfI {n : Nat} (h : n < 9223372036854775808) : (Lit.int .i64 (n : Int)).wf = true := by
  simp [Lit.wf, IntKind.min, IntKind.max, IntKind.signed, IntKind.bits]; omega
theorem wfB {n : Nat} (h : n < 256) : (Lit.int .u8 (n : Int)).wf = true := by
  simp [Lit.wf, IntKind.min, IntKind.max, IntKind.signed, IntKind.bits]; omega

theorem ruK_of {r : Ru} (h : RuWf r) : keyOf Try.prog 67 (ruV r) = some (ruK r) := by
  have w1 := wfI h.kk
  have w2 := wfB h.kb
  have w3 := wfI h.kl
  have w4 := wfI h.kr
  have w5 := wfI h.kt
  have hkt : Try.prog.keyType 67 = true := by kernel_rfl
  have hc : Try.prog.cellsOf 67 = 5 := by kernel_rfl
  have hc1 : Try.prog.cellsOf 3 = 1 := by kernel_rfl
  have hc2 : Try.prog.cellsOf 5 = 1 := by kernel_rfl
  have hc3 : Try.prog.cellsOf 39 = 1 := by kernel_rfl
  have h1 := Try.underlying67
  have hf : Value.formed Try.prog 67 (ruV r) = true := by simp [Value.formed, h1, hc, ruV]
  obtain ⟨m, hm⟩ : ∃ m, Try.prog.types.size = m + 1 := ⟨Try.prog.types.size - 1, by decide +kernel⟩
  unfold keyOf
  simp only [h1]
  rw [if_pos (by simp [hkt, hf]), hm]
  unfold Program.keyLits ruV
  simp only [h1, Value.cells]
  rw [if_pos ⟨by rw [hc]; rfl, by decide +kernel⟩]
  simp [Program.keyLits, Try.underlying3, Try.underlying5, Try.underlying39, hc1, hc2, hc3, w1, w2, w3, w4, ruK]
  rw [if_pos w5]
  rfl

theorem ruK_key {r : Ru} (h : RuWf r) : WideAt.IsKeyLit (ruK r) := ruLaw.key (ruK_of h)
theorem ruK_inj {r r' : Ru} (h : RuWf r) (h' : RuWf r') (e : ruK r = ruK r') : r = r' := by
  have h1 := ruK_of h
  have h2 := ruK_of h'
  rw [← e] at h2
  have := ruLaw.inj h1 h2
  cases r with
  | mk a b c d f =>
  cases r' with
  | mk a' b' c' d' f' =>
    have h3 : ∀ j : Nat, (ruC ⟨a, b, c, d, f⟩)[j]? = (ruC ⟨a', b', c', d', f'⟩)[j]? := fun j => by
      have h4 := Value.agg.inj this
      have h5 := congrArg Array.toList h4
      exact congrArg (fun l : List Value => l[j]?) h5
    have e1 : (a : Int) = a' := (Value.int.inj (Option.some.inj (h3 0))).2
    have e2 : (b : Int) = b' := (Value.int.inj (Option.some.inj (h3 1))).2
    have e3 : (c : Int) = c' := (Value.int.inj (Option.some.inj (h3 2))).2
    have e4 : (d : Int) = d' := (Value.int.inj (Option.some.inj (h3 3))).2
    have e5 : (f : Int) = f' := (Value.int.inj (Option.some.inj (h3 4))).2
    rw [Int.ofNat_inj.1 e1, Int.ofNat_inj.1 e2, Int.ofNat_inj.1 e3, Int.ofNat_inj.1 e4, Int.ofNat_inj.1 e5]

/-- what the map holds of the entries -/
structure MapR (D : DataW Unit) (L : List En) : Prop where
  hit : ∀ (i : Nat) (e : En), L[i]? = some e → Maps.has D (ruK e.ru) = true ∧ ∀ z, D.atKey (ruK e.ru) z = .lit (.int .i64 ((i + 1 : Nat) : Int))
  miss : ∀ r, RuWf r → r ∉ L.map (·.ru) → Maps.has D (ruK r) = false

theorem mapR_nil : MapR (.map []) [] := ⟨fun i e h => by simp at h, fun r hr h => rfl⟩
theorem MapR.put {D : DataW Unit} {L : List En} (h : MapR D L) (hD : IsMap D) (hL : ∀ x ∈ L, RuWf x.ru) {e : En} (he : RuWf e.ru) (hn : e.ru ∉ L.map (·.ru)) : MapR (D.put (ruK e.ru) (.lit (.int .i64 ((L.length + 1 : Nat) : Int)))) (L ++ [e]) := by
  refine ⟨fun i x hx => ?_, fun r hr hm => ?_⟩
  · rcases snoc_get hx with ⟨_, h1⟩ | ⟨rfl, rfl⟩
    · have hne : ruK x.ru ≠ ruK e.ru := fun e2 => hn (by
        rw [← ruK_inj (hL x (List.mem_of_getElem? h1)) he e2]
        exact List.mem_map.2 ⟨x, List.mem_of_getElem? h1, rfl⟩)
      obtain ⟨g1, g2⟩ := h.hit i x h1
      exact ⟨by rw [has_put_other hne]; exact g1, fun z => by rw [atKey_put_other hne]; exact g2 z⟩
    · exact ⟨has_put_same hD (ruK_key he) _, fun z => atKey_put_same hD (ruK_key he) _ _⟩
  · rw [List.map_append] at hm
    have h1 : r ∉ L.map (·.ru) := fun h => hm (List.mem_append.2 (.inl h))
    have hne : ruK r ≠ ruK e.ru := fun e2 => hm (List.mem_append.2 (.inr (by rw [ruK_inj hr he e2]; simp)))
    rw [has_put_other hne]
    exact h.miss r hr h1

theorem ruOk_wf {L : List En} {i : Nat} {e : En} (h : RuOk L i e) (hi : i < 9223372036854775808) : RuWf e.ru := by
  rcases h with ⟨a, b, c, d, f⟩ | ⟨a, b, c, d, f, g, h⟩ | ⟨a, b, c, d, f, g, h⟩
  · exact ⟨by omega, by omega, by omega, by omega, by omega⟩
  · exact ⟨by omega, by omega, by omega, by omega, by omega⟩
  · exact ⟨by omega, by omega, by omega, by omega, by omega⟩

/-- an entry as cells -/
def enC (e : En) : List Value := ruC e.ru ++ weCs e.we ++ [.int .i64 (e.depth : Nat), .bool e.even]
def enCs (L : List En) : List Value := L.flatMap enC
theorem enC_len (e : En) : (enC e).length = 13 := rfl
theorem enCs_len (L : List En) : (enCs L).length = L.length * 13 := by
  induction L with
  | nil => rfl
  | cons e L ih => simp only [enCs, List.flatMap_cons, List.length_append, enC_len, List.length_cons] at ih ⊢; rw [ih]; omega
theorem enCs_get : ∀ (L : List En) (i j : Nat) (e : En) (v : Value), L[i]? = some e → (enC e)[j]? = some v → (enCs L)[i * 13 + j]? = some v
  | [], i, j, e, v, h, _ => by simp at h
  | x :: L, 0, j, e, v, h, hv => by
    simp at h; subst h
    have : j < (enC x).length := (List.getElem?_eq_some_iff.1 hv).1
    show (enC x ++ enCs L)[0 * 13 + j]? = some v
    rw [Nat.zero_mul, Nat.zero_add, List.getElem?_append_left this]; exact hv
  | x :: L, i + 1, j, e, v, h, hv => by
    show (enC x ++ enCs L)[(i + 1) * 13 + j]? = some v
    rw [List.getElem?_append_right (by rw [enC_len]; omega), enC_len, show (i + 1) * 13 + j - 13 = i * 13 + j by omega]
    exact enCs_get L i j e v (by simpa using h) hv

/-- the store at block bs -/
structure SI (B : Nat) (w : World) (bs : Nat) (most : Nat) (L : List En) : Prop where
  st : ∃ a c bm, BX w bs [.int .i64 (most : Nat), .slice a L.length c, .map (some bm)] ∧ Row w B 74 13 (.slice a L.length c) L.length (enCs L) ∧
    (∃ D : DataW Unit, w.ownsMap Try.prog 67 (plainElem Try.prog 39) bm L.length D ∧ MapR D L) ∧ (∀ g, a = some ⟨g, 0, none⟩ → g ≠ bs ∧ g ≠ bm) ∧ bm ≠ bs ∧ B ≤ bm ∧ bm < w.heap.size
  bB : B ≤ bs
  good : Good L
  room : L.length ≤ most ∧ most ≤ 1048576

end Go.Proofs.Ytflgmodofemifaa

/- PLAIN LAW of the literal machine: words, their order, the longest suffix in a set of words that holds all its prefixes, the machine of a set of words, the search that finds them in order. -/
namespace Go.Proofs.Ytflgmodofemifaa
set_option linter.unusedVariables false
set_option linter.unusedSimpArgs false

/-- lexicographic, for words of one length -/
def llt : List Int → List Int → Bool
  | a :: s, b :: t => decide (a < b) || (a == b && llt s t)
  | _, _ => false
/-- by length, then bytewise -/
def wlt (a b : List Int) : Prop := a.length < b.length ∨ (a.length = b.length ∧ llt a b = true)

theorem llt_irrefl : ∀ a, llt a a = false
  | [] => rfl
  | a :: s => by simp [llt, llt_irrefl s]
theorem llt_trans : ∀ {a b c : List Int}, llt a b = true → llt b c = true → llt a c = true
  | [], _, _, h, _ => by simp [llt] at h
  | _ :: _, [], _, h, _ => by simp [llt] at h
  | _ :: _, _ :: _, [], _, h => by simp [llt] at h
  | a :: s, b :: t, c :: u, h, k => by
    simp only [llt, Bool.or_eq_true, decide_eq_true_eq, Bool.and_eq_true, beq_iff_eq] at *
    rcases h with h | ⟨rfl, h⟩ <;> rcases k with k | ⟨rfl, k⟩
    · exact .inl (by omega)
    · exact .inl h
    · exact .inl k
    · exact .inr ⟨rfl, llt_trans h k⟩
theorem llt_total : ∀ {a b : List Int}, a.length = b.length → a ≠ b → llt a b = true ∨ llt b a = true
  | [], [], _, h => absurd rfl h
  | [], _ :: _, h, _ => by simp at h
  | _ :: _, [], h, _ => by simp at h
  | a :: s, b :: t, h, hn => by
    simp only [llt, Bool.or_eq_true, decide_eq_true_eq, Bool.and_eq_true, beq_iff_eq]
    by_cases e : a = b
    · subst e
      rcases llt_total (a := s) (b := t) (by simpa using h) (fun e => hn (by rw [e])) with k | k
      · exact .inl (.inr ⟨rfl, k⟩)
      · exact .inr (.inr ⟨rfl, k⟩)
    · rcases Int.lt_or_gt_of_ne e with k | k
      · exact .inl (.inl k)
      · exact .inr (.inl k)
theorem llt_snoc : ∀ {s t : List Int} (a b : Int), llt s t = true → llt (s ++ [a]) (t ++ [b]) = true
  | [], _, _, _, h => by simp [llt] at h
  | _ :: _, [], _, _, h => by simp [llt] at h
  | x :: s, y :: t, a, b, h => by
    simp only [List.cons_append, llt, Bool.or_eq_true, decide_eq_true_eq, Bool.and_eq_true, beq_iff_eq] at *
    rcases h with h | ⟨rfl, h⟩
    · exact .inl h
    · exact .inr ⟨rfl, llt_snoc a b h⟩
theorem llt_snoc_same : ∀ {s : List Int} {a b : Int}, a < b → llt (s ++ [a]) (s ++ [b]) = true
  | [], a, b, h => by simp [llt, h]
  | x :: s, a, b, h => by simp [llt, llt_snoc_same h]

theorem wlt_irrefl (a : List Int) : ¬ wlt a a := by
  rintro (h | ⟨_, h⟩)
  · omega
  · rw [llt_irrefl] at h; cases h
theorem wlt_trans {a b c : List Int} (h : wlt a b) (k : wlt b c) : wlt a c := by
  rcases h with h | ⟨h, h2⟩ <;> rcases k with k | ⟨k, k2⟩
  · exact .inl (by omega)
  · exact .inl (by omega)
  · exact .inl (by omega)
  · exact .inr ⟨by omega, llt_trans h2 k2⟩
theorem wlt_total {a b : List Int} (h : a ≠ b) : wlt a b ∨ wlt b a := by
  rcases Nat.lt_trichotomy a.length b.length with k | k | k
  · exact .inl (.inl k)
  · rcases llt_total k h with m | m
    · exact .inl (.inr ⟨k, m⟩)
    · exact .inr (.inr ⟨k.symm, m⟩)
  · exact .inr (.inl k)
theorem wlt_snoc {s t : List Int} (a b : Int) (h : wlt s t) : wlt (s ++ [a]) (t ++ [b]) := by
  rcases h with h | ⟨h, h2⟩
  · exact .inl (by simpa using h)
  · exact .inr ⟨by simpa using h, llt_snoc a b h2⟩
theorem wlt_snoc_same {s : List Int} {a b : Int} (h : a < b) : wlt (s ++ [a]) (s ++ [b]) := .inr ⟨by simp, llt_snoc_same h⟩
theorem wlt_nil {s : List Int} (h : s ≠ []) : wlt [] s := .inl (by cases s <;> simp_all)
theorem wlt_len {s t : List Int} (h : s.length < t.length) : wlt s t := .inl h

/-- two sorted lists of the same words are one -/
theorem sorted_unique : ∀ {l m : List (List Int)}, l.Pairwise wlt → m.Pairwise wlt → (∀ x, x ∈ l ↔ x ∈ m) → l = m
  | [], [], _, _, _ => rfl
  | [], b :: m, _, _, h => by have := (h b).2 (by simp); simp at this
  | a :: l, [], _, _, h => by have := (h a).1 (by simp); simp at this
  | a :: l, b :: m, hl, hm, h => by
    obtain ⟨la, lr⟩ := List.pairwise_cons.1 hl
    obtain ⟨ma, mr⟩ := List.pairwise_cons.1 hm
    have e : a = b := by
      refine Classical.byContradiction fun hne => ?_
      have h1 : a ∈ m := by rcases List.mem_cons.1 ((h a).1 (by simp)) with k | k; exact absurd k hne; exact k
      have h2 : b ∈ l := by rcases List.mem_cons.1 ((h b).2 (by simp)) with k | k; exact absurd k.symm hne; exact k
      exact wlt_irrefl a (wlt_trans (la b h2) (ma a h1))
    subst e
    rw [sorted_unique lr mr fun x => ?_]
    constructor
    · intro hx
      rcases List.mem_cons.1 ((h x).1 (by simp [hx])) with k | k
      · subst k; exact absurd (la x hx) (wlt_irrefl x)
      · exact k
    · intro hx
      rcases List.mem_cons.1 ((h x).2 (by simp [hx])) with k | k
      · subst k; exact absurd (ma x hx) (wlt_irrefl x)
      · exact k
theorem sorted_nodup {l : List (List Int)} (h : l.Pairwise wlt) : l.Nodup := h.imp (fun {a b} k e => by subst e; exact wlt_irrefl a k)

theorem nodup_sub_len {α : Type} [DecidableEq α] : ∀ {l m : List α}, l.Nodup → (∀ x ∈ l, x ∈ m) → l.length ≤ m.length
  | [], _, _, _ => by simp
  | a :: l, m, hn, hs => by
    obtain ⟨h1, h2⟩ := List.nodup_cons.1 hn
    have := nodup_sub_len (m := m.erase a) h2 (fun x hx => (List.mem_erase_of_ne (fun e => h1 (by rw [← e]; exact hx))).2 (hs x (by simp [hx])))
    have hm : a ∈ m := hs a (by simp)
    have h3 := List.length_erase_of_mem hm
    have h4 := List.length_pos_of_mem hm
    simp only [List.length_cons]
    omega

/-- the longest suffix that is in W -/
def lsuf (W : List (List Int)) : List Int → List Int
  | [] => []
  | a :: t => if a :: t ∈ W then a :: t else lsuf W t
/-- W holds all prefixes of its words, [] too -/
structure Closed (W : List (List Int)) : Prop where
  nil : [] ∈ W
  pre : ∀ {u : List Int} {b : Int}, u ++ [b] ∈ W → u ∈ W

theorem Closed.cut {W : List (List Int)} (h : Closed W) : ∀ (n : Nat) {u v : List Int}, v.length = n → u ++ v ∈ W → u ∈ W
  | 0, u, v, hn, hv => by have : v = [] := List.eq_nil_of_length_eq_zero hn; subst this; simpa using hv
  | n + 1, u, v, hn, hv => by
    have hne : v ≠ [] := by intro e; subst e; simp at hn
    have e := List.dropLast_concat_getLast hne
    rw [← e, ← List.append_assoc] at hv
    exact h.cut n (by rw [List.length_dropLast, hn]; rfl) (h.pre hv)
theorem lsuf_mem {W : List (List Int)} (h : [] ∈ W) : ∀ u, lsuf W u ∈ W
  | [] => h
  | a :: t => by unfold lsuf; split; assumption; exact lsuf_mem h t
theorem lsuf_self {W : List (List Int)} {u : List Int} (h : u ∈ W) : lsuf W u = u := by
  cases u with
  | nil => rfl
  | cons a t => unfold lsuf; rw [if_pos h]
theorem lsuf_len (W : List (List Int)) : ∀ u, (lsuf W u).length ≤ u.length
  | [] => Nat.le_refl _
  | a :: t => by unfold lsuf; split; exact Nat.le_refl _; have := lsuf_len W t; simp; omega
theorem lsuf_suffix (W : List (List Int)) : ∀ u, lsuf W u <:+ u
  | [] => List.suffix_refl _
  | a :: t => by unfold lsuf; split; exact List.suffix_refl _; exact (lsuf_suffix W t).trans (List.suffix_cons a t)
theorem lsuf_snoc {W : List (List Int)} (h : Closed W) (b : Int) : ∀ u, lsuf W (u ++ [b]) = lsuf W (lsuf W u ++ [b])
  | [] => rfl
  | a :: t => by
    by_cases hm : a :: t ∈ W
    · rw [lsuf_self hm]
    · have e1 : lsuf W (a :: t) = lsuf W t := by rw [lsuf, if_neg hm]
      rw [e1, ← lsuf_snoc h b t]
      show lsuf W (a :: (t ++ [b])) = _
      rw [lsuf, if_neg]
      intro hc
      exact hm (h.pre (u := a :: t) hc)
theorem suffix_lsuf {W : List (List Int)} {p : List Int} (hp : p ∈ W) : ∀ u, p <:+ u ↔ p <:+ lsuf W u
  | [] => Iff.rfl
  | a :: t => by
    by_cases hm : a :: t ∈ W
    · rw [lsuf_self hm]
    · have e1 : lsuf W (a :: t) = lsuf W t := by rw [lsuf, if_neg hm]
      rw [e1, ← suffix_lsuf hp t, List.suffix_cons_iff]
      constructor
      · rintro (rfl | k)
        · exact absurd hp hm
        · exact k
      · exact .inr
theorem lsuf_congr {W W' : List (List Int)} (h : ∀ x, x ∈ W ↔ x ∈ W') : ∀ u, lsuf W u = lsuf W' u
  | [] => rfl
  | a :: t => by
    unfold lsuf
    by_cases hm : a :: t ∈ W
    · rw [if_pos hm, if_pos ((h _).1 hm)]
    · rw [if_neg hm, if_neg (fun k => hm ((h _).2 k)), lsuf_congr h t]
theorem lsuf_tail_step {W : List (List Int)} (h : Closed W) {u : List Int} {b : Int} (hu : u ≠ []) (hn : u ++ [b] ∉ W) : lsuf W (u ++ [b]) = lsuf W (lsuf W u.tail ++ [b]) := by
  cases u with
  | nil => exact absurd rfl hu
  | cons a t =>
    rw [List.tail_cons, ← lsuf_snoc h]
    show lsuf W (a :: (t ++ [b])) = _
    rw [lsuf, if_neg (show a :: (t ++ [b]) ∉ W from hn)]
theorem lsuf_nil_step {W : List (List Int)} {b : Int} (hn : [b] ∉ W) : lsuf W [b] = [] := by
  rw [lsuf, if_neg hn]; rfl

/-- how many of the patterns are suffixes -/
def cnt (ps : List (List Int)) (x : List Int) : Nat := (ps.filter (fun p => decide (p <:+ x))).length
/-- how many of the patterns are the word -/
def eqs (ps : List (List Int)) (x : List Int) : Nat := (ps.filter (fun p => p == x)).length

theorem cnt_lsuf {W ps : List (List Int)} (h : ∀ p ∈ ps, p ∈ W) (u : List Int) : cnt ps u = cnt ps (lsuf W u) := by
  unfold cnt
  congr 1
  refine List.filter_congr fun p hp => ?_
  simp only [decide_eq_decide]
  exact suffix_lsuf (h p hp) u
theorem cnt_split {W ps : List (List Int)} (h : ∀ p ∈ ps, p ∈ W) {u : List Int} (hu : u ≠ []) : cnt ps u = eqs ps u + cnt ps (lsuf W u.tail) := by
  rw [← cnt_lsuf h]
  unfold cnt eqs
  clear h
  induction ps with
  | nil => rfl
  | cons p ps ih =>
    simp only [List.filter_cons]
    cases u with
    | nil => exact absurd rfl hu
    | cons a t =>
      by_cases e : p = a :: t
      · have h1 : ¬ p <:+ t := fun k => by have := k.length_le; rw [e, List.length_cons] at this; omega
        have h2 : p <:+ a :: t := e ▸ List.suffix_refl _
        simp only [List.tail_cons] at ih ⊢
        simp [e, h2, ih]
        rw [if_neg (by rw [← e]; exact h1)]
        omega
      · have h0 : (p <:+ a :: t) ↔ p <:+ t := by rw [List.suffix_cons_iff]; constructor; rintro (k | k); exact absurd k e; exact k; exact .inr
        simp only [List.tail_cons] at ih ⊢
        by_cases h1 : p <:+ t
        · simp [e, h0, h1, ih]; omega
        · simp [e, h0, h1, ih]
theorem cnt_le (ps : List (List Int)) (x : List Int) : cnt ps x ≤ ps.length := List.length_filter_le _ _
theorem cnt_nil {ps : List (List Int)} : cnt ps [] = eqs ps [] := by
  unfold cnt eqs
  congr 1
  refine List.filter_congr fun p hp => ?_
  rw [Bool.eq_iff_iff]; simp

end Go.Proofs.Ytflgmodofemifaa

/- PLAIN LAW: the search through a set of words that holds its prefixes: in which order it finds them, where each falls, the rows of the machine. -/
namespace Go.Proofs.Ytflgmodofemifaa
set_option linter.unusedVariables false
set_option linter.unusedSimpArgs false

/-- the search stands at word k of those that it has found -/
structure Bfs (W : List (List Int)) (k : Nat) (S : List (List Int)) : Prop where
  hd : S.getD 0 [0] = []
  srt : S.Pairwise wlt
  mem : ∀ x ∈ S, x ∈ W
  kle : k ≤ S.length
  par : ∀ x ∈ S, x ≠ [] → x.dropLast ∈ S.take k
  all : ∀ u b, u ∈ S.take k → u ++ [b] ∈ W → u ++ [b] ∈ S

/-- .. and has tried the letters of l1 behind it -/
structure BfsIn (W : List (List Int)) (k : Nat) (S : List (List Int)) (u : List Int) (l1 : List Int) : Prop where
  hd : S.getD 0 [0] = []
  srt : S.Pairwise wlt
  mem : ∀ x ∈ S, x ∈ W
  klt : k < S.length
  at_ : S.getD k [] = u
  par : ∀ x ∈ S, x ≠ [] → x.dropLast ∈ S.take k ∨ ∃ b ∈ l1, x = u ++ [b]
  all : ∀ v b, v ∈ S.take k → v ++ [b] ∈ W → v ++ [b] ∈ S
  kid : ∀ b ∈ l1, u ++ [b] ∈ W → u ++ [b] ∈ S

theorem hd_len {S : List (List Int)} (h : S.getD 0 [0] = []) : 0 < S.length := by cases S with | nil => simp at h | cons a t => simp
theorem getD_any {α : Type} {S : List α} {i : Nat} (h : i < S.length) (d e : α) : S.getD i d = S.getD i e := by simp [List.getD, h]
theorem getD_mem' {α : Type} {l : List α} {d : α} {i : Nat} (h : i < l.length) : l.getD i d ∈ l := by simp [List.getD, h]

theorem sorted_lt {S : List (List Int)} (h : S.Pairwise wlt) {i j : Nat} (hij : i < j) (hj : j < S.length) : wlt (S.getD i []) (S.getD j []) := by
  have := List.pairwise_iff_getElem.1 h i j (by omega) hj hij
  simpa [List.getD, hj, show i < S.length by omega] using this
theorem sorted_inj {S : List (List Int)} (h : S.Pairwise wlt) {i j : Nat} (hi : i < S.length) (hj : j < S.length) (hw : wlt (S.getD i []) (S.getD j [])) : i < j := by
  rcases Nat.lt_trichotomy i j with k | k | k
  · exact k
  · subst k; exact absurd hw (wlt_irrefl _)
  · exact absurd (wlt_trans hw (sorted_lt h k hi)) (wlt_irrefl _)
theorem mem_getD {α : Type} [BEq α] [LawfulBEq α] {S : List α} {x d : α} (h : x ∈ S) : S.idxOf x < S.length ∧ S.getD (S.idxOf x) d = x := by
  have h1 := List.idxOf_lt_length_of_mem h
  refine ⟨h1, ?_⟩
  simp [List.getD, h1]
theorem idx_getD {S : List (List Int)} (h : S.Nodup) {i : Nat} (hi : i < S.length) : S.idxOf (S.getD i []) = i := by
  have := List.Nodup.idxOf_getElem h i hi
  simpa [List.getD, hi] using this
theorem idx_app {α : Type} [BEq α] [LawfulBEq α] {S : List α} {x : α} (h : x ∈ S) (T : List α) : (S ++ T).idxOf x = S.idxOf x := by
  rw [List.idxOf_append, if_pos h]
theorem idx_new {α : Type} [BEq α] [LawfulBEq α] {S : List α} {x : α} (h : x ∉ S) : (S ++ [x]).idxOf x = S.length := by
  rw [List.idxOf_append, if_neg h]; simp
theorem mem_take_iff {S : List (List Int)} (hn : S.Nodup) {x : List Int} {k : Nat} : x ∈ S.take k ↔ x ∈ S ∧ S.idxOf x < k := by
  constructor
  · intro h
    have h1 : x ∈ S := List.mem_of_mem_take h
    refine ⟨h1, ?_⟩
    have h2 := List.idxOf_lt_length_of_mem h
    have h3 : S.idxOf x = (S.take k).idxOf x := by
      conv => lhs; rw [← List.take_append_drop k S]
      exact idx_app h _
    rw [h3]
    rw [List.length_take] at h2
    omega
  · rintro ⟨h1, h2⟩
    have ⟨h3, h4⟩ := mem_getD (d := []) h1
    rw [← h4]
    have : (S.take k).getD (S.idxOf x) [] = S.getD (S.idxOf x) [] := by simp [List.getD, h2]
    rw [← this]
    exact getD_mem' (by rw [List.length_take]; omega)

theorem snoc_of_ne {x : List Int} (h : x ≠ []) : ∃ b, x = x.dropLast ++ [b] := ⟨x.getLast h, (List.dropLast_concat_getLast h).symm⟩

theorem Bfs.start {W : List (List Int)} (h : Closed W) : Bfs W 0 [[]] := by
  refine ⟨rfl, by simp, fun x hx => ?_, by simp, fun x hx hn => ?_, fun u b hu => by simp at hu⟩
  · rw [List.mem_singleton] at hx; subst hx; exact h.nil
  · rw [List.mem_singleton] at hx; exact absurd hx hn

theorem Bfs.enter {W S : List (List Int)} {k : Nat} (h : Bfs W k S) (hk : k < S.length) : BfsIn W k S (S.getD k []) [] :=
  ⟨h.hd, h.srt, h.mem, hk, rfl, fun x hx hn => .inl (h.par x hx hn), h.all, fun b hb => by simp at hb⟩

theorem BfsIn.new {W S : List (List Int)} {k : Nat} {u l1 : List Int} {b : Int} (h : BfsIn W k S u l1) (hl : ∀ c ∈ l1, c < b) : ∀ x ∈ S, wlt x (u ++ [b]) := by
  intro x hx
  by_cases hn : x = []
  · subst hn; exact wlt_nil (by simp)
  · rcases h.par x hx hn with k1 | ⟨c, hc, rfl⟩
    · obtain ⟨c, e⟩ := snoc_of_ne hn
      rw [e]
      refine wlt_snoc c b ?_
      obtain ⟨m1, m2⟩ := (mem_take_iff (sorted_nodup h.srt)).1 k1
      have ⟨g1, g2⟩ := mem_getD (d := []) m1
      have := sorted_lt h.srt m2 h.klt
      rw [g2, h.at_] at this
      exact this
    · exact wlt_snoc_same (hl c hc)

theorem BfsIn.hit {W S : List (List Int)} {k : Nat} {u l1 : List Int} {b : Int} (h : BfsIn W k S u l1) (hl : ∀ c ∈ l1, c < b) (hw : u ++ [b] ∈ W) : BfsIn W k (S ++ [u ++ [b]]) u (l1 ++ [b]) ∧ u ++ [b] ∉ S := by
  have hnew := h.new hl
  have hk := h.klt
  have hlen := hd_len h.hd
  have htk : (S ++ [u ++ [b]]).take k = S.take k := by rw [List.take_append, show k - S.length = 0 by omega]; simp
  refine ⟨⟨?_, ?_, ?_, by simp; omega, ?_, ?_, ?_, ?_⟩, fun hc => wlt_irrefl _ (hnew _ hc)⟩
  · have := h.hd; simp only [List.getD, List.getElem?_append, hlen] at *; simpa using this
  · rw [List.pairwise_append]
    exact ⟨h.srt, by simp, fun x hx y hy => by rw [List.mem_singleton] at hy; subst hy; exact hnew x hx⟩
  · intro x hx
    rcases List.mem_append.1 hx with hx | hx
    · exact h.mem x hx
    · rw [List.mem_singleton] at hx; subst hx; exact hw
  · have := h.at_; simp only [List.getD, List.getElem?_append, hk] at *; simpa using this
  · intro x hx hn
    rw [htk]
    rcases List.mem_append.1 hx with hx | hx
    · rcases h.par x hx hn with k1 | ⟨c, hc, e⟩
      · exact .inl k1
      · exact .inr ⟨c, by simp [hc], e⟩
    · rw [List.mem_singleton] at hx; exact .inr ⟨b, by simp, hx⟩
  · intro v c hv hm
    rw [htk] at hv
    exact List.mem_append.2 (.inl (h.all v c hv hm))
  · intro c hc hm
    rcases List.mem_append.1 hc with hc | hc
    · exact List.mem_append.2 (.inl (h.kid c hc hm))
    · rw [List.mem_singleton] at hc; subst hc; simp
theorem BfsIn.miss {W S : List (List Int)} {k : Nat} {u l1 : List Int} {b : Int} (h : BfsIn W k S u l1) (hw : u ++ [b] ∉ W) : BfsIn W k S u (l1 ++ [b]) := by
  refine ⟨h.hd, h.srt, h.mem, h.klt, h.at_, fun x hx hn => ?_, h.all, fun c hc hm => ?_⟩
  · rcases h.par x hx hn with k1 | ⟨c, hc, e⟩
    · exact .inl k1
    · exact .inr ⟨c, by simp [hc], e⟩
  · rcases List.mem_append.1 hc with hc | hc
    · exact h.kid c hc hm
    · rw [List.mem_singleton] at hc; subst hc; exact absurd hm hw
theorem take_succ_mem {S : List (List Int)} {k : Nat} {x : List Int} (h : x ∈ S.take (k + 1)) (hk : k < S.length) : x ∈ S.take k ∨ x = S.getD k [] := by
  rw [List.take_succ_eq_append_getElem hk] at h
  rcases List.mem_append.1 h with h | h
  · exact .inl h
  · rw [List.mem_singleton] at h; exact .inr (by rw [h]; simp [List.getD, hk])
theorem BfsIn.leave {W S : List (List Int)} {k : Nat} {u L : List Int} (h : BfsIn W k S u L) (hL : ∀ b, u ++ [b] ∈ W → b ∈ L) : Bfs W (k + 1) S := by
  have hk := h.klt
  have hum : u ∈ S.take (k + 1) := by
    rw [List.take_succ_eq_append_getElem hk, List.mem_append]
    right
    have := h.at_
    simp only [List.getD, hk, List.getElem?_eq_getElem, Option.getD_some] at this
    simp [this]
  refine ⟨h.hd, h.srt, h.mem, by omega, fun x hx hn => ?_, fun v b hv hm => ?_⟩
  · rcases h.par x hx hn with k1 | ⟨c, hc, rfl⟩
    · exact (mem_take_iff (sorted_nodup h.srt)).2 ⟨((mem_take_iff (sorted_nodup h.srt)).1 k1).1, by have := ((mem_take_iff (sorted_nodup h.srt)).1 k1).2; omega⟩
    · simpa using hum
  · rcases take_succ_mem hv hk with hv | rfl
    · exact h.all v b hv hm
    · rw [h.at_] at hm ⊢
      exact h.kid b (hL b hm) hm
theorem Bfs.done {W S : List (List Int)} (hW : Closed W) (h : Bfs W S.length S) : ∀ x, x ∈ S ↔ x ∈ W := by
  intro x
  refine ⟨h.mem x, ?_⟩
  suffices ∀ n (x : List Int), x.length = n → x ∈ W → x ∈ S from this _ x rfl
  intro n
  induction n with
  | zero =>
    intro x hx _
    have hx0 : x = [] := List.eq_nil_of_length_eq_zero hx
    have h0 := h.hd
    have := getD_mem' (l := S) (d := [0]) (hd_len h0)
    rw [h0] at this
    rw [hx0]; exact this
  | succ n ih =>
    intro x hx hw
    obtain ⟨b, e⟩ := snoc_of_ne (x := x) (by intro e; subst e; simp at hx)
    rw [e] at hw ⊢
    refine h.all _ b ?_ hw
    rw [List.take_length]
    exact ih _ (by rw [List.length_dropLast, hx]; rfl) (hW.pre hw)

/-- words of the set that are shorter than one that was found have been found -/
theorem Bfs.short {W S : List (List Int)} {k : Nat} (hW : Closed W) (h : Bfs W k S) : ∀ (n j : Nat) (w : List Int), w.length = n → j < S.length → w ∈ W → n < (S.getD j []).length → w ∈ S
  | 0, j, w, hn, hj, hw, hlt => by
    have hx0 : w = [] := List.eq_nil_of_length_eq_zero hn
    have h0 := h.hd
    have := getD_mem' (l := S) (d := [0]) (hd_len h0)
    rw [h0] at this
    rw [hx0]; exact this
  | n + 1, j, w, hn, hj, hw, hlt => by
    obtain ⟨b, e⟩ := snoc_of_ne (x := w) (by intro e; subst e; simp at hn)
    have hj2 : S.getD j [] ≠ [] := by intro e; rw [e] at hlt; simp at hlt
    have hp := h.par _ (getD_mem' (l := S) (d := []) hj) hj2
    obtain ⟨m1, m2⟩ := (mem_take_iff (sorted_nodup h.srt)).1 hp
    have hl : (S.getD j []).dropLast.length = (S.getD j []).length - 1 := List.length_dropLast
    have hwl : w.dropLast.length = n := by rw [List.length_dropLast, hn]; rfl
    have hwW : w.dropLast ∈ W := hW.pre (e ▸ hw)
    have hws := Bfs.short hW h n j _ hwl hj hwW (by omega)
    rw [e]
    refine h.all _ b ?_ (e ▸ hw)
    refine (mem_take_iff (sorted_nodup h.srt)).2 ⟨hws, ?_⟩
    obtain ⟨q1, q2⟩ := mem_getD (d := []) hws
    obtain ⟨r1, r2⟩ := mem_getD (d := []) m1
    have : S.idxOf w.dropLast < S.idxOf (S.getD j []).dropLast := sorted_inj h.srt q1 r1 (by rw [q2, r2]; exact wlt_len (by omega))
    omega
theorem Bfs.fall {W S : List (List Int)} {k : Nat} (hW : Closed W) (h : Bfs W k S) {j : Nat} (hj : j < S.length) : lsuf W (S.getD j []).tail ∈ S ∧ (0 < j → S.idxOf (lsuf W (S.getD j []).tail) < j) := by
  have hm := lsuf_mem hW.nil (S.getD j []).tail
  have hl := lsuf_len W (S.getD j []).tail
  by_cases he : S.getD j [] = []
  · rw [he]
    have h0 := h.hd
    have := getD_mem' (l := S) (d := [0]) (hd_len h0)
    rw [h0] at this
    refine ⟨this, fun hj0 => ?_⟩
    have := sorted_lt h.srt hj0 hj
    rw [he, getD_any (hd_len h0) [] [0], h0] at this
    exact absurd this (wlt_irrefl _)
  · have hpos : 0 < (S.getD j []).length := by cases hq : S.getD j [] with | nil => exact absurd hq he | cons a t => simp
    have ht : (S.getD j []).tail.length = (S.getD j []).length - 1 := List.length_tail
    have hs := h.short hW _ j _ rfl hj hm (by omega)
    refine ⟨hs, fun hj0 => ?_⟩
    obtain ⟨q1, q2⟩ := mem_getD (d := []) hs
    exact sorted_inj h.srt q1 hj (by rw [q2]; exact wlt_len (by omega))

/-- a step's longest suffix, once the word has been tried, has been found -/
theorem Bfs.step {W S : List (List Int)} {k : Nat} (hW : Closed W) (h : Bfs W k S) : ∀ (i : Nat), i < k → ∀ b, lsuf W (S.getD i [] ++ [b]) ∈ S := by
  intro i
  induction i using Nat.strongRecOn with
  | ind i ih =>
    intro hi b
    have hkl := h.kle
    have hum : S.getD i [] ∈ S.take k := (mem_take_iff (sorted_nodup h.srt)).2 ⟨getD_mem' (by omega), by rw [idx_getD (sorted_nodup h.srt) (by omega)]; exact hi⟩
    by_cases hw : S.getD i [] ++ [b] ∈ W
    · rw [lsuf_self hw]; exact h.all _ b hum hw
    · by_cases he : S.getD i [] = []
      · rw [he] at hw ⊢
        rw [List.nil_append, lsuf_nil_step hw]
        have h0 := h.hd
        have := getD_mem' (l := S) (d := [0]) (hd_len h0)
        rw [h0] at this; exact this
      · rw [lsuf_tail_step hW he hw]
        obtain ⟨m1, m2⟩ := h.fall hW (j := i) (by omega)
        have h0 : 0 < i := by
          rcases Nat.eq_zero_or_pos i with e | e
          · subst e; have := h.hd; rw [getD_any (hd_len this) [0] []] at this; exact absurd this he
          · exact e
        obtain ⟨q1, q2⟩ := mem_getD (d := []) m1
        have := ih _ (m2 h0) (by have := m2 h0; omega) b
        rw [q2] at this
        exact this

/-- the row of a word -/
def rowOf (W S : List (List Int)) (L : List Int) (u : List Int) : List Int := 0 :: L.map fun b => (S.idxOf (lsuf W (u ++ [b])) : Int)

/-- the search's lists: where each word falls, the rows, the hits -/
structure St (W : List (List Int)) (L : List Int) (ps : List (List Int)) (k : Nat) (S : List (List Int)) (F : List Int) (R : List (List Int)) (H : List Int) : Prop where
  bfs : Bfs W k S
  fl : F.length = S.length
  fv : ∀ i, i < S.length → F.getD i 0 = (S.idxOf (lsuf W (S.getD i []).tail) : Int)
  rl : R.length = k
  rv : ∀ i, i < k → R.getD i [] = rowOf W S L (S.getD i [])
  hl : H.length = k
  hv : ∀ i, i < k → H.getD i 0 = (cnt ps (S.getD i []) : Int)

/-- .. inside a word's round, letter j next -/
structure In (W : List (List Int)) (L : List Int) (ps : List (List Int)) (k j : Nat) (S : List (List Int)) (u : List Int) (F : List Int) (R : List (List Int)) (H : List Int) (row : List Int) : Prop where
  bfs : BfsIn W k S u (L.take j)
  fl : F.length = S.length
  fv : ∀ i, i < S.length → F.getD i 0 = (S.idxOf (lsuf W (S.getD i []).tail) : Int)
  rl : R.length = k
  rv : ∀ i, i < k → R.getD i [] = rowOf W S L (S.getD i [])
  rm : ∀ i, i < k → ∀ b, lsuf W (S.getD i [] ++ [b]) ∈ S
  hl : H.length = k
  hv : ∀ i, i < k → H.getD i 0 = (cnt ps (S.getD i []) : Int)
  wl : row.length = L.length + 1
  w0 : row.getD 0 0 = 0
  wv : ∀ c, c < L.length → row.getD (c + 1) 0 = (S.idxOf (if c < j then lsuf W (u ++ [L.getD c 0]) else lsuf W (u ++ [L.getD c 0]).tail) : Int)
  wm : ∀ c, c < L.length → lsuf W (u ++ [L.getD c 0]).tail ∈ S
  wd : ∀ c, c < j → lsuf W (u ++ [L.getD c 0]) ∈ S
  fm : ∀ i, i < S.length → lsuf W (S.getD i []).tail ∈ S

theorem St.start {W : List (List Int)} {L : List Int} {ps : List (List Int)} (h : Closed W) : St W L ps 0 [[]] [0] [] [] := by
  refine ⟨Bfs.start h, rfl, fun i hi => ?_, rfl, fun i hi => by omega, rfl, fun i hi => by omega⟩
  simp only [List.length_singleton] at hi
  obtain rfl : i = 0 := by omega
  simp [lsuf]

theorem fall_word {W : List (List Int)} (hW : Closed W) {u : List Int} (b : Int) : lsuf W (u ++ [b]).tail = if u = [] then [] else lsuf W (lsuf W u.tail ++ [b]) := by
  cases u with
  | nil => rfl
  | cons a t => rw [if_neg (by simp)]; show lsuf W (t ++ [b]) = _; rw [lsuf_snoc hW]; rfl
theorem lsuf_word {W : List (List Int)} {u : List Int} {b : Int} : lsuf W (u ++ [b]) = if u ++ [b] ∈ W then u ++ [b] else lsuf W (u ++ [b]).tail := by
  cases u with
  | nil => simp [lsuf]
  | cons a t => simp only [List.cons_append, lsuf, List.tail_cons]

theorem rowOf_getD {W S : List (List Int)} {L u : List Int} {c : Nat} (hc : c < L.length) : (rowOf W S L u).getD (c + 1) 0 = (S.idxOf (lsuf W (u ++ [L.getD c 0])) : Int) := by
  simp [rowOf, List.getD, hc]
theorem rowOf_congr {W S S' : List (List Int)} {L u : List Int} (h : ∀ b ∈ L, S.idxOf (lsuf W (u ++ [b])) = S'.idxOf (lsuf W (u ++ [b]))) : rowOf W S L u = rowOf W S' L u := by
  unfold rowOf
  congr 1
  exact List.map_congr_left fun b hb => by rw [h b hb]

/-- the row as the round begins -/
def baseRow (L : List Int) (k : Nat) (F : List Int) (R : List (List Int)) : List Int := if k = 0 then List.replicate (L.length + 1) 0 else R.getD (F.getD k 0).toNat []

theorem St.enter {W : List (List Int)} {L : List Int} {ps : List (List Int)} {k : Nat} {S : List (List Int)} {F : List Int} {R : List (List Int)} {H : List Int} (hW : Closed W) (h : St W L ps k S F R H) (hk : k < S.length) :
    In W L ps k 0 S (S.getD k []) F R H (baseRow L k F R) ∧ (0 < k → (F.getD k 0).toNat < k) := by
  have hf := h.bfs.fall hW hk
  have hfk : (F.getD k 0).toNat = S.idxOf (lsuf W (S.getD k []).tail) := by rw [h.fv k hk]; simp
  have hsm : S.getD k [] = [] ↔ k = 0 := by
    have h0 := h.bfs.hd
    rw [getD_any (hd_len h0) [0] []] at h0
    constructor
    · intro e
      rcases Nat.eq_zero_or_pos k with z | z
      · exact z
      · have := sorted_lt h.bfs.srt z hk
        rw [e, h0] at this; exact absurd this (wlt_irrefl _)
    · intro e; subst e; exact h0
  have hbase : ∀ c, c < L.length → lsuf W (S.getD k [] ++ [L.getD c 0]).tail ∈ S ∧ (baseRow L k F R).getD (c + 1) 0 = (S.idxOf (lsuf W (S.getD k [] ++ [L.getD c 0]).tail) : Int) := by
    intro c hc
    rw [fall_word hW]
    by_cases hk0 : k = 0
    · rw [if_pos (hsm.2 hk0)]
      have h0 := h.bfs.hd
      rw [getD_any (hd_len h0) [0] []] at h0
      have hm := getD_mem' (l := S) (d := []) (hd_len h.bfs.hd)
      rw [h0] at hm
      refine ⟨hm, ?_⟩
      have h2 := idx_getD (sorted_nodup h.bfs.srt) (hd_len h.bfs.hd)
      rw [h0] at h2
      rw [h2]
      unfold baseRow
      rw [if_pos hk0]
      simp [List.getD, hc]
    · rw [if_neg (fun e => hk0 (hsm.1 e))]
      have hlt := hf.2 (by omega)
      obtain ⟨q1, q2⟩ := mem_getD (d := []) hf.1
      have hst := h.bfs.step hW _ hlt (L.getD c 0)
      rw [q2] at hst
      refine ⟨hst, ?_⟩
      unfold baseRow
      rw [if_neg hk0, hfk, h.rv _ hlt, rowOf_getD hc, q2]
  refine ⟨⟨h.bfs.enter hk, h.fl, h.fv, h.rl, h.rv, fun i hi b => h.bfs.step hW i hi b, h.hl, h.hv, ?_, ?_, fun c hc => ?_, fun c hc => (hbase c hc).1, fun c hc => by omega, fun i hi => (h.bfs.fall hW hi).1⟩, fun h0 => by rw [hfk]; exact hf.2 h0⟩
  · unfold baseRow
    by_cases hk0 : k = 0
    · rw [if_pos hk0]; simp
    · rw [if_neg hk0, hfk, h.rv _ (hf.2 (by omega))]; simp [rowOf]
  · unfold baseRow
    by_cases hk0 : k = 0
    · rw [if_pos hk0]; simp [List.getD]
    · rw [if_neg hk0, hfk, h.rv _ (hf.2 (by omega))]; simp [rowOf]
  · rw [if_neg (by omega)]; exact (hbase c hc).2

theorem take_snoc_getD {L : List Int} {j : Nat} (hj : j < L.length) : L.take (j + 1) = L.take j ++ [L.getD j 0] := by
  rw [List.take_succ_eq_append_getElem hj]; simp [List.getD, hj]

theorem In.hit {W : List (List Int)} {L : List Int} {ps : List (List Int)} {k j : Nat} {S : List (List Int)} {u : List Int} {F : List Int} {R : List (List Int)} {H row : List Int} (hL : L.Pairwise (· < ·))
    (h : In W L ps k j S u F R H row) (hj : j < L.length) (hw : u ++ [L.getD j 0] ∈ W) : In W L ps k (j + 1) (S ++ [u ++ [L.getD j 0]]) u (F ++ [row.getD (j + 1) 0]) R H (row.set (j + 1) (S.length : Int)) := by
  have hlt : ∀ c ∈ L.take j, c < L.getD j 0 := by
    intro c hc
    obtain ⟨i, hi, rfl⟩ := List.getElem_of_mem hc
    rw [List.length_take] at hi
    have := List.pairwise_iff_getElem.1 hL i j (by omega) hj (by omega)
    simpa [List.getD, hj] using this
  obtain ⟨hb, hnot⟩ := h.bfs.hit hlt hw
  have hold : ∀ {x : List Int}, x ∈ S → (S ++ [u ++ [L.getD j 0]]).idxOf x = S.idxOf x := fun hx => idx_app hx _
  have hget : ∀ i, i < S.length → (S ++ [u ++ [L.getD j 0]]).getD i [] = S.getD i [] := fun i hi => by simp [List.getD, List.getElem?_append, hi]
  have hnewg : (S ++ [u ++ [L.getD j 0]]).getD S.length [] = u ++ [L.getD j 0] := by simp [List.getD]
  have hks := h.bfs.klt
  refine ⟨by rw [take_snoc_getD hj]; exact hb, by simp [h.fl], fun i hi => ?_, h.rl, fun i hi => ?_, fun i hi b => ?_, h.hl, fun i hi => ?_, by simp [h.wl], ?_, fun c hc => ?_, fun c hc => List.mem_append.2 (.inl (h.wm c hc)), fun c hc => ?_, fun i hi => ?_⟩
  · simp only [List.length_append, List.length_singleton] at hi
    by_cases hi2 : i < S.length
    · rw [hget i hi2, hold (h.fm i hi2), ← h.fv i hi2]
      simp [List.getD, List.getElem?_append, h.fl, hi2]
    · obtain rfl : i = S.length := by omega
      rw [hnewg, hold (h.wm j hj)]
      have := h.wv j hj
      rw [if_neg (by omega)] at this
      rw [← this]
      have e : (F ++ [row.getD (j + 1) 0]).getD S.length 0 = row.getD (j + 1) 0 := by rw [← h.fl]; simp [List.getD]
      exact e
  · rw [h.rv i hi, hget i (by omega)]
    exact rowOf_congr fun b hb => (hold (h.rm i hi b)).symm
  · rw [hget i (by omega)]
    exact List.mem_append.2 (.inl (h.rm i hi b))
  · rw [h.hv i hi, hget i (by omega)]
  · have := h.w0
    have hl := h.wl
    simp only [List.getD] at *
    rw [List.getElem?_set_ne (by omega)]
    exact this
  · by_cases hcj : c = j
    · subst hcj
      rw [if_pos (by omega), lsuf_self hw, idx_new hnot]
      have hl := h.wl
      simp [List.getD, show c + 1 < row.length by omega]
    · have e : (row.set (j + 1) (S.length : Int)).getD (c + 1) 0 = row.getD (c + 1) 0 := by
        simp only [List.getD]; rw [List.getElem?_set_ne (by omega)]
      rw [e, h.wv c hc]
      by_cases hc2 : c < j
      · rw [if_pos hc2, if_pos (by omega), hold (h.wd c hc2)]
      · rw [if_neg hc2, if_neg (by omega), hold (h.wm c hc)]
  · by_cases hcj : c = j
    · subst hcj; rw [lsuf_self hw]; simp
    · exact List.mem_append.2 (.inl (h.wd c (by omega)))
  · simp only [List.length_append, List.length_singleton] at hi
    by_cases hi2 : i < S.length
    · rw [hget i hi2]; exact List.mem_append.2 (.inl (h.fm i hi2))
    · obtain rfl : i = S.length := by omega
      rw [hnewg]; exact List.mem_append.2 (.inl (h.wm j hj))

theorem In.miss {W : List (List Int)} {L : List Int} {ps : List (List Int)} {k j : Nat} {S : List (List Int)} {u : List Int} {F : List Int} {R : List (List Int)} {H row : List Int}
    (h : In W L ps k j S u F R H row) (hj : j < L.length) (hw : u ++ [L.getD j 0] ∉ W) : In W L ps k (j + 1) S u F R H row := by
  refine ⟨by rw [take_snoc_getD hj]; exact h.bfs.miss hw, h.fl, h.fv, h.rl, h.rv, h.rm, h.hl, h.hv, h.wl, h.w0, fun c hc => ?_, h.wm, fun c hc => ?_, h.fm⟩
  · rw [h.wv c hc]
    by_cases hcj : c = j
    · subst hcj
      rw [if_neg (by omega), if_pos (by omega)]
      rw [lsuf_word (u := u), if_neg hw]
    · by_cases hc2 : c < j
      · rw [if_pos hc2, if_pos (by omega)]
      · rw [if_neg hc2, if_neg (by omega)]
  · by_cases hcj : c = j
    · subst hcj; rw [lsuf_word, if_neg hw]; exact h.wm c hj
    · exact h.wd c (by omega)

theorem In.fall {W : List (List Int)} {L : List Int} {ps : List (List Int)} {k j : Nat} {S : List (List Int)} {u : List Int} {F : List Int} {R : List (List Int)} {H row : List Int}
    (h : In W L ps k j S u F R H row) (h0 : 0 < k) : (F.getD k 0).toNat < k := by
  have hk := h.bfs.klt
  have hat := h.bfs.at_
  have hz := h.bfs.hd
  rw [getD_any (hd_len hz) [0] []] at hz
  have hun : u ≠ [] := by
    intro e2
    have := sorted_lt h.bfs.srt h0 hk
    rw [hz, hat, e2] at this; exact wlt_irrefl _ this
  have hm := h.fm k hk
  obtain ⟨q1, q2⟩ := mem_getD (d := []) hm
  have hfi : (F.getD k 0).toNat = S.idxOf (lsuf W u.tail) := by rw [h.fv k hk, hat]; simp
  rw [hat] at q1 q2
  rw [hfi]
  refine sorted_inj h.bfs.srt q1 hk ?_
  rw [q2, hat]
  refine wlt_len ?_
  have := lsuf_len W u.tail
  have h9 : u.tail.length = u.length - 1 := List.length_tail
  have : 0 < u.length := by cases u with | nil => exact absurd rfl hun | cons a t => simp
  omega

theorem In.leave {W : List (List Int)} {L : List Int} {ps : List (List Int)} {k : Nat} {S : List (List Int)} {u : List Int} {F : List Int} {R : List (List Int)} {H row : List Int}
    (hW : Closed W) (hps : ∀ p ∈ ps, p ∈ W) (hL : ∀ u b, u ++ [b] ∈ W → b ∈ L) (h : In W L ps k L.length S u F R H row) (c : Int) (hc : c = (eqs ps u : Int) + (if k = 0 then 0 else H.getD (F.getD k 0).toNat 0)) :
    St W L ps (k + 1) S F (R ++ [row]) (H ++ [c]) := by
  have hb := h.bfs
  rw [List.take_length] at hb
  have hk := hb.klt
  have hat := hb.at_
  refine ⟨hb.leave (hL u), h.fl, h.fv, by simp [h.rl], fun i hi => ?_, by simp [h.hl], fun i hi => ?_⟩
  · by_cases hik : i < k
    · have e : (R ++ [row]).getD i [] = R.getD i [] := by simp [List.getD, List.getElem?_append, h.rl, hik]
      rw [e]; exact h.rv i hik
    · obtain rfl : i = k := by omega
      have e : (R ++ [row]).getD i [] = row := by simp [List.getD, ← h.rl]
      rw [e, hat]
      refine List.ext_getElem (by simp [rowOf, h.wl]) fun m h1 h2 => ?_
      rcases m with _ | m
      · have h3 := h.w0
        simp only [List.getD, List.getElem?_eq_getElem h1, Option.getD_some] at h3
        rw [h3]; simp [rowOf]
      · have hm : m < L.length := by have := h.wl; omega
        have h3 := h.wv m hm
        rw [if_pos hm] at h3
        simp only [List.getD, List.getElem?_eq_getElem h1, Option.getD_some, List.getElem?_eq_getElem hm] at h3
        rw [h3]; simp [rowOf]
  · by_cases hik : i < k
    · have e : (H ++ [c]).getD i 0 = H.getD i 0 := by simp [List.getD, List.getElem?_append, h.hl, hik]
      rw [e]; exact h.hv i hik
    · obtain rfl : i = k := by omega
      have e : (H ++ [c]).getD i 0 = c := by simp [List.getD, ← h.hl]
      rw [e, hat, hc]
      have h0 := hb.hd
      rw [getD_any (hd_len h0) [0] []] at h0
      by_cases hi0 : i = 0
      · subst hi0
        rw [if_pos rfl, ← hat, h0, cnt_nil]; simp
      · rw [if_neg hi0]
        have hun : u ≠ [] := by
          intro e2
          have := sorted_lt hb.srt (show 0 < i by omega) hk
          rw [h0, hat, e2] at this; exact wlt_irrefl _ this
        have hm := h.fm i hk
        obtain ⟨q1, q2⟩ := mem_getD (d := []) hm
        have hfi : (F.getD i 0).toNat = S.idxOf (lsuf W u.tail) := by rw [h.fv i hk, hat]; simp
        rw [hat] at q1 q2
        have hlt : S.idxOf (lsuf W u.tail) < i := by
          refine sorted_inj hb.srt q1 hk ?_
          rw [q2, hat]
          refine wlt_len ?_
          have := lsuf_len W u.tail
          have h9 : u.tail.length = u.length - 1 := List.length_tail
          have : 0 < u.length := by cases u with | nil => exact absurd rfl hun | cons a t => simp
          omega
        rw [hfi, h.hv _ hlt, q2, cnt_split hps hun]
        simp

end Go.Proofs.Ytflgmodofemifaa

/- PLAIN LAW: the prefixes of patterns in order, the letters that occur, the trie that adds pattern by pattern; the machine and where it leads. -/
namespace Go.Proofs.Ytflgmodofemifaa
set_option linter.unusedVariables false
set_option linter.unusedSimpArgs false

instance (a b : List Int) : Decidable (wlt a b) := by unfold wlt; infer_instance

/-- a word laid into sorted words -/
def insW (p : List Int) : List (List Int) → List (List Int)
  | [] => [p]
  | x :: r => if wlt x p then x :: insW p r else if x = p then x :: r else p :: x :: r

theorem mem_insW (p : List Int) : ∀ (l : List (List Int)) (x : List Int), x ∈ insW p l ↔ x = p ∨ x ∈ l
  | [], x => by simp [insW]
  | y :: r, x => by
    unfold insW
    by_cases h : wlt y p
    · rw [if_pos h, List.mem_cons, mem_insW p r, List.mem_cons]
      constructor
      · rintro (h | h | h) <;> simp [h]
      · rintro (h | h | h) <;> simp [h]
    · rw [if_neg h]
      by_cases e : y = p
      · subst e; simp
      · rw [if_neg e]; simp
theorem insW_sorted (p : List Int) : ∀ (l : List (List Int)), l.Pairwise wlt → (insW p l).Pairwise wlt
  | [], _ => by simp [insW]
  | y :: r, h => by
    obtain ⟨h1, h2⟩ := List.pairwise_cons.1 h
    unfold insW
    by_cases hw : wlt y p
    · rw [if_pos hw, List.pairwise_cons]
      refine ⟨fun x hx => ?_, insW_sorted p r h2⟩
      rcases (mem_insW p r x).1 hx with rfl | hx
      · exact hw
      · exact h1 x hx
    · rw [if_neg hw]
      by_cases e : y = p
      · rw [if_pos e]; exact h
      · rw [if_neg e, List.pairwise_cons]
        have hp : wlt p y := (wlt_total e).resolve_left hw
        refine ⟨fun x hx => ?_, h⟩
        rcases List.mem_cons.1 hx with rfl | hx
        · exact hp
        · exact wlt_trans hp (h1 x hx)

/-- the first k prefixes of a pattern laid in -/
def insP (p : List Int) (o : List (List Int)) : Nat → List (List Int)
  | 0 => o
  | k + 1 => insW (p.take (k + 1)) (insP p o k)
/-- the prefixes of patterns, in order -/
def prefs (ps : List (List Int)) : List (List Int) := ps.foldl (fun o p => insP p o p.length) [[]]

theorem mem_insP (p : List Int) (o : List (List Int)) : ∀ k x, x ∈ insP p o k ↔ x ∈ o ∨ ∃ i, 0 < i ∧ i ≤ k ∧ x = p.take i
  | 0, x => by
    constructor
    · exact .inl
    · rintro (h | ⟨i, h1, h2, _⟩); exact h; omega
  | k + 1, x => by
    unfold insP
    rw [mem_insW, mem_insP p o k]
    constructor
    · rintro (rfl | h | ⟨i, h1, h2, h3⟩)
      · exact .inr ⟨k + 1, by omega, by omega, rfl⟩
      · exact .inl h
      · exact .inr ⟨i, h1, by omega, h3⟩
    · rintro (h | ⟨i, h1, h2, h3⟩)
      · exact .inr (.inl h)
      · by_cases e : i = k + 1
        · subst e; exact .inl h3
        · exact .inr (.inr ⟨i, h1, by omega, h3⟩)
theorem insP_sorted (p : List Int) (o : List (List Int)) (h : o.Pairwise wlt) : ∀ k, (insP p o k).Pairwise wlt
  | 0 => h
  | k + 1 => insW_sorted _ _ (insP_sorted p o h k)
theorem pre_iff {p x : List Int} : (∃ i, 0 < i ∧ i ≤ p.length ∧ x = p.take i) ↔ x ≠ [] ∧ x <+: p := by
  constructor
  · rintro ⟨i, h1, h2, rfl⟩
    refine ⟨?_, List.take_prefix i p⟩
    intro e
    have := congrArg List.length e
    rw [List.length_take] at this
    simp only [List.length_nil] at this
    omega
  · rintro ⟨h1, h2⟩
    refine ⟨x.length, ?_, h2.length_le, (List.prefix_iff_eq_take.1 h2)⟩
    cases x with | nil => exact absurd rfl h1 | cons a t => simp
theorem foldP {o : List (List Int)} : ∀ (ps : List (List Int)), o.Pairwise wlt → (ps.foldl (fun o p => insP p o p.length) o).Pairwise wlt ∧ ∀ x, x ∈ ps.foldl (fun o p => insP p o p.length) o ↔ x ∈ o ∨ ∃ p ∈ ps, x ≠ [] ∧ x <+: p := by
  intro ps
  induction ps generalizing o with
  | nil => intro h; exact ⟨h, fun x => by simp⟩
  | cons p r ih =>
    intro h
    obtain ⟨h1, h2⟩ := ih (o := insP p o p.length) (insP_sorted p o h _)
    refine ⟨h1, fun x => ?_⟩
    rw [List.foldl_cons, h2, mem_insP, pre_iff]
    simp only [List.mem_cons, exists_eq_or_imp]
    constructor
    · rintro ((h | h) | h)
      · exact .inl h
      · exact .inr (.inl h)
      · exact .inr (.inr h)
    · rintro (h | h | h)
      · exact .inl (.inl h)
      · exact .inl (.inr h)
      · exact .inr h
theorem prefs_sorted (ps : List (List Int)) : (prefs ps).Pairwise wlt := (foldP ps (by simp)).1
theorem mem_prefs (ps : List (List Int)) (x : List Int) : x ∈ prefs ps ↔ x = [] ∨ ∃ p ∈ ps, x <+: p := by
  unfold prefs
  rw [(foldP ps (by simp)).2, List.mem_singleton]
  constructor
  · rintro (h | ⟨p, h1, _, h3⟩)
    · exact .inl h
    · exact .inr ⟨p, h1, h3⟩
  · rintro (h | ⟨p, h1, h3⟩)
    · exact .inl h
    · by_cases e : x = []
      · exact .inl e
      · exact .inr ⟨p, h1, e, h3⟩

/-- the trie's words, in the order in which they were added: the first k prefixes of a pattern -/
def addP (p : List Int) (W : List (List Int)) : Nat → List (List Int)
  | 0 => W
  | k + 1 => if p.take (k + 1) ∈ addP p W k then addP p W k else addP p W k ++ [p.take (k + 1)]
def trieOf (ps : List (List Int)) : List (List Int) := ps.foldl (fun W p => addP p W p.length) [[]]

theorem mem_addP (p : List Int) (W : List (List Int)) : ∀ k x, x ∈ addP p W k ↔ x ∈ W ∨ ∃ i, 0 < i ∧ i ≤ k ∧ x = p.take i
  | 0, x => by
    constructor
    · exact .inl
    · rintro (h | ⟨i, h1, h2, _⟩); exact h; omega
  | k + 1, x => by
    have ih := mem_addP p W k
    unfold addP
    by_cases hm : p.take (k + 1) ∈ addP p W k
    · rw [if_pos hm, ih]
      constructor
      · rintro (h | ⟨i, h1, h2, h3⟩)
        · exact .inl h
        · exact .inr ⟨i, h1, by omega, h3⟩
      · rintro (h | ⟨i, h1, h2, h3⟩)
        · exact .inl h
        · by_cases e : i = k + 1
          · subst e; rw [h3]; exact (ih _).1 hm
          · exact .inr ⟨i, h1, by omega, h3⟩
    · rw [if_neg hm, List.mem_append, ih, List.mem_singleton]
      constructor
      · rintro ((h | ⟨i, h1, h2, h3⟩) | h)
        · exact .inl h
        · exact .inr ⟨i, h1, by omega, h3⟩
        · exact .inr ⟨k + 1, by omega, by omega, h⟩
      · rintro (h | ⟨i, h1, h2, h3⟩)
        · exact .inl (.inl h)
        · by_cases e : i = k + 1
          · subst e; exact .inr h3
          · exact .inl (.inr ⟨i, h1, by omega, h3⟩)
theorem addP_nodup (p : List Int) {W : List (List Int)} (h : W.Nodup) : ∀ k, (addP p W k).Nodup
  | 0 => h
  | k + 1 => by
    have ih := addP_nodup p h k
    unfold addP
    split
    · exact ih
    · rename_i hm
      rw [List.nodup_append]
      exact ⟨ih, by simp, fun x hx y hy e => by rw [List.mem_singleton] at hy; subst e; subst hy; exact hm hx⟩
theorem addP_len (p : List Int) (W : List (List Int)) : ∀ k, (addP p W k).length ≤ (addP p W (k + 1)).length
  | k => by
    show _ ≤ (if _ then _ else _ : List (List Int)).length
    split
    · exact Nat.le_refl _
    · simp
theorem addP_mono (p : List Int) (W : List (List Int)) {k m : Nat} (h : k ≤ m) : (addP p W k).length ≤ (addP p W m).length := by
  induction m with
  | zero => have e : k = 0 := (by omega); rw [e]; exact Nat.le_refl _
  | succ m ih =>
    by_cases e : k = m + 1
    · subst e; exact Nat.le_refl _
    · exact Nat.le_trans (ih (by omega)) (addP_len p W m)
theorem addP_pre (p : List Int) (W : List (List Int)) : ∀ k, W <+: addP p W k
  | 0 => List.prefix_refl _
  | k + 1 => by
    have ih := addP_pre p W k
    unfold addP
    split
    · exact ih
    · exact ih.trans (List.prefix_append _ _)

/-- what a trie's words are: those of the patterns added, no word twice, [] first -/
structure Tw (ps : List (List Int)) (W : List (List Int)) : Prop where
  nodup : W.Nodup
  hd : W.getD 0 [0] = []
  mem : ∀ x, x ∈ W ↔ x = [] ∨ ∃ p ∈ ps, x <+: p

theorem Tw.start : Tw [] [[]] := ⟨by simp, rfl, fun x => by simp⟩
theorem pre_getD {α : Type} {l m : List α} (h : l <+: m) {i : Nat} (hi : i < l.length) (d : α) : m.getD i d = l.getD i d := by
  obtain ⟨t, rfl⟩ := h
  simp [List.getD, List.getElem?_append, hi]
theorem Tw.add {ps W} (h : Tw ps W) (p : List Int) : Tw (ps ++ [p]) (addP p W p.length) := by
  refine ⟨addP_nodup p h.nodup _, ?_, fun x => ?_⟩
  · rw [pre_getD (addP_pre p W _) (hd_len h.hd)]; exact h.hd
  · rw [mem_addP, h.mem, pre_iff]
    simp only [List.mem_append, List.mem_singleton]
    constructor
    · rintro ((h | ⟨q, h1, h2⟩) | ⟨h1, h2⟩)
      · exact .inl h
      · exact .inr ⟨q, .inl h1, h2⟩
      · exact .inr ⟨p, .inr rfl, h2⟩
    · rintro (h | ⟨q, h1 | h1, h2⟩)
      · exact .inl (.inl h)
      · exact .inl (.inr ⟨q, h1, h2⟩)
      · subst h1
        by_cases e : x = []
        · exact .inl (.inl e)
        · exact .inr ⟨e, h2⟩
theorem trie_snoc (ps : List (List Int)) (p : List Int) : trieOf (ps ++ [p]) = addP p (trieOf ps) p.length := by simp [trieOf]
theorem trie_tw (ps : List (List Int)) : Tw ps (trieOf ps) := by
  suffices ∀ n (ps : List (List Int)), ps.length = n → Tw ps (trieOf ps) from this _ ps rfl
  intro n
  induction n with
  | zero => intro ps h; rw [List.eq_nil_of_length_eq_zero h]; exact Tw.start
  | succ n ih =>
    intro ps h
    have hne : ps ≠ [] := by intro e; subst e; simp at h
    rw [← List.dropLast_concat_getLast hne, trie_snoc]
    exact (ih _ (by rw [List.length_dropLast, h]; rfl)).add _
theorem Tw.closed {ps W} (h : Tw ps W) : Closed W := by
  refine ⟨(h.mem []).2 (.inl rfl), fun {u b} hm => ?_⟩
  rcases (h.mem _).1 hm with e | ⟨p, hp, hx⟩
  · simp at e
  · exact (h.mem u).2 (.inr ⟨p, hp, (List.prefix_append u [b]).trans hx⟩)
theorem trie_len (ps : List (List Int)) : (trieOf ps).length = (prefs ps).length := by
  have h := trie_tw ps
  refine Nat.le_antisymm (nodup_sub_len h.nodup fun x hx => (mem_prefs ps x).2 ((h.mem x).1 hx)) (nodup_sub_len (sorted_nodup (prefs_sorted ps)) fun x hx => (h.mem x).2 ((mem_prefs ps x).1 hx))
theorem trie_mono (ps qs : List (List Int)) : (trieOf ps).length ≤ (trieOf (ps ++ qs)).length :=
  nodup_sub_len (trie_tw ps).nodup fun x hx => ((trie_tw (ps ++ qs)).mem x).2 (by
    rcases ((trie_tw ps).mem x).1 hx with h | ⟨p, h1, h2⟩
    · exact .inl h
    · exact .inr ⟨p, by simp [h1], h2⟩)
/-- how many different prefixes there are is at most one and the letters' sum -/
theorem trie_le (ps : List (List Int)) : (trieOf ps).length ≤ 1 + (ps.map List.length).foldr (· + ·) 0 := by
  suffices ∀ (ps : List (List Int)) (W : List (List Int)), (ps.foldl (fun W p => addP p W p.length) W).length ≤ W.length + (ps.map List.length).foldr (· + ·) 0 from by
    have := this ps [[]]; simp at this; unfold trieOf; omega
  intro ps
  induction ps with
  | nil => intro W; simp
  | cons p r ih =>
    intro W
    have := ih (addP p W p.length)
    have h2 : ∀ k, (addP p W k).length ≤ W.length + k := by
      intro k
      induction k with
      | zero => exact Nat.le_refl _
      | succ k ih2 => unfold addP; split; omega; simp; omega
    have := h2 p.length
    simp only [List.foldl_cons, List.map_cons, List.foldr_cons]
    omega

/-- which letters occur -/
def usedB (ps : List (List Int)) (b : Nat) : Bool := ps.any fun p => p.contains (b : Int)
def letsTo (U : Nat → Bool) (n : Nat) : List Int := ((List.range n).filter U).map Int.ofNat
def clsTo (U : Nat → Bool) (n : Nat) : List Int := (List.range n).map fun b => if U b then ((letsTo U (b + 1)).length : Int) else 0

theorem letsTo_succ (U : Nat → Bool) (n : Nat) : letsTo U (n + 1) = if U n then letsTo U n ++ [(n : Int)] else letsTo U n := by
  unfold letsTo
  rw [List.range_succ, List.filter_append]
  by_cases h : U n <;> simp [h]
theorem clsTo_succ (U : Nat → Bool) (n : Nat) : clsTo U (n + 1) = clsTo U n ++ [if U n then ((letsTo U (n + 1)).length : Int) else 0] := by
  unfold clsTo; rw [List.range_succ, List.map_append]; rfl
theorem clsTo_len (U : Nat → Bool) (n : Nat) : (clsTo U n).length = n := by simp [clsTo]
theorem letsTo_len (U : Nat → Bool) (n : Nat) : (letsTo U n).length ≤ n := by
  unfold letsTo; rw [List.length_map]
  exact Nat.le_trans (List.length_filter_le _ _) (by simp)
theorem mem_letsTo {U : Nat → Bool} {n : Nat} {b : Int} : b ∈ letsTo U n ↔ ∃ m : Nat, m < n ∧ U m = true ∧ b = m := by
  unfold letsTo
  simp only [List.mem_map, List.mem_filter, List.mem_range]
  constructor
  · rintro ⟨m, ⟨h1, h2⟩, rfl⟩; exact ⟨m, h1, h2, rfl⟩
  · rintro ⟨m, h1, h2, rfl⟩; exact ⟨m, ⟨h1, h2⟩, rfl⟩
theorem letsTo_sorted (U : Nat → Bool) (n : Nat) : (letsTo U n).Pairwise (· < ·) := by
  unfold letsTo
  rw [List.pairwise_map]
  refine List.Pairwise.imp ?_ ((List.pairwise_lt_range (n := n)).filter U)
  intro a b h
  show Int.ofNat a < Int.ofNat b
  exact Int.ofNat_lt.2 h
theorem letsTo_pre (U : Nat → Bool) {m n : Nat} (h : m ≤ n) : letsTo U m <+: letsTo U n := by
  induction n with
  | zero => have e : m = 0 := (by omega); rw [e]; exact List.prefix_refl _
  | succ n ih =>
    by_cases e : m = n + 1
    · subst e; exact List.prefix_refl _
    · refine (ih (by omega)).trans ?_
      rw [letsTo_succ]; split
      · exact List.prefix_append _ _
      · exact List.prefix_refl _
theorem clsTo_getD (U : Nat → Bool) {n b : Nat} (hb : b < n) : (clsTo U n).getD b 0 = if U b then ((letsTo U (b + 1)).length : Int) else 0 := by
  simp [clsTo, List.getD, hb]
/-- a letter's class is one more than its place among those that occur -/
theorem cls_used {U : Nat → Bool} {n b : Nat} (hb : b < n) (hu : U b = true) : ∃ j, (clsTo U n).getD b 0 = ((j + 1 : Nat) : Int) ∧ j < (letsTo U n).length ∧ (letsTo U n).getD j 0 = b := by
  have h1 : letsTo U (b + 1) = letsTo U b ++ [(b : Int)] := by rw [letsTo_succ, if_pos hu]
  have hp := letsTo_pre U (show b + 1 ≤ n by omega)
  refine ⟨(letsTo U b).length, ?_, ?_, ?_⟩
  · rw [clsTo_getD U hb, if_pos hu, h1]; simp
  · have := hp.length_le; rw [h1] at this; simp at this; omega
  · rw [pre_getD hp (by rw [h1]; simp), h1]; simp [List.getD]
theorem cls_unused {U : Nat → Bool} {n b : Nat} (hb : b < n) (hu : U b = false) : (clsTo U n).getD b 0 = 0 := by
  rw [clsTo_getD U hb, hu]; rfl
theorem cls_bd (U : Nat → Bool) (n : Nat) : ∀ q ∈ clsTo U n, 0 ≤ q ∧ q < ((letsTo U n).length + 1 : Nat) := by
  intro q hq
  obtain ⟨b, hb, rfl⟩ := List.getElem_of_mem hq
  rw [clsTo_len] at hb
  have h1 := clsTo_getD U hb
  simp only [List.getD, List.getElem?_eq_getElem (show b < (clsTo U n).length by rw [clsTo_len]; exact hb), Option.getD_some] at h1
  rw [h1]
  split
  · have := (letsTo_pre U (show b + 1 ≤ n by omega)).length_le; omega
  · omega

/-- the machine: rows, what is accepted, hits -/
def litL (ps : List (List Int)) : List Int := letsTo (usedB ps) 256
def litC (ps : List (List Int)) : List Int := clsTo (usedB ps) 256
def litN (ps : List (List Int)) : List (List Int) := (prefs ps).map (rowOf (prefs ps) (prefs ps) (litL ps))
def litH (ps : List (List Int)) : List Int := (prefs ps).map fun x => (cnt ps x : Int)
def litA (ps : List (List Int)) : List Bool := (prefs ps).map fun x => decide (0 < cnt ps x)

/-- patterns of bytes -/
def Byt (ps : List (List Int)) : Prop := ∀ p ∈ ps, ∀ b ∈ p, 0 ≤ b ∧ b ≤ 255

theorem prefs_closed (ps : List (List Int)) : Closed (prefs ps) := by
  refine ⟨(mem_prefs ps []).2 (.inl rfl), fun {u b} hm => ?_⟩
  rcases (mem_prefs ps _).1 hm with e | ⟨p, hp, hx⟩
  · simp at e
  · exact (mem_prefs ps u).2 (.inr ⟨p, hp, (List.prefix_append u [b]).trans hx⟩)
theorem lit_letter {ps : List (List Int)} (hb : Byt ps) {u : List Int} {b : Int} (h : u ++ [b] ∈ prefs ps) : b ∈ litL ps := by
  rcases (mem_prefs ps _).1 h with e | ⟨p, hp, hx⟩
  · simp at e
  · have hbp : b ∈ p := hx.subset (by simp)
    have hbd := hb p hp b hbp
    refine mem_letsTo.2 ⟨b.toNat, by omega, ?_, by omega⟩
    unfold usedB
    rw [List.any_eq_true]
    exact ⟨p, hp, by rw [List.contains_iff_mem]; rw [show ((b.toNat : Nat) : Int) = b by omega]; exact hbp⟩
theorem prefs_len_pos (ps : List (List Int)) : 0 < (prefs ps).length := List.length_pos_of_mem ((mem_prefs ps []).2 (.inl rfl))
theorem prefs_zero (ps : List (List Int)) : (prefs ps).getD 0 [0] = [] := by
  have h := prefs_sorted ps
  have hm := (mem_prefs ps []).2 (.inl rfl)
  cases hq : prefs ps with
  | nil => rw [hq] at hm; simp at hm
  | cons a t =>
    rw [hq] at h hm
    show a = []
    rcases List.mem_cons.1 hm with e | e
    · exact e.symm
    · have := (List.pairwise_cons.1 h).1 [] e
      rcases this with k | ⟨k, _⟩
      · simp at k
      · exact List.eq_nil_of_length_eq_zero k
theorem idx_nil (ps : List (List Int)) : (prefs ps).idxOf [] = 0 := by
  have h := idx_getD (sorted_nodup (prefs_sorted ps)) (prefs_len_pos ps)
  have h0 := prefs_zero ps
  rw [getD_any (prefs_len_pos ps) [0] []] at h0
  rw [h0] at h; exact h

/-- what the search has when it is done is the machine -/
theorem St.final {ps : List (List Int)} {W S : List (List Int)} {F : List Int} {R : List (List Int)} {H : List Int} (hW : Tw ps W)
    (h : St W (litL ps) ps S.length S F R H) : S = prefs ps ∧ R = litN ps ∧ H = litH ps := by
  have hm := h.bfs.done hW.closed
  have hS : S = prefs ps := sorted_unique h.bfs.srt (prefs_sorted ps) fun x => by rw [hm, hW.mem, mem_prefs]
  have hWS : ∀ x, x ∈ W ↔ x ∈ prefs ps := fun x => by rw [hW.mem, mem_prefs]
  subst hS
  refine ⟨rfl, ?_, ?_⟩
  · refine List.ext_getElem (by rw [h.rl, litN, List.length_map]) fun i h1 h2 => ?_
    have hi : i < (prefs ps).length := by rw [h.rl] at h1; exact h1
    have := h.rv i hi
    simp only [List.getD, List.getElem?_eq_getElem h1, Option.getD_some] at this
    rw [this]
    simp only [litN, List.getElem_map]
    unfold rowOf
    simp only [List.getElem?_eq_getElem hi, Option.getD_some]
    congr 1
    exact List.map_congr_left fun b _ => by rw [lsuf_congr hWS]
  · refine List.ext_getElem (by rw [h.hl, litH, List.length_map]) fun i h1 h2 => ?_
    have hi : i < (prefs ps).length := by rw [h.hl] at h1; exact h1
    have := h.hv i hi
    simp only [List.getD, List.getElem?_eq_getElem h1, Option.getD_some, List.getElem?_eq_getElem hi] at this
    rw [this]
    simp [litH]

/-- where a letter leads -/
def litGo (ps : List (List Int)) (q : Int) (b : Nat) : Int := ((litN ps).getD q.toNat []).getD ((litC ps).getD b 0).toNat 0
theorem litGo_eq {ps : List (List Int)} {v : List Int} (hv : v ∈ prefs ps) {b : Nat} (hb : b < 256) : litGo ps ((prefs ps).idxOf v : Int) b = ((prefs ps).idxOf (lsuf (prefs ps) (v ++ [(b : Int)])) : Int) := by
  obtain ⟨q1, q2⟩ := mem_getD (d := []) hv
  have hrow : (litN ps).getD ((prefs ps).idxOf v) [] = rowOf (prefs ps) (prefs ps) (litL ps) v := by
    simp only [List.getD, List.getElem?_eq_getElem q1, Option.getD_some] at q2
    simp [litN, List.getD, q1]
  unfold litGo
  rw [Int.toNat_natCast, hrow]
  by_cases hu : usedB ps b = true
  · obtain ⟨j, h1, h2, h3⟩ := cls_used hb hu
    unfold litC
    rw [h1, Int.toNat_natCast, rowOf_getD (show j < (litL ps).length from h2)]
    unfold litL
    rw [h3]
  · simp only [Bool.not_eq_true] at hu
    unfold litC
    rw [cls_unused hb hu]
    have hnil : lsuf (prefs ps) (v ++ [(b : Int)]) = [] := by
      refine Classical.byContradiction fun hne => ?_
      have hm := lsuf_mem (prefs_closed ps).nil (v ++ [(b : Int)])
      have hs := lsuf_suffix (prefs ps) (v ++ [(b : Int)])
      obtain ⟨c, hc⟩ := snoc_of_ne hne
      obtain ⟨t, ht⟩ := hs
      rw [hc, ← List.append_assoc] at ht
      have hcb : c = (b : Int) := by
        have := List.append_inj_right' ht rfl
        simpa using this
      rw [hc, hcb] at hm
      rcases (mem_prefs ps _).1 hm with e | ⟨p, hp, hx⟩
      · simp at e
      · have hbp : (b : Int) ∈ p := hx.subset (by simp)
        have : usedB ps b = true := by unfold usedB; rw [List.any_eq_true]; exact ⟨p, hp, by rw [List.contains_iff_mem]; exact hbp⟩
        rw [hu] at this; cases this
    rw [hnil, idx_nil]
    rfl

/-- the state behind a text -/
def litAt (ps : List (List Int)) (t : List Int) : Nat := (prefs ps).idxOf (lsuf (prefs ps) t)
theorem litAt_nil (ps : List (List Int)) : litAt ps [] = 0 := idx_nil ps
theorem litAt_lt (ps : List (List Int)) (t : List Int) : litAt ps t < (prefs ps).length := List.idxOf_lt_length_of_mem (lsuf_mem (prefs_closed ps).nil t)
theorem litAt_snoc {ps : List (List Int)} (t : List Int) {b : Nat} (hb : b < 256) : litGo ps (litAt ps t : Int) b = (litAt ps (t ++ [(b : Int)]) : Int) := by
  unfold litAt
  rw [litGo_eq (lsuf_mem (prefs_closed ps).nil t) hb, ← lsuf_snoc (prefs_closed ps)]
theorem all_pref {ps : List (List Int)} : ∀ p ∈ ps, p ∈ prefs ps := fun p hp => (mem_prefs ps p).2 (.inr ⟨p, hp, List.prefix_refl p⟩)
theorem litH_at (ps : List (List Int)) (t : List Int) : (litH ps).getD (litAt ps t) 0 = (cnt ps t : Int) := by
  obtain ⟨q1, q2⟩ := mem_getD (d := []) (lsuf_mem (prefs_closed ps).nil t)
  have : (litH ps).getD (litAt ps t) 0 = (cnt ps ((prefs ps).getD (litAt ps t) []) : Int) := by
    unfold litH; simp [List.getD, litAt, q1]
  rw [this]
  unfold litAt
  rw [q2, ← cnt_lsuf all_pref]
theorem litA_at (ps : List (List Int)) (t : List Int) : (litA ps).getD (litAt ps t) false = decide (0 < cnt ps t) := by
  obtain ⟨q1, q2⟩ := mem_getD (d := []) (lsuf_mem (prefs_closed ps).nil t)
  have : (litA ps).getD (litAt ps t) false = decide (0 < cnt ps ((prefs ps).getD (litAt ps t) [])) := by
    unfold litA; simp [List.getD, litAt, q1]
  rw [this]
  unfold litAt
  rw [q2, ← cnt_lsuf all_pref]
theorem litN_len (ps) : (litN ps).length = (prefs ps).length := by simp [litN]
theorem litH_len (ps) : (litH ps).length = (prefs ps).length := by simp [litH]
theorem litA_len (ps) : (litA ps).length = (prefs ps).length := by simp [litA]
theorem litC_len (ps) : (litC ps).length = 256 := clsTo_len _ _
theorem litN_row {ps : List (List Int)} : ∀ row ∈ litN ps, row.length = (litL ps).length + 1 ∧ ∀ q ∈ row, 0 ≤ q ∧ q < ((prefs ps).length : Int) := by
  intro row hr
  unfold litN at hr
  obtain ⟨u, _, rfl⟩ := List.mem_map.1 hr
  refine ⟨by simp [rowOf], fun q hq => ?_⟩
  unfold rowOf at hq
  rcases List.mem_cons.1 hq with rfl | hq
  · have := prefs_len_pos ps; omega
  · obtain ⟨b, _, rfl⟩ := List.mem_map.1 hq
    have := List.idxOf_lt_length_of_mem (lsuf_mem (prefs_closed ps).nil (u ++ [b]))
    omega

end Go.Proofs.Ytflgmodofemifaa
