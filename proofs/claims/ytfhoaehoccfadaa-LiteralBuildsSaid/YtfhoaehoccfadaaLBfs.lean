/-
  PLAIN LAW: the search through a set of words that holds its prefixes: in which order it finds them, where each falls, the rows of the machine.
-/
import Derived.Test.YtfhoaehoccfadaaLPure
namespace Go.Proofs.Ytfhoaehoccfadaa
set_option linter.unusedVariables false
set_option linter.unusedSimpArgs false

/-- the search stands at word k of those that it has found -/
structure Bfs (W : List (List Int)) (k : Nat) (S : List (List Int)) : Prop where
  hd : S.getD 0 [0] = []
  srt : S.Pairwise wlt
  mem : ∀ x ∈ S, x ∈ W
  kle : k ≤ S.length
  par : ∀ x ∈ S, x ≠ [] → x.dropLast ∈ S.take k
  all : ∀ u b, u ∈ S.take k → u ++ [b] ∈ W → u ++ [b] ∈ S

/-- .. and has tried the letters of l1 behind it -/
structure BfsIn (W : List (List Int)) (k : Nat) (S : List (List Int)) (u : List Int) (l1 : List Int) : Prop where
  hd : S.getD 0 [0] = []
  srt : S.Pairwise wlt
  mem : ∀ x ∈ S, x ∈ W
  klt : k < S.length
  at_ : S.getD k [] = u
  par : ∀ x ∈ S, x ≠ [] → x.dropLast ∈ S.take k ∨ ∃ b ∈ l1, x = u ++ [b]
  all : ∀ v b, v ∈ S.take k → v ++ [b] ∈ W → v ++ [b] ∈ S
  kid : ∀ b ∈ l1, u ++ [b] ∈ W → u ++ [b] ∈ S

theorem hd_len {S : List (List Int)} (h : S.getD 0 [0] = []) : 0 < S.length := by cases S with | nil => simp at h | cons a t => simp
theorem getD_any {α : Type} {S : List α} {i : Nat} (h : i < S.length) (d e : α) : S.getD i d = S.getD i e := by simp [List.getD, h]
theorem getD_mem' {α : Type} {l : List α} {d : α} {i : Nat} (h : i < l.length) : l.getD i d ∈ l := by simp [List.getD, h]

theorem sorted_lt {S : List (List Int)} (h : S.Pairwise wlt) {i j : Nat} (hij : i < j) (hj : j < S.length) : wlt (S.getD i []) (S.getD j []) := by
  have := List.pairwise_iff_getElem.1 h i j (by omega) hj hij
  simpa [List.getD, hj, show i < S.length by omega] using this
theorem sorted_inj {S : List (List Int)} (h : S.Pairwise wlt) {i j : Nat} (hi : i < S.length) (hj : j < S.length) (hw : wlt (S.getD i []) (S.getD j [])) : i < j := by
  rcases Nat.lt_trichotomy i j with k | k | k
  · exact k
  · subst k; exact absurd hw (wlt_irrefl _)
  · exact absurd (wlt_trans hw (sorted_lt h k hi)) (wlt_irrefl _)
theorem mem_getD {α : Type} [BEq α] [LawfulBEq α] {S : List α} {x d : α} (h : x ∈ S) : S.idxOf x < S.length ∧ S.getD (S.idxOf x) d = x := by
  have h1 := List.idxOf_lt_length_of_mem h
  refine ⟨h1, ?_⟩
  simp [List.getD, h1]
theorem idx_getD {S : List (List Int)} (h : S.Nodup) {i : Nat} (hi : i < S.length) : S.idxOf (S.getD i []) = i := by
  have := List.Nodup.idxOf_getElem h i hi
  simpa [List.getD, hi] using this
theorem idx_app {α : Type} [BEq α] [LawfulBEq α] {S : List α} {x : α} (h : x ∈ S) (T : List α) : (S ++ T).idxOf x = S.idxOf x := by
  rw [List.idxOf_append, if_pos h]
theorem idx_new {α : Type} [BEq α] [LawfulBEq α] {S : List α} {x : α} (h : x ∉ S) : (S ++ [x]).idxOf x = S.length := by
  rw [List.idxOf_append, if_neg h]; simp
theorem mem_take_iff {S : List (List Int)} (hn : S.Nodup) {x : List Int} {k : Nat} : x ∈ S.take k ↔ x ∈ S ∧ S.idxOf x < k := by
  constructor
  · intro h
    have h1 : x ∈ S := List.mem_of_mem_take h
    refine ⟨h1, ?_⟩
    have h2 := List.idxOf_lt_length_of_mem h
    have h3 : S.idxOf x = (S.take k).idxOf x := by
      conv => lhs; rw [← List.take_append_drop k S]
      exact idx_app h _
    rw [h3]
    rw [List.length_take] at h2
    omega
  · rintro ⟨h1, h2⟩
    have ⟨h3, h4⟩ := mem_getD (d := []) h1
    rw [← h4]
    have : (S.take k).getD (S.idxOf x) [] = S.getD (S.idxOf x) [] := by simp [List.getD, h2]
    rw [← this]
    exact getD_mem' (by rw [List.length_take]; omega)

theorem snoc_of_ne {x : List Int} (h : x ≠ []) : ∃ b, x = x.dropLast ++ [b] := ⟨x.getLast h, (List.dropLast_concat_getLast h).symm⟩

theorem Bfs.start {W : List (List Int)} (h : Closed W) : Bfs W 0 [[]] := by
  refine ⟨rfl, by simp, fun x hx => ?_, by simp, fun x hx hn => ?_, fun u b hu => by simp at hu⟩
  · rw [List.mem_singleton] at hx; subst hx; exact h.nil
  · rw [List.mem_singleton] at hx; exact absurd hx hn

theorem Bfs.enter {W S : List (List Int)} {k : Nat} (h : Bfs W k S) (hk : k < S.length) : BfsIn W k S (S.getD k []) [] :=
  ⟨h.hd, h.srt, h.mem, hk, rfl, fun x hx hn => .inl (h.par x hx hn), h.all, fun b hb => by simp at hb⟩

theorem BfsIn.new {W S : List (List Int)} {k : Nat} {u l1 : List Int} {b : Int} (h : BfsIn W k S u l1) (hl : ∀ c ∈ l1, c < b) : ∀ x ∈ S, wlt x (u ++ [b]) := by
  intro x hx
  by_cases hn : x = []
  · subst hn; exact wlt_nil (by simp)
  · rcases h.par x hx hn with k1 | ⟨c, hc, rfl⟩
    · obtain ⟨c, e⟩ := snoc_of_ne hn
      rw [e]
      refine wlt_snoc c b ?_
      obtain ⟨m1, m2⟩ := (mem_take_iff (sorted_nodup h.srt)).1 k1
      have ⟨g1, g2⟩ := mem_getD (d := []) m1
      have := sorted_lt h.srt m2 h.klt
      rw [g2, h.at_] at this
      exact this
    · exact wlt_snoc_same (hl c hc)

theorem BfsIn.hit {W S : List (List Int)} {k : Nat} {u l1 : List Int} {b : Int} (h : BfsIn W k S u l1) (hl : ∀ c ∈ l1, c < b) (hw : u ++ [b] ∈ W) : BfsIn W k (S ++ [u ++ [b]]) u (l1 ++ [b]) ∧ u ++ [b] ∉ S := by
  have hnew := h.new hl
  have hk := h.klt
  have hlen := hd_len h.hd
  have htk : (S ++ [u ++ [b]]).take k = S.take k := by rw [List.take_append, show k - S.length = 0 by omega]; simp
  refine ⟨⟨?_, ?_, ?_, by simp; omega, ?_, ?_, ?_, ?_⟩, fun hc => wlt_irrefl _ (hnew _ hc)⟩
  · have := h.hd; simp only [List.getD, List.getElem?_append, hlen] at *; simpa using this
  · rw [List.pairwise_append]
    exact ⟨h.srt, by simp, fun x hx y hy => by rw [List.mem_singleton] at hy; subst hy; exact hnew x hx⟩
  · intro x hx
    rcases List.mem_append.1 hx with hx | hx
    · exact h.mem x hx
    · rw [List.mem_singleton] at hx; subst hx; exact hw
  · have := h.at_; simp only [List.getD, List.getElem?_append, hk] at *; simpa using this
  · intro x hx hn
    rw [htk]
    rcases List.mem_append.1 hx with hx | hx
    · rcases h.par x hx hn with k1 | ⟨c, hc, e⟩
      · exact .inl k1
      · exact .inr ⟨c, by simp [hc], e⟩
    · rw [List.mem_singleton] at hx; exact .inr ⟨b, by simp, hx⟩
  · intro v c hv hm
    rw [htk] at hv
    exact List.mem_append.2 (.inl (h.all v c hv hm))
  · intro c hc hm
    rcases List.mem_append.1 hc with hc | hc
    · exact List.mem_append.2 (.inl (h.kid c hc hm))
    · rw [List.mem_singleton] at hc; subst hc; simp
theorem BfsIn.miss {W S : List (List Int)} {k : Nat} {u l1 : List Int} {b : Int} (h : BfsIn W k S u l1) (hw : u ++ [b] ∉ W) : BfsIn W k S u (l1 ++ [b]) := by
  refine ⟨h.hd, h.srt, h.mem, h.klt, h.at_, fun x hx hn => ?_, h.all, fun c hc hm => ?_⟩
  · rcases h.par x hx hn with k1 | ⟨c, hc, e⟩
    · exact .inl k1
    · exact .inr ⟨c, by simp [hc], e⟩
  · rcases List.mem_append.1 hc with hc | hc
    · exact h.kid c hc hm
    · rw [List.mem_singleton] at hc; subst hc; exact absurd hm hw
theorem take_succ_mem {S : List (List Int)} {k : Nat} {x : List Int} (h : x ∈ S.take (k + 1)) (hk : k < S.length) : x ∈ S.take k ∨ x = S.getD k [] := by
  rw [List.take_succ_eq_append_getElem hk] at h
  rcases List.mem_append.1 h with h | h
  · exact .inl h
  · rw [List.mem_singleton] at h; exact .inr (by rw [h]; simp [List.getD, hk])
theorem BfsIn.leave {W S : List (List Int)} {k : Nat} {u L : List Int} (h : BfsIn W k S u L) (hL : ∀ b, u ++ [b] ∈ W → b ∈ L) : Bfs W (k + 1) S := by
  have hk := h.klt
  have hum : u ∈ S.take (k + 1) := by
    rw [List.take_succ_eq_append_getElem hk, List.mem_append]
    right
    have := h.at_
    simp only [List.getD, hk, List.getElem?_eq_getElem, Option.getD_some] at this
    simp [this]
  refine ⟨h.hd, h.srt, h.mem, by omega, fun x hx hn => ?_, fun v b hv hm => ?_⟩
  · rcases h.par x hx hn with k1 | ⟨c, hc, rfl⟩
    · exact (mem_take_iff (sorted_nodup h.srt)).2 ⟨((mem_take_iff (sorted_nodup h.srt)).1 k1).1, by have := ((mem_take_iff (sorted_nodup h.srt)).1 k1).2; omega⟩
    · simpa using hum
  · rcases take_succ_mem hv hk with hv | rfl
    · exact h.all v b hv hm
    · rw [h.at_] at hm ⊢
      exact h.kid b (hL b hm) hm
theorem Bfs.done {W S : List (List Int)} (hW : Closed W) (h : Bfs W S.length S) : ∀ x, x ∈ S ↔ x ∈ W := by
  intro x
  refine ⟨h.mem x, ?_⟩
  suffices ∀ n (x : List Int), x.length = n → x ∈ W → x ∈ S from this _ x rfl
  intro n
  induction n with
  | zero =>
    intro x hx _
    have hx0 : x = [] := List.eq_nil_of_length_eq_zero hx
    have h0 := h.hd
    have := getD_mem' (l := S) (d := [0]) (hd_len h0)
    rw [h0] at this
    rw [hx0]; exact this
  | succ n ih =>
    intro x hx hw
    obtain ⟨b, e⟩ := snoc_of_ne (x := x) (by intro e; subst e; simp at hx)
    rw [e] at hw ⊢
    refine h.all _ b ?_ hw
    rw [List.take_length]
    exact ih _ (by rw [List.length_dropLast, hx]; rfl) (hW.pre hw)

/-- words of the set that are shorter than one that was found have been found -/
theorem Bfs.short {W S : List (List Int)} {k : Nat} (hW : Closed W) (h : Bfs W k S) : ∀ (n j : Nat) (w : List Int), w.length = n → j < S.length → w ∈ W → n < (S.getD j []).length → w ∈ S
  | 0, j, w, hn, hj, hw, hlt => by
    have hx0 : w = [] := List.eq_nil_of_length_eq_zero hn
    have h0 := h.hd
    have := getD_mem' (l := S) (d := [0]) (hd_len h0)
    rw [h0] at this
    rw [hx0]; exact this
  | n + 1, j, w, hn, hj, hw, hlt => by
    obtain ⟨b, e⟩ := snoc_of_ne (x := w) (by intro e; subst e; simp at hn)
    have hj2 : S.getD j [] ≠ [] := by intro e; rw [e] at hlt; simp at hlt
    have hp := h.par _ (getD_mem' (l := S) (d := []) hj) hj2
    obtain ⟨m1, m2⟩ := (mem_take_iff (sorted_nodup h.srt)).1 hp
    have hl : (S.getD j []).dropLast.length = (S.getD j []).length - 1 := List.length_dropLast
    have hwl : w.dropLast.length = n := by rw [List.length_dropLast, hn]; rfl
    have hwW : w.dropLast ∈ W := hW.pre (e ▸ hw)
    have hws := Bfs.short hW h n j _ hwl hj hwW (by omega)
    rw [e]
    refine h.all _ b ?_ (e ▸ hw)
    refine (mem_take_iff (sorted_nodup h.srt)).2 ⟨hws, ?_⟩
    obtain ⟨q1, q2⟩ := mem_getD (d := []) hws
    obtain ⟨r1, r2⟩ := mem_getD (d := []) m1
    have : S.idxOf w.dropLast < S.idxOf (S.getD j []).dropLast := sorted_inj h.srt q1 r1 (by rw [q2, r2]; exact wlt_len (by omega))
    omega
theorem Bfs.fall {W S : List (List Int)} {k : Nat} (hW : Closed W) (h : Bfs W k S) {j : Nat} (hj : j < S.length) : lsuf W (S.getD j []).tail ∈ S ∧ (0 < j → S.idxOf (lsuf W (S.getD j []).tail) < j) := by
  have hm := lsuf_mem hW.nil (S.getD j []).tail
  have hl := lsuf_len W (S.getD j []).tail
  by_cases he : S.getD j [] = []
  · rw [he]
    have h0 := h.hd
    have := getD_mem' (l := S) (d := [0]) (hd_len h0)
    rw [h0] at this
    refine ⟨this, fun hj0 => ?_⟩
    have := sorted_lt h.srt hj0 hj
    rw [he, getD_any (hd_len h0) [] [0], h0] at this
    exact absurd this (wlt_irrefl _)
  · have hpos : 0 < (S.getD j []).length := by cases hq : S.getD j [] with | nil => exact absurd hq he | cons a t => simp
    have ht : (S.getD j []).tail.length = (S.getD j []).length - 1 := List.length_tail
    have hs := h.short hW _ j _ rfl hj hm (by omega)
    refine ⟨hs, fun hj0 => ?_⟩
    obtain ⟨q1, q2⟩ := mem_getD (d := []) hs
    exact sorted_inj h.srt q1 hj (by rw [q2]; exact wlt_len (by omega))

/-- a step's longest suffix, once the word has been tried, has been found -/
theorem Bfs.step {W S : List (List Int)} {k : Nat} (hW : Closed W) (h : Bfs W k S) : ∀ (i : Nat), i < k → ∀ b, lsuf W (S.getD i [] ++ [b]) ∈ S := by
  intro i
  induction i using Nat.strongRecOn with
  | ind i ih =>
    intro hi b
    have hkl := h.kle
    have hum : S.getD i [] ∈ S.take k := (mem_take_iff (sorted_nodup h.srt)).2 ⟨getD_mem' (by omega), by rw [idx_getD (sorted_nodup h.srt) (by omega)]; exact hi⟩
    by_cases hw : S.getD i [] ++ [b] ∈ W
    · rw [lsuf_self hw]; exact h.all _ b hum hw
    · by_cases he : S.getD i [] = []
      · rw [he] at hw ⊢
        rw [List.nil_append, lsuf_nil_step hw]
        have h0 := h.hd
        have := getD_mem' (l := S) (d := [0]) (hd_len h0)
        rw [h0] at this; exact this
      · rw [lsuf_tail_step hW he hw]
        obtain ⟨m1, m2⟩ := h.fall hW (j := i) (by omega)
        have h0 : 0 < i := by
          rcases Nat.eq_zero_or_pos i with e | e
          · subst e; have := h.hd; rw [getD_any (hd_len this) [0] []] at this; exact absurd this he
          · exact e
        obtain ⟨q1, q2⟩ := mem_getD (d := []) m1
        have := ih _ (m2 h0) (by have := m2 h0; omega) b
        rw [q2] at this
        exact this

/-- the row of a word -/
def rowOf (W S : List (List Int)) (L : List Int) (u : List Int) : List Int := 0 :: L.map fun b => (S.idxOf (lsuf W (u ++ [b])) : Int)

/-- the search's lists: where each word falls, the rows, the hits -/
structure St (W : List (List Int)) (L : List Int) (ps : List (List Int)) (k : Nat) (S : List (List Int)) (F : List Int) (R : List (List Int)) (H : List Int) : Prop where
  bfs : Bfs W k S
  fl : F.length = S.length
  fv : ∀ i, i < S.length → F.getD i 0 = (S.idxOf (lsuf W (S.getD i []).tail) : Int)
  rl : R.length = k
  rv : ∀ i, i < k → R.getD i [] = rowOf W S L (S.getD i [])
  hl : H.length = k
  hv : ∀ i, i < k → H.getD i 0 = (cnt ps (S.getD i []) : Int)

/-- .. inside a word's round, letter j next -/
structure In (W : List (List Int)) (L : List Int) (ps : List (List Int)) (k j : Nat) (S : List (List Int)) (u : List Int) (F : List Int) (R : List (List Int)) (H : List Int) (row : List Int) : Prop where
  bfs : BfsIn W k S u (L.take j)
  fl : F.length = S.length
  fv : ∀ i, i < S.length → F.getD i 0 = (S.idxOf (lsuf W (S.getD i []).tail) : Int)
  rl : R.length = k
  rv : ∀ i, i < k → R.getD i [] = rowOf W S L (S.getD i [])
  rm : ∀ i, i < k → ∀ b, lsuf W (S.getD i [] ++ [b]) ∈ S
  hl : H.length = k
  hv : ∀ i, i < k → H.getD i 0 = (cnt ps (S.getD i []) : Int)
  wl : row.length = L.length + 1
  w0 : row.getD 0 0 = 0
  wv : ∀ c, c < L.length → row.getD (c + 1) 0 = (S.idxOf (if c < j then lsuf W (u ++ [L.getD c 0]) else lsuf W (u ++ [L.getD c 0]).tail) : Int)
  wm : ∀ c, c < L.length → lsuf W (u ++ [L.getD c 0]).tail ∈ S
  wd : ∀ c, c < j → lsuf W (u ++ [L.getD c 0]) ∈ S
  fm : ∀ i, i < S.length → lsuf W (S.getD i []).tail ∈ S

theorem St.start {W : List (List Int)} {L : List Int} {ps : List (List Int)} (h : Closed W) : St W L ps 0 [[]] [0] [] [] := by
  refine ⟨Bfs.start h, rfl, fun i hi => ?_, rfl, fun i hi => by omega, rfl, fun i hi => by omega⟩
  simp only [List.length_singleton] at hi
  obtain rfl : i = 0 := by omega
  simp [lsuf]

theorem fall_word {W : List (List Int)} (hW : Closed W) {u : List Int} (b : Int) : lsuf W (u ++ [b]).tail = if u = [] then [] else lsuf W (lsuf W u.tail ++ [b]) := by
  cases u with
  | nil => rfl
  | cons a t => rw [if_neg (by simp)]; show lsuf W (t ++ [b]) = _; rw [lsuf_snoc hW]; rfl
theorem lsuf_word {W : List (List Int)} {u : List Int} {b : Int} : lsuf W (u ++ [b]) = if u ++ [b] ∈ W then u ++ [b] else lsuf W (u ++ [b]).tail := by
  cases u with
  | nil => simp [lsuf]
  | cons a t => simp only [List.cons_append, lsuf, List.tail_cons]

theorem rowOf_getD {W S : List (List Int)} {L u : List Int} {c : Nat} (hc : c < L.length) : (rowOf W S L u).getD (c + 1) 0 = (S.idxOf (lsuf W (u ++ [L.getD c 0])) : Int) := by
  simp [rowOf, List.getD, hc]
theorem rowOf_congr {W S S' : List (List Int)} {L u : List Int} (h : ∀ b ∈ L, S.idxOf (lsuf W (u ++ [b])) = S'.idxOf (lsuf W (u ++ [b]))) : rowOf W S L u = rowOf W S' L u := by
  unfold rowOf
  congr 1
  exact List.map_congr_left fun b hb => by rw [h b hb]

/-- the row as the round begins -/
def baseRow (L : List Int) (k : Nat) (F : List Int) (R : List (List Int)) : List Int := if k = 0 then List.replicate (L.length + 1) 0 else R.getD (F.getD k 0).toNat []

theorem St.enter {W : List (List Int)} {L : List Int} {ps : List (List Int)} {k : Nat} {S : List (List Int)} {F : List Int} {R : List (List Int)} {H : List Int} (hW : Closed W) (h : St W L ps k S F R H) (hk : k < S.length) :
    In W L ps k 0 S (S.getD k []) F R H (baseRow L k F R) ∧ (0 < k → (F.getD k 0).toNat < k) := by
  have hf := h.bfs.fall hW hk
  have hfk : (F.getD k 0).toNat = S.idxOf (lsuf W (S.getD k []).tail) := by rw [h.fv k hk]; simp
  have hsm : S.getD k [] = [] ↔ k = 0 := by
    have h0 := h.bfs.hd
    rw [getD_any (hd_len h0) [0] []] at h0
    constructor
    · intro e
      rcases Nat.eq_zero_or_pos k with z | z
      · exact z
      · have := sorted_lt h.bfs.srt z hk
        rw [e, h0] at this; exact absurd this (wlt_irrefl _)
    · intro e; subst e; exact h0
  have hbase : ∀ c, c < L.length → lsuf W (S.getD k [] ++ [L.getD c 0]).tail ∈ S ∧ (baseRow L k F R).getD (c + 1) 0 = (S.idxOf (lsuf W (S.getD k [] ++ [L.getD c 0]).tail) : Int) := by
    intro c hc
    rw [fall_word hW]
    by_cases hk0 : k = 0
    · rw [if_pos (hsm.2 hk0)]
      have h0 := h.bfs.hd
      rw [getD_any (hd_len h0) [0] []] at h0
      have hm := getD_mem' (l := S) (d := []) (hd_len h.bfs.hd)
      rw [h0] at hm
      refine ⟨hm, ?_⟩
      have h2 := idx_getD (sorted_nodup h.bfs.srt) (hd_len h.bfs.hd)
      rw [h0] at h2
      rw [h2]
      unfold baseRow
      rw [if_pos hk0]
      simp [List.getD, hc]
    · rw [if_neg (fun e => hk0 (hsm.1 e))]
      have hlt := hf.2 (by omega)
      obtain ⟨q1, q2⟩ := mem_getD (d := []) hf.1
      have hst := h.bfs.step hW _ hlt (L.getD c 0)
      rw [q2] at hst
      refine ⟨hst, ?_⟩
      unfold baseRow
      rw [if_neg hk0, hfk, h.rv _ hlt, rowOf_getD hc, q2]
  refine ⟨⟨h.bfs.enter hk, h.fl, h.fv, h.rl, h.rv, fun i hi b => h.bfs.step hW i hi b, h.hl, h.hv, ?_, ?_, fun c hc => ?_, fun c hc => (hbase c hc).1, fun c hc => by omega, fun i hi => (h.bfs.fall hW hi).1⟩, fun h0 => by rw [hfk]; exact hf.2 h0⟩
  · unfold baseRow
    by_cases hk0 : k = 0
    · rw [if_pos hk0]; simp
    · rw [if_neg hk0, hfk, h.rv _ (hf.2 (by omega))]; simp [rowOf]
  · unfold baseRow
    by_cases hk0 : k = 0
    · rw [if_pos hk0]; simp [List.getD]
    · rw [if_neg hk0, hfk, h.rv _ (hf.2 (by omega))]; simp [rowOf]
  · rw [if_neg (by omega)]; exact (hbase c hc).2

theorem take_snoc_getD {L : List Int} {j : Nat} (hj : j < L.length) : L.take (j + 1) = L.take j ++ [L.getD j 0] := by
  rw [List.take_succ_eq_append_getElem hj]; simp [List.getD, hj]

theorem In.hit {W : List (List Int)} {L : List Int} {ps : List (List Int)} {k j : Nat} {S : List (List Int)} {u : List Int} {F : List Int} {R : List (List Int)} {H row : List Int} (hL : L.Pairwise (· < ·))
    (h : In W L ps k j S u F R H row) (hj : j < L.length) (hw : u ++ [L.getD j 0] ∈ W) : In W L ps k (j + 1) (S ++ [u ++ [L.getD j 0]]) u (F ++ [row.getD (j + 1) 0]) R H (row.set (j + 1) (S.length : Int)) := by
  have hlt : ∀ c ∈ L.take j, c < L.getD j 0 := by
    intro c hc
    obtain ⟨i, hi, rfl⟩ := List.getElem_of_mem hc
    rw [List.length_take] at hi
    have := List.pairwise_iff_getElem.1 hL i j (by omega) hj (by omega)
    simpa [List.getD, hj] using this
  obtain ⟨hb, hnot⟩ := h.bfs.hit hlt hw
  have hold : ∀ {x : List Int}, x ∈ S → (S ++ [u ++ [L.getD j 0]]).idxOf x = S.idxOf x := fun hx => idx_app hx _
  have hget : ∀ i, i < S.length → (S ++ [u ++ [L.getD j 0]]).getD i [] = S.getD i [] := fun i hi => by simp [List.getD, List.getElem?_append, hi]
  have hnewg : (S ++ [u ++ [L.getD j 0]]).getD S.length [] = u ++ [L.getD j 0] := by simp [List.getD]
  have hks := h.bfs.klt
  refine ⟨by rw [take_snoc_getD hj]; exact hb, by simp [h.fl], fun i hi => ?_, h.rl, fun i hi => ?_, fun i hi b => ?_, h.hl, fun i hi => ?_, by simp [h.wl], ?_, fun c hc => ?_, fun c hc => List.mem_append.2 (.inl (h.wm c hc)), fun c hc => ?_, fun i hi => ?_⟩
  · simp only [List.length_append, List.length_singleton] at hi
    by_cases hi2 : i < S.length
    · rw [hget i hi2, hold (h.fm i hi2), ← h.fv i hi2]
      simp [List.getD, List.getElem?_append, h.fl, hi2]
    · obtain rfl : i = S.length := by omega
      rw [hnewg, hold (h.wm j hj)]
      have := h.wv j hj
      rw [if_neg (by omega)] at this
      rw [← this]
      have e : (F ++ [row.getD (j + 1) 0]).getD S.length 0 = row.getD (j + 1) 0 := by rw [← h.fl]; simp [List.getD]
      exact e
  · rw [h.rv i hi, hget i (by omega)]
    exact rowOf_congr fun b hb => (hold (h.rm i hi b)).symm
  · rw [hget i (by omega)]
    exact List.mem_append.2 (.inl (h.rm i hi b))
  · rw [h.hv i hi, hget i (by omega)]
  · have := h.w0
    have hl := h.wl
    simp only [List.getD] at *
    rw [List.getElem?_set_ne (by omega)]
    exact this
  · by_cases hcj : c = j
    · subst hcj
      rw [if_pos (by omega), lsuf_self hw, idx_new hnot]
      have hl := h.wl
      simp [List.getD, show c + 1 < row.length by omega]
    · have e : (row.set (j + 1) (S.length : Int)).getD (c + 1) 0 = row.getD (c + 1) 0 := by
        simp only [List.getD]; rw [List.getElem?_set_ne (by omega)]
      rw [e, h.wv c hc]
      by_cases hc2 : c < j
      · rw [if_pos hc2, if_pos (by omega), hold (h.wd c hc2)]
      · rw [if_neg hc2, if_neg (by omega), hold (h.wm c hc)]
  · by_cases hcj : c = j
    · subst hcj; rw [lsuf_self hw]; simp
    · exact List.mem_append.2 (.inl (h.wd c (by omega)))
  · simp only [List.length_append, List.length_singleton] at hi
    by_cases hi2 : i < S.length
    · rw [hget i hi2]; exact List.mem_append.2 (.inl (h.fm i hi2))
    · obtain rfl : i = S.length := by omega
      rw [hnewg]; exact List.mem_append.2 (.inl (h.wm j hj))

theorem In.miss {W : List (List Int)} {L : List Int} {ps : List (List Int)} {k j : Nat} {S : List (List Int)} {u : List Int} {F : List Int} {R : List (List Int)} {H row : List Int}
    (h : In W L ps k j S u F R H row) (hj : j < L.length) (hw : u ++ [L.getD j 0] ∉ W) : In W L ps k (j + 1) S u F R H row := by
  refine ⟨by rw [take_snoc_getD hj]; exact h.bfs.miss hw, h.fl, h.fv, h.rl, h.rv, h.rm, h.hl, h.hv, h.wl, h.w0, fun c hc => ?_, h.wm, fun c hc => ?_, h.fm⟩
  · rw [h.wv c hc]
    by_cases hcj : c = j
    · subst hcj
      rw [if_neg (by omega), if_pos (by omega)]
      rw [lsuf_word (u := u), if_neg hw]
    · by_cases hc2 : c < j
      · rw [if_pos hc2, if_pos (by omega)]
      · rw [if_neg hc2, if_neg (by omega)]
  · by_cases hcj : c = j
    · subst hcj; rw [lsuf_word, if_neg hw]; exact h.wm c hj
    · exact h.wd c (by omega)

theorem In.fall {W : List (List Int)} {L : List Int} {ps : List (List Int)} {k j : Nat} {S : List (List Int)} {u : List Int} {F : List Int} {R : List (List Int)} {H row : List Int}
    (h : In W L ps k j S u F R H row) (h0 : 0 < k) : (F.getD k 0).toNat < k := by
  have hk := h.bfs.klt
  have hat := h.bfs.at_
  have hz := h.bfs.hd
  rw [getD_any (hd_len hz) [0] []] at hz
  have hun : u ≠ [] := by
    intro e2
    have := sorted_lt h.bfs.srt h0 hk
    rw [hz, hat, e2] at this; exact wlt_irrefl _ this
  have hm := h.fm k hk
  obtain ⟨q1, q2⟩ := mem_getD (d := []) hm
  have hfi : (F.getD k 0).toNat = S.idxOf (lsuf W u.tail) := by rw [h.fv k hk, hat]; simp
  rw [hat] at q1 q2
  rw [hfi]
  refine sorted_inj h.bfs.srt q1 hk ?_
  rw [q2, hat]
  refine wlt_len ?_
  have := lsuf_len W u.tail
  have h9 : u.tail.length = u.length - 1 := List.length_tail
  have : 0 < u.length := by cases u with | nil => exact absurd rfl hun | cons a t => simp
  omega

theorem In.leave {W : List (List Int)} {L : List Int} {ps : List (List Int)} {k : Nat} {S : List (List Int)} {u : List Int} {F : List Int} {R : List (List Int)} {H row : List Int}
    (hW : Closed W) (hps : ∀ p ∈ ps, p ∈ W) (hL : ∀ u b, u ++ [b] ∈ W → b ∈ L) (h : In W L ps k L.length S u F R H row) (c : Int) (hc : c = (eqs ps u : Int) + (if k = 0 then 0 else H.getD (F.getD k 0).toNat 0)) :
    St W L ps (k + 1) S F (R ++ [row]) (H ++ [c]) := by
  have hb := h.bfs
  rw [List.take_length] at hb
  have hk := hb.klt
  have hat := hb.at_
  refine ⟨hb.leave (hL u), h.fl, h.fv, by simp [h.rl], fun i hi => ?_, by simp [h.hl], fun i hi => ?_⟩
  · by_cases hik : i < k
    · have e : (R ++ [row]).getD i [] = R.getD i [] := by simp [List.getD, List.getElem?_append, h.rl, hik]
      rw [e]; exact h.rv i hik
    · obtain rfl : i = k := by omega
      have e : (R ++ [row]).getD i [] = row := by simp [List.getD, ← h.rl]
      rw [e, hat]
      refine List.ext_getElem (by simp [rowOf, h.wl]) fun m h1 h2 => ?_
      rcases m with _ | m
      · have h3 := h.w0
        simp only [List.getD, List.getElem?_eq_getElem h1, Option.getD_some] at h3
        rw [h3]; simp [rowOf]
      · have hm : m < L.length := by have := h.wl; omega
        have h3 := h.wv m hm
        rw [if_pos hm] at h3
        simp only [List.getD, List.getElem?_eq_getElem h1, Option.getD_some, List.getElem?_eq_getElem hm] at h3
        rw [h3]; simp [rowOf]
  · by_cases hik : i < k
    · have e : (H ++ [c]).getD i 0 = H.getD i 0 := by simp [List.getD, List.getElem?_append, h.hl, hik]
      rw [e]; exact h.hv i hik
    · obtain rfl : i = k := by omega
      have e : (H ++ [c]).getD i 0 = c := by simp [List.getD, ← h.hl]
      rw [e, hat, hc]
      have h0 := hb.hd
      rw [getD_any (hd_len h0) [0] []] at h0
      by_cases hi0 : i = 0
      · subst hi0
        rw [if_pos rfl, ← hat, h0, cnt_nil]; simp
      · rw [if_neg hi0]
        have hun : u ≠ [] := by
          intro e2
          have := sorted_lt hb.srt (show 0 < i by omega) hk
          rw [h0, hat, e2] at this; exact wlt_irrefl _ this
        have hm := h.fm i hk
        obtain ⟨q1, q2⟩ := mem_getD (d := []) hm
        have hfi : (F.getD i 0).toNat = S.idxOf (lsuf W u.tail) := by rw [h.fv i hk, hat]; simp
        rw [hat] at q1 q2
        have hlt : S.idxOf (lsuf W u.tail) < i := by
          refine sorted_inj hb.srt q1 hk ?_
          rw [q2, hat]
          refine wlt_len ?_
          have := lsuf_len W u.tail
          have h9 : u.tail.length = u.length - 1 := List.length_tail
          have : 0 < u.length := by cases u with | nil => exact absurd rfl hun | cons a t => simp
          omega
        rw [hfi, h.hv _ hlt, q2, cnt_split hps hun]
        simp

end Go.Proofs.Ytfhoaehoccfadaa
