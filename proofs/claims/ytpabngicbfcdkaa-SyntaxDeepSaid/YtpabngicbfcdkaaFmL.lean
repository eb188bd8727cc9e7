/-
  The text of a formatted tree is divided into its tokens.
-/
import Derived.Test.YtpabngicbfcdkaaFmQ
namespace Go.Proofs.Ytpabngicbfcdkaa
open Go.RowKit
set_option linter.unusedVariables false
set_option linter.unusedSimpArgs false

/-- the digits of a number -/
def decGo : Nat → Nat → List Nat
  | 0, _ => []
  | f + 1, n => if n < 10 then [48 + n] else decGo f (n / 10) ++ [48 + n % 10]
def decP (n : Nat) : List Nat := decGo (n + 1) n
theorem decGo_stab : ∀ (f g n : Nat), n < f → n < g → decGo f n = decGo g n
  | 0, _, n, h, _ => by omega
  | _ + 1, 0, n, _, h => by omega
  | f + 1, g + 1, n, h1, h2 => by
    simp only [decGo]
    split
    · rfl
    · rw [decGo_stab f g (n / 10) (by omega) (by omega)]
theorem decP_small {n : Nat} (h : n < 10) : decP n = [48 + n] := by unfold decP; simp [decGo, h]
theorem decP_big {n : Nat} (h : ¬ n < 10) : decP n = decP (n / 10) ++ [48 + n % 10] := by
  unfold decP
  rw [decGo, if_neg h, decGo_stab n (n / 10 + 1) (n / 10) (by omega) (by omega)]
theorem decP_ne (n : Nat) : decP n ≠ [] := by
  by_cases h : n < 10
  · rw [decP_small h]; simp
  · rw [decP_big h]; simp
theorem decP_dig : ∀ (m n : Nat), n ≤ m → ∀ c ∈ decP n, digB c = true
  | 0, n, h, c, hc => by
    rw [decP_small (by omega)] at hc
    simp at hc; subst hc; simp [digB]; omega
  | m + 1, n, h, c, hc => by
    by_cases h10 : n < 10
    · rw [decP_small h10] at hc
      simp at hc; subst hc; simp [digB]; omega
    · rw [decP_big h10] at hc
      rcases List.mem_append.1 hc with hc | hc
      · exact decP_dig m (n / 10) (by omega) c hc
      · simp at hc; subst hc; simp [digB]; omega
theorem valGo_app : ∀ (l : List Nat) (a : Nat) (x : Nat), (∀ k, valGo a l = some k → valGo a (l ++ [x]) = if (1152921504606846976 - (x - 48)) / 10 < k then none else some (10 * k + (x - 48)))
  | [], a, x, k, h => by
    simp only [valGo] at h; cases h
    simp [valGo]
  | c :: l, a, x, k, h => by
    simp only [valGo, List.cons_append] at h ⊢
    split at h
    · cases h
    · rename_i hc; rw [if_neg hc]; exact valGo_app l _ x k h
theorem valGo_dec : ∀ (m n : Nat), n ≤ m → n ≤ 1152921504606846976 → valGo 0 (decP n) = some n
  | 0, n, h, h9 => by
    rw [decP_small (by omega)]
    obtain rfl : n = 0 := by omega
    rfl
  | m + 1, n, h, h9 => by
    by_cases h10 : n < 10
    · rw [decP_small h10]
      simp only [valGo]
      rw [if_neg (by omega)]
      congr 1; omega
    · rw [decP_big h10, valGo_app _ _ _ _ (valGo_dec m (n / 10) (by omega) (by omega)), if_neg (by omega)]
      congr 1; omega
theorem decP_head : ∀ (m n : Nat), n ≤ m → (decP n).head? = some 48 → n = 0
  | 0, n, h, _ => by omega
  | m + 1, n, h, hh => by
    by_cases h10 : n < 10
    · rw [decP_small h10] at hh; simp at hh; omega
    · rw [decP_big h10] at hh
      have hne := decP_ne (n / 10)
      have : (decP (n / 10) ++ [48 + n % 10]).head? = (decP (n / 10)).head? := by
        cases hd : decP (n / 10) with
        | nil => exact absurd hd hne
        | cons a b => rfl
      rw [this] at hh
      have := decP_head m (n / 10) (by omega) hh
      omega
theorem valP_dec (n : Nat) (h : n ≤ 1152921504606846976) : valP (decP n) = some n := by
  unfold valP
  rw [if_neg, valGo_dec n n (Nat.le_refl _) h]
  rintro ⟨h1, h2⟩
  have := decP_head n n (Nat.le_refl _) h1
  subst this
  rw [decP_small (by omega)] at h2; simp at h2

/-- a byte in quotes -/
def hexC (d : Nat) : Nat := if d < 10 then 48 + d else 87 + d
def quC (c : Nat) : List Nat := if c = 10 then [92, 110] else if c = 9 then [92, 116] else if c = 13 then [92, 114] else if c = 34 ∨ c = 92 then [92, c] else if c < 32 ∨ 127 ≤ c then [92, 120, hexC (c / 16), hexC (c % 16)] else [c]
def quX (l : List Nat) : List Nat := 34 :: (l.flatMap quC ++ [34])
theorem hexP_C {d : Nat} (h : d < 16) : hexP (hexC d) = some d := by
  have : ∀ d : Fin 16, hexP (hexC d.1) = some d.1 := by decide
  exact this ⟨d, h⟩
theorem quo_C {c : Nat} (h : c < 256) (acc r : List Nat) : quoGo acc (quC c ++ r) = quoGo (acc ++ [c]) r := by
  unfold quC
  split
  · rename_i e; subst e; exact quo_esc (r := 110 :: r) acc (x := 10) (n := 1) rfl
  split
  · rename_i e; subst e; exact quo_esc (r := 116 :: r) acc (x := 9) (n := 1) rfl
  split
  · rename_i e; subst e; exact quo_esc (r := 114 :: r) acc (x := 13) (n := 1) rfl
  split
  · rename_i e
    rcases e with rfl | rfl
    · exact quo_esc (r := 34 :: r) acc (x := 34) (n := 1) rfl
    · exact quo_esc (r := 92 :: r) acc (x := 92) (n := 1) rfl
  split
  · have he : escP (120 :: hexC (c / 16) :: hexC (c % 16) :: r) = some (c, 3) := by
      simp only [escP]
      rw [hexP_C (by omega), hexP_C (by omega)]
      simp
      omega
    exact quo_esc (r := 120 :: hexC (c / 16) :: hexC (c % 16) :: r) acc he
  · rename_i h1 h2 h3 h4 h5
    exact quo_chr acc r (by omega) (by omega) (by omega)
theorem quo_X : ∀ (l acc r : List Nat), (∀ c ∈ l, c < 256) → quoGo acc (l.flatMap quC ++ 34 :: r) = some (acc ++ l, r)
  | [], acc, r, _ => by simp [quo_end]
  | c :: l, acc, r, h => by
    rw [List.flatMap_cons, List.append_assoc, quo_C (h c (List.mem_cons_self ..)), quo_X l (acc ++ [c]) r (fun x hx => h x (List.mem_cons_of_mem _ hx))]
    simp

/-- the bytes of a token -/
def tb (t : TkK) : List Nat := if t.1 = 1 then decP t.2.2 else if t.1 = 2 then quX t.2.1 else if t.1 = 3 then 64 :: t.2.1 else t.2.1
def goodT (t : TkK) : Prop := (t.1 = 1 ∧ t.2.1 = [] ∧ t.2.2 ≤ 1152921504606846976) ∨ (t.1 = 2 ∧ t.2.2 = 0 ∧ ∀ c ∈ t.2.1, c < 256) ∨ (t.1 = 3 ∧ t.2.2 = 0 ∧ t.2.1 ≠ [] ∧ t.2.1.all refB = true) ∨ (t.1 = 4 ∧ t.2.2 = 0 ∧ t.2.1 ≠ [] ∧ t.2.1.all letB = true) ∨
  (t.1 = 5 ∧ t.2.2 = 0 ∧ t.2.1 ∈ [[43, 43], [61, 61], [33, 61], [60, 61], [43], [45], [42], [60], [40], [41], [91], [93], [58], [44]])
/-- a sign that goes together with nothing -/
def freeT (t : TkK) : Prop := t.1 = 5 ∧ t.2.1 ∈ [[40], [41], [91], [93], [58], [44]]
/-- a byte that ends every token -/
def sepC (c : Nat) : Bool := c == 32 || c == 9 || c == 10 || c == 13 || c == 40 || c == 41 || c == 91 || c == 93 || c == 58 || c == 44
def sepH (r : List Nat) : Prop := ∀ c, r.head? = some c → sepC c = true
theorem sepC_no {c : Nat} (h : sepC c = true) : digB c = false ∧ refB c = false ∧ letB c = false ∧ c ≠ 43 ∧ c ≠ 61 := by
  simp only [sepC, Bool.or_eq_true, beq_iff_eq] at h
  rcases h with ((((((((h | h) | h) | h) | h) | h) | h) | h) | h) | h <;> subst h <;> decide
theorem spn_sep {is : Nat → Bool} {l r : List Nat} (hl : l.all is = true) (hr : ∀ c, r.head? = some c → is c = false) : spn is (l ++ r) = l.length := by
  rw [List.all_eq_true] at hl
  refine spn_end (fun j c hj hc => ?_) (by simp) (fun c hc => ?_)
  · rw [List.getElem?_append_left hj] at hc; exact hl c (List.mem_of_getElem? hc)
  · rw [List.getElem?_append_right (Nat.le_refl _), Nat.sub_self, ← List.head?_eq_getElem?] at hc; exact hr c hc
theorem tb_pos {t : TkK} (h : goodT t) : tb t ≠ [] ∧ ∀ c, (tb t).head? = some c → blankB c = false := by
  obtain ⟨k, l, n⟩ := t
  rcases h with ⟨h1, h2, h3⟩ | ⟨h1, h2, h3⟩ | ⟨h1, h2, h3, h4⟩ | ⟨h1, h2, h3, h4⟩ | ⟨h1, h2, h3⟩
  all_goals simp only at h1 h2 h3; subst h1
  · refine ⟨decP_ne n, fun c hc => ?_⟩
    have := decP_dig n n (Nat.le_refl _) c (List.mem_of_mem_head? hc)
    simp [digB] at this; simp [blankB]; omega
  · exact ⟨by simp [tb, quX], fun c hc => by simp [tb, quX] at hc; subst hc; rfl⟩
  · exact ⟨by simp [tb], fun c hc => by simp [tb] at hc; subst hc; rfl⟩
  · refine ⟨h3, fun c hc => ?_⟩
    simp only at h4
    rw [List.all_eq_true] at h4
    have := h4 c (List.mem_of_mem_head? hc)
    simp [letB] at this; simp [blankB]; omega
  · have : ∀ l ∈ [[43, 43], [61, 61], [33, 61], [60, 61], [43], [45], [42], [60], [40], [41], [91], [93], [58], [44]], l ≠ [] ∧ ∀ c ∈ l.head?, blankB c = false := by decide
    exact ⟨(this l h3).1, fun c hc => (this l h3).2 c hc⟩

/-- a token's bytes are read as that token, whatever ends it -/
theorem next_tb {t : TkK} {r : List Nat} (h : goodT t) (hr : freeT t ∨ sepH r) : nextP (tb t ++ r) = some (t, (tb t).length) := by
  obtain ⟨k, l, n⟩ := t
  rcases h with ⟨h1, h2, h3⟩ | ⟨h1, h2, h3⟩ | ⟨h1, h2, h3, h4⟩ | ⟨h1, h2, h3, h4⟩ | ⟨h1, h2, h3⟩
  · simp only at h1 h2 h3; subst h1; subst h2
    have hr : sepH r := by
      rcases hr with hf | hr
      · exact absurd hf.1 (by simp)
      · exact hr
    have e : tb (1, [], n) = decP n := rfl
    rw [e]
    have hd := decP_dig n n (Nat.le_refl _)
    obtain ⟨c, q, hcq⟩ : ∃ c q, decP n = c :: q := by
      cases hx : decP n with
      | nil => exact absurd hx (decP_ne n)
      | cons c q => exact ⟨c, q, rfl⟩
    have hs : spn digB (decP n ++ r) = (decP n).length := spn_sep (List.all_eq_true.2 hd) (fun c hc => (sepC_no (hr c hc)).1)
    rw [next_dig (l := decP n ++ r) (r := q ++ r) (c := c) (by rw [hcq]; rfl) (hd c (by rw [hcq]; simp)), hs, List.take_left, valP_dec n h3]
  · simp only at h1 h2 h3; subst h1; subst h2
    have e : tb (2, l, 0) = 34 :: (l.flatMap quC ++ [34]) := rfl
    rw [e]
    have hq : quoP (34 :: (l.flatMap quC ++ [34]) ++ r) = some (l, (34 :: (l.flatMap quC ++ [34])).length) := by
      unfold quoP
      simp only [List.cons_append, List.drop_succ_cons, List.drop_zero, List.append_assoc, List.nil_append]
      rw [quo_X l [] r h3]
      simp; omega
    have hx := next_quo (l := 34 :: (l.flatMap quC ++ [34]) ++ r) (r := l.flatMap quC ++ [34] ++ r) rfl
    rw [hx, hq]
  · simp only at h1 h2 h3 h4; subst h1; subst h2
    have hr : sepH r := by
      rcases hr with hf | hr
      · exact absurd hf.1 (by simp)
      · exact hr
    have e : tb (3, l, 0) = 64 :: l := rfl
    rw [e]
    have hs : spn refB (l ++ r) = l.length := spn_sep h4 (fun c hc => (sepC_no (hr c hc)).2.1)
    rw [next_ref (l := 64 :: l ++ r) (r := l ++ r) rfl, hs, if_neg (by simpa using h3), List.take_left]
    simp; omega
  · simp only at h1 h2 h3 h4; subst h1; subst h2
    have hr2 : sepH r := by
      rcases hr with hf | hr
      · exact absurd hf.1 (by simp)
      · exact hr
    have e : tb (4, l, 0) = l := rfl
    rw [e]
    obtain ⟨c, q, rfl⟩ : ∃ c q, l = c :: q := by
      cases l with
      | nil => exact absurd rfl h3
      | cons c q => exact ⟨c, q, rfl⟩
    have hc : letB c = true := by rw [List.all_eq_true] at h4; exact h4 c (by simp)
    have hc2 : 97 ≤ c ∧ c ≤ 122 := by simpa [letB] using hc
    have hs : spn letB (c :: q ++ r) = (c :: q).length := spn_sep h4 (fun c hd => (sepC_no (hr2 c hd)).2.2.1)
    rw [next_let (l := c :: q ++ r) (r := q ++ r) (c := c) rfl (by simp [digB]; omega) (by omega) (by omega) hc, hs, List.take_left]
  · simp only at h1 h2 h3; subst h1; subst h2
    have e : tb (5, l, 0) = l := rfl
    rw [e]
    have hh : r = [] ∨ ∃ d q, r = d :: q := by cases r with
      | nil => exact .inl rfl
      | cons d q => exact .inr ⟨d, q, rfl⟩
    simp only [List.mem_cons, List.mem_nil_iff, or_false] at h3
    rcases hh with rfl | ⟨d, q, rfl⟩
    · rcases h3 with rfl | rfl | rfl | rfl | rfl | rfl | rfl | rfl | rfl | rfl | rfl | rfl | rfl | rfl <;> rfl
    · have hd : (∃ c, l = [c] ∧ (c = 40 ∨ c = 41 ∨ c = 91 ∨ c = 93 ∨ c = 58 ∨ c = 44)) ∨ (d ≠ 43 ∧ d ≠ 61) := by
        rcases hr with hf | hr
        · left
          have := hf.2
          simp only [List.mem_cons, List.mem_nil_iff, or_false] at this
          rcases this with h | h | h | h | h | h <;> exact ⟨_, h, by decide⟩
        · exact .inr (sepC_no (hr d rfl)).2.2.2
      rcases h3 with rfl | rfl | rfl | rfl | rfl | rfl | rfl | rfl | rfl | rfl | rfl | rfl | rfl | rfl
      all_goals first
        | rfl
        | (rcases hd with ⟨c, h1, h2⟩ | ⟨h1, h2⟩
           · exact absurd h2 (by simp at h1; subst h1; decide)
           · simp [nextP, digB, letB, sgnP, twoB, oneB, h1, h2])
        | (simp [nextP, digB, letB, sgnP, twoB, oneB])

/-- the bytes of an item -/
def xI : It → List Nat
  | none => [32]
  | some t => tb t
def txI (l : List It) : List Nat := l.flatMap xI
theorem txI_app (a b : List It) : txI (a ++ b) = txI a ++ txI b := by simp [txI]
/-- the tokens with their places -/
def atI : Nat → List It → List Tk
  | _, [] => []
  | i, none :: r => atI (i + 1) r
  | i, some t :: r => (t, i) :: atI (i + (tb t).length) r
theorem atI_map : ∀ (l : List It) (i : Nat), (atI i l).map (·.1) = tkI l
  | [], _ => rfl
  | none :: r, i => by simp only [atI, tkI_none]; exact atI_map r _
  | some t :: r, i => by simp only [atI, tkI_cons, List.map_cons, atI_map r]
/-- items that follow one another as they may -/
def nextOk : List It → Prop
  | [] => True
  | none :: _ => True
  | some t :: _ => freeT t
def OkI : List It → Prop
  | [] => True
  | none :: r => OkI r
  | some t :: r => goodT t ∧ (freeT t ∨ nextOk r) ∧ OkI r
theorem free_good {t : TkK} (h : freeT t) : tb t = t.2.1 ∧ ∃ c, t.2.1 = [c] ∧ sepC c = true := by
  obtain ⟨k, l, n⟩ := t
  obtain ⟨h1, h2⟩ := h
  simp only at h1 h2
  subst h1
  refine ⟨rfl, ?_⟩
  simp only [List.mem_cons, List.mem_nil_iff, or_false] at h2
  rcases h2 with rfl | rfl | rfl | rfl | rfl | rfl <;> exact ⟨_, rfl, rfl⟩
theorem nextOk_sep {l : List It} (h : nextOk l) (X : List Nat) (hX : l = [] → sepH X) : sepH (txI l ++ X) := by
  cases l with
  | nil => exact hX rfl
  | cons x r =>
    cases x with
    | none => intro c hc; simp [txI, xI] at hc; subst hc; rfl
    | some t =>
      obtain ⟨h1, c, h2, h3⟩ := free_good h
      intro d hd
      simp only [txI, List.flatMap_cons, xI, h1, h2, List.cons_append, List.head?_cons, Option.some.injEq] at hd
      subst hd; exact h3
theorem toks_I : ∀ (l : List It) (acc : List Tk) (i : Nat), OkI l → toksGo acc i (txI l) = some (acc ++ atI i l)
  | [], acc, i, _ => by simp [txI, atI, toks_nil]
  | none :: r, acc, i, h => by
    show toksGo acc i (32 :: txI r) = _
    rw [toks_blank _ _ _ rfl, toks_I r _ _ h]; rfl
  | some t :: r, acc, i, h => by
    obtain ⟨h1, h2, h3⟩ := h
    obtain ⟨hne, hbl⟩ := tb_pos h1
    have hn : nextP (tb t ++ txI r) = some (t, (tb t).length) := next_tb h1 (h2.imp id (fun h => by have := nextOk_sep h [] (fun _ c hc => by cases hc); simpa using this))
    have e : txI (some t :: r) = tb t ++ txI r := rfl
    rw [e]
    obtain ⟨c, q, hcq⟩ : ∃ c q, tb t = c :: q := by
      cases hx : tb t with
      | nil => exact absurd hx hne
      | cons c q => exact ⟨c, q, rfl⟩
    have hc := hbl c (by rw [hcq]; rfl)
    have h9 : nextP (c :: (q ++ txI r)) = some (t, (tb t).length) := by rw [← List.cons_append, ← hcq]; exact hn
    rw [hcq, List.cons_append, toks_some _ _ hc h9, ← List.cons_append, ← hcq, List.drop_left, toks_I r _ _ h3]
    simp [atI]
theorem toksP_I {l : List It} (h : OkI l) : toksP (txI l) = some (atI 0 l) := by
  unfold toksP; rw [toks_I l [] 0 h]; rfl

end Go.Proofs.Ytpabngicbfcdkaa
