/-
  ancestors in a list of commits: the plain law of the marks; common ancestors and bases.
-/
import Derived.Test.YtoakelgjofdmpaaHBase
namespace Go.Proofs.Ytoakelgjofdmpaa
set_option linter.unusedVariables false
set_option linter.unusedSimpArgs false

def parsOf (L : List Cm) (i : Nat) : List Int := (L.getD i ([], 0, .empty)).1

inductive Anc (L : List Cm) : Nat → Nat → Prop
  | refl (n : Nat) : Anc L n n
  | step {i j n : Nat} : Anc L i n → (j : Int) ∈ parsOf L i → Anc L j n

theorem pars_lt {L : List Cm} (hL : GoodL L) {i : Nat} {p : Int} (h : p ∈ parsOf L i) : 0 ≤ p ∧ p < (i : Int) ∧ i < L.length := by
  unfold parsOf at h
  by_cases hi : i < L.length
  · have e : L[i]? = some (L.getD i ([], 0, .empty)) := by simp [List.getD, hi]
    have := (hL i _ e).2.2.1 p h
    exact ⟨this.1, this.2, hi⟩
  · have e : L.getD i ([], 0, .empty) = ([], 0, .empty) := by simp [List.getD, Nat.not_lt.1 hi]
    rw [e] at h; simp at h

theorem Anc.le {L : List Cm} (hL : GoodL L) {j n : Nat} (h : Anc L j n) : j ≤ n := by
  induction h with
  | refl => omega
  | step _ hp ih => have := pars_lt hL hp; omega
theorem Anc.trans {L : List Cm} {a b c : Nat} (h : Anc L a b) (k : Anc L b c) : Anc L a c := by
  induction h with
  | refl => exact k
  | step _ hp ih => exact .step (ih k) hp
/-- either itself, or a parent of an ancestor -/
theorem anc_iff {L : List Cm} {j n : Nat} : Anc L j n ↔ j = n ∨ ∃ i, Anc L i n ∧ (j : Int) ∈ parsOf L i :=
  ⟨fun h => by
    cases h with
    | refl => exact .inl rfl
    | step h hp => exact .inr ⟨_, h, hp⟩, fun h => by
    rcases h with rfl | ⟨i, h, hp⟩
    · exact .refl _
    · exact .step h hp⟩

/-- these places are marked -/
def markP (m : List Bool) (ps : List Int) : List Bool := ps.foldl (fun m p => m.set p.toNat true) m
theorem markP_len (ps : List Int) : ∀ m : List Bool, (markP m ps).length = m.length := by
  induction ps with
  | nil => intro m; rfl
  | cons p r ih => intro m; show (markP (m.set p.toNat true) r).length = _; rw [ih]; simp
theorem markP_get (ps : List Int) : ∀ (m : List Bool) (j : Nat), j < m.length → (∀ p ∈ ps, 0 ≤ p) → ((markP m ps).getD j false = true ↔ m.getD j false = true ∨ (j : Int) ∈ ps) := by
  induction ps with
  | nil => intro m j hj _; simp [markP]
  | cons p r ih =>
    intro m j hj h0
    show (markP (m.set p.toNat true) r).getD j false = true ↔ _
    rw [ih _ j (by simpa using hj) (fun q hq => h0 q (by simp [hq]))]
    have hp := h0 p (by simp)
    by_cases hjp : p.toNat = j
    · have : (j : Int) = p := by omega
      subst hjp
      simp [List.getD, hj, this]
    · have : (j : Int) ≠ p := by omega
      simp [List.getD, List.getElem?_set, hjp, this]
theorem markP_take (m : List Bool) (ps : List Int) {k : Nat} (hk : k < ps.length) : markP m (ps.take (k + 1)) = (markP m (ps.take k)).set (ps.getD k 0).toNat true := by
  unfold markP
  rw [getD_take_snoc (d := 0) hk, List.foldl_append]; rfl

def markStep (L : List Cm) (m : List Bool) (i : Nat) : List Bool := if m.getD i false then markP m (parsOf L i) else m
/-- the marks after k rounds, from n down, in a list of W -/
def marks (L : List Cm) (W n : Nat) : Nat → List Bool
  | 0 => (List.replicate W false).set n true
  | k + 1 => markStep L (marks L W n k) (n - k)

theorem marks_len (L : List Cm) (W n : Nat) : ∀ k, (marks L W n k).length = W
  | 0 => by simp [marks]
  | k + 1 => by
    have := marks_len L W n k
    unfold marks markStep
    split
    · rw [markP_len]; exact this
    · exact this

theorem marks_inv {L : List Cm} (hL : GoodL L) {W n : Nat} (hW : n < W) : ∀ k, k ≤ n + 1 → ∀ j, j < W → ((marks L W n k).getD j false = true ↔ j = n ∨ ∃ i, n < i + k ∧ Anc L i n ∧ (j : Int) ∈ parsOf L i)
  | 0, _, j, hj => by
    unfold marks
    by_cases hjn : n = j
    · subst hjn; simp [List.getD, hj]
    · have h1 : ((List.replicate W false).set n true).getD j false = false := by simp [List.getD, List.getElem?_set, hjn, hj]
      rw [h1]
      constructor
      · intro h; cases h
      · rintro (h | ⟨i, h, ha, _⟩)
        · omega
        · have := ha.le hL; omega
  | k + 1, hk, j, hj => by
    have ih := marks_inv hL hW k (by omega)
    have hself : ((marks L W n k).getD (n - k) false = true ↔ Anc L (n - k) n) := by
      rw [ih (n - k) (by omega), anc_iff]
      constructor
      · rintro (h | ⟨i, _, h1, h2⟩)
        · exact .inl h
        · exact .inr ⟨i, h1, h2⟩
      · rintro (h | ⟨i, h1, h2⟩)
        · exact .inl h
        · have := pars_lt hL h2
          exact .inr ⟨i, by omega, h1, h2⟩
    unfold marks markStep
    by_cases hm : (marks L W n k).getD (n - k) false = true
    · rw [if_pos hm, markP_get _ _ _ (by rw [marks_len]; exact hj) (fun p hp => (pars_lt hL hp).1), ih j hj]
      have ha := hself.1 hm
      constructor
      · rintro ((h | ⟨i, h1, h2, h3⟩) | h)
        · exact .inl h
        · exact .inr ⟨i, by omega, h2, h3⟩
        · exact .inr ⟨n - k, by omega, ha, h⟩
      · rintro (h | ⟨i, h1, h2, h3⟩)
        · exact .inl (.inl h)
        · by_cases hi : n < i + k
          · exact .inl (.inr ⟨i, hi, h2, h3⟩)
          · have : i = n - k := by omega
            subst this; exact .inr h3
    · rw [if_neg hm, ih j hj]
      constructor
      · rintro (h | ⟨i, h1, h2, h3⟩)
        · exact .inl h
        · exact .inr ⟨i, by omega, h2, h3⟩
      · rintro (h | ⟨i, h1, h2, h3⟩)
        · exact .inl h
        · by_cases hi : n < i + k
          · exact .inr ⟨i, hi, h2, h3⟩
          · have : i = n - k := by omega
            subst this; exact absurd (hself.2 h2) hm

/-- once all above j are done, its mark tells -/
theorem marks_anc {L : List Cm} (hL : GoodL L) {W n k j : Nat} (hW : n < W) (hk : k ≤ n + 1) (hj : n ≤ j + k) (hjW : j < W) : ((marks L W n k).getD j false = true ↔ Anc L j n) := by
  rw [marks_inv hL hW k hk j hjW, anc_iff]
  constructor
  · rintro (h | ⟨i, _, h1, h2⟩)
    · exact .inl h
    · exact .inr ⟨i, h1, h2⟩
  · rintro (h | ⟨i, h1, h2⟩)
    · exact .inl h
    · have := pars_lt hL h2
      exact .inr ⟨i, by omega, h1, h2⟩

/-- a is b or an ancestor of b -/
def ancB (L : List Cm) (a b : Nat) : Bool := (marks L (b + 1) b (b + 1)).getD a false
theorem ancB_iff {L : List Cm} (hL : GoodL L) {a b : Nat} : ancB L a b = true ↔ Anc L a b := by
  unfold ancB
  by_cases h : a < b + 1
  · exact marks_anc hL (by omega) (Nat.le_refl _) (by omega) h
  · have e : (marks L (b + 1) b (b + 1)).getD a false = false := by
      have := marks_len L (b + 1) b (b + 1)
      simp [List.getD, List.getElem?_eq_none (l := marks L (b + 1) b (b + 1)) (i := a) (by omega)]
    rw [e]
    constructor
    · intro h; cases h
    · intro ha; have := ha.le hL; omega
theorem marks_eq {L : List Cm} (hL : GoodL L) {W n k j : Nat} (hW : n < W) (hk : k ≤ n + 1) (hj : n ≤ j + k) (hjW : j < W) : (marks L W n k).getD j false = ancB L j n := by
  rw [Bool.eq_iff_iff, marks_anc hL hW hk hj hjW, ancB_iff hL]
theorem ancB_refl {L : List Cm} (hL : GoodL L) (a : Nat) : ancB L a a = true := (ancB_iff hL).2 (.refl a)
theorem ancB_gt {L : List Cm} (hL : GoodL L) {a b : Nat} (h : b < a) : ancB L a b = false := by
  rw [Bool.eq_false_iff]; intro hh; have := ((ancB_iff hL).1 hh).le hL; omega

/-- a common ancestor -/
def com (L : List Cm) (a b n : Nat) : Bool := ancB L n a && ancB L n b
/-- a common ancestor that no common ancestor has as a parent -/
def covered (L : List Cm) (a b n : Nat) : Bool := (List.range L.length).any fun i => com L a b i && (parsOf L i).contains (n : Int)
def baseB (L : List Cm) (a b n : Nat) : Bool := com L a b n && !covered L a b n
/-- the bases -/
def bases (L : List Cm) (a b : Nat) : List Int := ((List.range L.length).filter (baseB L a b)).map (fun (n : Nat) => (n : Int))

theorem com_symm (L : List Cm) (a b n : Nat) : com L a b n = com L b a n := by unfold com; rw [Bool.and_comm]
theorem bases_symm (L : List Cm) (a b : Nat) : bases L a b = bases L b a := by
  unfold bases
  congr 1
  apply List.filter_congr
  intro n _
  unfold baseB covered
  rw [com_symm L a b n]
  congr 3
  funext i
  rw [com_symm L a b i]

theorem covered_iff {L : List Cm} (hL : GoodL L) {a b n : Nat} : covered L a b n = true ↔ ∃ m, m ≠ n ∧ com L a b m = true ∧ Anc L n m := by
  unfold covered
  rw [List.any_eq_true]
  constructor
  · rintro ⟨i, _, hi⟩
    rw [Bool.and_eq_true, List.contains_iff_mem] at hi
    have := pars_lt hL hi.2
    exact ⟨i, by omega, hi.1, .step (.refl i) hi.2⟩
  · rintro ⟨m, hne, hm, ha⟩
    cases ha with
    | refl => exact absurd rfl hne
    | @step i j k h hp =>
      have := pars_lt hL hp
      refine ⟨i, List.mem_range.2 this.2.2, ?_⟩
      unfold com at hm ⊢
      rw [Bool.and_eq_true, ancB_iff hL, ancB_iff hL] at hm
      rw [Bool.and_eq_true, Bool.and_eq_true, List.contains_iff_mem, ancB_iff hL, ancB_iff hL]
      exact ⟨⟨h.trans hm.1, h.trans hm.2⟩, hp⟩

end Go.Proofs.Ytoakelgjofdmpaa
