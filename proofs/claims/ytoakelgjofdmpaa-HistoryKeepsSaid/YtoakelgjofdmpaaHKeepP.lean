/-
  the plain law of Keep: some commits of a list alone, renumbered.
-/
import Derived.Test.YtoakelgjofdmpaaHHeadP
namespace Go.Proofs.Ytoakelgjofdmpaa
set_option linter.unusedVariables false
set_option linter.unusedSimpArgs false

/-- how many of the first n commits are kept -/
def rank (l : List Int) (n : Nat) : Nat := ((List.range n).filter fun (m : Nat) => l.contains (m : Int)).length
theorem rank_zero (l : List Int) : rank l 0 = 0 := rfl
theorem rank_succ (l : List Int) (n : Nat) : rank l (n + 1) = if l.contains (n : Int) then rank l n + 1 else rank l n := by
  unfold rank
  rw [List.range_succ, List.filter_append, List.length_append]
  cases h : l.contains (n : Int)
  · simp only [List.filter_cons, List.filter_nil, h, Bool.false_eq_true, if_false, List.length_nil, Nat.add_zero]
  · simp only [List.filter_cons, List.filter_nil, h, if_true, List.length_cons, List.length_nil, Nat.zero_add]
theorem rank_mono (l : List Int) {m n : Nat} (h : m ≤ n) : rank l m ≤ rank l n := by
  induction h with
  | refl => exact Nat.le_refl _
  | step _ ih => rw [rank_succ]; split <;> omega
theorem rank_lt (l : List Int) {m n : Nat} (h : m < n) (hk : l.contains (m : Int) = true) : rank l m < rank l n := by
  have h1 := rank_succ l m
  rw [if_pos hk] at h1
  have := rank_mono l (show m + 1 ≤ n from h)
  omega
theorem rank_le (l : List Int) (n : Nat) : rank l n ≤ n := by
  induction n with
  | zero => exact Nat.le_refl _
  | succ n ih => rw [rank_succ]; split <;> omega

/-- the new number of a commit; -1: not kept -/
def toV (l : List Int) (n : Nat) : Int := if l.contains (n : Int) then (rank l n : Int) else -1
def toL (l : List Int) (N k : Nat) : List Int := (List.range N).map fun (n : Nat) => if n < k then toV l n else 0
theorem toL_len (l N k) : (toL l N k).length = N := by simp [toL]
theorem toL_zero (l N) : toL l N 0 = List.replicate N 0 := by
  unfold toL
  refine List.ext_getElem (by simp) fun i h1 h2 => ?_
  simp
theorem toL_get (l : List Int) {N k i : Nat} (hi : i < k) (hN : i < N) : (toL l N k).getD i 0 = toV l i := by
  simp [toL, List.getD, hN, hi]
theorem toL_step (l : List Int) {N k : Nat} (x : Int) (hk : k < N) : ((toL l N k).set k x).set k (toV l k) = toL l N (k + 1) := by
  refine List.ext_getElem (by simp [toL]) fun i h1 h2 => ?_
  have hi : i < N := by simpa [toL] using h2
  rw [List.getElem_set, List.getElem_set]
  by_cases e : k = i
  · subst e; simp [toL]
  · rw [if_neg e, if_neg e]
    simp only [toL, List.getElem_map, List.getElem_range]
    by_cases h : i < k
    · rw [if_pos h, if_pos (by omega)]
    · rw [if_neg h, if_neg (by omega)]
theorem toL_step1 (l : List Int) {N k : Nat} (hk : k < N) (h : toV l k = -1) : (toL l N k).set k (-1) = toL l N (k + 1) := by
  have := toL_step l (-1) hk
  rw [List.set_set, h] at this
  exact this

/-- the kept commits below k -/
def mapP (l ps : List Int) : List Int := ps.map fun p => (rank l p.toNat : Int)
def keepTo (L : List Cm) (l : List Int) (k : Nat) : List Cm := ((List.range k).filter fun (n : Nat) => l.contains (n : Int)).map fun (n : Nat) => (mapP l (parsOf L n), (L.getD n ([], 0, .empty)).2)
theorem keepTo_zero (L l) : keepTo L l 0 = [] := rfl
theorem keepTo_succ (L : List Cm) (l : List Int) (k : Nat) : keepTo L l (k + 1) = if l.contains (k : Int) then keepTo L l k ++ [(mapP l (parsOf L k), (L.getD k ([], 0, .empty)).2)] else keepTo L l k := by
  unfold keepTo
  rw [List.range_succ, List.filter_append]
  cases h : l.contains (k : Int)
  · simp only [List.filter_cons, List.filter_nil, h, Bool.false_eq_true, if_false, List.append_nil]
  · simp only [List.filter_cons, List.filter_nil, h, if_true, List.map_append, List.map_cons, List.map_nil]
theorem keepTo_len (L : List Cm) (l : List Int) (k : Nat) : (keepTo L l k).length = rank l k := by simp [keepTo, rank]

/-- all parents of the kept commits below k are kept -/
def Kept (L : List Cm) (l : List Int) (k : Nat) : Prop := ∀ n, n < k → (n : Int) ∈ l → ∀ p ∈ parsOf L n, p ∈ l
theorem keep_good {L : List Cm} (hL : GoodL L) (l : List Int) : ∀ k, k ≤ L.length → Kept L l k → GoodL (keepTo L l k)
  | 0, _, _ => fun i x h => by simp [keepTo] at h
  | k + 1, hk, hc => by
    have ih := keep_good hL l k (by omega) (fun n hn => hc n (by omega))
    rw [keepTo_succ]
    cases hm : l.contains (k : Int) with
    | false => simpa using ih
    | true =>
      rw [if_pos rfl]
      intro i x hx
      by_cases hi : i < (keepTo L l k).length
      · rw [List.getElem?_append_left hi] at hx; exact ih i x hx
      · rw [List.getElem?_append_right (by omega)] at hx
        have hi2 : i = (keepTo L l k).length := by have := (List.getElem?_eq_some_iff.1 hx).1; simp at this; omega
        subst hi2
        simp only [Nat.sub_self, List.getElem?_cons_zero, Option.some.injEq] at hx
        subst hx
        have e : L[k]? = some (L.getD k ([], 0, .empty)) := by simp [List.getD, show k < L.length by omega]
        obtain ⟨g1, g2, g3, g4, g5⟩ := hL k _ e
        have hkm : (k : Int) ∈ l := by simpa using hm
        have hp : ∀ p ∈ parsOf L k, ∃ q : Nat, p = (q : Int) ∧ q < k ∧ l.contains (q : Int) = true := by
          intro p hp
          have h1 := pars_lt hL hp
          obtain ⟨q, rfl⟩ := Int.eq_ofNat_of_zero_le h1.1
          exact ⟨q, rfl, by omega, by rw [List.contains_iff_mem]; exact hc k (by omega) hkm _ hp⟩
        refine ⟨by simp only [mapP, List.length_map]; exact g1, ?_, fun p hpm => ?_, g4, g5⟩
        · have g2' : (parsOf L k).Nodup := g2
          show (mapP l (parsOf L k)).Nodup
          unfold mapP
          rw [List.Nodup, List.pairwise_map]
          refine List.Pairwise.imp_of_mem ?_ g2'
          intro a b ha hb hab hr
          obtain ⟨qa, rfl, ha1, ha2⟩ := hp a ha
          obtain ⟨qb, rfl, hb1, hb2⟩ := hp b hb
          simp only [Int.toNat_natCast] at hr
          have hr : rank l qa = rank l qb := by omega
          rcases Nat.lt_trichotomy qa qb with h | h | h
          · have := rank_lt l h ha2; omega
          · exact hab (by rw [h])
          · have := rank_lt l h hb2; omega
        · obtain ⟨p0, hp0, rfl⟩ := List.mem_map.1 hpm
          obtain ⟨q, rfl, h1, h2⟩ := hp p0 hp0
          rw [Int.toNat_natCast, keepTo_len]
          have := rank_lt l h1 h2
          omega

def keptB (L : List Cm) (l : List Int) : Bool := (List.range L.length).all fun (n : Nat) => !l.contains (n : Int) || (parsOf L n).all fun p => l.contains p
theorem keptB_iff (L : List Cm) (l : List Int) : keptB L l = true ↔ Kept L l L.length := by
  unfold keptB Kept
  simp only [List.all_eq_true, List.mem_range, Bool.or_eq_true, Bool.not_eq_true', List.contains_iff_mem]
  constructor
  · intro h n hn hm
    rcases h n hn with h1 | h1
    · rw [← Bool.not_eq_true, List.contains_iff_mem] at h1; exact absurd hm h1
    · exact h1
  · intro h n hn
    by_cases hm : (n : Int) ∈ l
    · exact .inr (h n hn hm)
    · refine .inl ?_
      rw [← Bool.not_eq_true, List.contains_iff_mem]; exact hm
/-- the error's number -/
def keepCode (L : List Cm) (l : List Int) : Int :=
  if ∃ k ∈ l, k < 0 ∨ (L.length : Int) ≤ k then 1
  else if ¬ l.Nodup then 4
  else if keptB L l = false then 4 else 0
theorem keepCode_range {L l} (h : ∃ k ∈ l, k < 0 ∨ (L.length : Int) ≤ k) : keepCode L l = 1 := by unfold keepCode; rw [if_pos h]
theorem keepCode_dup {L l} (h0 : ∀ k ∈ l, 0 ≤ k ∧ k < (L.length : Int)) (h : ¬ l.Nodup) : keepCode L l = 4 := by
  unfold keepCode
  rw [if_neg (by rintro ⟨k, hk, hh⟩; have := h0 k hk; omega), if_pos h]
theorem keepCode_par {L l} (h0 : ∀ k ∈ l, 0 ≤ k ∧ k < (L.length : Int)) (h : ¬ Kept L l L.length) : keepCode L l = 4 := by
  unfold keepCode
  rw [if_neg (by rintro ⟨k, hk, hh⟩; have := h0 k hk; omega)]
  have hb : keptB L l = false := by rw [← Bool.not_eq_true, keptB_iff]; exact h
  rw [if_pos hb]
  split <;> rfl
theorem keepCode_ok {L l} (h0 : ∀ k ∈ l, 0 ≤ k ∧ k < (L.length : Int)) (h1 : l.Nodup) (h : Kept L l L.length) : keepCode L l = 0 := by
  unfold keepCode
  rw [if_neg (by rintro ⟨k, hk, hh⟩; have := h0 k hk; omega), if_neg (fun hh => hh h1), if_neg (by rw [(keptB_iff L l).2 h]; intro hh; cases hh)]
theorem Kept.step {L : List Cm} {l : List Int} {k : Nat} (h : Kept L l k) (hp : (k : Int) ∈ l → ∀ p ∈ parsOf L k, p ∈ l) : Kept L l (k + 1) := by
  intro n hn hm
  by_cases e : n = k
  · subst e; exact hp hm
  · exact h n (by omega) hm
theorem not_kept {L : List Cm} {l : List Int} {n : Nat} {p : Int} (hn : n < L.length) (hm : (n : Int) ∈ l) (hp : p ∈ parsOf L n) (hq : p ∉ l) : ¬ Kept L l L.length := fun h => hq (h n hn hm p hp)
/-- times: how often each number stands in the first i of the list -/
def timesL (l : List Int) (N i : Nat) : List Int := (List.range N).map fun (n : Nat) => ((l.take i).count (n : Int) : Int)
theorem timesL_len (l N i) : (timesL l N i).length = N := by simp [timesL]
theorem timesL_zero (l N) : timesL l N 0 = List.replicate N 0 := by
  refine List.ext_getElem (by simp [timesL]) fun i h1 h2 => ?_
  simp [timesL]
theorem timesL_get (l : List Int) (i : Nat) {N n : Nat} (hn : n < N) : (timesL l N i).getD n 0 = ((l.take i).count (n : Int) : Int) := by simp [timesL, List.getD, hn]
theorem timesL_succ (l : List Int) {N i q : Nat} (hi : i < l.length) (hq : l.getD i 0 = (q : Int)) (hqN : q < N) : (timesL l N i).set q ((timesL l N i).getD q 0 + 1) = timesL l N (i + 1) := by
  rw [timesL_get l i hqN]
  refine List.ext_getElem (by simp [timesL]) fun n h1 h2 => ?_
  have hn : n < N := by simpa [timesL] using h2
  rw [List.getElem_set]
  have e : l.take (i + 1) = l.take i ++ [(q : Int)] := by rw [getD_take_snoc (d := 0) hi, hq]
  by_cases h : q = n
  · subst h
    rw [if_pos rfl]
    simp only [timesL, List.getElem_map, List.getElem_range, e, List.count_append, List.count_singleton_self]
    omega
  · rw [if_neg h]
    have h3 : ¬ ((q : Int) = (n : Int)) := by omega
    simp [timesL, e, List.count_append, List.count_cons, h3]

end Go.Proofs.Ytoakelgjofdmpaa
