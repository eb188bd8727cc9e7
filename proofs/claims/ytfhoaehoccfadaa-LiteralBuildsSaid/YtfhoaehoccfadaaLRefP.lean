/-
  evergreenref32.Of, the plain law: the last state that is a suffix of a text is the longest suffix in the set.
-/
import Derived.Test.YtfhoaehoccfadaaLRef
namespace Go.Proofs.Ytfhoaehoccfadaa
open Go.RowKit Go.Maps
set_option linter.unusedVariables false
set_option linter.unusedSimpArgs false

theorem at_suffix (ps : List (List Int)) (t : List Int) : (prefs ps).getD (litAt ps t) [] <:+ t := by
  obtain ⟨q1, q2⟩ := mem_getD (d := []) (lsuf_mem (prefs_closed ps).nil t)
  unfold litAt
  rw [q2]
  exact lsuf_suffix _ _
theorem past_suffix (ps : List (List Int)) (t : List Int) {i : Nat} (h1 : litAt ps t < i) (h2 : i < (prefs ps).length) : ¬ (prefs ps).getD i [] <:+ t := by
  intro hs
  have hm : (prefs ps).getD i [] ∈ prefs ps := getD_mem h2
  have hl := (suffix_lsuf hm t).1 hs
  obtain ⟨q1, q2⟩ := mem_getD (d := []) (lsuf_mem (prefs_closed ps).nil t)
  have hw := List.pairwise_iff_getElem.1 (prefs_sorted ps) _ _ q1 h2 h1
  have e1 : (prefs ps)[(prefs ps).idxOf (lsuf (prefs ps) t)] = lsuf (prefs ps) t := by
    rw [← List.getElem_eq_getD (h := q1) []] at q2; exact q2
  have e2 : (prefs ps).getD i [] = (prefs ps)[i] := by simp [List.getD, h2]
  rw [e1, ← e2] at hw
  have hle := hl.length_le
  rcases hw with h | ⟨h, h3⟩
  · omega
  · rw [hl.eq_of_length h.symm, llt_irrefl] at h3
    cases h3
/-- an entry of a state's row, as the reference finds it -/
theorem row_entry {ps : List (List Int)} {i : Nat} (hi : i < (prefs ps).length) {b : Nat} (hb : b < 256) : litGo ps (i : Int) b = (litAt ps ((prefs ps).getD i [] ++ [(b : Int)]) : Int) := by
  have hm : (prefs ps).getD i [] ∈ prefs ps := getD_mem hi
  have h := litGo_eq hm hb
  have hn : (prefs ps).Nodup := List.Pairwise.imp (S := fun a b => a ≠ b) (fun {a b} h e => wlt_irrefl a (by rw [← e] at h; exact h)) (prefs_sorted ps)
  have e : (prefs ps).idxOf ((prefs ps).getD i []) = i := by
    have e2 : (prefs ps).getD i [] = (prefs ps)[i] := by simp [List.getD, hi]
    rw [e2]; exact hn.idxOf_getElem i hi
  rw [e] at h
  exact h

/-- the scan for a letter: one pattern on, one letter on -/
def seen (ps : List (List Int)) (b : Nat) (i : Nat) (p : List Int) (k : Nat) : Bool := usedB (ps.take i) b || (p.take k).contains (b : Int)
theorem seen_zero (ps : List (List Int)) (b i : Nat) (p : List Int) : seen ps b i p 0 = usedB (ps.take i) b := by simp [seen]
theorem seen_succ (ps : List (List Int)) (b i : Nat) (p : List Int) {k : Nat} (hk : k < p.length) : seen ps b i p (k + 1) = (seen ps b i p k || decide (p.getD k 0 = (b : Int))) := by
  unfold seen
  rw [getD_take_snoc (d := 0) hk, Bool.or_assoc]
  congr 1
  rw [Bool.eq_iff_iff]
  simp only [List.contains_iff_mem, List.mem_append, List.mem_singleton, Bool.or_eq_true, decide_eq_true_eq]
  exact ⟨fun h => h.imp id Eq.symm, fun h => h.imp id Eq.symm⟩
theorem seen_all (ps : List (List Int)) (b : Nat) {i : Nat} (hi : i < ps.length) : seen ps b i (ps.getD i []) (ps.getD i []).length = usedB (ps.take (i + 1)) b := by
  unfold seen
  rw [List.take_length, getD_take_snoc (d := []) hi]
  unfold usedB
  rw [List.any_append]
  simp
theorem used_all (ps : List (List Int)) (b : Nat) : usedB (ps.take ps.length) b = usedB ps b := by rw [List.take_length]

/-- a state's row, up to its letter c -/
def refRow (ps : List (List Int)) (u : List Int) (c : Nat) : List Int := 0 :: ((litL ps).take c).map fun b => (litAt ps (u ++ [b]) : Int)
theorem refRow_zero (ps u) : refRow ps u 0 = [0] := rfl
theorem refRow_succ (ps u) {c : Nat} (hc : c < (litL ps).length) : refRow ps u (c + 1) = refRow ps u c ++ [(litAt ps (u ++ [(litL ps).getD c 0]) : Int)] := by
  unfold refRow
  rw [getD_take_snoc (d := 0) hc, List.map_append]
  rfl
theorem refRow_all (ps) {i : Nat} (hi : i < (prefs ps).length) : refRow ps ((prefs ps).getD i []) (litL ps).length = (litN ps).getD i [] := by
  unfold refRow litN rowOf litAt
  rw [List.take_length]
  simp [List.getD, hi]
theorem refRow_len (ps u) {c : Nat} (hc : c ≤ (litL ps).length) : (refRow ps u c).length = c + 1 := by
  unfold refRow
  simp; omega
theorem litN_snoc (ps) {i : Nat} (hi : i < (prefs ps).length) : (litN ps).take (i + 1) = (litN ps).take i ++ [(litN ps).getD i []] := getD_take_snoc (by rw [litN_len]; exact hi)
theorem litH_snoc (ps) {i : Nat} (hi : i < (prefs ps).length) : (litH ps).take (i + 1) = (litH ps).take i ++ [(cnt ps ((prefs ps).getD i []) : Int)] := by
  rw [getD_take_snoc (d := 0) (by rw [litH_len]; exact hi)]
  unfold litH
  simp [List.getD, hi]

end Go.Proofs.Ytfhoaehoccfadaa
