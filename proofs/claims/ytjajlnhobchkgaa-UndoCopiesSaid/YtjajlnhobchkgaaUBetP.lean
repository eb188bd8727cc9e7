/-
  the plain law of the reference of chapter 39: Goto from the root down, the way between two nodes.
-/
import Derived.Test.YtjajlnhobchkgaaUPathsW
namespace Go.Proofs.Ytjajlnhobchkgaa
set_option linter.unusedVariables false
set_option linter.unusedSimpArgs false

theorem setPref_same {l : List Nd} {p : Nat} {y : Nd} {v : Int} (hy : l[p]? = some y) (hv : y.pref = v) : setPref l p v = l := by
  refine List.ext_getElem? fun j => ?_
  cases hj : l[j]? with
  | none =>
    rw [List.getElem?_eq_none_iff] at hj ⊢
    rw [setPref_len]; exact hj
  | some z =>
    rw [setPref_get hj]
    by_cases e : p = j
    · subst e
      rw [hy] at hj
      cases hj
      rw [if_pos rfl]
      subst hv
      rfl
    · rw [if_neg e]
/-- where the preferred children lead already, Goto changes nothing -/
theorem lead_goto : ∀ (k : Nat) {l : List Nd} (hw : WfT l) (v : Nat), Lead l v → gotoP k l v = l
  | 0, l, hw, v, h => rfl
  | k + 1, l, hw, v, h => by
    rcases h.inv with rfl | ⟨p, x, y, h1, h2, h3, h4, h5, h6⟩
    · have h0 : l[0]? = some (l[0]'hw.pos) := List.getElem?_eq_getElem hw.pos
      exact gotoP_root h0 (by have := (hw.root _ h0).1; omega)
    · rw [gotoP, h1]
      simp only
      rw [if_neg (by omega), h2, Int.toNat_natCast, setPref_same h3 h4]
      exact lead_goto k hw p h6

/-- the preferred children along a path, from the root down -/
def goL : List Nat → List Int → List Int
  | a :: b :: r, L => goL (b :: r) (L.set a (b : Int))
  | _, L => L
theorem goL_len : ∀ (us : List Nat) (L : List Int), (goL us L).length = L.length
  | [], L => rfl
  | [a], L => rfl
  | a :: b :: r, L => by rw [goL, goL_len (b :: r)]; simp
theorem goL_snoc : ∀ (us : List Nat) (p v : Nat) (L : List Int), goL (us ++ [p] ++ [v]) L = (goL (us ++ [p]) L).set p (v : Int)
  | [], p, v, L => rfl
  | [a], p, v, L => rfl
  | a :: b :: r, p, v, L => by
    show goL (b :: r ++ [p] ++ [v]) (L.set a (b : Int)) = (goL (b :: r ++ [p]) (L.set a (b : Int))).set p (v : Int)
    exact goL_snoc (b :: r) p v _
theorem goL_comm : ∀ (us : List Nat) (p v : Nat) (L : List Int), (∀ u ∈ us, u ≠ p) → ∀ q, goL (us ++ [q]) (L.set p (v : Int)) = (goL (us ++ [q]) L).set p (v : Int)
  | [], p, v, L, _, q => rfl
  | [a], p, v, L, h, q => by
    show (L.set p (v : Int)).set a (q : Int) = (L.set a (q : Int)).set p (v : Int)
    exact List.set_comm _ _ (by have := h a (by simp); omega)
  | a :: b :: r, p, v, L, h, q => by
    show goL (b :: r ++ [q]) ((L.set p (v : Int)).set a (b : Int)) = (goL (b :: r ++ [q]) (L.set a (b : Int))).set p (v : Int)
    rw [List.set_comm _ _ (show p ≠ a by have := h a (by simp); omega)]
    exact goL_comm (b :: r) p v _ (fun u hu => h u (by simp at hu ⊢; rcases hu with h | h <;> simp [h])) q

theorem IsPath.last {l : List Nd} {v : Nat} {us : List Nat} (h : IsPath l v us) : ∃ ws, us = ws ++ [v] ∧ ∀ u ∈ ws, u < v := by
  cases h with
  | root => exact ⟨[], rfl, by simp⟩
  | @step p _ x ws h1 h2 h3 h4 => exact ⟨ws, rfl, fun u hu => by have := h4.le u hu; omega⟩
theorem IsPath.setPref {l : List Nd} {v : Nat} {us : List Nat} (h : IsPath l v us) (i : Nat) (c : Int) : IsPath (Go.Proofs.Ytjajlnhobchkgaa.setPref l i c) v us := by
  induction h with
  | root => exact .root
  | step h1 h2 h3 _ ih =>
    refine .step (setPref_get h1) ?_ h3 ih
    split <;> exact h2
theorem prefs_setPref (l : List Nd) (i : Nat) (c : Int) : (setPref l i c).map (·.pref) = (l.map (·.pref)).set i c := by
  refine List.ext_getElem? fun j => ?_
  rw [List.getElem?_map, List.getElem?_set, List.length_map]
  cases hj : l[j]? with
  | none =>
    have h1 : (setPref l i c)[j]? = none := by rw [List.getElem?_eq_none_iff, setPref_len]; exact List.getElem?_eq_none_iff.1 hj
    have h2 := List.getElem?_eq_none_iff.1 hj
    rw [h1]
    by_cases e : i = j
    · subst e; rw [if_pos rfl, if_neg (by omega)]; rfl
    · rw [if_neg e, List.getElem?_map, hj]
  | some z =>
    rw [setPref_get hj]
    have h2 := WfT.lt hj
    by_cases e : i = j
    · subst e; rw [if_pos rfl, if_pos rfl, if_pos h2]; rfl
    · rw [if_neg e, if_neg e, List.getElem?_map, hj]
theorem gotoP_prefs : ∀ (k : Nat) {l : List Nd} (hw : WfT l) (v : Nat) (us : List Nat), IsPath l v us → v < l.length → v ≤ k → (gotoP k l v).map (·.pref) = goL us (l.map (·.pref))
  | 0, l, hw, v, us, h, hv, hk => by
    obtain rfl : v = 0 := by omega
    cases h with
    | root => rfl
    | step _ _ h3 _ => omega
  | k + 1, l, hw, v, us, h, hv, hk => by
    cases h with
    | root =>
      have h0 : l[0]? = some (l[0]'hv) := List.getElem?_eq_getElem hv
      rw [gotoP_root h0 (by have := (hw.root _ h0).1; omega)]
      rfl
    | @step p _ x ws h1 h2 h3 h4 =>
      have e : gotoP (k + 1) l v = gotoP k (setPref l p v) p := by
        rw [gotoP, h1]
        simp only
        rw [if_neg (by omega), h2, Int.toNat_natCast]
      rw [e, gotoP_prefs k (hw.setPref h1 h2) p ws (h4.setPref p v) (by rw [setPref_len]; omega) (by omega), prefs_setPref]
      obtain ⟨zs, rfl, hz⟩ := h4.last
      rw [goL_snoc, goL_comm zs p v _ (fun u hu => by have := hz u hu; omega)]
/-- what Goto leaves as it is -/
theorem gotoP_rest (k : Nat) {l : List Nd} (hw : WfT l) (v : Nat) (hv : v < l.length) : (gotoP k l v).map (·.text) = l.map (·.text) ∧ (gotoP k l v).map (·.parent) = l.map (·.parent) := by
  have hl := (gotoP_wf k hw v hv).2
  constructor
  · refine List.ext_getElem (by simp [hl]) fun i h1 h2 => ?_
    have hi : i < l.length := by simpa using h2
    obtain ⟨q, hq, _⟩ := gotoP_at k hw v hv i _ (List.getElem?_eq_getElem hi)
    obtain ⟨h3, h4⟩ := List.getElem?_eq_some_iff.1 hq
    simp [h4]
  · refine List.ext_getElem (by simp [hl]) fun i h1 h2 => ?_
    have hi : i < l.length := by simpa using h2
    obtain ⟨q, hq, _⟩ := gotoP_at k hw v hv i _ (List.getElem?_eq_getElem hi)
    obtain ⟨h3, h4⟩ := List.getElem?_eq_some_iff.1 hq
    simp [h4]

/-- the nodes of a path lead back along it -/
theorem IsPath.mem {l : List Nd} {v : Nat} {us : List Nat} (h : IsPath l v us) : ∀ u ∈ us, ∃ ws, IsPath l u ws ∧ ws <+: us := by
  induction h with
  | root => intro u hu; rw [List.mem_singleton] at hu; subst hu; exact ⟨_, .root, List.prefix_refl _⟩
  | @step p v x us h1 h2 h3 h4 ih =>
    intro u hu
    rcases List.mem_append.1 hu with hu | hu
    · obtain ⟨ws, k1, k2⟩ := ih u hu
      exact ⟨ws, k1, k2.trans (List.prefix_append _ _)⟩
    · rw [List.mem_singleton] at hu; subst hu
      exact ⟨_, .step h1 h2 h3 h4, List.prefix_refl _⟩
theorem not_on {l : List Nd} (hw : WfT l) {a b : Nat} {us ws : List Nat} (ha : IsPath l a us) (hb : IsPath l b ws) (hl : ws.length ≤ us.length) (hne : a ≠ b) : a ∉ ws := by
  intro hm
  obtain ⟨vs, h1, h2⟩ := hb.mem a hm
  obtain rfl := ha.uniq _ h1
  have e := h2.eq_of_length (by have := h2.length_le; omega)
  obtain ⟨x1, e1, _⟩ := ha.last
  obtain ⟨x2, e2, _⟩ := hb.last
  rw [← e, e1] at e2
  have := List.append_inj_right' e2 rfl
  simp at this
  exact hne this

/-- the nodes of one path that are not on the other one -/
def offP (us ws : List Nat) : List Nat := us.filter fun u => !ws.contains u
theorem offP_self (us : List Nat) : offP us us = [] := by
  unfold offP
  rw [List.filter_eq_nil_iff]
  intro u hu
  simp [hu]
theorem offP_snoc_out {us ws : List Nat} {a : Nat} (h : a ∉ ws) : offP (us ++ [a]) ws = offP us ws ++ [a] := by
  unfold offP
  rw [List.filter_append]
  simp [h]
theorem offP_snoc_in {us ws : List Nat} {a : Nat} (h : a ∉ us) : offP us (ws ++ [a]) = offP us ws := by
  unfold offP
  refine List.filter_congr fun u hu => ?_
  have : u ≠ a := fun e => h (e ▸ hu)
  simp [this]
theorem offP_take (us ws : List Nat) {k : Nat} (hk : k < us.length) : offP (us.take (k + 1)) ws = if ws.contains (us.getD k 0) then offP (us.take k) ws else offP (us.take k) ws ++ [us.getD k 0] := by
  rw [getD_take_snoc (d := 0) hk]
  unfold offP
  rw [List.filter_append]
  cases h : ws.contains (us.getD k 0)
  · simp only [List.filter_cons, List.filter_nil, h, Bool.not_false, if_true, Bool.false_eq_true, if_false]
  · simp only [List.filter_cons, List.filter_nil, h, Bool.not_true, Bool.false_eq_true, if_false, if_true, List.append_nil]

theorem IsPath.back {l : List Nd} {a : Nat} {us : List Nat} (h : IsPath l a us) (h1 : 1 < us.length) : ∃ p vs x, us = vs ++ [a] ∧ IsPath l p vs ∧ l[a]? = some x ∧ x.parent = (p : Nat) ∧ p < a := by
  cases h with
  | root => simp at h1
  | @step p _ x ws k1 k2 k3 k4 => exact ⟨p, ws, x, rfl, k4, k1, k2, k3⟩
theorem IsPath.one {l : List Nd} {a : Nat} {us : List Nat} (h : IsPath l a us) (h1 : us.length ≤ 1) : a = 0 := by
  cases h with
  | root => rfl
  | @step p _ x ws k1 k2 k3 k4 =>
    obtain ⟨zs, rfl, _⟩ := k4.last
    simp at h1
theorem btw_up {l : List Nd} (hw : WfT l) {a b : Nat} {us ws : List Nat} (ha : IsPath l a us) (hb : IsPath l b ws) (hl : ws.length ≤ us.length) (hne : a ≠ b) :
    ∃ p vs x, IsPath l p vs ∧ l[a]? = some x ∧ x.parent = (p : Nat) ∧ p < a ∧ (offP us ws).reverse = a :: (offP vs ws).reverse ∧ offP ws us = offP ws vs := by
  have hn := not_on hw ha hb hl hne
  have h1 : 1 < us.length := by
    refine Classical.byContradiction fun hc => hne ?_
    rw [ha.one (by omega), hb.one (by omega)]
  obtain ⟨p, vs, x, rfl, k1, k2, k3, k4⟩ := ha.back h1
  refine ⟨p, vs, x, k1, k2, k3, k4, ?_, offP_snoc_in hn⟩
  rw [offP_snoc_out hn, List.reverse_append]
  rfl
theorem btw_down {l : List Nd} (hw : WfT l) {a b : Nat} {us ws : List Nat} (ha : IsPath l a us) (hb : IsPath l b ws) (hl : us.length < ws.length) :
    ∃ p vs x, IsPath l p vs ∧ l[b]? = some x ∧ x.parent = (p : Nat) ∧ p < b ∧ offP ws us = offP vs us ++ [b] ∧ offP us ws = offP us vs := by
  have hne : b ≠ a := fun e => by subst e; have := ha.uniq _ hb; subst this; omega
  have hn := not_on hw hb ha (Nat.le_of_lt hl) hne
  obtain ⟨zs, hz, _⟩ := ha.last
  obtain ⟨p, vs, x, rfl, k1, k2, k3, k4⟩ := hb.back (by rw [hz] at hl; simp at hl ⊢; omega)
  exact ⟨p, vs, x, k1, k2, k3, k4, offP_snoc_out hn, offP_snoc_in hn⟩
theorem offP_len (us ws : List Nat) : (offP us ws).length ≤ us.length := List.length_filter_le _ _
theorem offP_mem {us ws : List Nat} {x : Nat} (h : x ∈ offP us ws) : x ∈ us := (List.mem_filter.1 h).1

end Go.Proofs.Ytjajlnhobchkgaa
