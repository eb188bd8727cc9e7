/-
  A well-formed tree's items follow one another as they may; what Parse makes of its text.
-/
import Derived.Test.YtpabngicbfcdkaaFmL
namespace Go.Proofs.Ytpabngicbfcdkaa
open Go.RowKit
set_option linter.unusedVariables false
set_option linter.unusedSimpArgs false

theorem OkI_app : ∀ (l X : List It), OkI l → nextOk X → OkI X → OkI (l ++ X)
  | [], X, _, _, h => h
  | none :: r, X, h, hn, hx => OkI_app r X h hn hx
  | some t :: r, X, h, hn, hx => by
    obtain ⟨h1, h2, h3⟩ := h
    refine ⟨h1, ?_, OkI_app r X h3 hn hx⟩
    cases r with
    | nil => exact .inr hn
    | cons y q => exact h2.imp id (fun h => by cases y <;> exact h)
theorem free_sg {l : List Nat} (h : l ∈ [[40], [41], [91], [93], [58], [44]]) : freeT (5, l, 0) := ⟨rfl, h⟩
theorem good_sg {l : List Nat} (h : l ∈ [[40], [41], [91], [93], [58], [44]]) : goodT (5, l, 0) := by
  refine .inr (.inr (.inr (.inr ⟨rfl, rfl, ?_⟩)))
  have : ∀ l ∈ [[40], [41], [91], [93], [58], [44]], l ∈ [[43, 43], [61, 61], [33, 61], [60, 61], [43], [45], [42], [60], [40], [41], [91], [93], [58], [44]] := by decide
  exact this l h
theorem OkI_sg {l : List Nat} (h : l ∈ [[40], [41], [91], [93], [58], [44]]) {X : List It} (hx : OkI X) : OkI (sgT l :: X) := ⟨good_sg h, .inl (free_sg h), hx⟩
theorem OkI_br {lv : Nat} {p : Nat × List It} (h : OkI p.2) : OkI (br lv p) := by
  unfold br
  split
  · exact OkI_sg (by decide) (OkI_app _ _ h (free_sg (by decide)) (OkI_sg (by decide) trivial))
  · exact h
theorem good_op {v : Nat} {l : List Nat} (hv : 1 ≤ v ∧ v ≤ 7 ∧ v ≠ 3) (hl : l ∈ lvlO v) : goodT (lvlK v, l, 0) := by
  have : v = 1 ∨ v = 2 ∨ v = 4 ∨ v = 5 ∨ v = 6 ∨ v = 7 := by omega
  rcases this with rfl | rfl | rfl | rfl | rfl | rfl
  · simp [lvlO] at hl; subst hl; exact .inr (.inr (.inr (.inl ⟨rfl, rfl, by simp, by decide⟩)))
  · simp [lvlO] at hl; subst hl; exact .inr (.inr (.inr (.inl ⟨rfl, rfl, by simp, by decide⟩)))
  all_goals
    refine .inr (.inr (.inr (.inr ⟨rfl, rfl, ?_⟩)))
    simp [lvlO] at hl
    first
      | (subst hl; decide)
      | (rcases hl with rfl | rfl <;> decide)
      | (rcases hl with rfl | rfl | rfl | rfl <;> decide)
theorem OkI_join : ∀ us : List Ex, (∀ u ∈ us, OkI (wI u)) → OkI (joinI (wIs us))
  | [], _ => trivial
  | [u], h => h u (by simp)
  | u :: v :: us, h => by
    have ih := OkI_join (v :: us) (fun w hw => h w (List.mem_cons_of_mem _ hw))
    show OkI (wI u ++ [sgT [44], none] ++ joinI (wIs (v :: us)))
    rw [List.append_assoc]
    exact OkI_app _ _ (h u (by simp)) (free_sg (by decide)) (OkI_sg (by decide) ih)
theorem OkI_w : ∀ (m : Nat) (t : Ex), t.size ≤ m → Well t → OkI (wI t)
  | 0, t, h, _ => absurd t.size_pos (by omega)
  | m + 1, t, hm, hw => by
    have ih : ∀ u ∈ t.args, OkI (wI u) := fun u hu => OkI_w m u (by have := kid_lt hu; omega) (hw.kid hu)
    rcases look hw with ⟨n, rfl, hn⟩ | ⟨l, rfl, h8⟩ | ⟨l, rfl, h8, hl⟩ | ⟨v, l, a, b, rfl, hv, hl⟩ | ⟨a, rfl⟩ | ⟨a, b, c, rfl⟩ | ⟨l, us, rfl, hn, hl⟩
    · show OkI (comb 1 (ns (bs [])) (n : Int) [])
      unfold comb
      rw [if_pos rfl]
      exact ⟨.inl ⟨rfl, rfl, hn⟩, .inr trivial, trivial⟩
    · show OkI (comb 2 (ns (bs l)) 0 [])
      unfold comb
      rw [if_neg (by decide), if_pos rfl, ns_bs' h8]
      exact ⟨.inr (.inl ⟨rfl, rfl, h8⟩), .inr trivial, trivial⟩
    · show OkI (comb 3 (ns (bs l)) 0 [])
      unfold comb
      rw [if_neg (by decide), if_neg (by decide), if_pos rfl, ns_bs' h8]
      exact ⟨.inr (.inr (.inl ⟨rfl, rfl, hl.1, hl.2⟩)), .inr trivial, trivial⟩
    · rw [(own_bin hv hl).2, List.append_assoc]
      have ha := ih a (by simp [callE, Ex.args])
      have hb := ih b (by simp [callE, Ex.args])
      exact OkI_app _ _ (OkI_br ha) trivial (show OkI (some (lvlK v, l, 0) :: none :: br (v + 1) (own b, wI b)) from ⟨good_op hv hl, .inr trivial, OkI_br hb⟩)
    · rw [(own_neg a).2]
      have ha := ih a (by simp [callE, Ex.args])
      exact (show OkI (some (4, wNot, 0) :: none :: br 3 (own a, wI a)) from ⟨.inr (.inr (.inr (.inl ⟨rfl, rfl, by simp [wNot], by decide⟩))), .inr trivial, OkI_br ha⟩)
    · rw [(own_cut a b c).2]
      simp only [List.append_assoc, List.singleton_append]
      have ha := ih a (by simp [callE, Ex.args])
      have hb := ih b (by simp [callE, Ex.args])
      have hc := ih c (by simp [callE, Ex.args])
      exact OkI_app _ _ (OkI_br ha) (free_sg (by decide)) (OkI_sg (by decide) (OkI_app _ _ hb (free_sg (by decide)) (OkI_sg (by decide) (OkI_app _ _ hc (free_sg (by decide)) (OkI_sg (by decide) trivial)))))
    · rw [(own_app hn hl).2, List.append_assoc]
      have hj := OkI_join us (fun u hu => ih u (by simpa [callE, Ex.args] using hu))
      have hlt : l ≠ [] ∧ l.all letB = true := by
        have h := hn
        simp only [isNm, Bool.and_eq_true, Bool.not_eq_true', beq_eq_false_iff_ne] at h
        exact ⟨h.1.2, h.2⟩
      exact (show OkI (some (4, l, 0) :: sgT [40] :: (joinI (wIs us) ++ [sgT [41]])) from ⟨.inr (.inr (.inr (.inl ⟨rfl, rfl, hlt.1, hlt.2⟩))), .inr (free_sg (by decide)), OkI_sg (by decide) (OkI_app _ _ hj (free_sg (by decide)) (OkI_sg (by decide) trivial))⟩)
/-- the tokens of a formatted text -/
theorem toks_fm {t : Ex} (h : Well t) : toksP (txI (wI t)) = some (atI 0 (wI t)) := toksP_I (OkI_w t.size t (Nat.le_refl _) h)
theorem run_toks_fm {t : Ex} (h : Well t) : runJ (.lev 1 (atI 0 (wI t))) = some (t, []) := run_fm h (atI_map _ _)

theorem dec8 (n : Nat) : ∀ c ∈ decP n, c < 256 := fun c hc => by
  have := decP_dig n n (Nat.le_refl _) c hc
  simp [digB] at this; omega
set_option maxRecDepth 100000 in
theorem quC8 {c : Nat} (h : c < 256) : ∀ d ∈ quC c, d < 256 := by
  have : ∀ c : Fin 256, ∀ d ∈ quC c.1, d < 256 := by decide
  exact this ⟨c, h⟩
theorem tb8 {t : TkK} (h : goodT t) : ∀ c ∈ tb t, c < 256 := by
  obtain ⟨k, l, n⟩ := t
  rcases h with ⟨h1, h2, h3⟩ | ⟨h1, h2, h3⟩ | ⟨h1, h2, h3, h4⟩ | ⟨h1, h2, h3, h4⟩ | ⟨h1, h2, h3⟩
  all_goals simp only at h1 h2 h3; subst h1
  · exact dec8 n
  · intro c hc
    have e : tb (2, l, n) = 34 :: (l.flatMap quC ++ [34]) := rfl
    rw [e] at hc
    rcases List.mem_cons.1 hc with rfl | hc
    · decide
    · rcases List.mem_append.1 hc with hc | hc
      · obtain ⟨x, hx, hcx⟩ := List.mem_flatMap.1 hc
        exact quC8 (h3 x hx) c hcx
      · simp at hc; omega
  · intro c hc
    have e : tb (3, l, n) = 64 :: l := rfl
    rw [e] at hc
    rcases List.mem_cons.1 hc with rfl | hc
    · decide
    · simp only at h4; rw [List.all_eq_true] at h4
      have := h4 c hc
      simp [refB, letB, digB] at this; omega
  · intro c hc
    simp only at h4; rw [List.all_eq_true] at h4
    have := h4 c hc
    simp [letB] at this; omega
  · have : ∀ l ∈ [[43, 43], [61, 61], [33, 61], [60, 61], [43], [45], [42], [60], [40], [41], [91], [93], [58], [44]], ∀ c ∈ l, c < 256 := by decide
    exact this l h3
theorem txI8 : ∀ l : List It, OkI l → ∀ c ∈ txI l, c < 256
  | [], _, c, hc => by cases hc
  | none :: r, h, c, hc => by
    rcases List.mem_cons.1 (show c ∈ 32 :: txI r from hc) with rfl | hc
    · decide
    · exact txI8 r h c hc
  | some t :: r, h, c, hc => by
    rcases List.mem_append.1 (show c ∈ tb t ++ txI r from hc) with hc | hc
    · exact tb8 h.1 c hc
    · exact txI8 r h.2.2 c hc
theorem ns_fm {t : Ex} (h : Well t) : ns (bs (txI (wI t))) = txI (wI t) := ns_bs' (txI8 _ (OkI_w t.size t (Nat.le_refl _) h))
theorem bs_sz {l : List Nat} (h : ∀ c ∈ l, c < 256) : (bs l).size = l.length := by
  have := ns_len (bs l); rw [ns_bs' h] at this; exact this.symm
theorem fm_size {t : Ex} (h : Well t) : (bs (txI (wI t))).size = (txI (wI t)).length := bs_sz (txI8 _ (OkI_w t.size t (Nat.le_refl _) h))

end Go.Proofs.Ytpabngicbfcdkaa
