/-
  syntax.Same, the plain law: a stack of pairs of nodes, and the pairs that have been seen.
-/
import Derived.Test.YtpabngicbfcdkaaPK2
namespace Go.Proofs.Ytpabngicbfcdkaa
open Go.RowKit
set_option linter.unusedVariables false
set_option linter.unusedSimpArgs false

/-- an entry of the stack: two nodes and their trees -/
structure PE where
  p : Addr
  t : Ex
  q : Addr
  u : Ex
def pw : List PE → Nat
  | [] => 0
  | x :: r => x.t.size + pw r
theorem pw_append (a b : List PE) : pw (a ++ b) = pw a + pw b := by
  induction a with
  | nil => simp [pw]
  | cons x r ih => simp only [List.cons_append, pw, ih]; omega
theorem pw_len (S : List PE) : S.length ≤ pw S := by
  induction S with
  | nil => simp
  | cons x r ih =>
    have := x.t.size_pos
    simp only [pw, List.length_cons]; omega
def cellsPE (S : List PE) : List Value := S.flatMap fun x => [Value.pointer (some x.p), Value.pointer (some x.q)]
theorem cellsPE_len (S : List PE) : (cellsPE S).length = S.length * 2 := by
  induction S with
  | nil => rfl
  | cons p r ih => simp only [cellsPE, List.flatMap_cons, List.length_append, List.length_cons, List.length_nil] at *; omega
theorem cellsPE_snoc (S : List PE) (x : PE) : cellsPE (S ++ [x]) = cellsPE S ++ [.pointer (some x.p), .pointer (some x.q)] := by simp [cellsPE]
theorem cellsPE_last (S : List PE) (x : PE) : (cellsPE (S ++ [x]))[S.length * 2]? = some (.pointer (some x.p)) ∧ (cellsPE (S ++ [x]))[S.length * 2 + 1]? = some (.pointer (some x.q)) := by
  rw [cellsPE_snoc]
  refine ⟨?_, ?_⟩
  · rw [List.getElem?_append_right (by rw [cellsPE_len]; omega), cellsPE_len, Nat.sub_self]; rfl
  · rw [List.getElem?_append_right (by rw [cellsPE_len]; omega), cellsPE_len, show S.length * 2 + 1 - S.length * 2 = 1 by omega]; rfl

/-- the pairs of arguments -/
def kp (b o b' o' : Nat) : List Ex → List Ex → List PE
  | t :: r, u :: r' => ⟨⟨b, o, none⟩, t, ⟨b', o', none⟩, u⟩ :: kp b (o + 4) b' (o' + 4) r r'
  | _, _ => []
theorem kp_len : ∀ (ts us : List Ex) (b o b' o' : Nat), ts.length = us.length → (kp b o b' o' ts us).length = ts.length
  | [], [], _, _, _, _, _ => rfl
  | [], _ :: _, _, _, _, _, h => by simp at h
  | _ :: _, [], _, _, _, _, h => by simp at h
  | t :: r, u :: r', b, o, b', o', h => by
    simp only [kp, List.length_cons]
    rw [kp_len r r' _ _ _ _ (by simpa using h)]
theorem kp_snoc : ∀ (ts us : List Ex) (b o b' o' : Nat) (t u : Ex), ts.length = us.length → kp b o b' o' (ts ++ [t]) (us ++ [u]) = kp b o b' o' ts us ++ [⟨⟨b, o + 4 * ts.length, none⟩, t, ⟨b', o' + 4 * ts.length, none⟩, u⟩]
  | [], [], _, _, _, _, _, _, _ => rfl
  | [], _ :: _, _, _, _, _, _, _, h => by simp at h
  | _ :: _, [], _, _, _, _, _, _, h => by simp at h
  | x :: r, y :: r', b, o, b', o', t, u, h => by
    simp only [List.cons_append, kp]
    rw [kp_snoc r r' _ _ _ _ t u (by simpa using h)]
    simp only [List.length_cons, List.cons.injEq, true_and]
    rw [show o + 4 + 4 * r.length = o + 4 * (r.length + 1) by omega, show o' + 4 + 4 * r.length = o' + 4 * (r.length + 1) by omega]
theorem kp_pw : ∀ (ts us : List Ex) (b o b' o' : Nat), pw (kp b o b' o' ts us) ≤ Ex.sizes ts
  | [], _, _, _, _, _ => by simp [kp, pw]
  | _ :: _, [], _, _, _, _ => by simp [kp, pw]
  | t :: r, u :: r', b, o, b', o' => by
    have := kp_pw r r' b (o + 4) b' (o' + 4)
    simp only [kp, pw, Ex.sizes]; omega
theorem kp_get : ∀ (ts us : List Ex) (b o b' o' i : Nat) (t u : Ex), ts[i]? = some t → us[i]? = some u → (⟨⟨b, o + 4 * i, none⟩, t, ⟨b', o' + 4 * i, none⟩, u⟩ : PE) ∈ kp b o b' o' ts us
  | [], _, _, _, _, _, _, _, _, h, _ => by cases h
  | _ :: _, [], _, _, _, _, _, _, _, _, h => by cases h
  | x :: r, y :: r', b, o, b', o', 0, t, u, h1, h2 => by
    simp at h1 h2; subst h1; subst h2; simp [kp]
  | x :: r, y :: r', b, o, b', o', i + 1, t, u, h1, h2 => by
    have := kp_get r r' b (o + 4) b' (o' + 4) i t u (by simpa using h1) (by simpa using h2)
    rw [show o + 4 + 4 * i = o + 4 * (i + 1) by omega, show o' + 4 + 4 * i = o' + 4 * (i + 1) by omega] at this
    exact List.mem_cons_of_mem _ this
theorem kp_mem : ∀ (ts us : List Ex) (b o b' o' : Nat) (x : PE), x ∈ kp b o b' o' ts us → ∃ i, ts[i]? = some x.t ∧ us[i]? = some x.u ∧ x.p = ⟨b, o + 4 * i, none⟩ ∧ x.q = ⟨b', o' + 4 * i, none⟩
  | [], _, _, _, _, _, _, h => by simp [kp] at h
  | _ :: _, [], _, _, _, _, _, h => by simp [kp] at h
  | t :: r, u :: r', b, o, b', o', x, h => by
    rcases List.mem_cons.1 h with rfl | h
    · exact ⟨0, rfl, rfl, rfl, rfl⟩
    · obtain ⟨i, h1, h2, h3, h4⟩ := kp_mem r r' _ _ _ _ x h
      exact ⟨i + 1, by simpa using h1, by simpa using h2, by rw [h3]; congr 1; omega, by rw [h4]; congr 1; omega⟩

/-- two nodes are alike but for their arguments -/
def ndq (t u : Ex) : Prop := t.kind = u.kind ∧ t.text = u.text ∧ t.num = u.num ∧ t.args.length = u.args.length

/-- what the walk of Same knows -/
structure SI (T T' : Nat → Prop) (w : World) (root root' : Ex) (p0 q0 : Addr) (S : List PE) (f : Addr × Addr → Option Value) : Prop where
  rd : ∀ x ∈ S, RdP T w x.t x.p ∧ RdP T' w x.u x.q
  sn : ∀ p q v, f (p, q) = some v → v = .bool true ∧ ∃ t u, RdP T w t p ∧ RdP T' w u q ∧ ndq t u ∧ ∀ i t' u', t.args[i]? = some t' → u.args[i]? = some u' → ∃ pk qk, KidAt w p i pk ∧ KidAt w q i qk ∧ (f (pk, qk) ≠ none ∨ ∃ x ∈ S, x.p = pk ∧ x.q = qk)
  rt : f (p0, q0) ≠ none ∨ ∃ x ∈ S, x.p = p0 ∧ x.q = q0
  eqv : root = root' → ∀ x ∈ S, x.t = x.u

theorem SI.start {T T' w root root' p0 q0} (h : RdP T w root p0) (h' : RdP T' w root' q0) : SI T T' w root root' p0 q0 [⟨p0, root, q0, root'⟩] (fun _ => none) :=
  ⟨fun x hx => (by simp at hx; subst hx; exact ⟨h, h'⟩), fun p q v hv => (by cases hv), .inr ⟨_, List.mem_singleton.2 rfl, rfl, rfl⟩, fun e x hx => (by simp at hx; subst hx; exact e)⟩
theorem SI.skip {T T' w root root' p0 q0 S x f} (h : SI T T' w root root' p0 q0 (S ++ [x]) f) (hf : f (x.p, x.q) ≠ none) : SI T T' w root root' p0 q0 S f := by
  have cov : ∀ pk qk, (f (pk, qk) ≠ none ∨ ∃ y ∈ S ++ [x], y.p = pk ∧ y.q = qk) → (f (pk, qk) ≠ none ∨ ∃ y ∈ S, y.p = pk ∧ y.q = qk) := by
    rintro pk qk (h | ⟨y, hy, rfl, rfl⟩)
    · exact .inl h
    · rcases List.mem_append.1 hy with hy | hy
      · exact .inr ⟨y, hy, rfl, rfl⟩
      · simp at hy; subst hy; exact .inl hf
  refine ⟨fun y hy => h.rd y (List.mem_append_left _ hy), fun p q v hv => ?_, cov _ _ h.rt, fun e y hy => h.eqv e y (List.mem_append_left _ hy)⟩
  obtain ⟨h1, t, u, h2, h3, h4, h5⟩ := h.sn p q v hv
  exact ⟨h1, t, u, h2, h3, h4, fun i t' u' ht hu => by
    obtain ⟨pk, qk, k1, k2, k3⟩ := h5 i t' u' ht hu
    exact ⟨pk, qk, k1, k2, cov _ _ k3⟩⟩
theorem SI.bad {T T' w root root' p0 q0 S x f} (h : SI T T' w root root' p0 q0 (S ++ [x]) f) (hb : ¬ ndq x.t x.u) : root ≠ root' := fun e => hb (by
  rw [h.eqv e x (by simp)]
  exact ⟨rfl, rfl, rfl, rfl⟩)
theorem SI.open {T T' w root root' p0 q0 S x f} (h : SI T T' w root root' p0 q0 (S ++ [x]) f) (hn : ndq x.t x.u) {b o b' o' : Nat}
    (hk : ∀ i t, x.t.args[i]? = some t → KidAt w x.p i ⟨b, o + 4 * i, none⟩) (hk' : ∀ i t, x.u.args[i]? = some t → KidAt w x.q i ⟨b', o' + 4 * i, none⟩) :
    SI T T' w root root' p0 q0 (S ++ kp b o b' o' x.t.args x.u.args) (fun y => if y = (x.p, x.q) then some (.bool true) else f y) := by
  obtain ⟨hrx, hrx'⟩ := h.rd x (by simp)
  have cov : ∀ pk qk, (f (pk, qk) ≠ none ∨ ∃ y ∈ S ++ [x], y.p = pk ∧ y.q = qk) → ((fun y => if y = (x.p, x.q) then some (Value.bool true) else f y) (pk, qk) ≠ none ∨ ∃ y ∈ S ++ kp b o b' o' x.t.args x.u.args, y.p = pk ∧ y.q = qk) := by
    rintro pk qk (h | ⟨y, hy, rfl, rfl⟩)
    · refine .inl ?_
      simp only
      split
      · simp
      · exact h
    · rcases List.mem_append.1 hy with hy | hy
      · exact .inr ⟨y, List.mem_append_left _ hy, rfl, rfl⟩
      · simp at hy; subst hy; exact .inl (by simp)
  refine ⟨fun y hy => ?_, fun p q v hv => ?_, cov _ _ h.rt, fun e y hy => ?_⟩
  · rcases List.mem_append.1 hy with hy | hy
    · exact h.rd y (List.mem_append_left _ hy)
    · obtain ⟨i, h1, h2, h3, h4⟩ := kp_mem _ _ _ _ _ _ y hy
      obtain ⟨r1, k1, k2⟩ := hrx.kid h1
      obtain ⟨r2, k3, k4⟩ := hrx'.kid h2
      rw [h3, h4, ← k1.uniq (hk i _ h1), ← k3.uniq (hk' i _ h2)]
      exact ⟨k2, k4⟩
  · by_cases e : (p, q) = (x.p, x.q)
    · simp only [if_pos e, Option.some.injEq] at hv
      cases e
      refine ⟨hv.symm, x.t, x.u, hrx, hrx', hn, fun i t' u' ht hu => ⟨_, _, hk i t' ht, hk' i u' hu, .inr ⟨_, List.mem_append_right _ (kp_get _ _ b o b' o' i t' u' ht hu), rfl, rfl⟩⟩⟩
    · simp only [if_neg e] at hv
      obtain ⟨h1, t, u, h2, h3, h4, h5⟩ := h.sn p q v hv
      exact ⟨h1, t, u, h2, h3, h4, fun i t' u' ht hu => by
        obtain ⟨pk, qk, k1, k2, k3⟩ := h5 i t' u' ht hu
        exact ⟨pk, qk, k1, k2, cov _ _ k3⟩⟩
  · rcases List.mem_append.1 hy with hy | hy
    · exact h.eqv e y (List.mem_append_left _ hy)
    · obtain ⟨i, h1, h2, _, _⟩ := kp_mem _ _ _ _ _ _ y hy
      rw [h.eqv e x (by simp)] at h1
      rw [h1] at h2
      exact Option.some.inj h2
theorem SI.end_ {T T' w root root' p0 q0 f} (h : SI T T' w root root' p0 q0 [] f) (hr : RdP T w root p0) (hr' : RdP T' w root' q0) : root = root' := by
  have key : ∀ (n : Nat) (t u : Ex) (p q : Addr), t.size ≤ n → RdP T w t p → RdP T' w u q → f (p, q) ≠ none → t = u := by
    intro n
    induction n with
    | zero => intro t u p q hn; have := t.size_pos; omega
    | succ n ih =>
      intro t u p q hn h1 h2 hf
      cases hv : f (p, q) with
      | none => exact absurd hv hf
      | some v =>
        obtain ⟨_, t1, u1, k1, k2, ⟨n1, n2, n3, n4⟩, k4⟩ := h.sn p q v hv
        obtain rfl := h1.uniq k1
        obtain rfl := h2.uniq k2
        have ha : t.args = u.args := by
          refine List.ext_getElem? fun i => ?_
          cases ht : t.args[i]? with
          | none =>
            rw [List.getElem?_eq_none_iff] at ht
            exact (List.getElem?_eq_none (by omega)).symm
          | some t' =>
            have hi := (List.getElem?_eq_some_iff.1 ht).1
            obtain ⟨u', hu⟩ : ∃ u', u.args[i]? = some u' := ⟨_, List.getElem?_eq_getElem (by omega)⟩
            obtain ⟨pk, qk, a1, a2, a3⟩ := k4 i t' u' ht hu
            obtain ⟨r1, b1, b2⟩ := h1.kid ht
            obtain ⟨r2, b3, b4⟩ := h2.kid hu
            rw [hu, ih t' u' pk qk (by have := Ex.size_kid ht; have := t.size_eq; omega) (by rw [← b1.uniq a1]; exact b2) (by rw [← b3.uniq a2]; exact b4) (by
              rcases a3 with a3 | ⟨x, hx, _⟩
              · exact a3
              · cases hx)]
        cases t; cases u
        simp only [Ex.kind, Ex.text, Ex.num, Ex.args] at n1 n2 n3 ha
        rw [n1, n2, n3, ha]
  refine key root.size root root' p0 q0 (Nat.le_refl _) hr hr' ?_
  rcases h.rt with h | ⟨x, hx, _⟩
  · exact h
  · cases hx

end Go.Proofs.Ytpabngicbfcdkaa
