/-
  the plain law of the tree: what stays true of the nodes, and that the preferred children lead to the current node.
-/
import Derived.Test.YtjajlnhobchkgaaUDo
namespace Go.Proofs.Ytjajlnhobchkgaa
set_option linter.unusedVariables false
set_option linter.unusedSimpArgs false

theorem nodup_le : ∀ (n : Nat) (l : List Int), l.Nodup → (∀ x ∈ l, 0 ≤ x ∧ x < (n : Int)) → l.length ≤ n
  | 0, l, _, hb => by
    cases l with
    | nil => simp
    | cons x r => have := hb x (by simp); omega
  | n + 1, l, hn, hb => by
    by_cases hm : (n : Int) ∈ l
    · have h1 : (l.erase (n : Int)).Nodup := hn.erase _
      have h2 := nodup_le n (l.erase (n : Int)) h1 (fun x hx => by
        have h3 := hb x (List.mem_of_mem_erase hx)
        have h4 : x ≠ (n : Int) := fun e => by subst e; exact (List.Nodup.not_mem_erase hn) hx
        omega)
      rw [List.length_erase_of_mem hm] at h2
      omega
    · have := nodup_le n l hn (fun x hx => by
        have h3 := hb x hx
        have h4 : x ≠ (n : Int) := fun e => hm (e ▸ hx)
        omega)
      omega

structure WfT (l : List Nd) : Prop where
  pos : 0 < l.length
  root : ∀ x, l[0]? = some x → x.parent = -1 ∧ x.depth = 0
  par : ∀ (i : Nat) (x : Nd), l[i]? = some x → 0 < i → ∃ (p : Nat) (y : Nd), x.parent = p ∧ p < i ∧ l[p]? = some y ∧ x.depth = y.depth + 1
  pref : ∀ (i : Nat) (x : Nd), l[i]? = some x → x.pref = -1 ∨ ∃ (c : Nat) (y : Nd), x.pref = c ∧ l[c]? = some y ∧ y.parent = i
  dep : ∀ (i : Nat) (x : Nd), l[i]? = some x → 0 ≤ x.depth ∧ x.depth ≤ i
  kids : ∀ (i : Nat) (x : Nd), l[i]? = some x → x.kids.Pairwise (· < ·) ∧ ∀ c, c ∈ x.kids ↔ ∃ (k : Nat) (y : Nd), c = k ∧ l[k]? = some y ∧ y.parent = i
  none_ : ∀ (i : Nat) (x : Nd), l[i]? = some x → (x.pref = -1 ↔ x.kids = [])

theorem WfT.kids_len {l : List Nd} (h : WfT l) {i : Nat} {x : Nd} (hx : l[i]? = some x) : x.kids.length ≤ l.length := by
  obtain ⟨h1, h2⟩ := h.kids i x hx
  refine nodup_le l.length x.kids (h1.imp fun hab e => by omega) fun c hc => ?_
  obtain ⟨k, y, rfl, hy, _⟩ := (h2 c).1 hc
  have := (List.getElem?_eq_some_iff.1 hy).1
  omega
theorem WfT.lt {l : List Nd} {i : Nat} {x : Nd} (hx : l[i]? = some x) : i < l.length := (List.getElem?_eq_some_iff.1 hx).1

/-- another preferred child -/
def setPref (l : List Nd) (i : Nat) (v : Int) : List Nd := l.modify i fun x => { x with pref := v }
theorem setPref_len (l : List Nd) (i : Nat) (v : Int) : (setPref l i v).length = l.length := by simp [setPref]
theorem setPref_at {l : List Nd} {i j : Nat} {v : Int} {x : Nd} (h : (setPref l i v)[j]? = some x) : ∃ y, l[j]? = some y ∧ x = (if i = j then { y with pref := v } else y) := by
  unfold setPref at h
  rw [List.getElem?_modify] at h
  cases hy : l[j]? with
  | none => rw [hy] at h; simp at h
  | some y =>
    rw [hy] at h
    refine ⟨y, rfl, ?_⟩
    by_cases hij : i = j <;> simp [hij] at h ⊢ <;> exact h.symm
theorem setPref_get {l : List Nd} {i j : Nat} {v : Int} {y : Nd} (h : l[j]? = some y) : (setPref l i v)[j]? = some (if i = j then { y with pref := v } else y) := by
  unfold setPref
  rw [List.getElem?_modify, h]
  by_cases hij : i = j <;> simp [hij]

theorem WfT.setPref {l : List Nd} (h : WfT l) {i c : Nat} {y : Nd} (hc : l[c]? = some y) (hp : y.parent = i) : WfT (setPref l i c) := by
  refine ⟨by rw [setPref_len]; exact h.pos, fun x hx => ?_, fun j x hx hj => ?_, fun j x hx => ?_, fun j x hx => ?_, fun j x hx => ?_, fun j x hx => ?_⟩
  · obtain ⟨z, hz, rfl⟩ := setPref_at hx
    have := h.root z hz
    split <;> exact this
  · obtain ⟨z, hz, rfl⟩ := setPref_at hx
    obtain ⟨p, q, h1, h2, h3, h4⟩ := h.par j z hz hj
    refine ⟨p, _, ?_, h2, setPref_get h3, ?_⟩
    · split <;> exact h1
    · split <;> split <;> exact h4
  · obtain ⟨z, hz, rfl⟩ := setPref_at hx
    split
    · rename_i hij
      subst hij
      refine .inr ⟨c, _, rfl, setPref_get hc, ?_⟩
      split <;> exact hp
    · rcases h.pref j z hz with h1 | ⟨k, q, h1, h2, h3⟩
      · exact .inl h1
      · refine .inr ⟨k, _, h1, setPref_get h2, ?_⟩
        split <;> exact h3
  · obtain ⟨z, hz, rfl⟩ := setPref_at hx
    have := h.dep j z hz
    split <;> exact this
  · obtain ⟨z, hz, rfl⟩ := setPref_at hx
    obtain ⟨h1, h2⟩ := h.kids j z hz
    have e : (if i = j then { z with pref := (c : Int) } else z).kids = z.kids := by split <;> rfl
    rw [e]
    refine ⟨h1, fun d => (h2 d).trans ⟨?_, ?_⟩⟩
    · rintro ⟨k, q, hd, hq, hqp⟩
      refine ⟨k, _, hd, setPref_get hq, ?_⟩
      split <;> exact hqp
    · rintro ⟨k, q, hd, hq, hqp⟩
      obtain ⟨q', hq', rfl⟩ := setPref_at hq
      refine ⟨k, q', hd, hq', ?_⟩
      revert hqp
      split <;> exact id
  · obtain ⟨z, hz, rfl⟩ := setPref_at hx
    have hn := h.none_ j z hz
    split
    · rename_i hij
      subst hij
      have : (c : Int) ∈ z.kids := ((h.kids i z hz).2 c).2 ⟨c, y, rfl, hc, hp⟩
      constructor
      · intro e; simp only at e; omega
      · intro e; simp only at e; rw [e] at this; simp at this
    · exact hn

/-- the preferred children lead from the root to v -/
inductive Lead (l : List Nd) : Nat → Prop
  | root : Lead l 0
  | step {p v : Nat} {x y : Nd} : l[v]? = some x → x.parent = p → l[p]? = some y → y.pref = v → p < v → Lead l p → Lead l v

/-- Goto: the preferred children of the path -/
def gotoP : Nat → List Nd → Nat → List Nd
  | 0, l, _ => l
  | k + 1, l, v => match l[v]? with
    | some x => if x.parent < 0 then l else gotoP k (setPref l x.parent.toNat v) x.parent.toNat
    | none => l

theorem gotoP_wf : ∀ (k : Nat) {l : List Nd} (h : WfT l) (v : Nat) (hv : v < l.length), WfT (gotoP k l v) ∧ (gotoP k l v).length = l.length
  | 0, l, h, v, hv => ⟨h, rfl⟩
  | k + 1, l, h, v, hv => by
    unfold gotoP
    rw [List.getElem?_eq_getElem hv]
    simp only
    split
    · exact ⟨h, rfl⟩
    · rename_i hn
      have hx : l[v]? = some l[v] := List.getElem?_eq_getElem hv
      have h0 : 0 < v := by
        rcases Nat.eq_zero_or_pos v with e | e
        · subst e; have := (h.root _ hx).1; omega
        · exact e
      obtain ⟨p, y, h1, h2, h3, _⟩ := h.par v _ hx h0
      rw [h1, Int.toNat_natCast]
      have := gotoP_wf k (h.setPref hx h1) p (by rw [setPref_len]; omega)
      rw [setPref_len] at this
      exact this

/-- nodes from v on stay as they are; of the others only the preferred child changes -/
theorem gotoP_at : ∀ (k : Nat) {l : List Nd} (h : WfT l) (v : Nat) (hv : v < l.length) (j : Nat) (x : Nd), l[j]? = some x → ∃ q, (gotoP k l v)[j]? = some { x with pref := q } ∧ (v ≤ j → q = x.pref)
  | 0, l, h, v, hv, j, x, hx => ⟨x.pref, hx, fun _ => rfl⟩
  | k + 1, l, h, v, hv, j, x, hx => by
    unfold gotoP
    rw [List.getElem?_eq_getElem hv]
    simp only
    split
    · exact ⟨x.pref, hx, fun _ => rfl⟩
    · rename_i hn
      have hxv : l[v]? = some l[v] := List.getElem?_eq_getElem hv
      have h0 : 0 < v := by
        rcases Nat.eq_zero_or_pos v with e | e
        · subst e; have := (h.root _ hxv).1; omega
        · exact e
      obtain ⟨p, y, h1, h2, h3, _⟩ := h.par v _ hxv h0
      rw [h1, Int.toNat_natCast]
      obtain ⟨q, hq, hqe⟩ := gotoP_at k (h.setPref hxv h1) p (by rw [setPref_len]; omega) j _ (setPref_get hx)
      by_cases hpj : p = j
      · rw [if_pos hpj] at hq
        exact ⟨q, hq, fun hvj => by omega⟩
      · rw [if_neg hpj] at hq hqe
        exact ⟨q, hq, fun hvj => hqe (by omega)⟩

theorem gotoP_lead : ∀ (k : Nat) {l : List Nd} (h : WfT l) (v : Nat) (hv : v < l.length), v ≤ k → Lead (gotoP k l v) v
  | 0, l, h, v, hv, hk => by obtain rfl : v = 0 := by omega
                             exact .root
  | k + 1, l, h, v, hv, hk => by
    rcases Nat.eq_zero_or_pos v with e | h0
    · subst e; exact .root
    · have hxv : l[v]? = some l[v] := List.getElem?_eq_getElem hv
      obtain ⟨p, y, h1, h2, h3, _⟩ := h.par v _ hxv h0
      have hw := h.setPref hxv h1
      have e : gotoP (k + 1) l v = gotoP k (Go.Proofs.Ytjajlnhobchkgaa.setPref l p v) p := by
        rw [gotoP, hxv]
        simp only
        rw [if_neg (by omega), h1, Int.toNat_natCast]
      rw [e]
      obtain ⟨q, hq, hqe⟩ := gotoP_at k hw p (by rw [setPref_len]; omega) v _ (setPref_get hxv)
      obtain ⟨r, hr, hre⟩ := gotoP_at k hw p (by rw [setPref_len]; omega) p _ (setPref_get h3)
      rw [if_neg (by omega)] at hq
      rw [if_pos rfl] at hr hre
      exact .step hq h1 hr (hre (Nat.le_refl _)) h2 (gotoP_lead k hw p (by rw [setPref_len]; omega) (by omega))

/-- Do keeps all that -/
theorem doN_eq {l : List Nd} {now : Nat} {x : Nd} (hx : l[now]? = some x) (id : Int) : doN l now id = l.set now { x with kids := x.kids ++ [(l.length : Int)], pref := l.length } ++ [⟨id, now, -1, x.depth + 1, []⟩] := by
  unfold doN; rw [hx]
theorem doN_len {l : List Nd} {now : Nat} {x : Nd} (hx : l[now]? = some x) (id : Int) : (doN l now id).length = l.length + 1 := by rw [doN_eq hx]; simp
theorem doN_at {l : List Nd} {now : Nat} {x : Nd} (hx : l[now]? = some x) {id : Int} {j : Nat} {y : Nd} (h : (doN l now id)[j]? = some y) :
    (j = l.length ∧ y = ⟨id, now, -1, x.depth + 1, []⟩) ∨ (j = now ∧ y = { x with kids := x.kids ++ [(l.length : Int)], pref := l.length }) ∨ (j ≠ now ∧ l[j]? = some y) := by
  rw [doN_eq hx] at h
  by_cases hj : j < l.length
  · rw [List.getElem?_append_left (by simpa using hj)] at h
    rcases set_at h with ⟨h1, h2⟩ | ⟨h1, h2⟩
    · exact .inr (.inl ⟨h1, h2⟩)
    · exact .inr (.inr ⟨h1, h2⟩)
  · rw [List.getElem?_append_right (by simpa using Nat.not_lt.1 hj), List.length_set] at h
    have hl := (List.getElem?_eq_some_iff.1 h).1
    simp at hl
    have : j = l.length := by omega
    subst this
    simp at h
    exact .inl ⟨rfl, h.symm⟩
theorem doN_old {l : List Nd} {now : Nat} {x : Nd} (hx : l[now]? = some x) (id : Int) {j : Nat} {y : Nd} (h : l[j]? = some y) : (doN l now id)[j]? = some (if j = now then { x with kids := x.kids ++ [(l.length : Int)], pref := l.length } else y) := by
  have hj := (List.getElem?_eq_some_iff.1 h).1
  rw [doN_eq hx, List.getElem?_append_left (by simpa using hj), List.getElem?_set]
  by_cases e : j = now
  · subst e; simp [hj]
  · rw [if_neg (fun e2 => e e2.symm), if_neg e]; exact h
theorem doN_new {l : List Nd} {now : Nat} {x : Nd} (hx : l[now]? = some x) (id : Int) : (doN l now id)[l.length]? = some ⟨id, now, -1, x.depth + 1, []⟩ := by
  rw [doN_eq hx, List.getElem?_append_right (by simp)]; simp

theorem doN_wf {l : List Nd} (h : WfT l) {now : Nat} {x : Nd} (hx : l[now]? = some x) (id : Int) : WfT (doN l now id) := by
  have hnow := WfT.lt hx
  have hpar : ∀ {j : Nat} {y : Nd}, l[j]? = some y → ∃ z, (doN l now id)[j]? = some z ∧ z.parent = y.parent ∧ z.depth = y.depth := by
    intro j y hy
    refine ⟨_, doN_old hx id hy, ?_, ?_⟩
    · split
      · rename_i e; subst e; rw [hx] at hy; cases hy; rfl
      · rfl
    · split
      · rename_i e; subst e; rw [hx] at hy; cases hy; rfl
      · rfl
  refine ⟨by rw [doN_len hx]; omega, fun y hy => ?_, fun j y hy hj => ?_, fun j y hy => ?_, fun j y hy => ?_, fun j y hy => ?_, fun j y hy => ?_⟩
  · rcases doN_at hx hy with ⟨h1, _⟩ | ⟨h1, rfl⟩ | ⟨_, h2⟩
    · have := h.pos; omega
    · subst h1; exact h.root x hx
    · exact h.root y h2
  · rcases doN_at hx hy with ⟨rfl, rfl⟩ | ⟨h1, rfl⟩ | ⟨_, h2⟩
    · obtain ⟨z, hz, _, hzd⟩ := hpar hx
      exact ⟨now, z, rfl, hnow, hz, by rw [hzd]⟩
    · subst h1
      obtain ⟨p, q, e1, e2, e3, e4⟩ := h.par j x hx hj
      obtain ⟨z, hz, _, hzd⟩ := hpar e3
      exact ⟨p, z, e1, e2, hz, by rw [hzd]; exact e4⟩
    · obtain ⟨p, q, e1, e2, e3, e4⟩ := h.par j y h2 hj
      obtain ⟨z, hz, _, hzd⟩ := hpar e3
      exact ⟨p, z, e1, e2, hz, by rw [hzd]; exact e4⟩
  · rcases doN_at hx hy with ⟨rfl, rfl⟩ | ⟨h1, rfl⟩ | ⟨_, h2⟩
    · exact .inl rfl
    · subst h1; exact .inr ⟨l.length, _, rfl, doN_new hx id, rfl⟩
    · rcases h.pref j y h2 with e | ⟨c, q, e1, e2, e3⟩
      · exact .inl e
      · obtain ⟨z, hz, hzp, _⟩ := hpar e2
        exact .inr ⟨c, z, e1, hz, by rw [hzp]; exact e3⟩
  · rcases doN_at hx hy with ⟨rfl, rfl⟩ | ⟨h1, rfl⟩ | ⟨_, h2⟩
    · have := h.dep now x hx; simp only; omega
    · subst h1; exact h.dep j x hx
    · exact h.dep j y h2
  · rcases doN_at hx hy with ⟨rfl, rfl⟩ | ⟨h1, rfl⟩ | ⟨hne, h2⟩
    · refine ⟨List.Pairwise.nil, fun c => ⟨fun hc => by simp at hc, ?_⟩⟩
      rintro ⟨k, z, rfl, hz, hzp⟩
      rcases doN_at hx hz with ⟨rfl, rfl⟩ | ⟨rfl, rfl⟩ | ⟨_, hz2⟩
      · simp only at hzp; omega
      · simp only at hzp
        rcases Nat.eq_zero_or_pos k with e | e
        · subst e; have := (h.root x hx).1; omega
        · obtain ⟨p, q, e1, e2, _, _⟩ := h.par k x hx e; omega
      · have := WfT.lt hz2
        rcases Nat.eq_zero_or_pos k with e | e
        · subst e; have := (h.root z hz2).1; omega
        · obtain ⟨p, q, e1, e2, _, _⟩ := h.par k z hz2 e; omega
    · subst h1
      obtain ⟨k1, k2⟩ := h.kids j x hx
      refine ⟨List.pairwise_append.2 ⟨k1, by simp, fun a ha b hb => ?_⟩, fun c => ?_⟩
      · rw [List.mem_singleton] at hb; subst hb
        obtain ⟨k, z, rfl, hz, _⟩ := (k2 a).1 ha
        have := WfT.lt hz; omega
      · simp only [List.mem_append, List.mem_singleton]
        constructor
        · rintro (hc | rfl)
          · obtain ⟨k, z, rfl, hz, hzp⟩ := (k2 c).1 hc
            obtain ⟨z', hz', hzp', _⟩ := hpar hz
            exact ⟨k, z', rfl, hz', by rw [hzp']; exact hzp⟩
          · exact ⟨l.length, _, rfl, doN_new hx id, rfl⟩
        · rintro ⟨k, z, rfl, hz, hzp⟩
          rcases doN_at hx hz with ⟨rfl, rfl⟩ | ⟨rfl, rfl⟩ | ⟨_, hz2⟩
          · exact .inr rfl
          · exact .inl ((k2 _).2 ⟨k, x, rfl, hx, hzp⟩)
          · exact .inl ((k2 _).2 ⟨k, z, rfl, hz2, hzp⟩)
    · obtain ⟨k1, k2⟩ := h.kids j y h2
      refine ⟨k1, fun c => (k2 c).trans ⟨?_, ?_⟩⟩
      · rintro ⟨k, z, rfl, hz, hzp⟩
        obtain ⟨z', hz', hzp', _⟩ := hpar hz
        exact ⟨k, z', rfl, hz', by rw [hzp']; exact hzp⟩
      · rintro ⟨k, z, rfl, hz, hzp⟩
        rcases doN_at hx hz with ⟨rfl, rfl⟩ | ⟨rfl, rfl⟩ | ⟨_, hz2⟩
        · simp only at hzp; omega
        · exact ⟨k, x, rfl, hx, hzp⟩
        · exact ⟨k, z, rfl, hz2, hzp⟩
  · rcases doN_at hx hy with ⟨rfl, rfl⟩ | ⟨h1, rfl⟩ | ⟨hne, h2⟩
    · exact ⟨fun _ => rfl, fun _ => rfl⟩
    · simp only; constructor
      · intro e; omega
      · intro e; simp at e
    · exact h.none_ j y h2

theorem doN_lead {l : List Nd} (h : WfT l) {now : Nat} {x : Nd} (hx : l[now]? = some x) (id : Int) (hl : Lead l now) : Lead (doN l now id) l.length := by
  have hnow := WfT.lt hx
  have hold : ∀ v, Lead l v → v ≤ now → Lead (doN l now id) v := by
    intro v hv
    induction hv with
    | root => intro _; exact .root
    | @step p v a b h1 h2 h3 h4 h5 _ ih =>
      intro hvn
      have e1 := doN_old hx id h1
      have e3 := doN_old hx id h3
      rw [if_neg (by omega)] at e3
      refine .step e1 ?_ e3 h4 h5 (ih (by omega))
      split
      · rename_i e; subst e; rw [hx] at h1; cases h1; exact h2
      · exact h2
  have e3 := doN_old hx id hx
  rw [if_pos rfl] at e3
  exact .step (doN_new hx id) rfl e3 rfl hnow (hold now hl (Nat.le_refl _))

/-- the current node after a Redo -/
theorem redo_lead {l : List Nd} (h : WfT l) {now : Nat} {x : Nd} (hx : l[now]? = some x) (hl : Lead l now) (h0 : 0 ≤ x.pref) : ∃ c : Nat, x.pref = c ∧ c < l.length ∧ Lead l c := by
  rcases h.pref now x hx with e | ⟨c, y, e1, e2, e3⟩
  · omega
  · refine ⟨c, e1, WfT.lt e2, ?_⟩
    have hc : now < c := by
      rcases Nat.eq_zero_or_pos c with e | e
      · subst e; have := (h.root y e2).1; omega
      · obtain ⟨p, q, f1, f2, _, _⟩ := h.par c y e2 e; omega
    exact .step e2 e3 hx e1 hc hl

end Go.Proofs.Ytjajlnhobchkgaa
