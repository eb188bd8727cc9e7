/-
  trees of expressions: in words, and us they lie in memory.
-/
import Derived.Test.YtpabngicbfcdkaaPMap
import Derived.Test.YtpabngicbfcdkaaRF
namespace Go.Proofs.Ytpabngicbfcdkaa
open Go.RowKit
set_option linter.unusedVariables false
set_option linter.unusedSimpArgs false

/-- an expression -/
inductive Ex where
  | mk (kind : Int) (text : ByteArray) (num : Int) (args : List Ex)

def Ex.kind : Ex → Int | .mk k _ _ _ => k
def Ex.text : Ex → ByteArray | .mk _ s _ _ => s
def Ex.num : Ex → Int | .mk _ _ n _ => n
def Ex.args : Ex → List Ex | .mk _ _ _ us => us

mutual
def Ex.size : Ex → Nat
  | .mk _ _ _ us => 1 + Ex.sizes us
def Ex.sizes : List Ex → Nat
  | [] => 0
  | t :: r => t.size + Ex.sizes r
end
mutual
def Ex.depth : Ex → Nat
  | .mk _ _ _ us => 1 + Ex.depths us
def Ex.depths : List Ex → Nat
  | [] => 0
  | t :: r => max t.depth (Ex.depths r)
end
mutual
/-- every node has a property -/
def Ex.all (good : Ex → Bool) : Ex → Prop
  | .mk k s n us => good (.mk k s n us) = true ∧ Ex.alls good us
def Ex.alls (good : Ex → Bool) : List Ex → Prop
  | [] => True
  | t :: r => t.all good ∧ Ex.alls good r
end

theorem Ex.size_pos (t : Ex) : 0 < t.size := by cases t; simp only [Ex.size]; omega
theorem Ex.size_eq (t : Ex) : t.size = 1 + Ex.sizes t.args := by cases t; simp only [Ex.size, Ex.args]
theorem Ex.depth_eq (t : Ex) : t.depth = 1 + Ex.depths t.args := by cases t; simp only [Ex.depth, Ex.args]
theorem Ex.sizes_append (a b : List Ex) : Ex.sizes (a ++ b) = Ex.sizes a + Ex.sizes b := by
  induction a with
  | nil => simp [Ex.sizes]
  | cons t r ih => simp only [List.cons_append, Ex.sizes, ih]; omega
theorem Ex.depths_append (a b : List Ex) : Ex.depths (a ++ b) = max (Ex.depths a) (Ex.depths b) := by
  induction a with
  | nil => simp [Ex.depths]
  | cons t r ih => simp only [List.cons_append, Ex.depths, ih]; omega
theorem Ex.size_kid {us : List Ex} {i : Nat} {t : Ex} (h : us[i]? = some t) : t.size ≤ Ex.sizes us := by
  induction us generalizing i with
  | nil => cases h
  | cons x r ih =>
    rcases i with _ | i
    · simp at h; subst h; simp only [Ex.sizes]; omega
    · have := ih (i := i) (by simpa using h)
      simp only [Ex.sizes]; omega
theorem Ex.sizes_len (us : List Ex) : us.length ≤ Ex.sizes us := by
  induction us with
  | nil => simp
  | cons x r ih => have := x.size_pos; simp only [Ex.sizes, List.length_cons]; omega
theorem Ex.depths_len {us : List Ex} {i : Nat} {t : Ex} (h : us[i]? = some t) : t.depth ≤ Ex.depths us := by
  induction us generalizing i with
  | nil => cases h
  | cons x r ih =>
    rcases i with _ | i
    · simp at h; subst h; simp only [Ex.depths]; omega
    · have := ih (i := i) (by simpa using h)
      simp only [Ex.depths]; omega
mutual
theorem Ex.depth_le : ∀ t : Ex, t.depth ≤ t.size
  | .mk _ _ _ us => by have := Ex.depths_le us; simp only [Ex.depth, Ex.size]; omega
theorem Ex.depths_le : ∀ us : List Ex, Ex.depths us ≤ Ex.sizes us
  | [] => by simp [Ex.depths, Ex.sizes]
  | t :: r => by have := Ex.depth_le t; have := Ex.depths_le r; simp only [Ex.depths, Ex.sizes]; omega
end
theorem Ex.all_eq (good : Ex → Bool) (t : Ex) : t.all good ↔ (good t = true ∧ ∀ (i : Nat) (u : Ex), t.args[i]? = some u → u.all good) := by
  cases t with
  | mk k s n us =>
    simp only [Ex.all, Ex.args]
    have h : Ex.alls good us ↔ ∀ (i : Nat) u, us[i]? = some u → u.all good := by
      induction us with
      | nil => simp [Ex.alls]
      | cons x r ih =>
        simp only [Ex.alls, ih]
        constructor
        · rintro ⟨h1, h2⟩ i u hu
          rcases i with _ | i
          · simp at hu; subst hu; exact h1
          · exact h2 i u (by simpa using hu)
        · intro h
          exact ⟨h 0 x rfl, fun i u hu => h (i + 1) u (by simpa using hu)⟩
    rw [h]

/-- the four cells of a node -/
def NodeAt (w : World) (b off : Nat) (k : Int) (s : ByteArray) (n : Int) (v : Value) : Prop :=
  ∃ cs ty, w.heap[b]? = some (.cells cs ty (0, 0)) ∧ cs[off]? = some (.int .i64 k) ∧ cs[off + 1]? = some (.string s) ∧ cs[off + 2]? = some (.int .i64 n) ∧ cs[off + 3]? = some v
theorem NodeAt.fr {w w' : World} {b off k s n v} {S : Nat → Prop} (h : NodeAt w b off k s n v) (hf : Fr S w w') (hn : ¬ S b) : NodeAt w' b off k s n v := by
  obtain ⟨cs, ty, hb, r⟩ := h
  exact ⟨cs, ty, (hf.block _ (Array.getElem?_eq_some_iff.1 hb).1 hn).trans hb, r⟩
theorem NodeAt.lt {w : World} {b off k s n v} (h : NodeAt w b off k s n v) : b < w.heap.size := by
  obtain ⟨cs, ty, hb, r⟩ := h
  exact (Array.getElem?_eq_some_iff.1 hb).1
theorem NodeAt.ok {w : World} {b off k s n v} (h : NodeAt w b off k s n v) : OkA w ⟨b, off, none⟩ := by
  obtain ⟨cs, ty, hb, r⟩ := h
  exact ⟨cs, ty, hb⟩
theorem NodeAt.cells {w : World} {b off k s n v} (h : NodeAt w b off k s n v) : w.cell? ⟨b, off, none⟩ = some (.int .i64 k) ∧ w.cell? ⟨b, off + 1, none⟩ = some (.string s) ∧ w.cell? ⟨b, off + 2, none⟩ = some (.int .i64 n) ∧ w.cell? ⟨b, off + 3, none⟩ = some v := by
  obtain ⟨cs, ty, hb, h0, h1, h2, h3⟩ := h
  simp only [World.cell?, hb]
  exact ⟨h0, h1, h2, h3⟩

mutual
/-- a tree at a place, all in blocks of T -/
def RdE (T : Nat → Prop) (w : World) : Ex → Nat → Nat → Prop
  | .mk k s n us, b, off => T b ∧ ∃ a c, NodeAt w b off k s n (.slice a us.length c) ∧ us.length ≤ c ∧ (us = [] ∨ ∃ b' o', a = some ⟨b', o', none⟩ ∧ RdL T w us b' o')
/-- trees that follow one another -/
def RdL (T : Nat → Prop) (w : World) : List Ex → Nat → Nat → Prop
  | [], _, _ => True
  | t :: r, b, off => RdE T w t b off ∧ RdL T w r b (off + 4)
end
/-- arguments behind an address -/
def RdA (T : Nat → Prop) (w : World) (us : List Ex) (a : Option Addr) : Prop := us = [] ∨ ∃ b' o', a = some ⟨b', o', none⟩ ∧ RdL T w us b' o'

mutual
theorem RdE.fr {T S : Nat → Prop} {w w' : World} (hf : Fr S w w') (hd : ∀ i, T i → ¬ S i) : ∀ (t : Ex) {b off : Nat}, RdE T w t b off → RdE T w' t b off
  | .mk k s n us, b, off, h => by
    obtain ⟨hT, a, c, hn, hc, ha⟩ := h
    refine ⟨hT, a, c, hn.fr hf (hd _ hT), hc, ?_⟩
    rcases ha with h0 | ⟨b', o', h1, h2⟩
    · exact .inl h0
    · exact .inr ⟨b', o', h1, RdL.fr hf hd us h2⟩
theorem RdL.fr {T S : Nat → Prop} {w w' : World} (hf : Fr S w w') (hd : ∀ i, T i → ¬ S i) : ∀ (us : List Ex) {b off : Nat}, RdL T w us b off → RdL T w' us b off
  | [], _, _, _ => trivial
  | t :: r, b, off, h => ⟨RdE.fr hf hd t h.1, RdL.fr hf hd r h.2⟩
end
theorem RdA.fr {T S : Nat → Prop} {w w' : World} {us a} (h : RdA T w us a) (hf : Fr S w w') (hd : ∀ i, T i → ¬ S i) : RdA T w' us a := by
  rcases h with h0 | ⟨b', o', h1, h2⟩
  · exact .inl h0
  · exact .inr ⟨b', o', h1, RdL.fr hf hd us h2⟩
mutual
theorem RdE.mono {T T' : Nat → Prop} {w : World} (hT : ∀ i, i < w.heap.size → T i → T' i) : ∀ (t : Ex) {b off : Nat}, RdE T w t b off → RdE T' w t b off
  | .mk k s n us, b, off, h => by
    obtain ⟨h0, a, c, hn, hc, ha⟩ := h
    refine ⟨hT _ hn.lt h0, a, c, hn, hc, ?_⟩
    rcases ha with h0 | ⟨b', o', h1, h2⟩
    · exact .inl h0
    · exact .inr ⟨b', o', h1, RdL.mono hT us h2⟩
theorem RdL.mono {T T' : Nat → Prop} {w : World} (hT : ∀ i, i < w.heap.size → T i → T' i) : ∀ (us : List Ex) {b off : Nat}, RdL T w us b off → RdL T' w us b off
  | [], _, _, _ => trivial
  | t :: r, b, off, h => ⟨RdE.mono hT t h.1, RdL.mono hT r h.2⟩
end
theorem RdA.mono {T T' : Nat → Prop} {w : World} {us a} (h : RdA T w us a) (hT : ∀ i, i < w.heap.size → T i → T' i) : RdA T' w us a := by
  rcases h with h0 | ⟨b', o', h1, h2⟩
  · exact .inl h0
  · exact .inr ⟨b', o', h1, RdL.mono hT us h2⟩
theorem RdE.below {T : Nat → Prop} {w w' : World} (hb : Below w.heap.size w w') (t : Ex) {b off : Nat} (h : RdE T w t b off) : RdE T w' t b off := RdE.fr (S := fun _ => False) (.of_below hb) (fun _ _ h => h) t h
theorem RdA.below {T : Nat → Prop} {w w' : World} {us a} (h : RdA T w us a) (hb : Below w.heap.size w w') : RdA T w' us a := h.fr (S := fun _ => False) (.of_below hb) (fun _ _ h => h)
theorem RdL.below {T : Nat → Prop} {w w' : World} (hb : Below w.heap.size w w') (us : List Ex) {b off : Nat} (h : RdL T w us b off) : RdL T w' us b off := RdL.fr (S := fun _ => False) (.of_below hb) (fun _ _ h => h) us h

/-- an expression by value -/
def exV (t : Ex) (a : Option Addr) (c : Nat) : Value := .agg #[.int .i64 t.kind, .string t.text, .int .i64 t.num, .slice a t.args.length c]

theorem RdE.node {T : Nat → Prop} {w : World} {t : Ex} {b off : Nat} (h : RdE T w t b off) : T b ∧ ∃ a c, NodeAt w b off t.kind t.text t.num (.slice a t.args.length c) ∧ t.args.length ≤ c ∧ RdA T w t.args a := by
  cases t; exact h
theorem RdE.mk' {T : Nat → Prop} {w : World} {t : Ex} {b off : Nat} {a : Option Addr} {c : Nat} (hT : T b) (hn : NodeAt w b off t.kind t.text t.num (.slice a t.args.length c)) (hc : t.args.length ≤ c) (ha : RdA T w t.args a) : RdE T w t b off := by
  cases t; exact ⟨hT, a, c, hn, hc, ha⟩
theorem RdL.get {T : Nat → Prop} {w : World} : ∀ {us : List Ex} {b off i : Nat} {t : Ex}, RdL T w us b off → us[i]? = some t → RdE T w t b (off + 4 * i)
  | x :: r, b, off, 0, t, h, ht => by simp at ht; subst ht; simpa using h.1
  | x :: r, b, off, i + 1, t, h, ht => by
    have := RdL.get (i := i) h.2 (by simpa using ht)
    rwa [show off + 4 + 4 * i = off + 4 * (i + 1) by omega] at this
theorem RdA.get {T : Nat → Prop} {w : World} {us : List Ex} {a : Option Addr} (h : RdA T w us a) {i : Nat} {t : Ex} (ht : us[i]? = some t) : ∃ b' o', a = some ⟨b', o', none⟩ ∧ RdE T w t b' (o' + 4 * i) := by
  rcases h with h0 | ⟨b', o', h1, h2⟩
  · subst h0; cases ht
  · exact ⟨b', o', h1, h2.get ht⟩
theorem RdL.of_get {T : Nat → Prop} {w : World} : ∀ {us : List Ex} {b off : Nat}, (∀ (i : Nat) (t : Ex), us[i]? = some t → RdE T w t b (off + 4 * i)) → RdL T w us b off
  | [], _, _, _ => trivial
  | x :: r, b, off, h => ⟨by simpa using h 0 x rfl, RdL.of_get fun i t ht => by
    have := h (i + 1) t (by simpa using ht)
    rwa [show off + 4 * (i + 1) = off + 4 + 4 * i by omega] at this⟩

/-- one place, one tree -/
theorem NodeAt.uniq {w : World} {b off k s n v k' s' n' v'} (h : NodeAt w b off k s n v) (h' : NodeAt w b off k' s' n' v') : k = k' ∧ s = s' ∧ n = n' ∧ v = v' := by
  obtain ⟨cs, ty, hb, h0, h1, h2, h3⟩ := h
  obtain ⟨cs', ty', hb', h0', h1', h2', h3'⟩ := h'
  rw [hb] at hb'
  simp only [Option.some.injEq, Obj.cells.injEq] at hb'
  obtain ⟨rfl, rfl, _⟩ := hb'
  rw [h0] at h0'; rw [h1] at h1'; rw [h2] at h2'; rw [h3] at h3'
  simp only [Option.some.injEq, Value.int.injEq, Value.string.injEq, true_and] at h0' h1' h2' h3'
  exact ⟨h0', h1', h2', h3'⟩
mutual
theorem RdE.uniq {T T' : Nat → Prop} {w : World} : ∀ (t t' : Ex) {b off : Nat}, RdE T w t b off → RdE T' w t' b off → t = t'
  | .mk k s n us, .mk k' s' n' us', b, off, h, h' => by
    obtain ⟨_, a, c, hn, _, ha⟩ := h
    obtain ⟨_, a', c', hn', _, ha'⟩ := h'
    obtain ⟨rfl, rfl, rfl, hv⟩ := hn.uniq hn'
    simp only [Value.slice.injEq] at hv
    obtain ⟨rfl, hl, rfl⟩ := hv
    have : us = us' := by
      rcases ha with h0 | ⟨b1, o1, h1, h2⟩
      · subst h0; exact (List.eq_nil_of_length_eq_zero hl.symm).symm
      · rcases ha' with h0 | ⟨b2, o2, h3, h4⟩
        · subst h0; exact List.eq_nil_of_length_eq_zero hl
        · rw [h1] at h3
          simp only [Option.some.injEq, Addr.mk.injEq, and_true] at h3
          obtain ⟨rfl, rfl⟩ := h3
          exact RdL.uniq us us' hl h2 h4
    rw [this]
theorem RdL.uniq {T T' : Nat → Prop} {w : World} : ∀ (us us' : List Ex) {b off : Nat}, us.length = us'.length → RdL T w us b off → RdL T' w us' b off → us = us'
  | [], [], _, _, _, _, _ => rfl
  | [], _ :: _, _, _, hl, _, _ => by simp at hl
  | _ :: _, [], _, _, hl, _, _ => by simp at hl
  | t :: r, t' :: r', b, off, hl, h, h' => by
    rw [RdE.uniq t t' h.1 h'.1, RdL.uniq r r' (by simpa using hl) h.2 h'.2]
end

/-- boxed -/
theorem exV_boxed {T : Nat → Prop} {w : World} {t : Ex} {a : Option Addr} {c : Nat} (ha : RdA T w t.args a) (hc : t.args.length ≤ c) (ty : TypeId) :
    RdE (fun b => T b ∨ b = w.heap.size) (w.alloc (.cells #[.int .i64 t.kind, .string t.text, .int .i64 t.num, .slice a t.args.length c] ty)) t w.heap.size 0 :=
  RdE.mk' (.inr rfl) ⟨_, ty, heap_alloc_new w _, rfl, rfl, rfl, rfl⟩ hc ((ha.below (below_alloc w _)).mono fun i _ h => .inl h)

end Go.Proofs.Ytpabngicbfcdkaa
