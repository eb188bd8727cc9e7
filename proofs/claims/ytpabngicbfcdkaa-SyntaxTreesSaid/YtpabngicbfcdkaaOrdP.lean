/-
  tree.order, the plain law: a stack of nodes, a list of closed ones, a map of states.
-/
import Derived.Test.YtpabngicbfcdkaaSTree
namespace Go.Proofs.Ytpabngicbfcdkaa
open Go.RowKit
set_option linter.unusedVariables false
set_option linter.unusedSimpArgs false

/-- a tree at an address -/
def RdP (T : Nat → Prop) (w : World) (t : Ex) (p : Addr) : Prop := p.spot = none ∧ RdE T w t p.block p.off
theorem RdP.uniq {T T' : Nat → Prop} {w : World} {t t' : Ex} {p : Addr} (h : RdP T w t p) (h' : RdP T' w t' p) : t = t' := RdE.uniq t t' h.2 h'.2
theorem addr_eta {p : Addr} (h : p.spot = none) : p = ⟨p.block, p.off, none⟩ := by cases p; simp only at h; subst h; rfl
theorem RdP.ok {T : Nat → Prop} {w : World} {t : Ex} {p : Addr} (h : RdP T w t p) : OkA w p := by
  obtain ⟨_, a, c, hn, _⟩ := h.2.node
  have := hn.ok
  rwa [← addr_eta h.1] at this
/-- the place of an argument -/
def KidAt (w : World) (p : Addr) (i : Nat) (q : Addr) : Prop := ∃ k s n b' o' len c, NodeAt w p.block p.off k s n (.slice (some ⟨b', o', none⟩) len c) ∧ q = ⟨b', o' + 4 * i, none⟩
theorem KidAt.uniq {w : World} {p : Addr} {i : Nat} {q q' : Addr} (h : KidAt w p i q) (h' : KidAt w p i q') : q = q' := by
  obtain ⟨k, s, n, b1, o1, len, c, h1, rfl⟩ := h
  obtain ⟨k', s', n', b2, o2, len', c', h2, rfl⟩ := h'
  obtain ⟨_, _, _, hv⟩ := h1.uniq h2
  simp only [Value.slice.injEq, Option.some.injEq, Addr.mk.injEq, and_true] at hv
  obtain ⟨⟨rfl, rfl⟩, _, _⟩ := hv
  rfl
theorem RdP.kid {T : Nat → Prop} {w : World} {t : Ex} {p : Addr} (h : RdP T w t p) {i : Nat} {u : Ex} (hu : t.args[i]? = some u) : ∃ q, KidAt w p i q ∧ RdP T w u q := by
  obtain ⟨_, a, c, hn, _, ha⟩ := h.2.node
  obtain ⟨b', o', rfl, hr⟩ := ha.get hu
  exact ⟨⟨b', o' + 4 * i, none⟩, ⟨_, _, _, b', o', _, c, hn, rfl⟩, rfl, hr⟩

/-- an entry of the stack: where, which tree, and whether it is to be closed -/
structure SE where
  p : Addr
  t : Ex
  left : Bool
def SE.wgt (x : SE) : Nat := if x.left then 1 else 2 * x.t.size
def wgt : List SE → Nat
  | [] => 0
  | x :: r => x.wgt + wgt r
theorem wgt_append (a b : List SE) : wgt (a ++ b) = wgt a + wgt b := by
  induction a with
  | nil => simp [wgt]
  | cons x r ih => simp only [List.cons_append, wgt, ih]; omega
/-- the stack in memory -/
def cellsSE (S : List SE) : List Value := S.flatMap fun x => [Value.pointer (some x.p), Value.bool x.left]
theorem cellsSE_len (S : List SE) : (cellsSE S).length = S.length * 2 := by
  induction S with
  | nil => rfl
  | cons p r ih => simp only [cellsSE, List.flatMap_cons, List.length_append, List.length_cons, List.length_nil] at *; omega
theorem cellsSE_snoc (S : List SE) (x : SE) : cellsSE (S ++ [x]) = cellsSE S ++ [.pointer (some x.p), .bool x.left] := by simp [cellsSE]
theorem cellsSE_last (S : List SE) (x : SE) : (cellsSE (S ++ [x]))[S.length * 2]? = some (.pointer (some x.p)) ∧ (cellsSE (S ++ [x]))[S.length * 2 + 1]? = some (.bool x.left) := by
  rw [cellsSE_snoc]
  refine ⟨?_, ?_⟩
  · rw [List.getElem?_append_right (by rw [cellsSE_len]; omega), cellsSE_len, Nat.sub_self]; rfl
  · rw [List.getElem?_append_right (by rw [cellsSE_len]; omega), cellsSE_len, show S.length * 2 + 1 - S.length * 2 = 1 by omega]; rfl

structure OI (T : Nat → Prop) (w : World) (good : Ex → Bool) (root : Ex) (p0 : Addr) (S : List SE) (L : List Addr) (f : Addr → Option Value) : Prop where
  rd : ∀ x, x ∈ S → RdP T w x.t x.p
  fL : ∀ p, f p = some (.int .i64 2) ↔ p ∈ L
  fO : ∀ p, f p = some (.int .i64 1) ↔ ∃ x, x ∈ S ∧ x.left = true ∧ x.p = p
  fN : ∀ p v, f p = some v → v = .int .i64 1 ∨ v = .int .i64 2
  topo : ∀ (j : Nat) (p : Addr), L[j]? = some p → ∃ t, RdP T w t p ∧ good t = true ∧ (∀ (i : Nat) (u : Ex), t.args[i]? = some u → ∃ (m : Nat) (q : Addr), m < j ∧ L[m]? = some q ∧ KidAt w p i q) ∧ ∀ g : Ex → Bool, root.all g → t.all g
  gd : ∀ x, x ∈ S → x.left = true → good x.t = true
  stk1 : ∀ (i j : Nat) (x y : SE), i < j → S[i]? = some x → S[j]? = some y → x.left = true → y.t.size < x.t.size
  stk2 : ∀ (i : Nat) (x : SE), S[i]? = some x → x.left = true → ∀ (k : Nat) (u : Ex), x.t.args[k]? = some u → ∃ q, KidAt w x.p k q ∧ (q ∈ L ∨ ∃ (j : Nat) (y : SE), i < j ∧ S[j]? = some y ∧ y.p = q)
  rt : p0 ∈ L ∨ ∃ x, x ∈ S ∧ x.p = p0
  sub : ∀ x, x ∈ S → ∀ g : Ex → Bool, root.all g → x.t.all g

section
variable {T : Nat → Prop} {w : World} {good : Ex → Bool} {root : Ex} {p0 : Addr} {S : List SE} {L : List Addr} {f : Addr → Option Value} {x : SE}

theorem OI.start (hr : RdP T w root p0) : OI T w good root p0 [⟨p0, root, false⟩] [] (fun _ => none) := by
  refine ⟨fun x hx => ?_, fun p => by simp, fun p => ?_, fun p v h => by simp at h, fun j p h => by simp at h, fun x hx h => ?_, fun i j x y hij hi hj h => ?_, fun i x hi h => ?_, .inr ⟨⟨p0, root, false⟩, by simp, rfl⟩, fun x hx g h => ?_⟩
  · rw [List.mem_singleton] at hx; subst hx; exact hr
  · constructor
    · intro h; simp at h
    · rintro ⟨x, hx, h, _⟩; rw [List.mem_singleton] at hx; subst hx; cases h
  · rw [List.mem_singleton] at hx; subst hx; cases h
  · have := (List.getElem?_eq_some_iff.1 hj).1; simp at this; omega
  · have hm := List.mem_of_getElem? hi
    rw [List.mem_singleton] at hm; subst hm; cases h
  · rw [List.mem_singleton] at hx; subst hx; exact h

theorem OI.ok (h : OI T w good root p0 S L f) : ∀ y v, f y = some v → OkA w y := by
  intro y v hv
  rcases h.fN y v hv with rfl | rfl
  · obtain ⟨x, hx, _, rfl⟩ := (h.fO y).1 hv
    exact (h.rd x hx).ok
  · have hm := (h.fL y).1 hv
    obtain ⟨j, hj⟩ := List.getElem?_of_mem hm
    obtain ⟨t, ht, _⟩ := h.topo j y hj
    exact ht.ok

theorem snoc_get {α : Type} {S : List α} {x y : α} {j : Nat} (h : (S ++ [x])[j]? = some y) : (j < S.length ∧ S[j]? = some y) ∨ (j = S.length ∧ y = x) := by
  rw [List.getElem?_append] at h
  split at h
  · exact .inl ⟨by assumption, h⟩
  · rename_i hlt
    have : j - S.length = 0 := by
      rcases Nat.eq_zero_or_pos (j - S.length) with z | z
      · exact z
      · rw [List.getElem?_eq_none (by simp; omega)] at h; cases h
    rw [this] at h
    exact .inr ⟨by omega, by simpa using h.symm⟩
theorem snoc_old {α : Type} {S : List α} {x y : α} {j : Nat} (h : S[j]? = some y) : (S ++ [x])[j]? = some y := by
  rw [List.getElem?_append_left (List.getElem?_eq_some_iff.1 h).1]; exact h
theorem snoc_last {α : Type} (S : List α) (x : α) : (S ++ [x])[S.length]? = some x := by simp

/-- the place on top stands nowhere below as one that is to be closed -/
theorem OI.top_new (h : OI T w good root p0 (S ++ [x]) L f) {y : SE} (hy : y ∈ S) (hl : y.left = true) : y.p ≠ x.p := by
  intro e
  obtain ⟨i, hi⟩ := List.getElem?_of_mem hy
  have hs := h.stk1 i S.length y x (List.getElem?_eq_some_iff.1 hi).1 (snoc_old hi) (snoc_last S x) hl
  have h1 := h.rd y (by simp [hy])
  have h2 := h.rd x (by simp)
  rw [e] at h1
  rw [h1.uniq h2] at hs
  omega

/-- one that is to be closed: it is -/
theorem OI.close (h : OI T w good root p0 (S ++ [x]) L f) (hl : x.left = true) : OI T w good root p0 S (L ++ [x.p]) (fun y => if y = x.p then some (.int .i64 2) else f y) := by
  have hfx : f x.p = some (.int .i64 1) := (h.fO x.p).2 ⟨x, by simp, hl, rfl⟩
  have hnL : x.p ∉ L := fun hm => by rw [(h.fL x.p).2 hm] at hfx; cases hfx
  refine ⟨fun y hy => h.rd y (by simp [hy]), fun p => ?_, fun p => ?_, fun p v hv => ?_, fun j p hj => ?_, fun y hy hy2 => h.gd y (by simp [hy]) hy2, fun i j a b hij hi hj ha => h.stk1 i j a b hij (snoc_old hi) (snoc_old hj) ha, fun i y hi hy k u hu => ?_, ?_, fun y hy g hr => h.sub y (by simp [hy]) g hr⟩
  · by_cases e : p = x.p
    · simp [e]
    · simp only [if_neg e, List.mem_append, List.mem_singleton, e, or_false]; exact h.fL p
  · by_cases e : p = x.p
    · simp only [if_pos e]
      constructor
      · intro h; cases h
      · rintro ⟨y, hy, h1, h2⟩; exact absurd (h2.trans e) (h.top_new hy h1)
    · simp only [if_neg e]
      rw [h.fO]
      constructor
      · rintro ⟨y, hy, h1, h2⟩
        rcases List.mem_append.1 hy with hy | hy
        · exact ⟨y, hy, h1, h2⟩
        · rw [List.mem_singleton] at hy; subst hy; exact absurd h2.symm e
      · rintro ⟨y, hy, h1, h2⟩; exact ⟨y, by simp [hy], h1, h2⟩
  · by_cases e : p = x.p
    · rw [if_pos e] at hv; exact .inr (Option.some.inj hv).symm
    · rw [if_neg e] at hv; exact h.fN p v hv
  · rcases snoc_get hj with ⟨h1, h2⟩ | ⟨h1, rfl⟩
    · obtain ⟨t, ht, hg, hk, hs⟩ := h.topo j p h2
      refine ⟨t, ht, hg, fun i u hu => ?_, hs⟩
      obtain ⟨m, q, hm, hq, hkq⟩ := hk i u hu
      exact ⟨m, q, hm, snoc_old hq, hkq⟩
    · refine ⟨x.t, h.rd x (by simp), h.gd x (by simp) hl, fun i u hu => ?_, h.sub x (by simp)⟩
      obtain ⟨q, hq, hor⟩ := h.stk2 S.length x (snoc_last S x) hl i u hu
      rcases hor with hm | ⟨j', y, hj', hy, _⟩
      · obtain ⟨m, hm2⟩ := List.getElem?_of_mem hm
        have hml := (List.getElem?_eq_some_iff.1 hm2).1
        exact ⟨m, q, by omega, snoc_old hm2, hq⟩
      · have := (List.getElem?_eq_some_iff.1 hy).1
        simp at this; omega
  · obtain ⟨q, hq, hor⟩ := h.stk2 i y (snoc_old hi) hy k u hu
    refine ⟨q, hq, ?_⟩
    rcases hor with hm | ⟨j', z, hj', hz, he⟩
    · exact .inl (by simp [hm])
    · rcases snoc_get hz with ⟨h1, h2⟩ | ⟨h1, rfl⟩
      · exact .inr ⟨j', z, hj', h2, he⟩
      · exact .inl (by simp [he])
  · rcases h.rt with hr | ⟨y, hy, he⟩
    · exact .inl (by simp [hr])
    · rcases List.mem_append.1 hy with hy | hy
      · exact .inr ⟨y, hy, he⟩
      · rw [List.mem_singleton] at hy; subst hy; exact .inl (by simp [he])

/-- one that has been closed already -/
theorem OI.skip (h : OI T w good root p0 (S ++ [x]) L f) (hl : x.left = false) (hf : f x.p = some (.int .i64 2)) : OI T w good root p0 S L f := by
  have hm := (h.fL x.p).1 hf
  refine ⟨fun y hy => h.rd y (by simp [hy]), h.fL, fun p => ?_, h.fN, h.topo, fun y hy hy2 => h.gd y (by simp [hy]) hy2, fun i j a b hij hi hj ha => h.stk1 i j a b hij (snoc_old hi) (snoc_old hj) ha, fun i y hi hy k u hu => ?_, ?_, fun y hy g hr => h.sub y (by simp [hy]) g hr⟩
  · rw [h.fO]
    constructor
    · rintro ⟨y, hy, h1, h2⟩
      rcases List.mem_append.1 hy with hy | hy
      · exact ⟨y, hy, h1, h2⟩
      · rw [List.mem_singleton] at hy; subst hy; rw [hl] at h1; cases h1
    · rintro ⟨y, hy, h1, h2⟩; exact ⟨y, by simp [hy], h1, h2⟩
  · obtain ⟨q, hq, hor⟩ := h.stk2 i y (snoc_old hi) hy k u hu
    refine ⟨q, hq, ?_⟩
    rcases hor with hm | ⟨j', z, hj', hz, he⟩
    · exact .inl hm
    · rcases snoc_get hz with ⟨h1, h2⟩ | ⟨h1, rfl⟩
      · exact .inr ⟨j', z, hj', h2, he⟩
      · exact .inl (by rw [← he]; exact hm)
  · rcases h.rt with hr | ⟨y, hy, he⟩
    · exact .inl hr
    · rcases List.mem_append.1 hy with hy | hy
      · exact .inr ⟨y, hy, he⟩
      · rw [List.mem_singleton] at hy; subst hy; exact .inl (by rw [← he]; exact hm)

theorem OI.not_open (h : OI T w good root p0 (S ++ [x]) L f) (hl : x.left = false) : f x.p ≠ some (.int .i64 1) := by
  intro hf
  obtain ⟨y, hy, h1, h2⟩ := (h.fO x.p).1 hf
  rcases List.mem_append.1 hy with hy | hy
  · exact h.top_new hy h1 h2
  · rw [List.mem_singleton] at hy; subst hy; rw [hl] at h1; cases h1

/-- the arguments of a node, as entries -/
def kidsFrom (b o : Nat) : List Ex → List SE
  | [] => []
  | u :: r => ⟨⟨b, o, none⟩, u, false⟩ :: kidsFrom b (o + 4) r
theorem kidsFrom_get {b : Nat} : ∀ {o i : Nat} {us : List Ex} {u : Ex}, us[i]? = some u → (kidsFrom b o us)[i]? = some ⟨⟨b, o + 4 * i, none⟩, u, false⟩
  | o, 0, x :: r, u, h => by simp at h; subst h; rfl
  | o, i + 1, x :: r, u, h => by
    have := kidsFrom_get (b := b) (o := o + 4) (i := i) (us := r) (by simpa using h)
    simp only [kidsFrom, List.getElem?_cons_succ]
    rw [this, show o + 4 + 4 * i = o + 4 * (i + 1) by omega]
theorem kidsFrom_len {b : Nat} : ∀ {o : Nat} {us : List Ex}, (kidsFrom b o us).length = us.length
  | _, [] => rfl
  | o, x :: r => by simp [kidsFrom, kidsFrom_len]
theorem kidsFrom_mem {b : Nat} : ∀ {o : Nat} {us : List Ex} {x : SE}, x ∈ kidsFrom b o us → ∃ (i : Nat) (u : Ex), us[i]? = some u ∧ x = ⟨⟨b, o + 4 * i, none⟩, u, false⟩
  | _, [], x, h => by simp [kidsFrom] at h
  | o, y :: r, x, h => by
    simp only [kidsFrom, List.mem_cons] at h
    rcases h with rfl | h
    · exact ⟨0, y, rfl, rfl⟩
    · obtain ⟨i, u, h1, rfl⟩ := kidsFrom_mem h
      exact ⟨i + 1, u, by simpa using h1, by rw [show o + 4 * (i + 1) = o + 4 + 4 * i by omega]⟩
theorem kidsFrom_wgt {b : Nat} : ∀ {o : Nat} {us : List Ex}, wgt (kidsFrom b o us) = 2 * Ex.sizes us
  | _, [] => rfl
  | o, x :: r => by simp only [kidsFrom, wgt, SE.wgt, Ex.sizes, kidsFrom_wgt]; simp; omega
theorem kidsFrom_snoc {b : Nat} : ∀ {o : Nat} {us : List Ex} {u : Ex}, kidsFrom b o (us ++ [u]) = kidsFrom b o us ++ [⟨⟨b, o + 4 * us.length, none⟩, u, false⟩]
  | o, [], u => by simp [kidsFrom]
  | o, x :: r, u => by
    simp only [List.cons_append, kidsFrom, kidsFrom_snoc, List.length_cons]
    rw [show o + 4 + 4 * r.length = o + 4 * (r.length + 1) by omega]

/-- a new one, opened -/
theorem OI.open (h : OI T w good root p0 (S ++ [x]) L f) (hl : x.left = false) (hf : f x.p = none) (hg : good x.t = true) {b o : Nat} (hk : ∀ (i : Nat) (u : Ex), x.t.args[i]? = some u → KidAt w x.p i ⟨b, o + 4 * i, none⟩) :
    OI T w good root p0 (S ++ ⟨x.p, x.t, true⟩ :: kidsFrom b o x.t.args) L (fun y => if y = x.p then some (.int .i64 1) else f y) := by
  have hx := h.rd x (by simp)
  have hkid : ∀ (i : Nat) (u : Ex), x.t.args[i]? = some u → RdP T w u ⟨b, o + 4 * i, none⟩ := fun i u hu => by
    obtain ⟨q, h1, h2⟩ := hx.kid hu
    rwa [(hk i u hu).uniq h1]
  have hsz : ∀ (i : Nat) (u : Ex), x.t.args[i]? = some u → u.size < x.t.size := fun i u hu => by
    have := Ex.size_kid hu
    have := x.t.size_eq
    omega
  have hmem : ∀ y, y ∈ S ++ ⟨x.p, x.t, true⟩ :: kidsFrom b o x.t.args → y ∈ S ∨ y = ⟨x.p, x.t, true⟩ ∨ ∃ (i : Nat) (u : Ex), x.t.args[i]? = some u ∧ y = ⟨⟨b, o + 4 * i, none⟩, u, false⟩ := fun y hy => by
    rcases List.mem_append.1 hy with hy | hy
    · exact .inl hy
    · rcases List.mem_cons.1 hy with hy | hy
      · exact .inr (.inl hy)
      · exact .inr (.inr (kidsFrom_mem hy))
  have hget : ∀ {j : Nat} {y : SE}, (S ++ ⟨x.p, x.t, true⟩ :: kidsFrom b o x.t.args)[j]? = some y → (j < S.length ∧ S[j]? = some y) ∨ (j = S.length ∧ y = ⟨x.p, x.t, true⟩) ∨ (S.length < j ∧ ∃ (i : Nat) (u : Ex), x.t.args[i]? = some u ∧ y = ⟨⟨b, o + 4 * i, none⟩, u, false⟩) := fun {j y} hj => by
    rw [List.getElem?_append] at hj
    split at hj
    · exact .inl ⟨by assumption, hj⟩
    · rename_i hlt
      rcases Nat.eq_zero_or_pos (j - S.length) with z | z
      · rw [z] at hj
        exact .inr (.inl ⟨by omega, by simpa using hj.symm⟩)
      · obtain ⟨m, hm⟩ : ∃ m, j - S.length = m + 1 := ⟨j - S.length - 1, by omega⟩
        rw [hm, List.getElem?_cons_succ] at hj
        exact .inr (.inr ⟨by omega, kidsFrom_mem (List.mem_of_getElem? hj)⟩)
  refine ⟨fun y hy => ?_, fun p => ?_, fun p => ?_, fun p v hv => ?_, h.topo, fun y hy hy2 => ?_, fun i j a c hij hi hj ha => ?_, fun i y hi hy k u hu => ?_, ?_, fun y hy g hr => ?_⟩
  · rcases hmem y hy with hy | rfl | ⟨i, u, hu, rfl⟩
    · exact h.rd y (by simp [hy])
    · exact hx
    · exact hkid i u hu
  · by_cases e : p = x.p
    · simp only [if_pos e]
      constructor
      · intro h; cases h
      · intro hm
        have := (h.fL p).2 hm
        rw [e, hf] at this; cases this
    · simp only [if_neg e]; exact h.fL p
  · by_cases e : p = x.p
    · simp only [if_pos e, true_iff]
      exact ⟨⟨x.p, x.t, true⟩, by simp, rfl, e.symm⟩
    · simp only [if_neg e]
      rw [h.fO]
      constructor
      · rintro ⟨y, hy, h1, h2⟩
        rcases List.mem_append.1 hy with hy | hy
        · exact ⟨y, by simp [hy], h1, h2⟩
        · rw [List.mem_singleton] at hy; subst hy; rw [hl] at h1; cases h1
      · rintro ⟨y, hy, h1, h2⟩
        rcases hmem y hy with hy | rfl | ⟨i, u, hu, rfl⟩
        · exact ⟨y, by simp [hy], h1, h2⟩
        · exact absurd h2.symm e
        · cases h1
  · by_cases e : p = x.p
    · rw [if_pos e] at hv; exact .inl (Option.some.inj hv).symm
    · rw [if_neg e] at hv; exact h.fN p v hv
  · rcases hmem y hy with hy | rfl | ⟨i, u, hu, rfl⟩
    · exact h.gd y (by simp [hy]) hy2
    · exact hg
    · cases hy2
  · rcases hget hi with ⟨h1, h2⟩ | ⟨h1, rfl⟩ | ⟨h1, i', u, hu, rfl⟩
    · have hxs := h.stk1 i S.length a x h1 (snoc_old h2) (snoc_last S x) ha
      rcases hget hj with ⟨h3, h4⟩ | ⟨h3, rfl⟩ | ⟨h3, i', u, hu, rfl⟩
      · exact h.stk1 i j a c hij (snoc_old h2) (snoc_old h4) ha
      · exact hxs
      · exact Nat.lt_trans (hsz i' u hu) hxs
    · rcases hget hj with ⟨h3, h4⟩ | ⟨h3, rfl⟩ | ⟨h3, i', u, hu, rfl⟩
      · omega
      · omega
      · exact hsz i' u hu
    · cases ha
  · rcases hget hi with ⟨h1, h2⟩ | ⟨h1, rfl⟩ | ⟨h1, i', u', hu', rfl⟩
    · obtain ⟨q, hq, hor⟩ := h.stk2 i y (snoc_old h2) hy k u hu
      refine ⟨q, hq, ?_⟩
      rcases hor with hm | ⟨j', z, hj', hz, he⟩
      · exact .inl hm
      · rcases snoc_get hz with ⟨h3, h4⟩ | ⟨h3, rfl⟩
        · exact .inr ⟨j', z, hj', by rw [List.getElem?_append_left h3]; exact h4, he⟩
        · exact .inr ⟨S.length, ⟨z.p, z.t, true⟩, h1, by simp, he⟩
    · refine ⟨_, hk k u hu, .inr ⟨S.length + (k + 1), ⟨⟨b, o + 4 * k, none⟩, u, false⟩, by omega, ?_, rfl⟩⟩
      rw [List.getElem?_append_right (by omega), show S.length + (k + 1) - S.length = k + 1 by omega, List.getElem?_cons_succ]
      exact kidsFrom_get hu
    · cases hy
  · rcases h.rt with hr | ⟨y, hy, he⟩
    · exact .inl hr
    · rcases List.mem_append.1 hy with hy | hy
      · exact .inr ⟨y, by simp [hy], he⟩
      · rw [List.mem_singleton] at hy; subst hy
        exact .inr ⟨⟨y.p, y.t, true⟩, by simp, he⟩
  · rcases hmem y hy with hy | rfl | ⟨i, u, hu, rfl⟩
    · exact h.sub y (by simp [hy]) g hr
    · exact h.sub x (by simp) g hr
    · exact ((Ex.all_eq g x.t).1 (h.sub x (by simp) g hr)).2 i u hu

theorem OI.bad (h : OI T w good root p0 (S ++ [x]) L f) (hg : good x.t = false) : ¬ root.all good := fun hr => by
  have := ((Ex.all_eq good x.t).1 (h.sub x (by simp) good hr)).1
  rw [hg] at this; cases this

/-- all nodes, each behind its arguments -/
structure Topo (T : Nat → Prop) (w : World) (root : Ex) (L : List Addr) : Prop where
  rd : ∀ (j : Nat) (p : Addr), L[j]? = some p → ∃ t, RdP T w t p ∧ t.size ≤ root.size ∧ ∀ (i : Nat) (u : Ex), t.args[i]? = some u → ∃ (m : Nat) (q : Addr), m < j ∧ L[m]? = some q ∧ KidAt w p i q

theorem Ex.all_size (K : Nat) : ∀ (t : Ex), t.size ≤ K → t.all (fun u => decide (u.size ≤ K)) := by
  have key : ∀ (n : Nat) (t : Ex), t.size ≤ n → t.size ≤ K → t.all (fun u => decide (u.size ≤ K)) := by
    intro n
    induction n with
    | zero => intro t h; have := t.size_pos; omega
    | succ n ih =>
      intro t h hK
      refine (Ex.all_eq _ t).2 ⟨by simpa using hK, fun i u hu => ?_⟩
      have := Ex.size_kid hu
      have := t.size_eq
      exact ih u (by omega) (by omega)
  exact fun t h => key t.size t (Nat.le_refl _) h
theorem OI.topo' (h : OI T w good root p0 S L f) : Topo T w root L := ⟨fun j p hj => by
  obtain ⟨t, h1, _, h2, h3⟩ := h.topo j p hj
  have h4 := ((Ex.all_eq _ t).1 (h3 _ (Ex.all_size root.size root (Nat.le_refl _)))).1
  exact ⟨t, h1, by simpa using h4, h2⟩⟩

theorem OI.end_all (h : OI T w good root p0 [] L f) (hr : RdP T w root p0) : p0 ∈ L ∧ root.all good := by
  have h0 : p0 ∈ L := by
    rcases h.rt with hr | ⟨y, hy, he⟩
    · exact hr
    · cases hy
  refine ⟨h0, ?_⟩
  have key : ∀ (n : Nat) (j : Nat) (p : Addr) (t : Ex), j < n → L[j]? = some p → RdP T w t p → t.all good := by
    intro n
    induction n with
    | zero => intro j p t hj; omega
    | succ n ih =>
      intro j p t hj hp ht
      obtain ⟨t', ht', hg, hk, _⟩ := h.topo j p hp
      obtain rfl := ht.uniq ht'
      refine (Ex.all_eq good t).2 ⟨hg, fun i u hu => ?_⟩
      obtain ⟨m, q, hm, hq, hkq⟩ := hk i u hu
      obtain ⟨q', hkq', hrd⟩ := ht.kid hu
      obtain rfl := hkq.uniq hkq'
      exact ih m q u (by omega) hq hrd
  obtain ⟨j, hj⟩ := List.getElem?_of_mem h0
  exact key (j + 1) j p0 root (by omega) hj hr
end

end Go.Proofs.Ytpabngicbfcdkaa
