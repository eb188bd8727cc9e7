/-
  Joined texts: tree.order, the plain law: a stack of nodes, a list of closed ones, a map of states. · tree.order: the walk. · tree.Order, Finite; syntax.deeper, Size: the walks. · slices of strings as they are read; []byte(s). · syntax: the kinds of bytes; span; value; hex. · syntax: the value of digits.
-/
import Derived.Test.YtpabngicbfcdkaaDoorFo1
import Derived.Deep.LoopGhost
import Derived.Deep.DeepCutAuto
import Derived.Outline
import Derived.Lib.ConvBytes
import Derived.SliceStrings
import Derived.WalkLawsBesides

/- tree.order, the plain law: a stack of nodes, a list of closed ones, a map of states. -/
namespace Go.Proofs.YtpabngicbfcdkaaDoor
open Go.RowKit
set_option linter.unusedVariables false
set_option linter.unusedSimpArgs false

/-- a tree at an address -/
def RdP (T : Nat → Prop) (w : World) (t : Ex) (p : Addr) : Prop := p.spot = none ∧ RdE T w t p.block p.off
theorem RdP.uniq {T T' : Nat → Prop} {w : World} {t t' : Ex} {p : Addr} (h : RdP T w t p) (h' : RdP T' w t' p) : t = t' := RdE.uniq t t' h.2 h'.2
theorem addr_eta {p : Addr} (h : p.spot = none) : p = ⟨p.block, p.off, none⟩ := by cases p; simp only at h; subst h; rfl
theorem RdP.ok {T : Nat → Prop} {w : World} {t : Ex} {p : Addr} (h : RdP T w t p) : OkA w p := by
  obtain ⟨_, a, c, hn, _⟩ := h.2.node
  have := hn.ok
  rwa [← addr_eta h.1] at this
/-- the place of an argument -/
def KidAt (w : World) (p : Addr) (i : Nat) (q : Addr) : Prop := ∃ k s n b' o' len c, NodeAt w p.block p.off k s n (.slice (some ⟨b', o', none⟩) len c) ∧ q = ⟨b', o' + 4 * i, none⟩
theorem KidAt.uniq {w : World} {p : Addr} {i : Nat} {q q' : Addr} (h : KidAt w p i q) (h' : KidAt w p i q') : q = q' := by
  obtain ⟨k, s, n, b1, o1, len, c, h1, rfl⟩ := h
  obtain ⟨k', s', n', b2, o2, len', c', h2, rfl⟩ := h'
  obtain ⟨_, _, _, hv⟩ := h1.uniq h2
  simp only [Value.slice.injEq, Option.some.injEq, Addr.mk.injEq, and_true] at hv
  obtain ⟨⟨rfl, rfl⟩, _, _⟩ := hv
  rfl
theorem RdP.kid {T : Nat → Prop} {w : World} {t : Ex} {p : Addr} (h : RdP T w t p) {i : Nat} {u : Ex} (hu : t.args[i]? = some u) : ∃ q, KidAt w p i q ∧ RdP T w u q := by
  obtain ⟨_, a, c, hn, _, ha⟩ := h.2.node
  obtain ⟨b', o', rfl, hr⟩ := ha.get hu
  exact ⟨⟨b', o' + 4 * i, none⟩, ⟨_, _, _, b', o', _, c, hn, rfl⟩, rfl, hr⟩

/-- an entry of the stack: where, which tree, and whether it is to be closed -/
structure SE where
  p : Addr
  t : Ex
  left : Bool
def SE.wgt (x : SE) : Nat := if x.left then 1 else 2 * x.t.size
def wgt : List SE → Nat
  | [] => 0
  | x :: r => x.wgt + wgt r
theorem wgt_append (a b : List SE) : wgt (a ++ b) = wgt a + wgt b := by
  induction a with
  | nil => simp [wgt]
  | cons x r ih => simp only [List.cons_append, wgt, ih]; omega
/-- the stack in memory -/
def cellsSE (S : List SE) : List Value := S.flatMap fun x => [Value.pointer (some x.p), Value.bool x.left]
theorem cellsSE_len (S : List SE) : (cellsSE S).length = S.length * 2 := by
  induction S with
  | nil => rfl
  | cons p r ih => simp only [cellsSE, List.flatMap_cons, List.length_append, List.length_cons, List.length_nil] at *; omega
theorem cellsSE_snoc (S : List SE) (x : SE) : cellsSE (S ++ [x]) = cellsSE S ++ [.pointer (some x.p), .bool x.left] := by simp [cellsSE]
theorem cellsSE_last (S : List SE) (x : SE) : (cellsSE (S ++ [x]))[S.length * 2]? = some (.pointer (some x.p)) ∧ (cellsSE (S ++ [x]))[S.length * 2 + 1]? = some (.bool x.left) := by
  rw [cellsSE_snoc]
  refine ⟨?_, ?_⟩
  · rw [List.getElem?_append_right (by rw [cellsSE_len]; omega), cellsSE_len, Nat.sub_self]; rfl
  · rw [List.getElem?_append_right (by rw [cellsSE_len]; omega), cellsSE_len, show S.length * 2 + 1 - S.length * 2 = 1 by omega]; rfl

structure OI (T : Nat → Prop) (w : World) (good : Ex → Bool) (root : Ex) (p0 : Addr) (S : List SE) (L : List Addr) (f : Addr → Option Value) : Prop where
  rd : ∀ x, x ∈ S → RdP T w x.t x.p
  fL : ∀ p, f p = some (.int .i64 2) ↔ p ∈ L
  fO : ∀ p, f p = some (.int .i64 1) ↔ ∃ x, x ∈ S ∧ x.left = true ∧ x.p = p
  fN : ∀ p v, f p = some v → v = .int .i64 1 ∨ v = .int .i64 2
  topo : ∀ (j : Nat) (p : Addr), L[j]? = some p → ∃ t, RdP T w t p ∧ good t = true ∧ (∀ (i : Nat) (u : Ex), t.args[i]? = some u → ∃ (m : Nat) (q : Addr), m < j ∧ L[m]? = some q ∧ KidAt w p i q) ∧ ∀ g : Ex → Bool, root.all g → t.all g
  gd : ∀ x, x ∈ S → x.left = true → good x.t = true
  stk1 : ∀ (i j : Nat) (x y : SE), i < j → S[i]? = some x → S[j]? = some y → x.left = true → y.t.size < x.t.size
  stk2 : ∀ (i : Nat) (x : SE), S[i]? = some x → x.left = true → ∀ (k : Nat) (u : Ex), x.t.args[k]? = some u → ∃ q, KidAt w x.p k q ∧ (q ∈ L ∨ ∃ (j : Nat) (y : SE), i < j ∧ S[j]? = some y ∧ y.p = q)
  rt : p0 ∈ L ∨ ∃ x, x ∈ S ∧ x.p = p0
  sub : ∀ x, x ∈ S → ∀ g : Ex → Bool, root.all g → x.t.all g

section
variable {T : Nat → Prop} {w : World} {good : Ex → Bool} {root : Ex} {p0 : Addr} {S : List SE} {L : List Addr} {f : Addr → Option Value} {x : SE}

theorem OI.start (hr : RdP T w root p0) : OI T w good root p0 [⟨p0, root, false⟩] [] (fun _ => none) := by
  refine ⟨fun x hx => ?_, fun p => by simp, fun p => ?_, fun p v h => by simp at h, fun j p h => by simp at h, fun x hx h => ?_, fun i j x y hij hi hj h => ?_, fun i x hi h => ?_, .inr ⟨⟨p0, root, false⟩, by simp, rfl⟩, fun x hx g h => ?_⟩
  · rw [List.mem_singleton] at hx; subst hx; exact hr
  · constructor
    · intro h; simp at h
    · rintro ⟨x, hx, h, _⟩; rw [List.mem_singleton] at hx; subst hx; cases h
  · rw [List.mem_singleton] at hx; subst hx; cases h
  · have := (List.getElem?_eq_some_iff.1 hj).1; simp at this; omega
  · have hm := List.mem_of_getElem? hi
    rw [List.mem_singleton] at hm; subst hm; cases h
  · rw [List.mem_singleton] at hx; subst hx; exact h

theorem OI.ok (h : OI T w good root p0 S L f) : ∀ y v, f y = some v → OkA w y := by
  intro y v hv
  rcases h.fN y v hv with rfl | rfl
  · obtain ⟨x, hx, _, rfl⟩ := (h.fO y).1 hv
    exact (h.rd x hx).ok
  · have hm := (h.fL y).1 hv
    obtain ⟨j, hj⟩ := List.getElem?_of_mem hm
    obtain ⟨t, ht, _⟩ := h.topo j y hj
    exact ht.ok

theorem snoc_get {α : Type} {S : List α} {x y : α} {j : Nat} (h : (S ++ [x])[j]? = some y) : (j < S.length ∧ S[j]? = some y) ∨ (j = S.length ∧ y = x) := by
  rw [List.getElem?_append] at h
  split at h
  · exact .inl ⟨by assumption, h⟩
  · rename_i hlt
    have : j - S.length = 0 := by
      rcases Nat.eq_zero_or_pos (j - S.length) with z | z
      · exact z
      · rw [List.getElem?_eq_none (by simp; omega)] at h; cases h
    rw [this] at h
    exact .inr ⟨by omega, by simpa using h.symm⟩
theorem snoc_old {α : Type} {S : List α} {x y : α} {j : Nat} (h : S[j]? = some y) : (S ++ [x])[j]? = some y := by
  rw [List.getElem?_append_left (List.getElem?_eq_some_iff.1 h).1]; exact h
theorem snoc_last {α : Type} (S : List α) (x : α) : (S ++ [x])[S.length]? = some x := by simp

/-- the place on top stands nowhere below as one that is to be closed -/
theorem OI.top_new (h : OI T w good root p0 (S ++ [x]) L f) {y : SE} (hy : y ∈ S) (hl : y.left = true) : y.p ≠ x.p := by
  intro e
  obtain ⟨i, hi⟩ := List.getElem?_of_mem hy
  have hs := h.stk1 i S.length y x (List.getElem?_eq_some_iff.1 hi).1 (snoc_old hi) (snoc_last S x) hl
  have h1 := h.rd y (by simp [hy])
  have h2 := h.rd x (by simp)
  rw [e] at h1
  rw [h1.uniq h2] at hs
  omega

/-- one that is to be closed: it is -/
theorem OI.close (h : OI T w good root p0 (S ++ [x]) L f) (hl : x.left = true) : OI T w good root p0 S (L ++ [x.p]) (fun y => if y = x.p then some (.int .i64 2) else f y) := by
  have hfx : f x.p = some (.int .i64 1) := (h.fO x.p).2 ⟨x, by simp, hl, rfl⟩
  have hnL : x.p ∉ L := fun hm => by rw [(h.fL x.p).2 hm] at hfx; cases hfx
  refine ⟨fun y hy => h.rd y (by simp [hy]), fun p => ?_, fun p => ?_, fun p v hv => ?_, fun j p hj => ?_, fun y hy hy2 => h.gd y (by simp [hy]) hy2, fun i j a b hij hi hj ha => h.stk1 i j a b hij (snoc_old hi) (snoc_old hj) ha, fun i y hi hy k u hu => ?_, ?_, fun y hy g hr => h.sub y (by simp [hy]) g hr⟩
  · by_cases e : p = x.p
    · simp [e]
    · simp only [if_neg e, List.mem_append, List.mem_singleton, e, or_false]; exact h.fL p
  · by_cases e : p = x.p
    · simp only [if_pos e]
      constructor
      · intro h; cases h
      · rintro ⟨y, hy, h1, h2⟩; exact absurd (h2.trans e) (h.top_new hy h1)
    · simp only [if_neg e]
      rw [h.fO]
      constructor
      · rintro ⟨y, hy, h1, h2⟩
        rcases List.mem_append.1 hy with hy | hy
        · exact ⟨y, hy, h1, h2⟩
        · rw [List.mem_singleton] at hy; subst hy; exact absurd h2.symm e
      · rintro ⟨y, hy, h1, h2⟩; exact ⟨y, by simp [hy], h1, h2⟩
  · by_cases e : p = x.p
    · rw [if_pos e] at hv; exact .inr (Option.some.inj hv).symm
    · rw [if_neg e] at hv; exact h.fN p v hv
  · rcases snoc_get hj with ⟨h1, h2⟩ | ⟨h1, rfl⟩
    · obtain ⟨t, ht, hg, hk, hs⟩ := h.topo j p h2
      refine ⟨t, ht, hg, fun i u hu => ?_, hs⟩
      obtain ⟨m, q, hm, hq, hkq⟩ := hk i u hu
      exact ⟨m, q, hm, snoc_old hq, hkq⟩
    · refine ⟨x.t, h.rd x (by simp), h.gd x (by simp) hl, fun i u hu => ?_, h.sub x (by simp)⟩
      obtain ⟨q, hq, hor⟩ := h.stk2 S.length x (snoc_last S x) hl i u hu
      rcases hor with hm | ⟨j', y, hj', hy, _⟩
      · obtain ⟨m, hm2⟩ := List.getElem?_of_mem hm
        have hml := (List.getElem?_eq_some_iff.1 hm2).1
        exact ⟨m, q, by omega, snoc_old hm2, hq⟩
      · have := (List.getElem?_eq_some_iff.1 hy).1
        simp at this; omega
  · obtain ⟨q, hq, hor⟩ := h.stk2 i y (snoc_old hi) hy k u hu
    refine ⟨q, hq, ?_⟩
    rcases hor with hm | ⟨j', z, hj', hz, he⟩
    · exact .inl (by simp [hm])
    · rcases snoc_get hz with ⟨h1, h2⟩ | ⟨h1, rfl⟩
      · exact .inr ⟨j', z, hj', h2, he⟩
      · exact .inl (by simp [he])
  · rcases h.rt with hr | ⟨y, hy, he⟩
    · exact .inl (by simp [hr])
    · rcases List.mem_append.1 hy with hy | hy
      · exact .inr ⟨y, hy, he⟩
      · rw [List.mem_singleton] at hy; subst hy; exact .inl (by simp [he])

/-- one that has been closed already -/
theorem OI.skip (h : OI T w good root p0 (S ++ [x]) L f) (hl : x.left = false) (hf : f x.p = some (.int .i64 2)) : OI T w good root p0 S L f := by
  have hm := (h.fL x.p).1 hf
  refine ⟨fun y hy => h.rd y (by simp [hy]), h.fL, fun p => ?_, h.fN, h.topo, fun y hy hy2 => h.gd y (by simp [hy]) hy2, fun i j a b hij hi hj ha => h.stk1 i j a b hij (snoc_old hi) (snoc_old hj) ha, fun i y hi hy k u hu => ?_, ?_, fun y hy g hr => h.sub y (by simp [hy]) g hr⟩
  · rw [h.fO]
    constructor
    · rintro ⟨y, hy, h1, h2⟩
      rcases List.mem_append.1 hy with hy | hy
      · exact ⟨y, hy, h1, h2⟩
      · rw [List.mem_singleton] at hy; subst hy; rw [hl] at h1; cases h1
    · rintro ⟨y, hy, h1, h2⟩; exact ⟨y, by simp [hy], h1, h2⟩
  · obtain ⟨q, hq, hor⟩ := h.stk2 i y (snoc_old hi) hy k u hu
    refine ⟨q, hq, ?_⟩
    rcases hor with hm | ⟨j', z, hj', hz, he⟩
    · exact .inl hm
    · rcases snoc_get hz with ⟨h1, h2⟩ | ⟨h1, rfl⟩
      · exact .inr ⟨j', z, hj', h2, he⟩
      · exact .inl (by rw [← he]; exact hm)
  · rcases h.rt with hr | ⟨y, hy, he⟩
    · exact .inl hr
    · rcases List.mem_append.1 hy with hy | hy
      · exact .inr ⟨y, hy, he⟩
      · rw [List.mem_singleton] at hy; subst hy; exact .inl (by rw [← he]; exact hm)

theorem OI.not_open (h : OI T w good root p0 (S ++ [x]) L f) (hl : x.left = false) : f x.p ≠ some (.int .i64 1) := by
  intro hf
  obtain ⟨y, hy, h1, h2⟩ := (h.fO x.p).1 hf
  rcases List.mem_append.1 hy with hy | hy
  · exact h.top_new hy h1 h2
  · rw [List.mem_singleton] at hy; subst hy; rw [hl] at h1; cases h1

/-- the arguments of a node, as entries -/
def kidsFrom (b o : Nat) : List Ex → List SE
  | [] => []
  | u :: r => ⟨⟨b, o, none⟩, u, false⟩ :: kidsFrom b (o + 4) r
theorem kidsFrom_get {b : Nat} : ∀ {o i : Nat} {us : List Ex} {u : Ex}, us[i]? = some u → (kidsFrom b o us)[i]? = some ⟨⟨b, o + 4 * i, none⟩, u, false⟩
  | o, 0, x :: r, u, h => by simp at h; subst h; rfl
  | o, i + 1, x :: r, u, h => by
    have := kidsFrom_get (b := b) (o := o + 4) (i := i) (us := r) (by simpa using h)
    simp only [kidsFrom, List.getElem?_cons_succ]
    rw [this, show o + 4 + 4 * i = o + 4 * (i + 1) by omega]
theorem kidsFrom_len {b : Nat} : ∀ {o : Nat} {us : List Ex}, (kidsFrom b o us).length = us.length
  | _, [] => rfl
  | o, x :: r => by simp [kidsFrom, kidsFrom_len]
theorem kidsFrom_mem {b : Nat} : ∀ {o : Nat} {us : List Ex} {x : SE}, x ∈ kidsFrom b o us → ∃ (i : Nat) (u : Ex), us[i]? = some u ∧ x = ⟨⟨b, o + 4 * i, none⟩, u, false⟩
  | _, [], x, h => by simp [kidsFrom] at h
  | o, y :: r, x, h => by
    simp only [kidsFrom, List.mem_cons] at h
    rcases h with rfl | h
    · exact ⟨0, y, rfl, rfl⟩
    · obtain ⟨i, u, h1, rfl⟩ := kidsFrom_mem h
      exact ⟨i + 1, u, by simpa using h1, by rw [show o + 4 * (i + 1) = o + 4 + 4 * i by omega]⟩
theorem kidsFrom_wgt {b : Nat} : ∀ {o : Nat} {us : List Ex}, wgt (kidsFrom b o us) = 2 * Ex.sizes us
  | _, [] => rfl
  | o, x :: r => by simp only [kidsFrom, wgt, SE.wgt, Ex.sizes, kidsFrom_wgt]; simp; omega
theorem kidsFrom_snoc {b : Nat} : ∀ {o : Nat} {us : List Ex} {u : Ex}, kidsFrom b o (us ++ [u]) = kidsFrom b o us ++ [⟨⟨b, o + 4 * us.length, none⟩, u, false⟩]
  | o, [], u => by simp [kidsFrom]
  | o, x :: r, u => by
    simp only [List.cons_append, kidsFrom, kidsFrom_snoc, List.length_cons]
    rw [show o + 4 + 4 * r.length = o + 4 * (r.length + 1) by omega]

/-- a new one, opened -/
theorem OI.open (h : OI T w good root p0 (S ++ [x]) L f) (hl : x.left = false) (hf : f x.p = none) (hg : good x.t = true) {b o : Nat} (hk : ∀ (i : Nat) (u : Ex), x.t.args[i]? = some u → KidAt w x.p i ⟨b, o + 4 * i, none⟩) :
    OI T w good root p0 (S ++ ⟨x.p, x.t, true⟩ :: kidsFrom b o x.t.args) L (fun y => if y = x.p then some (.int .i64 1) else f y) := by
  have hx := h.rd x (by simp)
  have hkid : ∀ (i : Nat) (u : Ex), x.t.args[i]? = some u → RdP T w u ⟨b, o + 4 * i, none⟩ := fun i u hu => by
    obtain ⟨q, h1, h2⟩ := hx.kid hu
    rwa [(hk i u hu).uniq h1]
  have hsz : ∀ (i : Nat) (u : Ex), x.t.args[i]? = some u → u.size < x.t.size := fun i u hu => by
    have := Ex.size_kid hu
    have := x.t.size_eq
    omega
  have hmem : ∀ y, y ∈ S ++ ⟨x.p, x.t, true⟩ :: kidsFrom b o x.t.args → y ∈ S ∨ y = ⟨x.p, x.t, true⟩ ∨ ∃ (i : Nat) (u : Ex), x.t.args[i]? = some u ∧ y = ⟨⟨b, o + 4 * i, none⟩, u, false⟩ := fun y hy => by
    rcases List.mem_append.1 hy with hy | hy
    · exact .inl hy
    · rcases List.mem_cons.1 hy with hy | hy
      · exact .inr (.inl hy)
      · exact .inr (.inr (kidsFrom_mem hy))
  have hget : ∀ {j : Nat} {y : SE}, (S ++ ⟨x.p, x.t, true⟩ :: kidsFrom b o x.t.args)[j]? = some y → (j < S.length ∧ S[j]? = some y) ∨ (j = S.length ∧ y = ⟨x.p, x.t, true⟩) ∨ (S.length < j ∧ ∃ (i : Nat) (u : Ex), x.t.args[i]? = some u ∧ y = ⟨⟨b, o + 4 * i, none⟩, u, false⟩) := fun {j y} hj => by
    rw [List.getElem?_append] at hj
    split at hj
    · exact .inl ⟨by assumption, hj⟩
    · rename_i hlt
      rcases Nat.eq_zero_or_pos (j - S.length) with z | z
      · rw [z] at hj
        exact .inr (.inl ⟨by omega, by simpa using hj.symm⟩)
      · obtain ⟨m, hm⟩ : ∃ m, j - S.length = m + 1 := ⟨j - S.length - 1, by omega⟩
        rw [hm, List.getElem?_cons_succ] at hj
        exact .inr (.inr ⟨by omega, kidsFrom_mem (List.mem_of_getElem? hj)⟩)
  refine ⟨fun y hy => ?_, fun p => ?_, fun p => ?_, fun p v hv => ?_, h.topo, fun y hy hy2 => ?_, fun i j a c hij hi hj ha => ?_, fun i y hi hy k u hu => ?_, ?_, fun y hy g hr => ?_⟩
  · rcases hmem y hy with hy | rfl | ⟨i, u, hu, rfl⟩
    · exact h.rd y (by simp [hy])
    · exact hx
    · exact hkid i u hu
  · by_cases e : p = x.p
    · simp only [if_pos e]
      constructor
      · intro h; cases h
      · intro hm
        have := (h.fL p).2 hm
        rw [e, hf] at this; cases this
    · simp only [if_neg e]; exact h.fL p
  · by_cases e : p = x.p
    · simp only [if_pos e, true_iff]
      exact ⟨⟨x.p, x.t, true⟩, by simp, rfl, e.symm⟩
    · simp only [if_neg e]
      rw [h.fO]
      constructor
      · rintro ⟨y, hy, h1, h2⟩
        rcases List.mem_append.1 hy with hy | hy
        · exact ⟨y, by simp [hy], h1, h2⟩
        · rw [List.mem_singleton] at hy; subst hy; rw [hl] at h1; cases h1
      · rintro ⟨y, hy, h1, h2⟩
        rcases hmem y hy with hy | rfl | ⟨i, u, hu, rfl⟩
        · exact ⟨y, by simp [hy], h1, h2⟩
        · exact absurd h2.symm e
        · cases h1
  · by_cases e : p = x.p
    · rw [if_pos e] at hv; exact .inl (Option.some.inj hv).symm
    · rw [if_neg e] at hv; exact h.fN p v hv
  · rcases hmem y hy with hy | rfl | ⟨i, u, hu, rfl⟩
    · exact h.gd y (by simp [hy]) hy2
    · exact hg
    · cases hy2
  · rcases hget hi with ⟨h1, h2⟩ | ⟨h1, rfl⟩ | ⟨h1, i', u, hu, rfl⟩
    · have hxs := h.stk1 i S.length a x h1 (snoc_old h2) (snoc_last S x) ha
      rcases hget hj with ⟨h3, h4⟩ | ⟨h3, rfl⟩ | ⟨h3, i', u, hu, rfl⟩
      · exact h.stk1 i j a c hij (snoc_old h2) (snoc_old h4) ha
      · exact hxs
      · exact Nat.lt_trans (hsz i' u hu) hxs
    · rcases hget hj with ⟨h3, h4⟩ | ⟨h3, rfl⟩ | ⟨h3, i', u, hu, rfl⟩
      · omega
      · omega
      · exact hsz i' u hu
    · cases ha
  · rcases hget hi with ⟨h1, h2⟩ | ⟨h1, rfl⟩ | ⟨h1, i', u', hu', rfl⟩
    · obtain ⟨q, hq, hor⟩ := h.stk2 i y (snoc_old h2) hy k u hu
      refine ⟨q, hq, ?_⟩
      rcases hor with hm | ⟨j', z, hj', hz, he⟩
      · exact .inl hm
      · rcases snoc_get hz with ⟨h3, h4⟩ | ⟨h3, rfl⟩
        · exact .inr ⟨j', z, hj', by rw [List.getElem?_append_left h3]; exact h4, he⟩
        · exact .inr ⟨S.length, ⟨z.p, z.t, true⟩, h1, by simp, he⟩
    · refine ⟨_, hk k u hu, .inr ⟨S.length + (k + 1), ⟨⟨b, o + 4 * k, none⟩, u, false⟩, by omega, ?_, rfl⟩⟩
      rw [List.getElem?_append_right (by omega), show S.length + (k + 1) - S.length = k + 1 by omega, List.getElem?_cons_succ]
      exact kidsFrom_get hu
    · cases hy
  · rcases h.rt with hr | ⟨y, hy, he⟩
    · exact .inl hr
    · rcases List.mem_append.1 hy with hy | hy
      · exact .inr ⟨y, by simp [hy], he⟩
      · rw [List.mem_singleton] at hy; subst hy
        exact .inr ⟨⟨y.p, y.t, true⟩, by simp, he⟩
  · rcases hmem y hy with hy | rfl | ⟨i, u, hu, rfl⟩
    · exact h.sub y (by simp [hy]) g hr
    · exact h.sub x (by simp) g hr
    · exact ((Ex.all_eq g x.t).1 (h.sub x (by simp) g hr)).2 i u hu

theorem OI.bad (h : OI T w good root p0 (S ++ [x]) L f) (hg : good x.t = false) : ¬ root.all good := fun hr => by
  have := ((Ex.all_eq good x.t).1 (h.sub x (by simp) good hr)).1
  rw [hg] at this; cases this

/-- all nodes, each behind its arguments -/
structure Topo (T : Nat → Prop) (w : World) (root : Ex) (L : List Addr) : Prop where
  rd : ∀ (j : Nat) (p : Addr), L[j]? = some p → ∃ t, RdP T w t p ∧ t.size ≤ root.size ∧ ∀ (i : Nat) (u : Ex), t.args[i]? = some u → ∃ (m : Nat) (q : Addr), m < j ∧ L[m]? = some q ∧ KidAt w p i q

theorem Ex.all_size (K : Nat) : ∀ (t : Ex), t.size ≤ K → t.all (fun u => decide (u.size ≤ K)) := by
  have key : ∀ (n : Nat) (t : Ex), t.size ≤ n → t.size ≤ K → t.all (fun u => decide (u.size ≤ K)) := by
    intro n
    induction n with
    | zero => intro t h; have := t.size_pos; omega
    | succ n ih =>
      intro t h hK
      refine (Ex.all_eq _ t).2 ⟨by simpa using hK, fun i u hu => ?_⟩
      have := Ex.size_kid hu
      have := t.size_eq
      exact ih u (by omega) (by omega)
  exact fun t h => key t.size t (Nat.le_refl _) h
theorem OI.topo' (h : OI T w good root p0 S L f) : Topo T w root L := ⟨fun j p hj => by
  obtain ⟨t, h1, _, h2, h3⟩ := h.topo j p hj
  have h4 := ((Ex.all_eq _ t).1 (h3 _ (Ex.all_size root.size root (Nat.le_refl _)))).1
  exact ⟨t, h1, by simpa using h4, h2⟩⟩

theorem OI.end_all (h : OI T w good root p0 [] L f) (hr : RdP T w root p0) : p0 ∈ L ∧ root.all good := by
  have h0 : p0 ∈ L := by
    rcases h.rt with hr | ⟨y, hy, he⟩
    · exact hr
    · cases hy
  refine ⟨h0, ?_⟩
  have key : ∀ (n : Nat) (j : Nat) (p : Addr) (t : Ex), j < n → L[j]? = some p → RdP T w t p → t.all good := by
    intro n
    induction n with
    | zero => intro j p t hj; omega
    | succ n ih =>
      intro j p t hj hp ht
      obtain ⟨t', ht', hg, hk, _⟩ := h.topo j p hp
      obtain rfl := ht.uniq ht'
      refine (Ex.all_eq good t).2 ⟨hg, fun i u hu => ?_⟩
      obtain ⟨m, q, hm, hq, hkq⟩ := hk i u hu
      obtain ⟨q', hkq', hrd⟩ := ht.kid hu
      obtain rfl := hkq.uniq hkq'
      exact ih m q u (by omega) hq hrd
  obtain ⟨j, hj⟩ := List.getElem?_of_mem h0
  exact key (j + 1) j p0 root (by omega) hj hr
end

end Go.Proofs.YtpabngicbfcdkaaDoor

/- tree.order: the walk. -/
namespace Go.Proofs.YtpabngicbfcdkaaDoor
open Go.RowKit
set_option linter.unusedVariables false
set_option linter.unusedSimpArgs false

theorem EStep : EltG Tryd.prog 103 102 (.agg #[.pointer none, .bool false]) 2 16 := ⟨Tryd.underlying103, info_parts (by kernel_rfl), rfl, by decide⟩
theorem EPtr : EltG Tryd.prog 84 56 (.pointer none) 1 8 := ⟨Tryd.underlying84, info_parts (by kernel_rfl), rfl, by decide⟩
theorem zeroI (w : World) : (zeroValue 3).run Tryd.prog w = .ok (.int .i64 0) w := by kernel_rfl
abbrev penc : Addr → Value := fun p => Value.pointer (some p)
theorem pk : PKey Tryd.prog 56 penc OkA := by
  have h : (Tryd.prog.info? 25).map (fun i => i.size) = some 4 := by kernel_rfl
  obtain ⟨j, hj, hs⟩ := Option.map_eq_some_iff.1 h
  exact pkey_addr Tryd.underlying56 hj (by rw [hs]; decide)

theorem take_snoc {α : Type} {l : List α} {i : Nat} {x : α} (h : l[i]? = some x) : l.take (i + 1) = l.take i ++ [x] := by
  have hi := List.getElem?_eq_some_iff.1 h
  rw [List.take_succ_eq_append_getElem hi.1, hi.2]

theorem Row.ne_map {w : World} {base e size v n xs} (h : Row w base e size v n xs) {κ : Type} {enc : κ → Value} {bm : Nat} {f : κ → Option Value} (hm : PMap w enc bm f) : v.ownBlock ≠ some bm := by
  rcases h.2 with ⟨rfl, _⟩ | ⟨g, cap, cur, rfl, hbb, hgg, rest⟩
  · intro h; cases h
  · intro h2
    obtain ⟨es, clock, hb, _⟩ := hm
    have h3 : g = bm := by simpa [Value.ownBlock] using h2
    rw [h3, hb] at hgg; cases hgg
/-- the last element dropped -/
theorem Row.pop {w : World} {base e size a n c xs} (h : Row w base e size (.slice a (n + 1) c) (n + 1) xs) : Row w base e size (.slice a n c) n (xs.take (n * size)) := by
  have hl : n * size ≤ xs.length := by rw [h.1]; exact Nat.mul_le_mul_right _ (by omega)
  refine ⟨by rw [List.length_take]; omega, ?_⟩
  rcases h.2 with ⟨hv, h0⟩ | ⟨g, cap, cur, hv, hbb, hgg, hnc, hcm, hcs, htk⟩
  · omega
  · simp only [Value.slice.injEq] at hv
    obtain ⟨rfl, _, rfl⟩ := hv
    refine .inr ⟨g, c, cur, rfl, hbb, hgg, by omega, hcm, hcs, ?_⟩
    rw [← htk, List.take_take, Nat.min_eq_left (Nat.mul_le_mul_right _ (by omega))]

/-- what order keeps in memory -/
structure OM (w0 : World) (bm : Nat) (S : List SE) (L : List Addr) (f : Addr → Option Value) (sv lv : Value) (wr : World) : Prop where
  stk : Row wr w0.heap.size 102 2 sv S.length (cellsSE S)
  lst : Row wr w0.heap.size 56 1 lv L.length (L.map penc)
  mp : PMap wr penc bm f
  bel : Below w0.heap.size w0 wr
  lo : w0.heap.size ≤ bm
theorem OM.below {w0 bm S L f sv lv w w'} (h : OM w0 bm S L f sv lv w) (hb : Below w.heap.size w w') : OM w0 bm S L f sv lv w' :=
  ⟨h.stk.below hb, h.lst.below hb, h.mp.below hb, bthen h.bel hb, h.lo⟩
theorem OM.push {w0 bm S L f sv lv w w'} (h : OM w0 bm S L f sv lv w) {x : SE} {sv'} (hr : Row w' w0.heap.size 102 2 sv' (S.length + 1) (cellsSE S ++ [.pointer (some x.p), .bool x.left])) (hg : w.grownBy w' sv.ownBlock) : OM w0 bm (S ++ [x]) L f sv' lv w' := by
  refine ⟨?_, Row.keep h.lst h.stk (by decide) hg, h.mp.fr (S := fun b => sv.ownBlock = some b) (Fr.of_grown hg (fun k hk => hk)) (Row.ne_map h.stk h.mp), Row.grown h.stk hg h.bel.size |> h.bel.trans, h.lo⟩
  rw [List.length_append, cellsSE_snoc]; exact hr
theorem OM.list {w0 bm S L f sv lv w w'} (h : OM w0 bm S L f sv lv w) {p : Addr} {lv'} (hr : Row w' w0.heap.size 56 1 lv' (L.length + 1) (L.map penc ++ [.pointer (some p)])) (hg : w.grownBy w' lv.ownBlock) : OM w0 bm S (L ++ [p]) f sv lv' w' := by
  refine ⟨Row.keep h.stk h.lst (by decide) hg, ?_, h.mp.fr (S := fun b => lv.ownBlock = some b) (Fr.of_grown hg (fun k hk => hk)) (Row.ne_map h.lst h.mp), Row.grown h.lst hg h.bel.size |> h.bel.trans, h.lo⟩
  rw [List.length_append, List.map_append]; exact hr
theorem OM.map {w0 bm S L f f' sv lv w w'} (h : OM w0 bm S L f sv lv w) (hm : PMap w' penc bm f') (hg : w.grownBy w' (some bm)) : OM w0 bm S L f' sv lv w' := by
  have hf : Fr (fun b => b = bm) w w' := Fr.of_grown hg (fun k hk => (Option.some.inj hk).symm)
  exact ⟨Row.fr h.stk hf (fun g hg2 e => Row.ne_map h.stk h.mp (by rw [hg2, e])), Row.fr h.lst hf (fun g hg2 e => Row.ne_map h.lst h.mp (by rw [hg2, e])), hm, h.bel.trans (hf.below (fun b e => by rw [e]; exact h.lo) h.bel.size), h.lo⟩
theorem OM.pop {w0 bm S x L f a n c lv w} (h : OM w0 bm (S ++ [x]) L f (.slice a n c) lv w) : OM w0 bm S L f (.slice a S.length c) lv w := by
  refine ⟨?_, h.lst, h.mp, h.bel, h.lo⟩
  have hs := h.stk
  obtain ⟨a', c', hv⟩ := Row.form hs
  simp only [Value.slice.injEq] at hv
  obtain ⟨rfl, rfl, rfl⟩ := hv
  rw [List.length_append, List.length_singleton] at hs
  have := Row.pop hs
  rw [cellsSE_snoc, List.take_left' (by rw [cellsSE_len])] at this
  exact this

theorem OM.top {w0 bm S x L f a n c lv w} (h : OM w0 bm (S ++ [x]) L f (.slice a n c) lv w) : ∃ g, a = some ⟨g, 0, none⟩ ∧ w.cell? ⟨g, S.length * 2, none⟩ = some (.pointer (some x.p)) ∧ w.cell? ⟨g, S.length * 2 + 1, none⟩ = some (.bool x.left) := by
  have hs := h.stk
  obtain ⟨a', c', hv⟩ := Row.form hs
  simp only [Value.slice.injEq] at hv
  obtain ⟨rfl, rfl, rfl⟩ := hv
  obtain ⟨h1, h2⟩ := cellsSE_last S x
  have hr := Row.rdG hs
  obtain ⟨b, off, ha, hc⟩ := hr.cell _ _ h1
  obtain ⟨b', off', ha', hc'⟩ := hr.cell _ _ h2
  rcases hs.2 with ⟨hv, h0⟩ | ⟨g, cap, cur, hv, _⟩
  · simp at h0
  · simp only [Value.slice.injEq] at hv
    obtain ⟨rfl, _, _⟩ := hv
    simp only [Option.some.injEq, Addr.mk.injEq, and_true] at ha ha'
    obtain ⟨rfl, rfl⟩ := ha
    obtain ⟨rfl, rfl⟩ := ha'
    rw [Nat.zero_add] at hc hc'
    exact ⟨g, rfl, hc, hc'⟩
theorem wgt_len (S : List SE) : S.length ≤ wgt S := by
  induction S with
  | nil => simp
  | cons x r ih =>
    have : 1 ≤ x.wgt := by unfold SE.wgt; have := x.t.size_pos; split <;> omega
    simp only [wgt, List.length_cons]; omega

def OrdPost (T : Nat → Prop) (good : Ex → Bool) (root : Ex) (p0 : Addr) (w : World) (e : Ending) (w' : World) : Prop :=
  Below w.heap.size w w' ∧ ((∃ L a c, e = .returned (.tuple #[.slice a L.length c, .bool true]) ∧ RdG w' 1 a L.length (L.map penc) ∧ Topo T w root L ∧ p0 ∈ L ∧ root.all good ∧ L.length ≤ 2 * root.size) ∨ (e = .returned (.tuple #[.slice none 0 0, .bool false]) ∧ ¬ root.all good))

set_option maxRecDepth 100000 in
set_option maxHeartbeats 2000000 in
theorem order_any (F : Nat) (good : Ex → Bool) (T : Nat → Prop) (root : Ex) (p0 : Addr) (w : World) (hr : RdP T w root p0) (hsz : root.size ≤ 1000000000) (hcf : ∀ args w, (callFunc F args).run Tryd.prog w = .ok (.enter F args) w)
    (his : ∀ (wx : World) (t : Ex) (p : Addr), Below w.heap.size w wx → RdP T w t p → t.size ≤ root.size → (∀ g : Ex → Bool, root.all g → t.all g) → Calls Tryd.prog F #[.pointer (some p)] wx fun e w' => e = .returned (.bool (good t)) ∧ Below wx.heap.size wx w') :
    Calls Tryd.prog 35 #[.pointer (some p0), .func (.func F) #[] #[]] w (OrdPost T good root p0 w) := by
  have HR := Lib.hid hr
  have HSZ := Lib.hid hsz
  have HIS := Lib.hid his
  have hmm := @run_makeMap Tryd.prog
  clear hr hsz his
  go_enter Tryd.func35, Tryd.ntmps35
  go_wp2
  obtain ⟨w2, hw2⟩ : ∃ w2, w2 = (w.alloc (.map #[] 0)).alloc (.cells #[.pointer (some p0), .bool false] 102) := ⟨_, rfl⟩
  obtain ⟨bm, hbm⟩ : ∃ bm, bm = w.heap.size := ⟨_, rfl⟩
  have HOM : Hid (OM w bm [⟨p0, root, false⟩] [] (fun _ => none) (.slice (some ⟨w.heap.size + 1, 0, none⟩) 1 1) (.slice none 0 0) w2) := Lib.hid (by
    have hb1 := below_alloc w (.map #[] 0)
    have hb2 := below_alloc (w.alloc (.map #[] 0)) (.cells #[.pointer (some p0), .bool false] 102)
    rw [hw2, hbm]
    refine ⟨?_, World.ownsRow_nil _ _ _ _, (PMap.made w penc).below hb2, bthen hb1 hb2, Nat.le_refl _⟩
    have := World.ownsRow_lit (e := 102) (base := w.heap.size) (size := 2) (w.alloc (.map #[] 0)) #[.pointer (some p0), .bool false] 1 (by simp) (by unfold maxLen; omega) rfl
    simp at this
    exact this)
  have HOI := Lib.hid (OI.start (good := good) HR.out)
  have HBM := Lib.hid hbm
  rw [← hw2]
  rw [← hbm] at HOM ⊢
  clear hw2 hbm
  go_loopg [6, 8] (2 * root.size) (fun gg lv sv wr => ∃ (S : List SE) (L : List Addr) (f : Addr → Option Value) (sa la : Option Addr) (sc lc : Nat), gg = wgt S ∧ sv = .slice sa S.length sc ∧ lv = .slice la L.length lc ∧ OI T w good root p0 S L f ∧ OM w bm S L f sv lv wr ∧ L.length + wgt S ≤ 2 * root.size)
  case atStart => exact ⟨[⟨p0, root, false⟩], [], fun _ => none, _, none, 1, 0, by simp [wgt, SE.wgt], rfl, rfl, HOI.out, HOM.out, by simp [wgt, SE.wgt]⟩
  case round =>
    clear HOI HOM
    obtain ⟨S, L, f, sa, la, sc, lc, rfl, rfl, rfl, hoi, hom, hlw⟩ := hrel
    rcases List.eq_nil_or_concat S with rfl | ⟨S', x, rfl⟩
    · have HOM := Lib.hid hom
      have HEND := Lib.hid (hoi.end_all HR.out)
      have HTP := Lib.hid hoi.topo'
      have HLW := Lib.hid hlw
      clear hoi hom hlw
      go_wp2
      go_ret2
      exact ⟨HOM.out.bel, .inl ⟨L, la, lc, rfl, Row.rdG HOM.out.lst, HTP.out, HEND.out.1, HEND.out.2, by have := HLW.out; omega⟩⟩
    · rw [List.concat_eq_append] at *
      obtain ⟨g, rfl, hc0, hc1⟩ := hom.top
      obtain ⟨n, hn⟩ : ∃ n, n = S'.length := ⟨_, rfl⟩
      have hlen : (S' ++ [x]).length = n + 1 := by rw [hn]; simp
      have hn9 : (n : Int) ≤ 2000000000 := by
        have h1 := wgt_len (S' ++ [x])
        have h2 := HSZ.out
        omega
      have HN := Lib.hid hn
      have HOM := Lib.hid hom
      have HOI := Lib.hid hoi
      have HLW := Lib.hid hlw
      have hcap : n ≤ sc := by have := Row.cap hom.stk; omega
      rw [← hn] at hc0 hc1
      rw [hlen]
      clear hlen hn hoi hom hlw
      obtain ⟨p, t, left⟩ := x
      simp only at hc0 hc1
      cases left with
      | true =>
        obtain ⟨w3, hw3⟩ : ∃ w3, w3 = wr.alloc (.cells #[.pointer (some p), .bool true] 102) := ⟨_, rfl⟩
        have hb3 : Below wr.heap.size wr w3 := by rw [hw3]; exact below_alloc _ _
        have x0 : w3.cell? ⟨wr.heap.size, 0, none⟩ = some (.pointer (some p)) := by rw [hw3]; simp
        have x1 : w3.cell? ⟨wr.heap.size, 1, none⟩ = some (.bool true) := by rw [hw3]; simp
        have HOM3 := Lib.hid (HOM.out.pop.below hb3)
        have HOKP : Hid (OkA w3 p) := Lib.hid ((HOI.out.rd ⟨p, t, true⟩ (by simp)).ok.fr (S := fun _ => False) (.of_below (bthen HOM.out.bel hb3)) (fun h => h))
        have HOK := Lib.hid (fun (y : Addr) (v : Value) (hv : f y = some v) => (HOI.out.ok y v hv).fr (S := fun _ => False) (.of_below (bthen HOM.out.bel hb3)) (fun h => h))
        have HOI3 := Lib.hid (HOI.out.close rfl)
        have HW3 := Lib.hid hw3
        have HLL : Hid (L.length + 1 ≤ 2000000000) := Lib.hid (by have h1 := HLW.out; have h2 := wgt_append S' [⟨p, t, true⟩]; simp [wgt, SE.wgt] at h2; have h3 := HSZ.out; omega)
        rw [← HN.out] at HOM3
        clear hb3 hw3
        go_upto_region 8 with fail
        rw [← HW3.out]
        go_wp2_with (first
          | (at_builtin; refine app_row_at (.tmp 34) (.tmp 37) EPtr rfl rfl w.heap.size (.slice la L.length lc) L.length (L.map penc) rfl (HOM4.out.lst.below (below_alloc _ _)) (some ⟨_, 0, none⟩) 1 1 [.pointer (some p)] rfl (RdG.lits _ 1 _ 1 [.pointer (some p)] rfl) (by simp [Value.oneCell']) (by have := HLL.out; omega) (by decide) (by have := HOM4.out.bel.size; simp; omega) ?_; intro a5 c5 w5 hr5 hg5 hat5; have HOM5 := Lib.hid ((HOM4.out.below (below_alloc _ _)).list hr5 hg5); clear hr5 hg5 hat5)
          | (refine PMap.wpUpdate HOM3.out.mp pk HOK.out Tryd.underlying91 rfl (.tmp 31) (.tmp 33) (.const (.int .i64 2)) rfl rfl p HOKP.out rfl (.int .i64 2) rfl ?_; intro w4 hm4 hg4; have HOM4 := Lib.hid (HOM3.out.map hm4 hg4); have y0 : w4.cell? ⟨wr.heap.size, 0, none⟩ = some (.pointer (some p)) := hg4.cell x0 (fun e => by have h1 := HOM.out.mp.lt; simp at e; omega); clear hm4 hg4))
        go_roundg (wgt S')
        case measure => simp [wgt_append, wgt, SE.wgt]
        case rel => exact ⟨S', L ++ [p], _, some ⟨g, 0, none⟩, a5, sc, c5, rfl, by rw [HN.out], by simp, HOI3.out, HOM5.out, by have h1 := HLW.out; have h2 := wgt_append S' [⟨p, t, true⟩]; simp [wgt, SE.wgt] at h2; simp; omega⟩
      | false =>
        have hrdp := HOI.out.rd ⟨p, t, false⟩ (by simp)
        obtain ⟨pb, po, rfl⟩ : ∃ pb po, p = ⟨pb, po, none⟩ := ⟨_, _, addr_eta hrdp.1⟩
        obtain ⟨w3, hw3⟩ : ∃ w3, w3 = wr.alloc (.cells #[.pointer (some ⟨pb, po, none⟩), .bool false] 102) := ⟨_, rfl⟩
        have hb3 : Below wr.heap.size wr w3 := by rw [hw3]; exact below_alloc _ _
        have x0 : w3.cell? ⟨wr.heap.size, 0, none⟩ = some (.pointer (some ⟨pb, po, none⟩)) := by rw [hw3]; simp
        have x1 : w3.cell? ⟨wr.heap.size, 1, none⟩ = some (.bool false) := by rw [hw3]; simp
        have HOM3 := Lib.hid (HOM.out.pop.below hb3)
        have HRDP := Lib.hid hrdp
        have HOKW : Hid (∀ wx, Below w.heap.size w wx → OkA wx ⟨pb, po, none⟩) := Lib.hid (fun wx hb => hrdp.ok.fr (S := fun _ => False) (.of_below hb) (fun h => h))
        have HOK := Lib.hid (fun (y : Addr) (v : Value) (hv : f y = some v) => (HOI.out.ok y v hv).fr (S := fun _ => False) (.of_below (bthen HOM.out.bel hb3)) (fun h => h))
        have HW3 := Lib.hid hw3
        have HTS : Hid (t.size ≤ root.size ∧ L.length + wgt S' + 2 * t.size ≤ 2 * root.size) := Lib.hid (by have h1 := HLW.out; have h2 := wgt_append S' [⟨⟨pb, po, none⟩, t, false⟩]; simp [wgt, SE.wgt] at h2; omega)
        have HB3 := Lib.hid (bthen HOM.out.bel hb3)
        have HSZ3 : Hid (wr.heap.size < w3.heap.size) := Lib.hid (by rw [hw3]; simp)
        have HGE : Hid (w.heap.size ≤ wr.heap.size) := Lib.hid HOM.out.bel.size
        rw [← HN.out] at HOM3
        clear hb3 hw3 hrdp
        cases hf : f ⟨pb, po, none⟩ with
        | some v =>
          have hv : v = .int .i64 2 := by
            rcases HOI.out.fN _ _ hf with e | e
            · rw [e] at hf; exact absurd hf (HOI.out.not_open rfl)
            · exact e
          subst hv
          have HF := Lib.hid hf
          have HOI3 := Lib.hid (HOI.out.skip rfl hf)
          clear hf
          go_upto_region 10 with fail
          rw [← HW3.out]
          go_wp2_with (refine PMap.wpLook HOM3.out.mp pk HOK.out Tryd.underlying91 (zeroI _) rfl (.tmp 39) (.tmp 41) rfl rfl ⟨pb, po, none⟩ (HOKW.out _ HB3.out) rfl ?_; rw [HF.out, Option.getD_some])
          go_roundg (wgt S')
          case measure => have := t.size_pos; simp [wgt_append, wgt, SE.wgt]; omega
          case rel => exact ⟨S', L, _, some ⟨g, 0, none⟩, la, sc, lc, rfl, by rw [HN.out], rfl, HOI3.out, HOM3.out, by have h1 := HTS.out; omega⟩
        | none =>
          have HF := Lib.hid hf
          have HCALL := Lib.hid (HIS.out w3 t ⟨pb, po, none⟩ HB3.out HRDP.out HTS.out.1 (fun g h => HOI.out.sub ⟨⟨pb, po, none⟩, t, false⟩ (by simp) g h))
          cases hg : good t with
          | false =>
            rw [hg] at HCALL
            have HBAD := Lib.hid (HOI.out.bad hg)
            clear hf hg
            go_upto_region 10 with fail
            rw [← HW3.out]
            go_wp2_with (first
              | (refine HCALL.out.mono ?_; rintro e w3c ⟨rfl, hbc⟩; have HOM3 := Lib.hid (HOM3.out.below hbc); have HOK := Lib.hid (fun (y : Addr) (v : Value) (hv : f y = some v) => (HOK.out y v hv).fr (S := fun _ => False) (.of_below hbc) (fun h => h)); have x0 := below_cell hbc x0; have HB3 := Lib.hid (bthen HB3.out hbc); have HSZ3 := Lib.hid (Nat.lt_of_lt_of_le HSZ3.out hbc.size); clear hbc)
              | (refine PMap.wpLook HOM3.out.mp pk HOK.out Tryd.underlying91 (zeroI _) rfl (.tmp 39) (.tmp 41) rfl rfl ⟨pb, po, none⟩ (HOKW.out _ HB3.out) rfl ?_; rw [HF.out, Option.getD_none]))
            go_ret2
            exact ⟨HB3.out, .inr ⟨rfl, HBAD.out⟩⟩
          | true =>
            rw [hg] at HCALL
            have HG := Lib.hid hg
            obtain ⟨-, aa, ac, hnd, hac, hra⟩ := HRDP.out.2.node
            have HND := Lib.hid hnd
            have HRA := Lib.hid hra
            have HNODE : Hid (∀ wx, Below w.heap.size w wx → wx.cell? ⟨pb, po + 3, none⟩ = some (.slice aa t.args.length ac)) := Lib.hid (fun wx hb => below_cell hb hnd.cells.2.2.2)
            have HGL : Hid (g < wr.heap.size) := Lib.hid (Row.block_lt HOM.out.stk (g := g) rfl).1
            clear hnd hac hra
            clear hf hg
            go_upto_region 10 with fail
            rw [← HW3.out]
            go_wp2_with (first
              | (refine HCALL.out.mono ?_; rintro e w3c ⟨rfl, hbc⟩; have HOM3 := Lib.hid (HOM3.out.below hbc); have HOK := Lib.hid (fun (y : Addr) (v : Value) (hv : f y = some v) => (HOK.out y v hv).fr (S := fun _ => False) (.of_below hbc) (fun h => h)); have x0 := below_cell hbc x0; have HB3 := Lib.hid (bthen HB3.out hbc); have HSZ3 := Lib.hid (Nat.lt_of_lt_of_le HSZ3.out hbc.size); clear hbc)
              | (at_builtin; refine app_row_at (.tmp 55) (.tmp 59) EStep rfl rfl w.heap.size (.slice (some ⟨g, 0, none⟩) n sc) S'.length (cellsSE S') rfl ((HOM4.out.below (below_alloc _ _)).stk) (some ⟨_, 0, none⟩) 1 1 [.pointer (some ⟨pb, po, none⟩), .bool true] rfl (RdG.lits _ 2 _ 1 [.pointer (some ⟨pb, po, none⟩), .bool true] rfl) (by simp [Value.oneCell']) (by have h1 := HTS.out; have h2 := HSZ.out; have h3 := wgt_len S'; have h4 := HN.out; omega) (by decide) (by have := HOM4.out.bel.size; simp; omega) ?_; intro a5 c5 w5 hr5 hg5 hat5; have HOM5 := Lib.hid ((HOM4.out.below (below_alloc _ _)).push (x := ⟨⟨pb, po, none⟩, t, true⟩) hr5 hg5); have z0 : w5.cell? ⟨wr.heap.size, 0, none⟩ = some (.pointer (some ⟨pb, po, none⟩)) := hg5.cell (below_cell (below_alloc _ _) y0) (fun e => by have h1 := HGL.out; simp [Value.ownBlock] at e; omega); have z3 := HNODE.out w5 HOM5.out.bel; have HAT5 : Hid ((Value.slice a5 (S'.length + 1) c5).ownBlock ≠ some wr.heap.size) := Lib.hid (by
                have h1 := HGL.out
                have h2 := HOM4.out.bel.size
                have h3 := hg4s.out
                rcases hat5 with e | e
                · rw [e]; intro h; simp [Value.ownBlock] at h; omega
                · rw [e]; intro h; simp at h; omega); clear hr5 hg5 hat5)
              | (refine PMap.wpLook HOM3.out.mp pk HOK.out Tryd.underlying91 (zeroI _) rfl (.tmp 39) (.tmp 41) rfl rfl ⟨pb, po, none⟩ (HOKW.out _ HB3.out) rfl ?_; rw [HF.out, Option.getD_none])
              | (refine PMap.wpUpdate HOM3.out.mp pk HOK.out Tryd.underlying91 rfl (.tmp 52) (.tmp 54) (.const (.int .i64 1)) rfl rfl ⟨pb, po, none⟩ (HOKW.out _ HB3.out) rfl (.int .i64 1) rfl ?_; intro w4 hm4 hg4; have HOM4 := Lib.hid (HOM3.out.map hm4 hg4); have hg4s : Hid (wr.heap.size < w4.heap.size) := Lib.hid (Nat.lt_of_lt_of_le HSZ3.out hg4.size); have y0 : w4.cell? ⟨wr.heap.size, 0, none⟩ = some (.pointer (some ⟨pb, po, none⟩)) := hg4.cell x0 (fun e => by have h1 := HOM.out.mp.lt; simp at e; omega); clear hm4 hg4))
            have HKB : Hid (∃ kb ko, (t.args.length ≠ 0 → aa = some ⟨kb, ko, none⟩) ∧ ∀ (i : Nat) (u : Ex), t.args[i]? = some u → KidAt w ⟨pb, po, none⟩ i ⟨kb, ko + 4 * i, none⟩) := Lib.hid (by
              rcases HRA.out with h0 | ⟨b', o', h1, h2⟩
              · exact ⟨0, 0, fun h => absurd (by rw [h0]; rfl) h, fun i u hu => by rw [h0] at hu; cases hu⟩
              · subst h1
                exact ⟨b', o', fun _ => rfl, fun i u hu => ⟨_, _, _, b', o', _, ac, HND.out, rfl⟩⟩)
            obtain ⟨kb, ko, hka, hkk⟩ := HKB.out
            have HKA := Lib.hid hka
            have HKK := Lib.hid hkk
            have HOPEN := Lib.hid (HOI.out.open rfl HF.out HG.out (b := kb) (o := ko) hkk)
            obtain ⟨k, hk⟩ : ∃ k, k = t.args.length := ⟨_, rfl⟩
            have HK := Lib.hid hk
            have hk9 : (k : Int) ≤ 1000000000 := by have h1 := HTS.out.1; have h2 := HSZ.out; have h3 := Ex.sizes_len t.args; have h4 := t.size_eq; omega
            have HS9 : Hid (S'.length ≤ 2000000000) := Lib.hid (by have h1 := HTS.out; have h2 := HSZ.out; have h3 := wgt_len S'; omega)
            rw [← hk] at HNODE z3 ⊢
            clear hka hkk hk HKB
            obtain ⟨wo, hwo⟩ : ∃ wo : World, wo = wr := ⟨_, rfl⟩
            subst hwo
            obtain ⟨bx, hbx⟩ : ∃ bx, bx = wo.heap.size := ⟨_, rfl⟩
            have HBX := Lib.hid hbx
            rw [← hbx] at HAT5 z0 ⊢
            clear hbx x0 x1 y0 hc0 hc1
            go_loopw [8, 67] (fun sv jv wx => ∃ (i : Nat) (sa : Option Addr) (sc' : Nat), jv = .int .i64 i ∧ i ≤ k ∧ sv = .slice sa (S'.length + 1 + i) sc' ∧ OM w bm (S' ++ ⟨⟨pb, po, none⟩, t, true⟩ :: kidsFrom kb ko (t.args.take i)) L (fun y => if y = ⟨pb, po, none⟩ then some (.int .i64 1) else f y) sv (.slice la L.length lc) wx ∧ wx.cell? ⟨bx, 0, none⟩ = some (.pointer (some ⟨pb, po, none⟩)) ∧ sv.ownBlock ≠ some bx) (fun _ jv _ => k - (intOf jv).toNat)
            case atStart => exact ⟨0, a5, c5, rfl, by omega, rfl, HOM5.out, z0, HAT5.out⟩
            case round =>
              obtain ⟨i, sa, sc', rfl, hi, rfl, hom, hbox, hne⟩ := hrel
              have HLEN : Hid ((S' ++ ⟨⟨pb, po, none⟩, t, true⟩ :: kidsFrom kb ko (t.args.take i)).length = S'.length + 1 + i) := Lib.hid (by simp [kidsFrom_len, ← HK.out]; omega)
              have HOMI := Lib.hid hom
              have HNE := Lib.hid hne
              have z3 := HNODE.out wr hom.bel
              by_cases hlt : i < k
              · obtain ⟨u, hu⟩ : ∃ u, t.args[i]? = some u := ⟨_, List.getElem?_eq_getElem (by rw [← HK.out]; exact hlt)⟩
                obtain rfl := HKA.out (by rw [← HK.out]; omega)
                have HU := Lib.hid hu
                have HLT := Lib.hid hlt
                have hlti : (i : Int) < (k : Int) := by omega
                have HSTK : Hid (Row wr w.heap.size 102 2 (.slice sa (S'.length + 1 + i) sc') (S'.length + 1 + i) (cellsSE (S' ++ ⟨⟨pb, po, none⟩, t, true⟩ :: kidsFrom kb ko (t.args.take i)))) := Lib.hid (by have h := hom.stk; rw [HLEN.out] at h; exact h)
                have HBXL : Hid (bx < wr.heap.size) := Lib.hid (World.block_lt_of_cell? _ _ hbox)
                have HGEW : Hid (w.heap.size ≤ wr.heap.size) := Lib.hid hom.bel.size
                clear hu hlt hom hne hi
                go_wp2_with (at_builtin; refine app_row_at (.tmp 70) (.tmp 79) EStep rfl rfl w.heap.size (.slice sa (S'.length + 1 + i) sc') (S'.length + 1 + i) (cellsSE (S' ++ ⟨⟨pb, po, none⟩, t, true⟩ :: kidsFrom kb ko (t.args.take i))) rfl (Row.below HSTK.out (below_alloc _ _)) (some ⟨_, 0, none⟩) 1 1 [.pointer (some ⟨kb, ko + i * 4, none⟩), .bool false] rfl (RdG.lits _ 2 _ 1 [.pointer (some ⟨kb, ko + i * 4, none⟩), .bool false] rfl) (by simp [Value.oneCell']) (by have h1 := HS9.out; omega) (by decide) (by have := HGEW.out; simp; omega) ?_; intro a6 c6 w6 hr6 hg6 hat6; rw [← HLEN.out] at hr6; have HOM6 := Lib.hid ((HOMI.out.below (below_alloc _ _)).push (x := ⟨⟨kb, ko + i * 4, none⟩, u, false⟩) hr6 hg6); have z6 : w6.cell? ⟨bx, 0, none⟩ = some (.pointer (some ⟨pb, po, none⟩)) := hg6.cell (below_cell (below_alloc _ _) hbox) (fun e => HNE.out e.symm); have HAT6 : Hid ((Value.slice a6 (S'.length + 1 + i + 1) c6).ownBlock ≠ some bx) := Lib.hid (by
                  have h1 := HBXL.out
                  rcases hat6 with e | e
                  · rw [e]; exact HNE.out
                  · rw [e]; intro h; simp at h; omega); clear hr6 hg6 hat6)
                go_roundw
                case rel => exact ⟨i + 1, a6, c6, by go_num, HLT.out, rfl, by
                  have h := HOM6.out
                  rw [List.append_assoc, List.cons_append, show (⟨⟨kb, ko + i * 4, none⟩, u, false⟩ : SE) = ⟨⟨kb, ko + 4 * (t.args.take i).length, none⟩, u, false⟩ by simp [← HK.out, Nat.min_eq_left (Nat.le_of_lt HLT.out), Nat.mul_comm], ← kidsFrom_snoc, ← take_snoc HU.out] at h
                  rw [HLEN.out] at h
                  exact h, z6, HAT6.out⟩
                case measure => have := HLT.out; simp [intOf]; omega
              · obtain rfl : k = i := by omega
                have HALL : Hid (t.args.take k = t.args) := Lib.hid (List.take_of_length_le (by rw [HK.out]; exact Nat.le_refl _))
                rw [HALL.out] at HOMI HLEN
                clear hom hne hlt hi hbox z3
                go_wp2
                go_roundg (wgt (S' ++ ⟨⟨pb, po, none⟩, t, true⟩ :: kidsFrom kb ko t.args))
                case measure => have := t.size_eq; simp [wgt_append, wgt, SE.wgt, kidsFrom_wgt]; omega
                case rel => exact ⟨_, L, _, sa, la, sc', lc, rfl, by rw [HLEN.out], rfl, HOPEN.out, HOMI.out, by have h1 := HTS.out; have := t.size_eq; simp [wgt_append, wgt, SE.wgt, kidsFrom_wgt]; omega⟩

end Go.Proofs.YtpabngicbfcdkaaDoor

/- tree.Order, Finite; syntax.deeper, Size: the walks. -/
namespace Go.Proofs.YtpabngicbfcdkaaDoor
open Go.RowKit
set_option linter.unusedVariables false
set_option linter.unusedSimpArgs false

/-- a call through a value, of a function with a body -/
theorem cf_enter {P : Program} {f : FuncId} {fn : Func} {c : Code} (hf : P.funcs[f]? = some fn) (hname : (fn.name == "runtime.NumGoroutine") = false) (hb : fn.body = some c) (args : Array Value) (w : World) : (callFunc f args).run P w = .ok (.enter f args) w := by
  have h1 : fn.name ≠ "runtime.NumGoroutine" := by simpa using hname
  simp [callFunc, hf, h1, hb]
theorem cf_ord (args : Array Value) (w : World) : (callFunc 58 args).run Tryd.prog w = .ok (.enter 58 args) w := by
  obtain ⟨c, hc⟩ : ∃ c, Tryd.f58.body = some c := ⟨_, rfl⟩
  exact cf_enter Tryd.func58 (by kernel_rfl) hc args w
theorem true_ord (p : Addr) (w : World) : Calls Tryd.prog 58 #[.pointer (some p)] w fun e w' => e = .returned (.bool true) ∧ w = w' := by
  go_enter Tryd.func58, Tryd.ntmps58
  go_wp2
  go_ret
  exact ⟨rfl, rfl⟩

def OrderPost (T : Nat → Prop) (root : Ex) (p0 : Addr) (w : World) (e : Ending) (w' : World) : Prop :=
  Below w.heap.size w w' ∧ ∃ L a c, e = .returned (.tuple #[.slice a L.length c, .bool true]) ∧ RdG w' 1 a L.length (L.map penc) ∧ Topo T w root L ∧ p0 ∈ L ∧ L.length ≤ 2 * root.size

theorem Ex.all_true : ∀ t : Ex, t.all (fun _ => true) := by
  have key : ∀ (n : Nat) (t : Ex), t.size ≤ n → t.all (fun _ => true) := by
    intro n
    induction n with
    | zero => intro t h; have := t.size_pos; omega
    | succ n ih =>
      intro t h
      refine (Ex.all_eq _ t).2 ⟨rfl, fun i u hu => ih u ?_⟩
      have := Ex.size_kid hu
      have := t.size_eq
      omega
  exact fun t => key t.size t (Nat.le_refl _)

set_option maxRecDepth 100000 in
theorem Order_any (T : Nat → Prop) (root : Ex) (p0 : Addr) (w : World) (hr : RdP T w root p0) (hsz : root.size ≤ 1000000000) :
    Calls Tryd.prog 40 #[.pointer (some p0)] w (OrderPost T root p0 w) := by
  have HO := Lib.hid (order_any 58 (fun _ => true) T root p0 w hr hsz cf_ord (fun wx t p _ _ _ _ => (true_ord p wx).mono fun e w' h => ⟨h.1, by rw [h.2]; exact Below.refl _ _⟩))
  clear hr hsz
  go_enter Tryd.func40, Tryd.ntmps40
  go_wp2_with fail
  refine HO.out.mono ?_
  rintro e w2 ⟨hb, ⟨L, a, c, rfl, h1, h2, h3, h4, h5⟩ | ⟨rfl, h1⟩⟩
  · have HF := Lib.hid (And.intro hb (And.intro h1 (And.intro h2 (And.intro h3 h5))))
    clear hb h1 h2 h3 h4 h5
    go_wp2
    go_ret2
    exact ⟨HF.out.1, L, a, c, rfl, HF.out.2.1, HF.out.2.2.1, HF.out.2.2.2.1, HF.out.2.2.2.2⟩
  · exact absurd (Ex.all_true root) h1



/-- the states of a fold over all nodes: each node's value comes from its arguments' values -/
structure Vals (T : Nat → Prop) (w : World) (val : Ex → Nat) (L : List Addr) (j : Nat) (f : Addr → Option Value) : Prop where
  some_ : ∀ p v, f p = some v → ∃ t, RdP T w t p ∧ v = .int .i64 (val t : Nat)
  dom : ∀ m p, m < j → L[m]? = some p → f p ≠ none
theorem Vals.start (T w val L) : Vals T w val L 0 (fun _ => none) := ⟨fun p v h => (by cases h), fun m p h => by omega⟩
theorem Vals.get {T w val L j f} (h : Vals T w val L j f) {m : Nat} {p : Addr} {t : Ex} (hm : m < j) (hp : L[m]? = some p) (ht : RdP T w t p) : f p = some (.int .i64 (val t : Nat)) := by
  cases hf : f p with
  | none => exact absurd hf (h.dom m p hm hp)
  | some v =>
    obtain ⟨t', h1, h2⟩ := h.some_ p v hf
    rw [h2, h1.uniq ht]
theorem Vals.put {T w val L j f} (h : Vals T w val L j f) {p : Addr} {t : Ex} (hp : L[j]? = some p) (ht : RdP T w t p) : Vals T w val L (j + 1) (fun y => if y = p then some (.int .i64 (val t : Nat)) else f y) :=
  ⟨fun q v hv => by
    by_cases e : q = p
    · rw [if_pos e] at hv; subst e; exact ⟨t, ht, (Option.some.inj hv).symm⟩
    · rw [if_neg e] at hv; exact h.some_ q v hv, fun m q hm hq hn => by
    by_cases e : q = p
    · simp [e] at hn
    · rw [if_neg e] at hn
      by_cases e2 : m = j
      · subst e2; rw [hp] at hq; cases hq; exact e rfl
      · exact h.dom m q (by omega) hq hn⟩
theorem Vals.ok {T w val L j f} (h : Vals T w val L j f) : ∀ y v, f y = some v → OkA w y := fun y v hv => by
  obtain ⟨t, h1, _⟩ := h.some_ y v hv
  exact h1.ok

end Go.Proofs.YtpabngicbfcdkaaDoor

/- slices of strings as they are read; []byte(s). -/
namespace Go.Proofs.YtpabngicbfcdkaaDoor
open Go.RowKit
set_option linter.unusedVariables false
set_option linter.unusedSimpArgs false

/-- the bytes of a string as numbers -/
def numsOf (s : ByteArray) : List Int := s.data.toList.map fun x => (x.toNat : Int)
theorem numsOf_len (s : ByteArray) : (numsOf s).length = s.size := by unfold numsOf; rw [List.length_map]; rfl
theorem numsOf_bd (s : ByteArray) : ∀ x ∈ numsOf s, 0 ≤ x ∧ x ≤ 255 := by
  intro x hx
  unfold numsOf at hx
  obtain ⟨y, _, rfl⟩ := List.mem_map.1 hx
  have := y.toNat_lt
  omega
theorem numsOf_inj {s t : ByteArray} (h : numsOf s = numsOf t) : s = t := by
  have inj : ∀ (l m : List UInt8), l.map (fun x => (x.toNat : Int)) = m.map (fun x => (x.toNat : Int)) → l = m := by
    intro l
    induction l with
    | nil => intro m hm; cases m with | nil => rfl | cons b r => cases hm
    | cons a r ih =>
      intro m hm
      cases m with
      | nil => cases hm
      | cons b q =>
        simp only [List.map_cons, List.cons.injEq] at hm
        rw [ih q hm.2, UInt8.toNat_inj.1 (Int.ofNat.inj hm.1)]
  have h1 : s.data.toList = t.data.toList := inj _ _ h
  cases s; cases t; congr; exact Array.toList_inj.1 h1
theorem numsOf_empty : numsOf ByteArray.empty = [] := rfl

/-- the n strings of a slice value -/
structure RdS (w : World) (a : Option Addr) (n : Nat) (ss : List ByteArray) : Prop where
  len : ss.length = n
  max : n ≤ 9223372036854775807
  cell : ∀ i, i < n → ∃ b off, a = some ⟨b, off, none⟩ ∧ w.cell? ⟨b, off + i, none⟩ = some (.string (ss.getD i ByteArray.empty))
  wf : ∀ s ∈ ss, s.size ≤ 9223372036854775807
theorem RdS.below {w w' : World} {a n ss} (h : RdS w a n ss) (hb : Below w.heap.size w w') : RdS w' a n ss :=
  ⟨h.len, h.max, fun i hi => by
    obtain ⟨b, off, ha, hc⟩ := h.cell i hi
    exact ⟨b, off, ha, below_cell hb hc⟩, h.wf⟩
theorem RdS.wfD {w : World} {a n ss} (h : RdS w a n ss) (i : Nat) : (ss.getD i ByteArray.empty).size ≤ 9223372036854775807 := by
  by_cases hi : i < ss.length
  · exact h.wf _ (getD_mem hi)
  · rw [show ss.getD i ByteArray.empty = ByteArray.empty by simp [List.getD, List.getElem?_eq_none (show ss.length ≤ i by omega)]]
    decide

theorem open_rds {H : Type} {enc : TypeId × Value → H} {P : Program} {W : World} {t e : TypeId} {a : Option Addr} {n c : Nat} {d : DataW H} {p : List MemPlace}
    (ht : P.underlying t = some (.slice e)) (he : P.underlying e = some .string) (hc : P.cellsOf e = 1)
    (h : DataW.Trod enc P W 0 (fun _ => true) true t (.slice a n c) d p) : ∃ ss, RdS W a n ss ∧ n ≤ c ∧ ((d = .nil ∧ n = 0) ∨ ∃ elems spare, d = .slice elems spare ∧ elems.length = n) := by
  obtain ⟨fuel, hf⟩ := h
  rcases Go.ChangeShapes.open_strings ht he hc hf with ⟨hcs, hx⟩ | ⟨x, l, c', zs, hcs, _, hl, hm, hz, hx, hcell, hwz⟩
  · simp [Value.cells] at hcs
    obtain ⟨rfl, rfl, rfl⟩ := hcs
    refine ⟨[], ⟨rfl, by omega, fun i hi => by omega, by simp⟩, by omega, .inl ⟨by simpa using congrArg Prod.fst hx, rfl⟩⟩
  · simp [Value.cells] at hcs
    obtain ⟨rfl, rfl, rfl⟩ := hcs
    have hz' : zs.length = c := by simpa using hz
    refine ⟨zs.take n, ⟨by rw [List.length_take]; omega, by unfold maxLen at hm; omega, fun i hi => ?_, fun y hy => by have := hwz y (List.mem_of_mem_take hy); unfold maxLen at this; exact this⟩, hl, .inr ⟨_, _, congrArg Prod.fst hx, by simp [Go.ChangeShapes.strs]; omega⟩⟩
    have h1 := hcell i (by omega)
    have hspot := World.cell?_spot (hcell 0 (by omega))
    obtain ⟨b, off, spot⟩ := x
    have : spot = none := by simpa [Addr.add] using hspot
    subst this
    refine ⟨b, off, rfl, ?_⟩
    rw [Addr.add_lit] at h1
    rw [h1]
    simp [List.getD, hi]

theorem bytesWorld_below (w : World) (e : TypeId) (s : ByteArray) : Below w.heap.size w (Lib.bytesWorld w e s) :=
  ⟨rfl, rfl, rfl, by rw [Lib.bytesWorld_size]; omega, fun k hk => Lib.bytesWorld_at_old w e s k hk⟩
theorem bytesWorld_rd (w : World) (e : TypeId) (s : ByteArray) (hs : s.size ≤ 9223372036854775807) : Rd (Lib.bytesWorld w e s) .u8 (some ⟨w.heap.size, 0, none⟩) s.size (numsOf s) := by
  refine ⟨numsOf_len s, hs, fun i hi => ⟨_, _, rfl, ?_⟩, fun x hx => ?_⟩
  · rw [Nat.zero_add, Lib.bytesWorld_cell w e s i hi]
    have hi2 : i < s.data.toList.length := hi
    unfold numsOf
    simp only [List.getD, List.getElem?_map, List.getElem?_eq_getElem hi2, Option.map_some, Option.getD_some]
  · have := numsOf_bd s x hx
    simp [Lit.wf, IntKind.min, IntKind.max, IntKind.signed, IntKind.bits]; omega

/-- a new block of whatever kind -/
theorem RF.addN' {B N w w' l} (h : RF B N w l) (hb : Below w.heap.size w w') (hs : w.heap.size < w'.heap.size) : RF B (fun b => N b ∨ b = w.heap.size) w' l := by
  have h' := h.below hb
  refine ⟨h'.own, h.ne, fun i e v xs g hi hg hc => ?_, fun b hb => ?_, h'.bw⟩
  · rcases hc with hc | hc
    · exact h.av i e v xs g hi hg hc
    · have := (h.lt hi hg).1; omega
  · rcases hb with hb | hb
    · exact h'.nl b hb
    · rw [hb]; exact hs
theorem Rd.frN {w w' : World} {N : Nat → Prop} {k : IntKind} {b n : Nat} {l : List Int} (h : Rd w k (some ⟨b, 0, none⟩) n l) (hb : N b) (hf : Fr (fun b => ¬ N b) w w') : Rd w' k (some ⟨b, 0, none⟩) n l :=
  ⟨h.len, h.max, fun i hi => by
    obtain ⟨b', off, ha, hc⟩ := h.cell i hi
    cases ha
    exact ⟨b, 0, rfl, hf.cell hc (fun hn => hn hb)⟩, h.wf⟩

end Go.Proofs.YtpabngicbfcdkaaDoor

/- syntax: the kinds of bytes; span; value; hex. -/
namespace Go.Proofs.YtpabngicbfcdkaaDoor
open Go.RowKit
set_option linter.unusedVariables false
set_option linter.unusedSimpArgs false

/-- the bytes of a string -/
def ns (s : ByteArray) : List Nat := s.data.toList.map UInt8.toNat
theorem ns_len (s : ByteArray) : (ns s).length = s.size := by unfold ns; rw [List.length_map]; rfl
theorem ns_lt (s : ByteArray) : ∀ c ∈ ns s, c < 256 := by
  intro c hc
  obtain ⟨b, _, rfl⟩ := List.mem_map.1 hc
  exact b.toNat_lt
theorem ns_get {s : ByteArray} {k : Nat} (h : k < s.size) : (ns s)[k]? = some (s[k]).toNat := by
  unfold ns
  rw [List.getElem?_map, List.getElem?_eq_getElem (show k < s.data.toList.length from h)]
  rfl

def digB (c : Nat) : Bool := decide (48 ≤ c) && decide (c ≤ 57)
def letB (c : Nat) : Bool := decide (97 ≤ c) && decide (c ≤ 122)
def refB (c : Nat) : Bool := letB c || digB c || c == 45 || c == 126 || c == 35

set_option maxRecDepth 100000 in
theorem isDigit_any (c : Nat) (hc : c < 256) (w : World) : Calls Tryd.prog 54 #[.int .u8 c] w fun e w' => e = .returned (.bool (digB c)) ∧ w = w' := by
  by_cases h1 : 48 ≤ c
  · have h1' : (48 : Int) ≤ (c : Int) := by omega
    by_cases h2 : c ≤ 57
    · have h2' : (c : Int) ≤ 57 := by omega
      have HE : Hid (digB c = true) := Lib.hid (by simp [digB, h1, h2])
      clear h1 h2 hc
      go_enter Tryd.func54, Tryd.ntmps54
      go_wp2
      go_ret
      exact ⟨ret_eq (by rw [HE.out]; rfl), rfl⟩
    · have h2' : decide ((c : Int) ≤ 57) = false := decide_eq_false (by omega)
      have HE : Hid (digB c = false) := Lib.hid (by simp [digB, h2])
      clear h1 h2 hc
      go_enter Tryd.func54, Tryd.ntmps54
      go_wp2
      go_ret
      exact ⟨ret_eq (by rw [HE.out]; rfl), rfl⟩
  · have h1' : decide ((48 : Int) ≤ (c : Int)) = false := decide_eq_false (by omega)
    have HE : Hid (digB c = false) := Lib.hid (by simp [digB, h1])
    clear h1 hc
    go_enter Tryd.func54, Tryd.ntmps54
    go_wp2
    go_ret
    exact ⟨ret_eq (by rw [HE.out]; rfl), rfl⟩

set_option maxRecDepth 100000 in
theorem isLetter_any (c : Nat) (hc : c < 256) (w : World) : Calls Tryd.prog 57 #[.int .u8 c] w fun e w' => e = .returned (.bool (letB c)) ∧ w = w' := by
  by_cases h1 : 97 ≤ c
  · have h1' : (97 : Int) ≤ (c : Int) := by omega
    by_cases h2 : c ≤ 122
    · have h2' : (c : Int) ≤ 122 := by omega
      have HE : Hid (letB c = true) := Lib.hid (by simp [letB, h1, h2])
      clear h1 h2 hc
      go_enter Tryd.func57, Tryd.ntmps57
      go_wp2
      go_ret
      exact ⟨ret_eq (by rw [HE.out]; rfl), rfl⟩
    · have h2' : decide ((c : Int) ≤ 122) = false := decide_eq_false (by omega)
      have HE : Hid (letB c = false) := Lib.hid (by simp [letB, h2])
      clear h1 h2 hc
      go_enter Tryd.func57, Tryd.ntmps57
      go_wp2
      go_ret
      exact ⟨ret_eq (by rw [HE.out]; rfl), rfl⟩
  · have h1' : decide ((97 : Int) ≤ (c : Int)) = false := decide_eq_false (by omega)
    have HE : Hid (letB c = false) := Lib.hid (by simp [letB, h1])
    clear h1 hc
    go_enter Tryd.func57, Tryd.ntmps57
    go_wp2
    go_ret
    exact ⟨ret_eq (by rw [HE.out]; rfl), rfl⟩

set_option maxRecDepth 100000 in
theorem isRef_any (c : Nat) (hc : c < 256) (w : World) : Calls Tryd.prog 37 #[.int .u8 c] w fun e w' => e = .returned (.bool (refB c)) ∧ w = w' := by
  have HL := Lib.hid (isLetter_any c hc w)
  have HD := Lib.hid (isDigit_any c hc w)
  clear hc
  cases h1 : letB c with
  | true =>
    have HE : Hid (refB c = true) := Lib.hid (by simp [refB, h1])
    rw [h1] at HL
    clear h1
    go_enter Tryd.func37, Tryd.ntmps37
    go_wp2_with fail
    refine HL.out.mono ?_
    rintro e w1 ⟨rfl, rfl⟩
    go_wp2
    go_ret
    exact ⟨ret_eq (by rw [HE.out]; rfl), rfl⟩
  | false =>
    cases h2 : digB c with
    | true =>
      have HE : Hid (refB c = true) := Lib.hid (by simp [refB, h2])
      rw [h1] at HL
      rw [h2] at HD
      clear h1 h2
      go_enter Tryd.func37, Tryd.ntmps37
      go_wp2_with fail
      refine HL.out.mono ?_
      rintro e w1 ⟨rfl, rfl⟩
      go_wp2_with fail
      refine HD.out.mono ?_
      rintro e w1 ⟨rfl, rfl⟩
      go_wp2
      go_ret
      exact ⟨ret_eq (by rw [HE.out]; rfl), rfl⟩
    | false =>
      rw [h1] at HL
      rw [h2] at HD
      have HR : Hid (refB c = (c == 45 || c == 126 || c == 35)) := Lib.hid (by simp [refB, h1, h2])
      clear h1 h2
      by_cases e1 : c = 45
      · subst e1
        go_enter Tryd.func37, Tryd.ntmps37
        go_wp2_with (first | (refine HL.out.mono ?_; rintro e w1 ⟨rfl, rfl⟩) | (refine HD.out.mono ?_; rintro e w1 ⟨rfl, rfl⟩))
        go_ret
        exact ⟨ret_eq (by rw [HR.out]; rfl), rfl⟩
      · have b1 : ((c : Int) == 45) = false := by rw [beq_eq_false_iff_ne]; omega
        by_cases e2 : c = 126
        · subst e2
          go_enter Tryd.func37, Tryd.ntmps37
          go_wp2_with (first | (refine HL.out.mono ?_; rintro e w1 ⟨rfl, rfl⟩) | (refine HD.out.mono ?_; rintro e w1 ⟨rfl, rfl⟩))
          go_ret
          exact ⟨ret_eq (by rw [HR.out]; rfl), rfl⟩
        · have b2 : ((c : Int) == 126) = false := by rw [beq_eq_false_iff_ne]; omega
          by_cases e3 : c = 35
          · subst e3
            go_enter Tryd.func37, Tryd.ntmps37
            go_wp2_with (first | (refine HL.out.mono ?_; rintro e w1 ⟨rfl, rfl⟩) | (refine HD.out.mono ?_; rintro e w1 ⟨rfl, rfl⟩))
            go_ret
            exact ⟨ret_eq (by rw [HR.out]; rfl), rfl⟩
          · have b3 : ((c : Int) == 35) = false := by rw [beq_eq_false_iff_ne]; omega
            have HE : Hid (refB c = false) := Lib.hid (by rw [HR.out]; simp [e1, e2, e3])
            clear e1 e2 e3
            go_enter Tryd.func37, Tryd.ntmps37
            go_wp2_with (first | (refine HL.out.mono ?_; rintro e w1 ⟨rfl, rfl⟩) | (refine HD.out.mono ?_; rintro e w1 ⟨rfl, rfl⟩))
            go_ret
            exact ⟨ret_eq (by rw [HE.out]; rfl), rfl⟩

theorem cf_dig (args : Array Value) (w : World) : (callFunc 54 args).run Tryd.prog w = .ok (.enter 54 args) w := by
  obtain ⟨c, hc⟩ : ∃ c, Tryd.f54.body = some c := ⟨_, rfl⟩
  exact cf_enter Tryd.func54 (by kernel_rfl) hc args w
theorem cf_let (args : Array Value) (w : World) : (callFunc 57 args).run Tryd.prog w = .ok (.enter 57 args) w := by
  obtain ⟨c, hc⟩ : ∃ c, Tryd.f57.body = some c := ⟨_, rfl⟩
  exact cf_enter Tryd.func57 (by kernel_rfl) hc args w
theorem cf_ref (args : Array Value) (w : World) : (callFunc 37 args).run Tryd.prog w = .ok (.enter 37 args) w := by
  obtain ⟨c, hc⟩ : ∃ c, Tryd.f37.body = some c := ⟨_, rfl⟩
  exact cf_enter Tryd.func37 (by kernel_rfl) hc args w

/-- how many bytes of a kind a text begins with -/
def spn (is : Nat → Bool) (l : List Nat) : Nat := (l.takeWhile is).length
theorem spn_end {is : Nat → Bool} : ∀ {l : List Nat} {k : Nat}, (∀ j c, j < k → l[j]? = some c → is c = true) → k ≤ l.length → (∀ c, l[k]? = some c → is c = false) → spn is l = k
  | [], k, _, hk, _ => by simp at hk; subst hk; rfl
  | x :: r, 0, _, _, h => by have := h x rfl; simp [spn, List.takeWhile, this]
  | x :: r, k + 1, h1, hk, h2 => by
    have hx := h1 0 x (by omega) rfl
    have := spn_end (is := is) (l := r) (k := k) (fun j c hj hc => h1 (j + 1) c (by omega) (by simpa using hc)) (by simpa using hk) (fun c hc => h2 c (by simpa using hc))
    unfold spn at *
    rw [List.takeWhile_cons, if_pos hx, List.length_cons, this]
theorem spn_le (is : Nat → Bool) (l : List Nat) : spn is l ≤ l.length := List.Sublist.length_le (List.takeWhile_sublist _)

set_option maxRecDepth 100000 in
set_option maxHeartbeats 1000000 in
theorem span_any (F : Nat) (is : Nat → Bool) (s : ByteArray) (hs : s.size ≤ 1000000000) (w : World) (hcf : ∀ args w, (callFunc F args).run Tryd.prog w = .ok (.enter F args) w)
    (hF : ∀ (c : Nat) (w : World), c < 256 → Calls Tryd.prog F #[.int .u8 c] w fun e w' => e = .returned (.bool (is c)) ∧ w = w') :
    Calls Tryd.prog 36 #[.string s, .func (.func F) #[] #[]] w fun e w' => e = .returned (.int .i64 (spn is (ns s) : Nat)) ∧ w = w' := by
  have HF := Lib.hid hF
  have hsi : (s.size : Int) ≤ 1000000000 := by omega
  clear hF hs
  go_enter Tryd.func36, Tryd.ntmps36
  go_wp2
  go_loop [5] (fun kv => ∃ k : Nat, kv = .int .i64 k ∧ k ≤ s.size ∧ ∀ j c, j < k → (ns s)[j]? = some c → is c = true) (fun kv => s.size - (intOf kv).toNat)
  case atStart => exact ⟨0, rfl, by omega, fun j c hj => by omega⟩
  case round =>
    obtain ⟨k, rfl, hk, hall⟩ := hrel
    by_cases hlt : k < s.size
    · have HG := Lib.hid (ns_get hlt)
      have HA := Lib.hid hall
      have HLT := Lib.hid hlt
      have hki : (k : Int) < (s.size : Int) := by omega
      have HC := Lib.hid (HF.out (s[k]).toNat w (s[k]).toNat_lt)
      cases hb : is (s[k]).toNat with
      | true =>
        rw [hb] at HC
        have HB := Lib.hid hb
        clear hall hk hb
        go_wp2_with (refine HC.out.mono ?_; rintro e w1 ⟨rfl, rfl⟩)
        go_round
        case rel => exact ⟨k + 1, by go_num, HLT.out, fun j c hj hc => by
          by_cases e : j = k
          · subst e; rw [HG.out] at hc; cases hc; exact HB.out
          · exact HA.out j c (by omega) hc⟩
        case measure => have := HLT.out; simp [intOf]; omega
      | false =>
        rw [hb] at HC
        have HE : Hid (spn is (ns s) = k) := Lib.hid (spn_end hall (by rw [ns_len]; exact hk) (fun c hc => by rw [HG.out] at hc; cases hc; exact hb))
        clear hall hk hb
        go_wp2_with (refine HC.out.mono ?_; rintro e w1 ⟨rfl, rfl⟩)
        go_ret
        exact ⟨ret_eq (by rw [HE.out]; rfl), rfl⟩
    · obtain rfl : k = s.size := by omega
      have HE : Hid (spn is (ns s) = s.size) := Lib.hid (spn_end hall (by rw [ns_len]; exact hk) (fun c hc => by rw [List.getElem?_eq_none (by rw [ns_len]; exact Nat.le_refl _)] at hc; cases hc))
      clear hall hk hlt
      go_wp2
      go_ret
      exact ⟨ret_eq (by rw [HE.out]; rfl), rfl⟩

end Go.Proofs.YtpabngicbfcdkaaDoor

/- syntax: the value of digits. -/
namespace Go.Proofs.YtpabngicbfcdkaaDoor
open Go.RowKit
set_option linter.unusedVariables false
set_option linter.unusedSimpArgs false

/-- the number that digits denote, as long as it is no greater than 2^60 -/
def valGo : Nat → List Nat → Option Nat
  | n, [] => some n
  | n, c :: r => if (1152921504606846976 - (c - 48)) / 10 < n then none else valGo (10 * n + (c - 48)) r
def valP (l : List Nat) : Option Nat := if l.head? = some 48 ∧ 1 < l.length then none else valGo 0 l
def valV : Option Nat → Value
  | some n => .tuple #[.int .i64 (n : Nat), .bool true]
  | none => .tuple #[.int .i64 0, .bool false]

set_option maxRecDepth 100000 in
set_option maxHeartbeats 1000000 in
theorem value_any (s : ByteArray) (hs : s.size ≤ 1000000000) (h0 : 0 < s.size) (hd : ∀ c ∈ ns s, digB c = true) (w : World) :
    Calls Tryd.prog 55 #[.string s] w fun e w' => e = .returned (valV (valP (ns s))) ∧ w = w' := by
  have hsi : (s.size : Int) ≤ 1000000000 := by omega
  have hpi : (0 : Int) < (s.size : Int) := by omega
  have HD := Lib.hid hd
  have HH : Hid ((ns s).head? = some (s[0]).toNat) := Lib.hid (by rw [List.head?_eq_getElem?]; exact ns_get h0)
  have HL : Hid ((ns s).length = s.size) := Lib.hid (ns_len s)
  obtain ⟨c0, hc0⟩ : ∃ c0, (s[0]'h0).toNat = c0 := ⟨_, rfl⟩
  rw [hc0] at HH
  by_cases hz : c0 = 48 ∧ 1 < s.size
  · obtain ⟨rfl, h1⟩ := hz
    have h1i : (1 : Int) < (s.size : Int) := by omega
    have HE : Hid (valP (ns s) = none) := Lib.hid (by unfold valP; rw [if_pos ⟨HH.out, by rw [HL.out]; exact h1⟩])
    clear hd hs h1
    go_enter Tryd.func55, Tryd.ntmps55
    go_wp2
    go_ret2
    exact ⟨by rw [HE.out]; rfl, rfl⟩
  · have HE : Hid (valP (ns s) = valGo 0 (ns s)) := Lib.hid (by unfold valP; rw [if_neg (by rintro ⟨h1, h2⟩; rw [HH.out] at h1; rw [HL.out] at h2; exact hz ⟨Option.some.inj h1, h2⟩)])
    have hz2 : ((c0 : Int) == 48) = false ∨ (((c0 : Int) == 48) = true ∧ decide ((1 : Int) < (s.size : Int)) = false ∧ decide (1 < s.size) = false) := by
      by_cases e : c0 = 48
      · exact .inr ⟨by rw [beq_iff_eq]; omega, decide_eq_false (by intro h; exact hz ⟨e, by omega⟩), decide_eq_false (by intro h; exact hz ⟨e, h⟩)⟩
      · exact .inl (by rw [beq_eq_false_iff_ne]; omega)
    clear hd hs hz
    rcases hz2 with b1 | ⟨b1, b2, b3⟩
    all_goals
      go_enter Tryd.func55, Tryd.ntmps55
      go_wp2
      go_loop [4, 17] (fun nv kv => ∃ k n : Nat, kv = .int .i64 k ∧ k ≤ s.size ∧ nv = .int .i64 n ∧ n ≤ 1152921504606846976 ∧ valGo n ((ns s).drop k) = valGo 0 (ns s)) (fun _ kv => s.size - (intOf kv).toNat)
      case atStart => exact ⟨0, 0, rfl, by omega, rfl, by omega, rfl⟩
      case round =>
        obtain ⟨k, n, rfl, hk, rfl, hn, hv⟩ := hrel
        have hni : (n : Int) ≤ 1152921504606846976 := by omega
        by_cases hlt : k < s.size
        · have hg := ns_get hlt
          obtain ⟨c, hc⟩ : ∃ c, (s[k]'hlt).toNat = c := ⟨_, rfl⟩
          rw [hc] at hg
          have hdig := HD.out c (List.mem_of_getElem? hg)
          have h48 : 48 ≤ c ∧ c ≤ 57 := by simpa [digB] using hdig
          have h48i : (48 : Int) ≤ (c : Int) := by omega
          have h57i : (c : Int) ≤ 57 := by omega
          obtain ⟨d, hd⟩ : ∃ d, d = c - 48 := ⟨_, rfl⟩
          have hdi : (c : Int) - 48 = (d : Int) := by omega
          have hd9 : (d : Int) ≤ 9 := by omega
          have hki : (k : Int) < (s.size : Int) := by omega
          have hdrop : (ns s).drop k = c :: (ns s).drop (k + 1) := by
            rw [List.drop_eq_getElem_cons (by rw [ns_len]; exact hlt)]
            rw [(List.getElem?_eq_some_iff.1 hg).2]
          rw [hdrop, valGo, ← hd] at hv
          have HLT := Lib.hid hlt
          by_cases ho : (1152921504606846976 - d) / 10 < n
          · rw [if_pos ho] at hv
            have HV := Lib.hid hv
            have hoi : (1152921504606846976 - (d : Int)) / 10 < (n : Int) := by omega
            clear hv ho hg hdig h48 hd hdrop hk hn
            go_wp2
            go_ret2
            exact ⟨by rw [HE.out, ← HV.out]; rfl, rfl⟩
          · rw [if_neg ho] at hv
            have HV := Lib.hid hv
            have hoi : decide ((1152921504606846976 - (d : Int)) / 10 < (n : Int)) = false := decide_eq_false (by omega)
            have hn9 : 10 * n + d ≤ 1152921504606846976 := by omega
            have HN := Lib.hid hn9
            have hn9i : 10 * (n : Int) + (d : Int) ≤ 1152921504606846976 := by omega
            clear hv ho hg hdig h48 hd hdrop hk hn hn9
            go_wp2
            go_round
            case rel => exact ⟨k + 1, 10 * n + d, by go_num, HLT.out, by go_num, HN.out, HV.out⟩
            case measure => have := HLT.out; simp [intOf]; omega
        · obtain rfl : k = s.size := by omega
          have HV : Hid (valGo 0 (ns s) = some n) := Lib.hid (by rw [← hv, List.drop_eq_nil_of_le (by rw [ns_len]; exact Nat.le_refl _)]; rfl)
          clear hv hk hlt hn
          go_wp2
          go_ret2
          exact ⟨by rw [HE.out, HV.out]; rfl, rfl⟩

end Go.Proofs.YtpabngicbfcdkaaDoor
