/-
  the plain law of the bytes of a graph: what is written, what is read.
-/
import Derived.Test.YtoakelgjofdmpaaHVBytes
import Derived.Test.YtoakelgjofdmpaaHHeadP
namespace Go.Proofs.Ytoakelgjofdmpaa
set_option linter.unusedVariables false
set_option linter.unusedSimpArgs false

/-- the letters of a string, as numbers -/
def bsOf (s : ByteArray) : List Int := s.data.toList.map fun b => (b.toNat : Int)
theorem bsOf_len (s : ByteArray) : (bsOf s).length = s.size := by unfold bsOf; rw [List.length_map, Array.length_toList]; rfl
theorem bsOf_bd (s : ByteArray) : ∀ x ∈ bsOf s, 0 ≤ x ∧ x ≤ 255 := by
  intro x hx
  obtain ⟨b, _, rfl⟩ := List.mem_map.1 hx
  have := b.toNat_lt
  omega
/-- numbers as a string -/
def strN (l : List Int) : ByteArray := Go.strOfNums l
theorem strN_bs (s : ByteArray) : strN (bsOf s) = s := by
  unfold strN Go.strOfNums bsOf
  cases s with
  | mk d =>
    congr 1
    apply Array.toList_inj.1
    simp only [List.map_map]
    refine List.ext_getElem (by simp) fun i h1 h2 => ?_
    simp
theorem bs_strN {l : List Int} (h : ∀ x ∈ l, 0 ≤ x ∧ x ≤ 255) : bsOf (strN l) = l := by
  unfold bsOf strN
  rw [Go.strOfNums_data, List.map_map]
  refine List.ext_getElem (by simp) fun i h1 h2 => ?_
  have hb := h _ (List.getElem_mem h2)
  simp only [List.getElem_map, Function.comp_apply, UInt8.toNat_ofNat']
  omega

/-- the bytes of a commit, of a list -/
def putP (ps : List Int) : List Int := ps.flatMap fun p => put p.toNat
def cmE (x : Cm) : List Int := put x.1.length ++ (putP x.1 ++ (put x.2.1.toNat ++ (put x.2.2.size ++ bsOf x.2.2)))
def cmsE (L : List Cm) : List Int := L.flatMap cmE
def encL (L : List Cm) : List Int := put L.length ++ cmsE L
theorem putP_take (ps : List Int) {k : Nat} (h : k < ps.length) : putP (ps.take (k + 1)) = putP (ps.take k) ++ put (ps.getD k 0).toNat := by
  unfold putP
  rw [getD_take_snoc (d := 0) h, List.flatMap_append]; simp
theorem cmsE_take {L : List Cm} {k : Nat} {x : Cm} (h : L[k]? = some x) : cmsE (L.take (k + 1)) = cmsE (L.take k) ++ cmE x := by
  unfold cmsE
  rw [take_snoc_at h, List.flatMap_append]; simp
theorem putP_len (ps : List Int) (h : ∀ p ∈ ps, p < 18446744073709551616) : (putP ps).length ≤ 10 * ps.length := by
  induction ps with
  | nil => simp [putP]
  | cons p r ih =>
    have h1 := put_len_ten (n := p.toNat) (by have := h p (by simp); omega)
    have h2 := ih (fun q hq => h q (by simp [hq]))
    simp only [putP, List.flatMap_cons, List.length_append, List.length_cons] at *
    omega

/-- a number that fits an int, read from the front -/
def numR (l : List Int) : Option (Nat × List Int) :=
  match tk l with
  | none => none
  | some (v, u) => if 9223372036854775807 < v then none else some (v.toNat, l.drop u)
theorem numR_put {n : Nat} (tail : List Int) (h : n ≤ 9223372036854775807) : numR (put n ++ tail) = some (n, tail) := by
  unfold numR
  rw [tk_put tail (by omega)]
  simp only
  rw [if_neg (by omega)]
  simp
theorem numR_inv {l : List Int} {n : Nat} {r : List Int} (hb : ∀ x ∈ l, 0 ≤ x ∧ x ≤ 255) (h : numR l = some (n, r)) : l = put n ++ r ∧ n ≤ 9223372036854775807 := by
  unfold numR at h
  cases hk : tk l with
  | none => rw [hk] at h; cases h
  | some y =>
    obtain ⟨v, u⟩ := y
    rw [hk] at h
    simp only at h
    obtain ⟨m, rfl, _, _, _, hp⟩ := tk_inv hb hk
    by_cases hv : 9223372036854775807 < (m : Int)
    · rw [if_pos hv] at h; cases h
    · rw [if_neg hv] at h
      simp only [Option.some.injEq, Prod.mk.injEq, Int.toNat_natCast] at h
      obtain ⟨rfl, rfl⟩ := h
      exact ⟨by rw [hp, List.take_append_drop], by omega⟩
/-- k numbers -/
def numsR : Nat → List Int → Option (List Int × List Int)
  | 0, l => some ([], l)
  | k + 1, l => match numsR k l with
    | none => none
    | some (ps, r) => match numR r with
      | none => none
      | some (n, r2) => some (ps ++ [(n : Int)], r2)
theorem numsR_put : ∀ (ps : List Int) (tail : List Int) (k : Nat), k ≤ ps.length → (∀ p ∈ ps, 0 ≤ p ∧ p ≤ 9223372036854775807) → numsR k (putP ps ++ tail) = some (ps.take k, putP (ps.drop k) ++ tail)
  | ps, tail, 0, _, _ => rfl
  | ps, tail, k + 1, hk, h => by
    have hp := h (ps.getD k 0) (getD_mem (by omega))
    have hd : ps.drop k = ps.getD k 0 :: ps.drop (k + 1) := by
      rw [List.drop_eq_getElem_cons (by omega)]
      simp [List.getD, show k < ps.length by omega]
    rw [numsR, numsR_put ps tail k (by omega) h]
    simp only
    rw [hd]
    have e : putP (ps.getD k 0 :: ps.drop (k + 1)) ++ tail = put (ps.getD k 0).toNat ++ (putP (ps.drop (k + 1)) ++ tail) := by simp [putP]
    rw [e, numR_put _ (by omega)]
    simp only [Option.some.injEq, Prod.mk.injEq, and_true]
    rw [getD_take_snoc (d := 0) (by omega), Int.toNat_of_nonneg hp.1]
theorem numsR_inv : ∀ (k : Nat) (l ps r : List Int), (∀ x ∈ l, 0 ≤ x ∧ x ≤ 255) → numsR k l = some (ps, r) → l = putP ps ++ r ∧ ps.length = k ∧ ∀ p ∈ ps, 0 ≤ p ∧ p ≤ 9223372036854775807
  | 0, l, ps, r, _, h => by
    simp only [numsR, Option.some.injEq, Prod.mk.injEq] at h
    obtain ⟨rfl, rfl⟩ := h
    exact ⟨by simp [putP], rfl, by simp⟩
  | k + 1, l, ps, r, hb, h => by
    rw [numsR] at h
    cases h1 : numsR k l with
    | none => rw [h1] at h; cases h
    | some y =>
      obtain ⟨ps1, r1⟩ := y
      rw [h1] at h
      simp only at h
      obtain ⟨e1, e2, e3⟩ := numsR_inv k l ps1 r1 hb h1
      cases h2 : numR r1 with
      | none => rw [h2] at h; cases h
      | some z =>
        obtain ⟨n, r2⟩ := z
        rw [h2] at h
        simp only [Option.some.injEq, Prod.mk.injEq] at h
        obtain ⟨rfl, rfl⟩ := h
        obtain ⟨f1, f2⟩ := numR_inv (fun x hx => hb x (by rw [e1]; exact List.mem_append_right _ hx)) h2
        refine ⟨by rw [e1, f1]; simp [putP], by simp [e2], fun p hp => ?_⟩
        rcases List.mem_append.1 hp with hp | hp
        · exact e3 p hp
        · rw [List.mem_singleton] at hp; subst hp; omega
theorem numsR_none {k m : Nat} {l : List Int} (h : numsR k l = none) (hm : k ≤ m) : numsR m l = none := by
  induction hm with
  | refl => exact h
  | step _ ih => rw [numsR, ih]

/-- a commit -/
def comR (l : List Int) : Option (Cm × List Int) :=
  match numR l with
  | none => none
  | some (k, l1) => if 8 < k then none else match numsR k l1 with
    | none => none
    | some (ps, l2) => match numR l2 with
      | none => none
      | some (t, l3) => match tb l3 200 with
        | .inl _ => none
        | .inr (r, q) => some ((ps, (t : Int), strN r), l3.drop q)
def okC (x : Cm) : Prop := x.1.length ≤ 8 ∧ (∀ p ∈ x.1, 0 ≤ p ∧ p ≤ 9223372036854775807) ∧ 0 ≤ x.2.1 ∧ x.2.1 ≤ 9223372036854775807 ∧ x.2.2.size ≤ 200
theorem comR_put {x : Cm} (tail : List Int) (h : okC x) : comR (cmE x ++ tail) = some (x, tail) := by
  obtain ⟨ps, t, s⟩ := x
  obtain ⟨h1, h2, h3, h4, h5⟩ := h
  simp only at h1 h2 h3 h4 h5
  unfold comR cmE
  simp only [List.append_assoc]
  rw [numR_put _ (by omega)]
  simp only
  rw [if_neg (by omega), numsR_put ps _ ps.length (Nat.le_refl _) h2]
  simp only [List.take_length, List.drop_length]
  have e : putP [] ++ (put t.toNat ++ (put s.size ++ (bsOf s ++ tail))) = put t.toNat ++ (put s.size ++ (bsOf s ++ tail)) := by simp [putP]
  rw [e, numR_put _ (by omega)]
  simp only
  rw [tb_put tail (bsOf_len s) (by omega) (by omega)]
  simp only [Option.some.injEq, Prod.mk.injEq, strN_bs, and_true, true_and]
  refine ⟨by omega, ?_⟩
  rw [← List.append_assoc, List.drop_append_of_le_length (by rw [List.length_append, bsOf_len]; omega), List.drop_of_length_le (by rw [List.length_append, bsOf_len]; omega)]
  simp
theorem tb_inv {l : List Int} {most : Int} {r : List Int} {q : Nat} (hb : ∀ x ∈ l, 0 ≤ x ∧ x ≤ 255) (h : tb l most = .inr (r, q)) : l = put r.length ++ (r ++ l.drop q) ∧ (r.length : Int) ≤ max most 0 ∧ ∀ x ∈ r, 0 ≤ x ∧ x ≤ 255 := by
  unfold tb at h
  cases hk : tk l with
  | none => rw [hk] at h; cases h
  | some y =>
    obtain ⟨v, u⟩ := y
    rw [hk] at h
    simp only at h
    obtain ⟨m, rfl, _, _, hu, hp⟩ := tk_inv hb hk
    by_cases c1 : max most 0 < (m : Int)
    · rw [if_pos c1] at h; cases h
    rw [if_neg c1] at h
    by_cases c2 : ((l.length - u : Nat) : Int) < (m : Int)
    · rw [if_pos c2] at h; cases h
    rw [if_neg c2] at h
    simp only [Sum.inr.injEq, Prod.mk.injEq, Int.toNat_natCast] at h
    obtain ⟨rfl, rfl⟩ := h
    have hl : ((l.drop u).take m).length = m := by rw [List.length_take, List.length_drop]; omega
    refine ⟨?_, by rw [hl]; omega, fun x hx => hb x (List.mem_of_mem_drop (List.mem_of_mem_take hx))⟩
    rw [hl, hp, ← List.drop_drop, List.take_append_drop, List.take_append_drop]
theorem comR_inv {l : List Int} {x : Cm} {r : List Int} (hb : ∀ y ∈ l, 0 ≤ y ∧ y ≤ 255) (h : comR l = some (x, r)) : l = cmE x ++ r ∧ okC x := by
  unfold comR at h
  cases h1 : numR l with
  | none => rw [h1] at h; cases h
  | some y1 =>
    obtain ⟨k, l1⟩ := y1
    rw [h1] at h
    simp only at h
    obtain ⟨a1, a2⟩ := numR_inv hb h1
    have hb1 : ∀ y ∈ l1, 0 ≤ y ∧ y ≤ 255 := fun y hy => hb y (by rw [a1]; exact List.mem_append_right _ hy)
    by_cases hk : 8 < k
    · rw [if_pos hk] at h; cases h
    rw [if_neg hk] at h
    cases h2 : numsR k l1 with
    | none => rw [h2] at h; cases h
    | some y2 =>
      obtain ⟨ps, l2⟩ := y2
      rw [h2] at h
      simp only at h
      obtain ⟨b1, b2, b3⟩ := numsR_inv k l1 ps l2 hb1 h2
      have hb2 : ∀ y ∈ l2, 0 ≤ y ∧ y ≤ 255 := fun y hy => hb1 y (by rw [b1]; exact List.mem_append_right _ hy)
      cases h3 : numR l2 with
      | none => rw [h3] at h; cases h
      | some y3 =>
        obtain ⟨t, l3⟩ := y3
        rw [h3] at h
        simp only at h
        obtain ⟨c1, c2⟩ := numR_inv hb2 h3
        have hb3 : ∀ y ∈ l3, 0 ≤ y ∧ y ≤ 255 := fun y hy => hb2 y (by rw [c1]; exact List.mem_append_right _ hy)
        cases h4 : tb l3 200 with
        | inl e => rw [h4] at h; cases h
        | inr y4 =>
          obtain ⟨s, q⟩ := y4
          rw [h4] at h
          simp only [Option.some.injEq, Prod.mk.injEq] at h
          obtain ⟨rfl, rfl⟩ := h
          obtain ⟨d1, d2, d3⟩ := tb_inv hb3 h4
          have hs : (strN s).size = s.length := by rw [← bsOf_len, bs_strN d3]
          refine ⟨?_, by simp only; omega, b3, by simp only; omega, by simp only; omega, by simp only; omega⟩
          unfold cmE
          simp only [List.append_assoc, Int.toNat_natCast]
          rw [hs, bs_strN d3, b2, ← d1, ← c1, ← b1, ← a1]

/-- commits, each added -/
def comsR : Nat → List Int → Option (List Cm × List Int)
  | 0, l => some ([], l)
  | k + 1, l => match comsR k l with
    | none => none
    | some (L, r) => match comR r with
      | none => none
      | some (x, r2) => if addBad L x = 0 then some (L ++ [x], r2) else none
theorem comsR_none {k m : Nat} {l : List Int} (h : comsR k l = none) (hm : k ≤ m) : comsR m l = none := by
  induction hm with
  | refl => exact h
  | step _ ih => rw [comsR, ih]
def takeR (l : List Int) : Option (List Cm) :=
  match numR l with
  | none => none
  | some (k, l1) => if 65536 < k then none else match comsR k l1 with
    | none => none
    | some (L, r) => if r = [] then some L else none

theorem good_okC {L : List Cm} (hL : GoodL L) (hw : WfL L) (hn : L.length ≤ 65536) {i : Nat} {x : Cm} (hx : L[i]? = some x) : okC x ∧ addBad (L.take i) x = 0 := by
  obtain ⟨h1, h2, h3, h4, h5⟩ := hL i x hx
  have hi : i < L.length := (List.getElem?_eq_some_iff.1 hx).1
  have hw1 := (hw x (List.mem_of_getElem? hx)).1
  have hw2 : x.2.1 ≤ 9223372036854775807 := by
    simp [Lit.wf, IntKind.min, IntKind.max, IntKind.signed, IntKind.bits] at hw1; omega
  refine ⟨⟨h1, fun p hp => by have := h3 p hp; omega, h4, hw2, h5⟩, ?_⟩
  unfold addBad
  rw [if_neg (by omega), if_neg, if_neg (fun hh => hh h2), if_neg (by rw [List.length_take]; omega)]
  rintro ⟨p, hp, hh⟩
  have := h3 p hp
  rw [List.length_take] at hh
  omega
theorem comsR_put {L : List Cm} (hL : GoodL L) (hw : WfL L) (hn : L.length ≤ 65536) (tail : List Int) : ∀ k, k ≤ L.length → comsR k (cmsE L ++ tail) = some (L.take k, cmsE (L.drop k) ++ tail)
  | 0, _ => rfl
  | k + 1, hk => by
    have hx : L[k]? = some (L[k]'(by omega)) := List.getElem?_eq_getElem (by omega)
    obtain ⟨h1, h2⟩ := good_okC hL hw hn hx
    rw [comsR, comsR_put hL hw hn tail k (by omega)]
    simp only
    rw [List.drop_eq_getElem_cons (show k < L.length by omega)]
    have e : cmsE (L[k]'(by omega) :: L.drop (k + 1)) ++ tail = cmE (L[k]'(by omega)) ++ (cmsE (L.drop (k + 1)) ++ tail) := by unfold cmsE; rw [List.flatMap_cons, List.append_assoc]
    rw [e, comR_put _ h1]
    simp only
    rw [if_pos h2, take_snoc_at hx]
theorem takeR_put {L : List Cm} (hL : GoodL L) (hw : WfL L) (hn : L.length ≤ 65536) : takeR (encL L) = some L := by
  unfold takeR encL
  rw [numR_put _ (by omega)]
  simp only
  rw [if_neg (by omega)]
  have h := comsR_put hL hw hn [] L.length (Nat.le_refl _)
  rw [List.append_nil, List.take_length, List.drop_length] at h
  rw [h]
  simp [cmsE]
theorem comsR_inv : ∀ (k : Nat) (l : List Int) (L : List Cm) (r : List Int), (∀ x ∈ l, 0 ≤ x ∧ x ≤ 255) → comsR k l = some (L, r) → l = cmsE L ++ r ∧ L.length = k ∧ GoodL L ∧ ∀ x ∈ L, okC x
  | 0, l, L, r, _, h => by
    simp only [comsR, Option.some.injEq, Prod.mk.injEq] at h
    obtain ⟨rfl, rfl⟩ := h
    exact ⟨by simp [cmsE], rfl, fun i x hx => by simp at hx, by simp⟩
  | k + 1, l, L, r, hb, h => by
    rw [comsR] at h
    cases h1 : comsR k l with
    | none => rw [h1] at h; cases h
    | some y =>
      obtain ⟨L1, r1⟩ := y
      rw [h1] at h
      simp only at h
      obtain ⟨e1, e2, e3, e4⟩ := comsR_inv k l L1 r1 hb h1
      cases h2 : comR r1 with
      | none => rw [h2] at h; cases h
      | some z =>
        obtain ⟨x, r2⟩ := z
        rw [h2] at h
        simp only at h
        by_cases ha : addBad L1 x = 0
        · rw [if_pos ha] at h
          simp only [Option.some.injEq, Prod.mk.injEq] at h
          obtain ⟨rfl, rfl⟩ := h
          obtain ⟨f1, f2⟩ := comR_inv (fun y hy => hb y (by rw [e1]; exact List.mem_append_right _ hy)) h2
          have hg := e3.add x
          unfold addC at hg
          rw [if_pos ha] at hg
          refine ⟨by rw [e1, f1]; simp [cmsE], by simp [e2], hg, fun y hy => ?_⟩
          rcases List.mem_append.1 hy with hy | hy
          · exact e4 y hy
          · rw [List.mem_singleton] at hy; rw [hy]; exact f2
        · rw [if_neg ha] at h; cases h
theorem takeR_inv {l : List Int} {L : List Cm} (hb : ∀ x ∈ l, 0 ≤ x ∧ x ≤ 255) (h : takeR l = some L) : l = encL L ∧ GoodL L := by
  unfold takeR at h
  cases h1 : numR l with
  | none => rw [h1] at h; cases h
  | some y =>
    obtain ⟨k, l1⟩ := y
    rw [h1] at h
    simp only at h
    obtain ⟨a1, a2⟩ := numR_inv hb h1
    by_cases hk : 65536 < k
    · rw [if_pos hk] at h; cases h
    rw [if_neg hk] at h
    cases h2 : comsR k l1 with
    | none => rw [h2] at h; cases h
    | some z =>
      obtain ⟨L1, r⟩ := z
      rw [h2] at h
      simp only at h
      obtain ⟨b1, b2, b3, _⟩ := comsR_inv k l1 L1 r (fun y hy => hb y (by rw [a1]; exact List.mem_append_right _ hy)) h2
      by_cases hr : r = []
      · rw [if_pos hr] at h
        cases h
        refine ⟨?_, b3⟩
        unfold encL
        rw [a1, b1, b2, hr, List.append_nil]
      · rw [if_neg hr] at h; cases h

end Go.Proofs.Ytoakelgjofdmpaa
