/-
  One call of a script, as the document says it: what the tree and the reference's tree become, and the number that both return.
-/
import Derived.Test.YtjajlnhobchkgaaUAct
import Derived.Test.YtjajlnhobchkgaaURetW
import Derived.Test.YtjajlnhobchkgaaURefR
import Derived.Test.YtjajlnhobchkgaaURefD
import Derived.Test.YtjajlnhobchkgaaURefO
namespace Go.Proofs.Ytjajlnhobchkgaa
open Go.RowKit
set_option linter.unusedVariables false
set_option linter.unusedSimpArgs false

def kindF (k : Int) : Int := (k.tmod 6 + 6).tmod 6

theorem kindF_bd (k : Int) : 0 ≤ kindF k ∧ kindF k < 6 := by
  have h1 := Int.lt_tmod_of_pos k (show (0 : Int) < 6 by omega)
  exact ⟨Int.tmod_nonneg 6 (show 0 ≤ k.tmod 6 + 6 by omega), Int.tmod_lt_of_pos (k.tmod 6 + 6) (show (0 : Int) < 6 by omega)⟩

set_option maxRecDepth 100000 in
theorem kind_is (k d t : Int) (w : World) : Calls Try.prog 34 #[.agg #[.int .i64 k, .int .i64 d, .int .i64 t]] w fun e w' => e = .returned (.int .i64 (kindF k)) ∧ Below w.heap.size w w' := by
  have h0 := Int.tmod_lt_of_pos k (show (0 : Int) < 6 by omega)
  have h1 := Int.lt_tmod_of_pos k (show (0 : Int) < 6 by omega)
  have hw1 : IntKind.i64.wrap (k.tmod 6) = k.tmod 6 := IntWalk.i64_in _ (by omega)
  have hw2 : IntKind.i64.wrap (k.tmod 6 + 6) = k.tmod 6 + 6 := IntWalk.i64_in _ (by omega)
  have h2 := Int.tmod_lt_of_pos (k.tmod 6 + 6) (show (0 : Int) < 6 by omega)
  have h3 := Int.tmod_nonneg 6 (show 0 ≤ k.tmod 6 + 6 by omega)
  have hw3 : IntKind.i64.wrap ((k.tmod 6 + 6).tmod 6) = (k.tmod 6 + 6).tmod 6 := IntWalk.i64_in _ (by omega)
  clear h0 h1 h2 h3
  go_enter Try.func34, Try.ntmps34
  go_wp2
  go_ret
  refine ⟨?_, below_alloc _ _⟩
  exact ret_eq (by simp [hw1, hw2, hw3, kindF])

structure Inv (l : List Nd) (now : Nat) : Prop where
  wf : WfT l
  lead : Lead l now
  lt : now < l.length

/-- the tree, the node and the number that is returned, after a call of kind r -/
def stp (r d t : Int) (l : List Nd) (now : Nat) : List Nd × Nat × Int :=
  if r < 2 then (doN l now t, l.length, (l.length : Int))
  else if r < 5 then
    match l[now]? with
    | none => (l, now, 0)
    | some x =>
      if r = 2 then (if now = 0 then (l, 0, 7) else (l, x.parent.toNat, 0))
      else if r = 3 then (if x.pref < 0 then (l, now, 7) else (l, x.pref.toNat, 0))
      else if memB x.kids d then (setPref l now d, d.toNat, 0) else (l, now, if x.kids = [] then 7 else 1)
  else if hasN l.length d then (gotoP d.toNat l d.toNat, d.toNat, 0) else (l, now, 1)

abbrev stL (r d t : Int) (l : List Nd) (now : Nat) : List Nd := (stp r d t l now).1
abbrev stN (r d t : Int) (l : List Nd) (now : Nat) : Nat := (stp r d t l now).2.1
abbrev stC (r d t : Int) (l : List Nd) (now : Nat) : Int := (stp r d t l now).2.2

theorem stp_do {r : Int} (hr : r < 2) (d t : Int) (l : List Nd) (now : Nat) : stp r d t l now = (doN l now t, l.length, (l.length : Int)) := by
  unfold stp; rw [if_pos hr]

theorem stp_undo0 (d t : Int) {l : List Nd} {x : Nd} (hx : l[0]? = some x) : stp 2 d t l 0 = (l, 0, 7) := by
  unfold stp; rw [if_neg (by omega), if_pos (by omega), hx]; simp

theorem stp_undo (d t : Int) {l : List Nd} {now p : Nat} {x : Nd} (hx : l[now]? = some x) (h : now ≠ 0) (hp : x.parent = (p : Nat)) : stp 2 d t l now = (l, p, 0) := by
  unfold stp; rw [if_neg (by omega), if_pos (by omega), hx]; simp [h, hp]

theorem stp_redo0 (d t : Int) {l : List Nd} {now : Nat} {x : Nd} (hx : l[now]? = some x) (h : x.pref < 0) : stp 3 d t l now = (l, now, 7) := by
  unfold stp; rw [if_neg (by omega), if_pos (by omega), hx]; simp [h]

theorem stp_redo (d t : Int) {l : List Nd} {now p : Nat} {x : Nd} (hx : l[now]? = some x) (hp : x.pref = (p : Nat)) : stp 3 d t l now = (l, p, 0) := by
  unfold stp; rw [if_neg (by omega), if_pos (by omega), hx]; simp [show ¬ x.pref < 0 by omega, hp]

theorem stp_to (d t : Int) {l : List Nd} {now : Nat} {x : Nd} (hx : l[now]? = some x) (h : memB x.kids d = true) : stp 4 d t l now = (setPref l now d, d.toNat, 0) := by
  unfold stp; rw [if_neg (by omega), if_pos (by omega), hx]; simp only []; rw [if_neg (by omega), if_neg (by omega), if_pos h]

theorem stp_to0 (d t : Int) {l : List Nd} {now : Nat} {x : Nd} (hx : l[now]? = some x) (h : memB x.kids d = false) : stp 4 d t l now = (l, now, if x.kids = [] then 7 else 1) := by
  unfold stp; rw [if_neg (by omega), if_pos (by omega), hx]; simp only []; rw [if_neg (by omega), if_neg (by omega), if_neg (by rw [h]; decide)]

theorem stp_goto (d t : Int) {l : List Nd} {now : Nat} (h : hasN l.length d = true) : stp 5 d t l now = (gotoP d.toNat l d.toNat, d.toNat, 0) := by
  unfold stp; rw [if_neg (by omega), if_neg (by omega), if_pos h]

theorem stp_goto0 (d t : Int) {l : List Nd} {now : Nat} (h : hasN l.length d = false) : stp 5 d t l now = (l, now, 1) := by
  unfold stp; rw [if_neg (by omega), if_neg (by omega), if_neg (by rw [h]; decide)]

theorem kid_of {l : List Nd} {now : Nat} (h : Inv l now) {x : Nd} (hx : l[now]? = some x) {d : Int} (hm : memB x.kids d = true) :
    ∃ (c : Nat) (y : Nd), d = c ∧ l[c]? = some y ∧ y.parent = (now : Int) ∧ now < c ∧ Lead (setPref l now c) c := by
  have hmem : d ∈ x.kids := by simpa [memB] using hm
  obtain ⟨c, y, rfl, hy, hyp⟩ := ((h.wf.kids now _ hx).2 d).1 hmem
  have hnc : now < c := by
    rcases Nat.eq_zero_or_pos c with e | e
    · subst e; have := (h.wf.root y hy).1; omega
    · obtain ⟨p, q, f1, f2, _, _⟩ := h.wf.par c y hy e; omega
  have e1 := setPref_get (i := now) (v := (c : Int)) hy
  have e2 := setPref_get (i := now) (v := (c : Int)) hx
  rw [if_neg (by omega)] at e1
  rw [if_pos rfl] at e2
  exact ⟨c, y, rfl, hy, hyp, hnc, .step e1 hyp e2 rfl hnc (lead_setPref h.lead now c (Nat.le_refl _))⟩

theorem goto_kid {l : List Nd} {now : Nat} (h : Inv l now) {x : Nd} (hx : l[now]? = some x) {c : Nat} {y : Nd} (hy : l[c]? = some y) (hp : y.parent = (now : Int)) (hc : now < c) : gotoP c l c = setPref l now c := by
  obtain ⟨k, rfl⟩ : ∃ k, c = k + 1 := ⟨c - 1, by omega⟩
  rw [gotoP, hy]
  simp only
  rw [if_neg (by omega), hp]
  show gotoP k (setPref l now _) now = _
  exact lead_goto k (h.wf.setPref hy hp) now (lead_setPref h.lead now _ (Nat.le_refl _))

theorem has_in {n : Nat} {d : Int} (h : hasN n d = true) : ∃ c : Nat, d = c ∧ c < n := by
  simp only [hasN, Bool.and_eq_true, decide_eq_true_eq] at h
  obtain ⟨c, rfl⟩ := Int.eq_ofNat_of_zero_le h.1
  exact ⟨c, rfl, by omega⟩

theorem has_out {n : Nat} {d : Int} (h : hasN n d = false) : d < 0 ∨ (0 ≤ d ∧ (n : Int) ≤ d) := by
  simp only [hasN, Bool.and_eq_false_iff, decide_eq_false_iff_not] at h
  omega

theorem stp_inv {r d t : Int} {l : List Nd} {now : Nat} (h : Inv l now) (h0 : 0 ≤ r) (h6 : r < 6) : Inv (stL r d t l now) (stN r d t l now) ∧ (stL r d t l now).length ≤ l.length + 1 := by
  obtain ⟨x, hx⟩ : ∃ x, l[now]? = some x := ⟨_, List.getElem?_eq_getElem h.lt⟩
  by_cases hr : r < 2
  · simp only [stL, stN, stp_do hr]
    exact ⟨⟨doN_wf h.wf hx t, doN_lead h.wf hx t h.lead, by rw [doN_len hx]; omega⟩, by rw [doN_len hx]; omega⟩
  rcases (show r = 2 ∨ r = 3 ∨ r = 4 ∨ r = 5 by omega) with rfl | rfl | rfl | rfl
  · rcases h.lead.inv with e0 | ⟨p, x, y, e1, e2, e3, e4, e5, e6⟩
    · subst e0
      simp only [stL, stN, stp_undo0 d t hx]; exact ⟨h, by omega⟩
    · simp only [stL, stN, stp_undo d t e1 (by omega) e2]; exact ⟨⟨h.wf, e6, WfT.lt e3⟩, by omega⟩
  · by_cases h0 : x.pref < 0
    · simp only [stL, stN, stp_redo0 d t hx h0]; exact ⟨h, by omega⟩
    · obtain ⟨c, e1, e2, e3⟩ := redo_lead h.wf hx h.lead (by omega)
      simp only [stL, stN, stp_redo d t hx e1]; exact ⟨⟨h.wf, e3, e2⟩, by omega⟩
  · cases hm : memB x.kids d with
    | true =>
      obtain ⟨c, y, rfl, hy, hyp, hnc, hl⟩ := kid_of h hx hm
      simp only [stL, stN, stp_to _ t hx hm]
      have := WfT.lt hy
      exact ⟨⟨h.wf.setPref hy hyp, hl, by rw [setPref_len]; exact this⟩, by rw [setPref_len]; omega⟩
    | false => simp only [stL, stN, stp_to0 d t hx hm]; exact ⟨h, by omega⟩
  · cases hm : hasN l.length d with
    | true =>
      obtain ⟨c, rfl, hc⟩ := has_in hm
      obtain ⟨k1, k2⟩ := gotoP_wf c h.wf c hc
      simp only [stL, stN, stp_goto _ t hm]
      exact ⟨⟨k1, gotoP_lead c h.wf c hc (Nat.le_refl _), by show c < _; rw [show (((c : Int)).toNat) = c from rfl, k2]; exact hc⟩, by rw [show (((c : Int)).toNat) = c from rfl, k2]; omega⟩
    | false => simp only [stL, stN, stp_goto0 d t hm]; exact ⟨h, by omega⟩

/-- what a call leaves of the tree -/
def PSt (S : Nat → Prop) (bt : Nat) (l : List Nd) (now : Nat) (w w' : World) : Prop :=
  ∃ S', TI w' S' bt l now ∧ Fr S w w' ∧ ∀ i, S' i → S i ∨ w.heap.size ≤ i

theorem PSt.same {S : Nat → Prop} {bt : Nat} {l : List Nd} {now : Nat} {w w' : World} (h : TI w' S bt l now) (hf : Fr S w w') : PSt S bt l now w w' := ⟨S, h, hf, fun i hi => .inl hi⟩

theorem do_st (r d t : Int) (hr : r < 2) (S : Nat → Prop) (bt : Nat) (l : List Nd) (now : Nat) (w : World) (ht : TI w S bt l now) (h : Inv l now) (hlen : l.length ≤ 999) :
    Calls Try.prog 30 #[.pointer (some ⟨bt, 0, none⟩), .int .i64 t] w fun e w' => e = .returned (.int .i64 (stC r d t l now)) ∧ PSt S bt (stL r d t l now) (stN r d t l now) w w' := by
  obtain ⟨x, hx⟩ : ∃ x, l[now]? = some x := ⟨_, List.getElem?_eq_getElem h.lt⟩
  have hd := h.wf.dep now _ hx
  have hk := h.wf.kids_len hx
  have hl := h.lt
  simp only [stC, stL, stN, stp_do hr]
  refine (do_any S bt l now t w ht _ hx (by omega) hd.1 (by omega) (by omega)).mono ?_
  rintro e w' ⟨rfl, S', h1, h2, h3⟩
  exact ⟨rfl, S', h1, h2, h3⟩

theorem undo_st (d t : Int) (S : Nat → Prop) (bt : Nat) (l : List Nd) (now : Nat) (w : World) (ht : TI w S bt l now) (h : Inv l now) (hlen : l.length ≤ 999) :
    Calls Try.prog 10 #[.pointer (some ⟨bt, 0, none⟩)] w fun e w' => e = .returned (errV (stC 2 d t l now)) ∧ PSt S bt (stL 2 d t l now) (stN 2 d t l now) w w' := by
  obtain ⟨x, hx⟩ : ∃ x, l[now]? = some x := ⟨_, List.getElem?_eq_getElem h.lt⟩
  rcases h.lead.inv with e0 | ⟨p, x, y, e1, e2, e3, e4, e5, e6⟩
  · subst e0
    simp only [stC, stL, stN, stp_undo0 d t hx]
    refine (undo_root S bt l w ht h.lt).mono ?_
    rintro e w' ⟨rfl, rfl⟩
    exact ⟨rfl, .same ht (Fr.refl _ _)⟩
  · simp only [stC, stL, stN, stp_undo d t e1 (by omega) e2]
    refine (undo_ok S bt l now w ht x e1 (by omega) (by omega)).mono ?_
    rintro e w' ⟨rfl, h1, hf⟩
    rw [e2] at h1
    exact ⟨rfl, .same h1 hf⟩

theorem redo_st (d t : Int) (S : Nat → Prop) (bt : Nat) (l : List Nd) (now : Nat) (w : World) (ht : TI w S bt l now) (h : Inv l now) (hlen : l.length ≤ 999) :
    Calls Try.prog 11 #[.pointer (some ⟨bt, 0, none⟩)] w fun e w' => e = .returned (errV (stC 3 d t l now)) ∧ PSt S bt (stL 3 d t l now) (stN 3 d t l now) w w' := by
  obtain ⟨x, hx⟩ : ∃ x, l[now]? = some x := ⟨_, List.getElem?_eq_getElem h.lt⟩
  by_cases h0 : x.pref < 0
  · simp only [stC, stL, stN, stp_redo0 d t hx h0]
    refine (redo_no S bt l now w ht _ hx (by omega) h0).mono ?_
    rintro e w' ⟨rfl, hb⟩
    exact ⟨rfl, .same (ht.below hb) (.of_below hb)⟩
  · obtain ⟨c, e1, e2, e3⟩ := redo_lead h.wf hx h.lead (by omega)
    simp only [stC, stL, stN, stp_redo d t hx e1]
    refine (redo_ok S bt l now w ht _ hx (by omega) (by omega)).mono ?_
    rintro e w' ⟨rfl, h1, hf⟩
    rw [e1] at h1
    exact ⟨rfl, .same h1 hf⟩

theorem redoto_st (d t : Int) (S : Nat → Prop) (bt : Nat) (l : List Nd) (now : Nat) (w : World) (ht : TI w S bt l now) (h : Inv l now) (hlen : l.length ≤ 999) :
    Calls Try.prog 32 #[.pointer (some ⟨bt, 0, none⟩), .int .i64 d] w fun e w' => e = .returned (errV (stC 4 d t l now)) ∧ PSt S bt (stL 4 d t l now) (stN 4 d t l now) w w' := by
  obtain ⟨x, hx⟩ : ∃ x, l[now]? = some x := ⟨_, List.getElem?_eq_getElem h.lt⟩
  refine (redoto_any S bt l now d w ht h.wf _ hx (by omega)).mono ?_
  rintro e w' ⟨k1, k2⟩
  cases hm : memB x.kids d with
  | true =>
    obtain ⟨rfl, h1, hf⟩ := k1 hm
    obtain ⟨c, y, rfl, hy, hyp, hnc, hl⟩ := kid_of h hx hm
    simp only [stC, stL, stN, stp_to _ t hx hm]
    exact ⟨rfl, .same h1 hf⟩
  | false =>
    obtain ⟨rfl, hb⟩ := k2 hm
    simp only [stC, stL, stN, stp_to0 d t hx hm]
    refine ⟨?_, .same (ht.below hb) (.of_below hb)⟩
    congr 1
    split <;> rfl

theorem goto_st (d t : Int) (S : Nat → Prop) (bt : Nat) (l : List Nd) (now : Nat) (w : World) (ht : TI w S bt l now) (h : Inv l now) (hlen : l.length ≤ 999) :
    Calls Try.prog 25 #[.pointer (some ⟨bt, 0, none⟩), .int .i64 d] w fun e w' => e = .returned (errV (stC 5 d t l now)) ∧ PSt S bt (stL 5 d t l now) (stN 5 d t l now) w w' := by
  have hl := h.lt
  cases hm : hasN l.length d with
  | true =>
    obtain ⟨c, rfl, hc⟩ := has_in hm
    simp only [stC, stL, stN, stp_goto _ t hm]
    refine (goto_ok S bt l now c w ht h.wf (by omega) hc).mono ?_
    rintro e w' ⟨rfl, h1, hf⟩
    exact ⟨rfl, .same h1 hf⟩
  | false =>
    simp only [stC, stL, stN, stp_goto0 d t hm]
    refine (goto_no S bt l now d w ht (by omega) (has_out hm)).mono ?_
    rintro e w' ⟨rfl, rfl⟩
    exact ⟨rfl, .same ht (Fr.refl _ _)⟩

theorem rdo_st (r d t : Int) (hr : r < 2) (T : Nat → Prop) (v : Value) (l : List Nd) (now : Nat) (w : World) (ht : RT w T v l now) (h : Inv l now) (hlen : l.length ≤ 999) (hid : (Lit.int .i64 t).wf = true) :
    Calls Try.prog 35 #[v, .int .i64 t] w fun e w' => ∃ v', e = .returned v' ∧ RPost T (stL r d t l now) (stN r d t l now) w v' w' := by
  obtain ⟨x, hx⟩ : ∃ x, l[now]? = some x := ⟨_, List.getElem?_eq_getElem h.lt⟩
  simp only [stL, stN, stp_do hr]
  exact rdo_rt T v l now t w ht h.wf _ hx h.lead hlen hid

theorem rundo_st (d t : Int) (T : Nat → Prop) (v : Value) (l : List Nd) (now : Nat) (w : World) (ht : RT w T v l now) (h : Inv l now) (hlen : l.length ≤ 999) :
    Calls Try.prog 36 #[v] w fun e w' => ∃ v', e = .returned (.tuple #[v', .int .i64 (stC 2 d t l now)]) ∧ RPost T (stL 2 d t l now) (stN 2 d t l now) w v' w' := by
  obtain ⟨x, hx⟩ : ∃ x, l[now]? = some x := ⟨_, List.getElem?_eq_getElem h.lt⟩
  rcases h.lead.inv with e0 | ⟨p, x, y, e1, e2, e3, e4, e5, e6⟩
  · subst e0
    simp only [stC, stL, stN, stp_undo0 d t hx]
    exact rundo_root T v l w ht
  · simp only [stC, stL, stN, stp_undo d t e1 (by omega) e2]
    have := rundo_ok T v l now p w ht h.wf x e1 (by omega) e2 (WfT.lt e3) (by omega)
    rwa [lead_goto p h.wf p e6] at this

theorem rredo_st (d t : Int) (T : Nat → Prop) (v : Value) (l : List Nd) (now : Nat) (w : World) (ht : RT w T v l now) (h : Inv l now) (hlen : l.length ≤ 999) :
    Calls Try.prog 37 #[v] w fun e w' => ∃ v', e = .returned (.tuple #[v', .int .i64 (stC 3 d t l now)]) ∧ RPost T (stL 3 d t l now) (stN 3 d t l now) w v' w' := by
  obtain ⟨x, hx⟩ : ∃ x, l[now]? = some x := ⟨_, List.getElem?_eq_getElem h.lt⟩
  by_cases h0 : x.pref < 0
  · simp only [stC, stL, stN, stp_redo0 d t hx h0]
    exact rredo_no T v l now w ht _ hx h0
  · obtain ⟨c, e1, e2, e3⟩ := redo_lead h.wf hx h.lead (by omega)
    simp only [stC, stL, stN, stp_redo d t hx e1]
    have := rredo_ok T v l now c w ht h.wf _ hx e1 e2 (by omega)
    rwa [lead_goto c h.wf c e3] at this

theorem rredoto_st (d t : Int) (T : Nat → Prop) (v : Value) (l : List Nd) (now : Nat) (w : World) (ht : RT w T v l now) (h : Inv l now) (hlen : l.length ≤ 999) :
    Calls Try.prog 38 #[v, .int .i64 d] w fun e w' => ∃ v', e = .returned (.tuple #[v', .int .i64 (stC 4 d t l now)]) ∧ RPost T (stL 4 d t l now) (stN 4 d t l now) w v' w' := by
  obtain ⟨x, hx⟩ : ∃ x, l[now]? = some x := ⟨_, List.getElem?_eq_getElem h.lt⟩
  have hn := h.wf.none_ now _ hx
  cases hm : memB x.kids d with
  | true =>
    obtain ⟨c, y, rfl, hy, hyp, hnc, hl⟩ := kid_of h hx hm
    simp only [stC, stL, stN, stp_to _ t hx hm]
    have hne : x.kids ≠ [] := by intro e; rw [e] at hm; simp [memB] at hm
    have h0 : 0 ≤ x.pref := by
      rcases h.wf.pref now _ hx with e | ⟨c, _, e, _⟩
      · exact absurd (hn.1 e) hne
      · omega
    have := rredoto_ok T v l now c w ht _ hx h0 h.wf y hy hyp (by omega)
    rwa [goto_kid h hx hy hyp hnc] at this
  | false =>
    simp only [stC, stL, stN, stp_to0 d t hx hm]
    by_cases hk : x.kids = []
    · rw [if_pos hk]
      exact rredoto_none T v l now d w ht _ hx (by rw [hn.2 hk]; omega)
    · rw [if_neg hk]
      have h0 : 0 ≤ x.pref := by
        rcases h.wf.pref now _ hx with e | ⟨c, _, e, _⟩
        · exact absurd (hn.1 e) hk
        · omega
      refine rredoto_bad T v l now d w ht _ hx h0 (fun p y hp hy hyp => ?_) (by omega)
      have : d ∈ x.kids := ((h.wf.kids now _ hx).2 d).2 ⟨p, y, hp, hy, hyp⟩
      simp [memB, this] at hm

theorem rgoto_st (d t : Int) (T : Nat → Prop) (v : Value) (l : List Nd) (now : Nat) (w : World) (ht : RT w T v l now) (h : Inv l now) (hlen : l.length ≤ 999) (hm : hasN l.length d = true) :
    Calls Try.prog 39 #[v, .int .i64 d] w fun e w' => ∃ v', e = .returned v' ∧ RPost T (stL 5 d t l now) (stN 5 d t l now) w v' w' := by
  obtain ⟨c, rfl, hc⟩ := has_in hm
  simp only [stL, stN, stp_goto _ t hm]
  exact rgo_rt T v l now c w ht h.wf hc (by omega)

theorem is_errV (c : Int) (w : World) : Calls Try.prog 18 #[errV c, .int .i64 1] w fun e w' => e = .returned (.bool (c == 1)) ∧ w = w' := by
  have hb : ((1 : Int) != 0) = true := by decide
  cases hc : (c == 1) with
  | true =>
    go_enter Try.func18, Try.ntmps18
    go_wp2_with fail
    refine (num_errV _ _).mono ?_
    rintro e w' ⟨rfl, rfl⟩
    go_wp2
    go_ret
    exact ⟨rfl, rfl⟩
  | false =>
    go_enter Try.func18, Try.ntmps18
    go_wp2_with fail
    refine (num_errV _ _).mono ?_
    rintro e w' ⟨rfl, rfl⟩
    go_wp2
    go_ret
    exact ⟨rfl, rfl⟩

end Go.Proofs.Ytjajlnhobchkgaa
