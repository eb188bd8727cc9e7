/-
  The tokens of a well-formed tree are parsed as that tree.
-/
import Derived.Test.YtpabngicbfcdkaaFmP
namespace Go.Proofs.Ytpabngicbfcdkaa
open Go.RowKit
set_option linter.unusedVariables false
set_option linter.unusedSimpArgs false

theorem sing {ts : List Tk} {x : TkK} (h : ts.map (·.1) = [x]) : ∃ i, ts = [(x, i)] := by
  cases ts with
  | nil => cases h
  | cons y q =>
    simp only [List.map_cons, List.cons.injEq, List.map_eq_nil_iff] at h
    obtain ⟨rfl, rfl⟩ := h
    exact ⟨y.2, rfl⟩
theorem duo {ts : List Tk} {x y : TkK} (h : ts.map (·.1) = [x, y]) : ∃ i j, ts = [(x, i), (y, j)] := by
  cases ts with
  | nil => cases h
  | cons z q =>
    simp only [List.map_cons, List.cons.injEq] at h
    obtain ⟨rfl, h⟩ := h
    obtain ⟨j, rfl⟩ := sing h
    exact ⟨z.2, j, rfl⟩
theorem own_pos (t : Ex) : 1 ≤ own t ∧ own t ≤ 9 := by
  unfold own
  have := (lvR_lt (ns t.text)).1
  repeat' split
  all_goals omega
theorem wI_eq (t : Ex) : wI t = comb t.kind (ns t.text) t.num (wIs t.args) := by cases t; rfl
theorem Ex.ext' {t u : Ex} (h1 : t.kind = u.kind) (h2 : t.text = u.text) (h3 : t.num = u.num) (h4 : t.args = u.args) : t = u := by
  cases t; cases u; simp only [Ex.kind, Ex.text, Ex.num, Ex.args] at *; subst h1; subst h2; subst h3; subst h4; rfl
theorem kid_lt {t u : Ex} (hu : u ∈ t.args) : u.size < t.size := by
  obtain ⟨i, hi⟩ := List.getElem?_of_mem hu
  have := Ex.size_kid hi
  have := t.size_eq; omega

/-- what a well-formed tree looks like -/
inductive Look (t : Ex) : Prop
  | num (n : Nat) (h : t = .mk 1 (bs []) n []) (hn : n ≤ 1152921504606846976)
  | str (l : List Nat) (h : t = .mk 2 (bs l) 0 []) (h8 : ∀ c ∈ l, c < 256)
  | ref (l : List Nat) (h : t = .mk 3 (bs l) 0 []) (h8 : ∀ c ∈ l, c < 256) (hl : l ≠ [] ∧ l.all refB = true)
  | bin (v : Nat) (l : List Nat) (a b : Ex) (h : t = callE l [a, b]) (hv : 1 ≤ v ∧ v ≤ 7 ∧ v ≠ 3) (hl : l ∈ lvlO v)
  | neg (a : Ex) (h : t = callE wNot [a])
  | cut (a b c : Ex) (h : t = callE wCut [a, b, c])
  | app (l : List Nat) (us : List Ex) (h : t = callE l us) (hn : isNm l = true) (hl : ¬ (l = wCut ∧ us.length = 3))
theorem lvlO_8 {v : Nat} {l : List Nat} (hv : 1 ≤ v ∧ v ≤ 7 ∧ v ≠ 3) (hl : l ∈ lvlO v) : ∀ c ∈ l, c < 256 := by
  have : v = 1 ∨ v = 2 ∨ v = 4 ∨ v = 5 ∨ v = 6 ∨ v = 7 := by omega
  rcases this with rfl | rfl | rfl | rfl | rfl | rfl
  all_goals
    simp [lvlO] at hl
    first
      | (subst hl; decide)
      | (rcases hl with rfl | rfl <;> decide)
      | (rcases hl with rfl | rfl | rfl | rfl <;> decide)
theorem isNm_8 {l : List Nat} (h : isNm l = true) : ∀ c ∈ l, c < 256 := by
  intro c hc
  simp only [isNm, Bool.and_eq_true, List.all_eq_true] at h
  have := h.2 c hc
  simp [letB] at this; omega
theorem look {t : Ex} (h : Well t) : Look t := by
  have hn := h.node
  have hb := bs_ns t.text
  unfold wellN at hn
  split at hn
  · rename_i hk
    simp only [Bool.and_eq_true, beq_iff_eq, decide_eq_true_eq] at hn
    obtain ⟨⟨⟨h1, h2⟩, h3⟩, h4⟩ := hn
    exact .num t.num.toNat (Ex.ext' hk (by rw [← hb, h1]; rfl) (by show t.num = ((t.num.toNat : Nat) : Int); omega) (List.eq_nil_of_length_eq_zero h4)) (by omega)
  split at hn
  · rename_i hk
    simp only [Bool.and_eq_true, beq_iff_eq] at hn
    exact .str (ns t.text) (Ex.ext' hk hb.symm hn.1 (List.eq_nil_of_length_eq_zero hn.2)) (ns_lt _)
  split at hn
  · rename_i hk
    simp only [Bool.and_eq_true, beq_iff_eq, Bool.not_eq_true', beq_eq_false_iff_ne] at hn
    exact .ref (ns t.text) (Ex.ext' hk hb.symm hn.1.2 (List.eq_nil_of_length_eq_zero hn.2)) (ns_lt _) ⟨hn.1.1.2, hn.1.1.1⟩
  split at hn
  · rename_i hk
    split at hn
    · rename_i hv
      simp only [Bool.and_eq_true, beq_iff_eq] at hn
      have hlt := lvR_lt (ns t.text)
      match ha : t.args, hn.2 with
      | [a, b], _ => exact .bin (lvR (ns t.text)) (ns t.text) a b (Ex.ext' hk hb.symm hn.1 ha) ⟨hv, hlt.1, hlt.2⟩ ((lvR_iff _ hv hlt.1 hlt.2 _).1 rfl)
    split at hn
    · rename_i hw
      simp only [Bool.and_eq_true, beq_iff_eq] at hn
      match ha : t.args, hn.2 with
      | [a], _ => exact .neg a (Ex.ext' hk (by show t.text = bs wNot; rw [← hw]; exact hb.symm) hn.1 ha)
    · rename_i hv hw
      simp only [Bool.and_eq_true, beq_iff_eq, Bool.not_eq_true', beq_eq_false_iff_ne] at hn
      by_cases hc : ns t.text = wCut ∧ t.args.length = 3
      · match ha : t.args, hc.2 with
        | [a, b, c], _ => exact .cut a b c (Ex.ext' hk (by show t.text = bs wCut; rw [← hc.1]; exact hb.symm) hn.1.1 ha)
      · refine .app (ns t.text) t.args (Ex.ext' hk hb.symm hn.1.1 rfl) ?_ hc
        have e1 : ns t.text ≠ [97, 110, 100] := fun e => hv (by rw [e]; decide)
        have e2 : ns t.text ≠ [111, 114] := fun e => hv (by rw [e]; decide)
        simp [isNm, e1, e2, hw, hn.1.2]
        simpa using hn.2
  · cases hn

/-- the looks' levels and tokens -/
theorem ns_bs' {l : List Nat} (h : ∀ c ∈ l, c < 256) : ns (bs l) = l := by
  unfold ns
  rw [← Go.ByteArray.toList_eq, bs_toList, List.map_map]
  conv => rhs; rw [← List.map_id l]
  exact List.map_congr_left fun c hc => by have := h c hc; simp; omega
theorem own_bin {v : Nat} {l : List Nat} {a b : Ex} (hv : 1 ≤ v ∧ v ≤ 7 ∧ v ≠ 3) (hl : l ∈ lvlO v) : own (callE l [a, b]) = v ∧ wI (callE l [a, b]) = br (lftL v) (own a, wI a) ++ [none, some (lvlK v, l, 0), none] ++ br (v + 1) (own b, wI b) := by
  have e := (lvR_iff v hv.1 hv.2.1 hv.2.2 l).2 hl
  have h8 := ns_bs' (lvlO_8 hv hl)
  constructor
  · unfold own; simp only [callE, Ex.kind, Ex.text, h8, e]; simp; omega
  · rw [wI_eq]
    simp only [callE, Ex.kind, Ex.text, Ex.args, h8, wIs, comb, e]
    rw [if_neg (by decide), if_neg (by decide), if_neg (by decide), if_pos (by omega)]
theorem own_neg (a : Ex) : own (callE wNot [a]) = 3 ∧ wI (callE wNot [a]) = [some (4, wNot, 0), none] ++ br 3 (own a, wI a) := by
  have h8 : ns (bs wNot) = wNot := ns_bs' (by decide)
  constructor
  · unfold own; simp only [callE, Ex.kind, Ex.text, h8]; rw [if_neg (by decide), if_neg (by decide), if_pos trivial]
  · rw [wI_eq]
    simp only [callE, Ex.kind, Ex.text, Ex.args, h8, wIs, comb]
    rw [if_neg (by decide), if_neg (by decide), if_neg (by decide), if_neg (by decide), if_pos trivial]
theorem own_cut (a b c : Ex) : own (callE wCut [a, b, c]) = 8 ∧ wI (callE wCut [a, b, c]) = br 8 (own a, wI a) ++ [sgT [91]] ++ wI b ++ [sgT [58]] ++ wI c ++ [sgT [93]] := by
  have h8 : ns (bs wCut) = wCut := ns_bs' (by decide)
  constructor
  · unfold own; simp only [callE, Ex.kind, Ex.text, Ex.args, h8]; rw [if_neg (by decide), if_neg (by decide), if_neg (by decide), if_pos ⟨trivial, rfl⟩]
  · rw [wI_eq]
    simp only [callE, Ex.kind, Ex.text, Ex.args, h8, wIs, comb]
    rw [if_neg (by decide), if_neg (by decide), if_neg (by decide), if_neg (by decide), if_neg (by decide), if_pos ⟨trivial, rfl⟩]
theorem isNm_lv {l : List Nat} (h : isNm l = true) : lvR l = 0 ∧ l ≠ wNot ∧ l ≠ [] := by
  simp only [isNm, Bool.and_eq_true, Bool.not_eq_true', Bool.or_eq_false_iff, beq_eq_false_iff_ne] at h
  obtain ⟨⟨⟨⟨h1, h2⟩, h3⟩, h4⟩, h5⟩ := h
  refine ⟨?_, h3, h4⟩
  unfold lvR
  have hs : ∀ x : List Nat, x.all letB = false → l ≠ x := fun x hx e => by rw [e, hx] at h5; cases h5
  rw [if_neg h2, if_neg h1, if_neg (by
    rintro (e | e | e | e)
    · exact hs _ (by decide) e
    · exact hs _ (by decide) e
    · exact hs _ (by decide) e
    · exact hs _ (by decide) e), if_neg (hs _ (by decide)), if_neg (by
    rintro (e | e)
    · exact hs _ (by decide) e
    · exact hs _ (by decide) e), if_neg (hs _ (by decide))]
theorem own_app {l : List Nat} {us : List Ex} (hn : isNm l = true) (hl : ¬ (l = wCut ∧ us.length = 3)) : own (callE l us) = 9 ∧ wI (callE l us) = [some (4, l, 0), sgT [40]] ++ joinI (wIs us) ++ [sgT [41]] := by
  have h8 := ns_bs' (isNm_8 hn)
  obtain ⟨h0, h1, h2⟩ := isNm_lv hn
  constructor
  · unfold own; simp only [callE, Ex.kind, Ex.text, Ex.args, h8, h0]; simp [h1]; exact fun a b => hl ⟨a, b⟩
  · rw [wI_eq]
    simp only [callE, Ex.kind, Ex.text, Ex.args, h8, comb, h0, wIs_len]
    rw [if_neg (by decide), if_neg (by decide), if_neg (by decide), if_neg (by decide), if_neg h1, if_neg hl]

/-- how the tokens begin -/
def HeadOk (w : List TkK) (lv : Nat) : Prop := ∃ h q, w = h :: q ∧ ¬ (h.1 = 5 ∧ h.2.1 = [41]) ∧ (3 < lv → ¬ (h.1 = 4 ∧ h.2.1 = wNot))
theorem head_br {t : Ex} (lv : Nat) (h : HeadOk (tkI (wI t)) (own t)) (X : List It) : HeadOk (tkI (br lv (own t, wI t) ++ X)) lv := by
  unfold br
  split
  · exact ⟨(5, [40], 0), _, rfl, by simp, fun _ => by simp⟩
  · rename_i hlt
    obtain ⟨h1, q, e, p1, p2⟩ := h
    exact ⟨h1, q ++ tkI X, by rw [tkI_app, e]; rfl, p1, fun h3 => p2 (by simp at hlt; omega)⟩
theorem head_ok : ∀ (m : Nat) (t : Ex), t.size ≤ m → Well t → HeadOk (tkI (wI t)) (own t)
  | 0, t, h, _ => absurd t.size_pos (by omega)
  | m + 1, t, hm, hw => by
    have ih : ∀ u ∈ t.args, HeadOk (tkI (wI u)) (own u) := fun u hu => head_ok m u (by have := kid_lt hu; omega) (hw.kid hu)
    rcases look hw with ⟨n, rfl, hn⟩ | ⟨l, rfl, h8⟩ | ⟨l, rfl, h8, hl⟩ | ⟨v, l, a, b, rfl, hv, hl⟩ | ⟨a, rfl⟩ | ⟨a, b, c, rfl⟩ | ⟨l, us, rfl, hn, hl⟩
    · exact ⟨_, _, rfl, by simp, fun _ => by simp⟩
    · exact ⟨_, _, rfl, by simp, fun _ => by simp⟩
    · exact ⟨_, _, rfl, by simp, fun _ => by simp⟩
    · obtain ⟨h1, h2⟩ := own_bin (a := a) (b := b) hv hl
      rw [h1, h2, List.append_assoc]
      have h := head_br (lftL v) (ih a (by simp [callE, Ex.args])) ([none, some (lvlK v, l, 0), none] ++ br (v + 1) (own b, wI b))
      obtain ⟨x, q, e, p1, p2⟩ := h
      exact ⟨x, q, e, p1, fun h => p2 (by unfold lftL; split <;> omega)⟩
    · obtain ⟨h1, h2⟩ := own_neg a
      rw [h1, h2]
      exact ⟨(4, wNot, 0), _, rfl, by simp, fun h => by omega⟩
    · obtain ⟨h1, h2⟩ := own_cut a b c
      rw [h1, h2]
      have h := head_br 8 (ih a (by simp [callE, Ex.args])) ([sgT [91]] ++ (wI b ++ ([sgT [58]] ++ (wI c ++ [sgT [93]]))))
      simpa only [List.append_assoc] using h
    · obtain ⟨h1, h2⟩ := own_app hn hl
      rw [h1, h2]
      exact ⟨(4, l, 0), _, rfl, by simp, fun _ => by simp [(isNm_lv hn).2.1]⟩
theorem isT_head {w : List TkK} {lv : Nat} (h : HeadOk w lv) {ts r : List Tk} (he : ts.map (·.1) = w) : isT 5 [[41]] (ts ++ r) = false ∧ (3 < lv → isT 4 [wNot] (ts ++ r) = false) := by
  obtain ⟨x, q, rfl, p1, p2⟩ := h
  cases ts with
  | nil => cases he
  | cons t ts =>
    simp only [List.map_cons, List.cons.injEq] at he
    rw [← he.1] at p1 p2
    constructor
    · simp only [List.cons_append, isT, List.contains_cons, List.contains_nil, Bool.or_false]
      rw [Bool.and_eq_false_iff]
      by_cases e : t.1.1 = 5
      · refine .inr ?_
        rw [beq_eq_false_iff_ne]; exact fun e2 => p1 ⟨e, e2⟩
      · exact .inl (by rw [beq_eq_false_iff_ne]; exact e)
    · intro h3
      simp only [List.cons_append, isT, List.contains_cons, List.contains_nil, Bool.or_false]
      rw [Bool.and_eq_false_iff]
      by_cases e : t.1.1 = 4
      · refine .inr ?_
        rw [beq_eq_false_iff_ne]; exact fun e2 => p2 h3 ⟨e, e2⟩
      · exact .inl (by rw [beq_eq_false_iff_ne]; exact e)

structure FM (t : Ex) : Prop where
  A : ∀ (n : Nat) (ts r : List Tk), 1 ≤ n → n ≤ own t → ts.map (·.1) = tkI (wI t) → stop n r → runJ (.lev n (ts ++ r)) = some (t, r)
  B : ∀ (n : Nat) (ts r : List Tk), 1 ≤ n → n ≤ 7 → n ≠ 3 → n ≠ 4 → n ≤ own t → ts.map (·.1) = tkI (wI t) → stop (n + 1) r → runJ (.lev n (ts ++ r)) = runJ (.loop n t r)
  C : ∀ (ts r : List Tk), 8 ≤ own t → ts.map (·.1) = tkI (wI t) → runJ (.lev 8 (ts ++ r)) = runJ (.post t r)

/-- in brackets -/
theorem in_br {t : Ex} (h : FM t) {ts r : List Tk} {w : List TkK} (hw : w = tkI (wI t)) (he : ts.map (·.1) = (5, [40], 0) :: (w ++ [(5, [41], 0)])) : runJ (.lev 9 (ts ++ r)) = some (t, r) := by
  subst hw
  cases ts with
  | nil => cases he
  | cons x q =>
    simp only [List.map_cons, List.cons.injEq] at he
    obtain ⟨q1, q2, rfl, e1, e2⟩ := List.map_eq_append_iff.1 he.2
    obtain ⟨i, rfl⟩ := sing e2
    have hA := h.A 1 q1 (((5, [41], 0), i) :: r) (Nat.le_refl _) (own_pos t).1 e1 (stop_sign (.inl rfl))
    rw [runJ_prim]
    simp only [List.cons_append, List.append_assoc, List.nil_append]
    unfold primJ
    simp only [he.1]
    rw [if_neg (by decide), if_neg (by decide), if_neg (by decide), if_neg (by decide), if_pos (by simp), hA]
    simp only [Option.bind_some]
    have : isT 5 [[41]] (((5, [41], 0), i) :: r) = true := by simp [isT]
    rw [this]; rfl
theorem br_A {t : Ex} (h : FM t) (hh : HeadOk (tkI (wI t)) (own t)) {lv : Nat} {ts r : List Tk} (h1 : 1 ≤ lv) (h9 : lv ≤ 9) (he : ts.map (·.1) = tkI (br lv (own t, wI t))) (hs : stop lv r) : runJ (.lev lv (ts ++ r)) = some (t, r) := by
  unfold br at he
  split at he
  · have hb := in_br h (ts := ts) (r := r) rfl (by rw [he]; unfold sgT; rw [tkI_cons, tkI_app]; rfl)
    refine climb (9 - lv) 9 lv (by omega) h1 (Nat.le_refl _) hb hs (fun _ _ => ?_)
    cases ts with
    | nil => unfold sgT at he; rw [tkI_cons] at he; cases he
    | cons x q =>
      unfold sgT at he; rw [tkI_cons] at he
      simp only [List.map_cons, List.cons.injEq] at he
      simp [isT, he.1]
  · rename_i hlt
    exact h.A lv ts r h1 (by simp at hlt; omega) he hs
theorem br_B {t : Ex} (h : FM t) (hh : HeadOk (tkI (wI t)) (own t)) {n : Nat} {ts r : List Tk} (h1 : 1 ≤ n) (h7 : n ≤ 7) (h3 : n ≠ 3) (h4 : n ≠ 4) (he : ts.map (·.1) = tkI (br n (own t, wI t))) (hs : stop (n + 1) r) : runJ (.lev n (ts ++ r)) = runJ (.loop n t r) := by
  by_cases hlt : own t < n
  · have := br_A h hh (lv := n + 1) (ts := ts) (r := r) (by omega) (by omega) (by unfold br at he ⊢; rw [if_pos (by simp; omega)]; rwa [if_pos (by simpa using hlt)] at he) hs
    rw [runJ_lev h3 h4 (by omega), this]; rfl
  · unfold br at he
    rw [if_neg (by simpa using hlt)] at he
    exact h.B n ts r h1 h7 h3 h4 (by omega) he hs
theorem br_C {t : Ex} (h : FM t) (hh : HeadOk (tkI (wI t)) (own t)) {ts r : List Tk} (he : ts.map (·.1) = tkI (br 8 (own t, wI t))) : runJ (.lev 8 (ts ++ r)) = runJ (.post t r) := by
  by_cases hlt : own t < 8
  · unfold br at he
    rw [if_pos (by simpa using hlt)] at he
    have hb := in_br h (ts := ts) (r := r) rfl (by rw [he]; unfold sgT; rw [tkI_cons, tkI_app]; rfl)
    rw [runJ_pst, hb]; rfl
  · unfold br at he
    rw [if_neg (by simpa using hlt)] at he
    exact h.C ts r (by omega) he

/-- arguments -/
theorem args_fm : ∀ (us : List Ex) (name : List Nat) (acc : List Ex) (ts r : List Tk) (y : Tk), us ≠ [] → (∀ u ∈ us, FM u) → ts.map (·.1) = tkI (joinI (wIs us)) → y.1 = (5, [41], 0) → runJ (.args name acc (ts ++ y :: r)) = some (callE name (acc ++ us), r)
  | [], _, _, _, _, _, h, _, _, _ => absurd rfl h
  | [u], name, acc, ts, r, y, _, hf, he, hy => by
    obtain ⟨⟨k, l, n⟩, i⟩ := y
    cases hy
    have hA := (hf u (by simp)).A 1 ts (((5, [41], 0), i) :: r) (Nat.le_refl _) (own_pos u).1 he (stop_sign (.inl rfl))
    rw [runJ_args]; unfold argsJ; rw [hA]
    simp [isT]
  | u :: v :: us, name, acc, ts, r, y, _, hf, he, hy => by
    simp only [wIs, joinI, tkI_app] at he
    obtain ⟨ts12, ts3, rfl, e12, e3⟩ := List.map_eq_append_iff.1 he
    obtain ⟨ts1, ts2, rfl, e1, e2⟩ := List.map_eq_append_iff.1 e12
    obtain ⟨i, rfl⟩ := sing (x := (5, [44], 0)) e2
    have hA := (hf u (by simp)).A 1 ts1 (((5, [44], 0), i) :: (ts3 ++ y :: r)) (Nat.le_refl _) (own_pos u).1 e1 (stop_sign (.inr (.inl rfl)))
    have ih := args_fm (v :: us) name (acc ++ [u]) ts3 r y (by simp) (fun w hw => hf w (List.mem_cons_of_mem _ hw)) e3 hy
    rw [runJ_args]; unfold argsJ
    simp only [List.append_assoc, List.cons_append, List.nil_append] at hA ih ⊢
    rw [hA]
    simp only [Option.bind_some]
    rw [show isT 5 [[44]] (((5, [44], 0), i) :: (ts3 ++ y :: r)) = true by simp [isT], if_pos rfl]
    simpa using ih

theorem fm_of_prim {t : Ex} (h9 : own t = 9) (hh : HeadOk (tkI (wI t)) (own t)) (hp : ∀ ts r : List Tk, ts.map (·.1) = tkI (wI t) → runJ (.lev 9 (ts ++ r)) = some (t, r)) : FM t := by
  have hA : ∀ (n : Nat) (ts r : List Tk), 1 ≤ n → n ≤ 9 → ts.map (·.1) = tkI (wI t) → stop n r → runJ (.lev n (ts ++ r)) = some (t, r) := fun n ts r h1 hn he hs => climb (9 - n) 9 n (by omega) h1 (Nat.le_refl _) (hp ts r he) hs (fun _ _ => (isT_head hh he).2 (by omega))
  refine ⟨fun n ts r h1 hn he hs => hA n ts r h1 (by omega) he hs, fun n ts r h1 h7 h3 h4 hn he hs => ?_, fun ts r h8 he => ?_⟩
  · rw [runJ_lev h3 h4 (by omega), hA (n + 1) ts r (by omega) (by omega) he hs]; rfl
  · rw [runJ_pst, hp ts r he]; rfl

set_option maxHeartbeats 1000000 in
theorem fm_all : ∀ (m : Nat) (t : Ex), t.size ≤ m → Well t → FM t
  | 0, t, h, _ => absurd t.size_pos (by omega)
  | m + 1, t, hm, hw => by
    have hh := head_ok t.size t (Nat.le_refl _) hw
    have ih : ∀ u ∈ t.args, FM u := fun u hu => fm_all m u (by have := kid_lt hu; omega) (hw.kid hu)
    have ihh : ∀ u ∈ t.args, HeadOk (tkI (wI u)) (own u) := fun u hu => head_ok u.size u (Nat.le_refl _) (hw.kid hu)
    rcases look hw with ⟨n, rfl, hn⟩ | ⟨l, rfl, h8⟩ | ⟨l, rfl, h8, hl⟩ | ⟨v, l, a, b, rfl, hv, hl⟩ | ⟨a, rfl⟩ | ⟨a, b, c, rfl⟩ | ⟨l, us, rfl, hn, hl⟩
    · refine fm_of_prim rfl hh (fun ts r he => ?_)
      have h := he
      simp only [wI, comb, wIs] at h
      rw [if_pos trivial] at h
      obtain ⟨i, rfl⟩ := sing (x := (1, [], n)) h
      rw [runJ_prim]; unfold primJ
      simp only [List.cons_append, List.nil_append]
      rw [if_pos trivial]
    · refine fm_of_prim rfl hh (fun ts r he => ?_)
      have h := he
      simp only [wI, comb, wIs, ns_bs' h8] at h
      rw [if_neg (by decide), if_pos trivial] at h
      obtain ⟨i, rfl⟩ := sing (x := (2, l, 0)) h
      rw [runJ_prim]; unfold primJ
      simp only [List.cons_append, List.nil_append]
      rw [if_neg (by decide), if_pos trivial]
    · refine fm_of_prim rfl hh (fun ts r he => ?_)
      have h := he
      simp only [wI, comb, wIs, ns_bs' h8] at h
      rw [if_neg (by decide), if_neg (by decide), if_pos trivial] at h
      obtain ⟨i, rfl⟩ := sing (x := (3, l, 0)) h
      rw [runJ_prim]; unfold primJ
      simp only [List.cons_append, List.nil_append]
      rw [if_neg (by decide), if_neg (by decide), if_pos trivial]
    · -- two operands
      obtain ⟨ho, hwi⟩ := own_bin (a := a) (b := b) hv hl
      have fa := ih a (by simp [callE, Ex.args])
      have fb := ih b (by simp [callE, Ex.args])
      have ha := ihh a (by simp [callE, Ex.args])
      have hb := ihh b (by simp [callE, Ex.args])
      have split3 : ∀ ts : List Tk, ts.map (·.1) = tkI (wI (callE l [a, b])) → ∃ t1 i t2, ts = t1 ++ ((lvlK v, l, 0), i) :: t2 ∧ t1.map (·.1) = tkI (br (lftL v) (own a, wI a)) ∧ t2.map (·.1) = tkI (br (v + 1) (own b, wI b)) := by
        intro ts he
        rw [hwi, tkI_app, tkI_app] at he
        obtain ⟨t12, t3, rfl, e12, e3⟩ := List.map_eq_append_iff.1 he
        obtain ⟨t1, t2, rfl, e1, e2⟩ := List.map_eq_append_iff.1 e12
        obtain ⟨i, rfl⟩ := sing (x := (lvlK v, l, 0)) e2
        exact ⟨t1, i, t3, by simp, e1, e3⟩
      by_cases e4 : v = 4
      · subst e4
        have hA4 : ∀ ts r : List Tk, ts.map (·.1) = tkI (wI (callE l [a, b])) → stop 5 r → runJ (.lev 4 (ts ++ r)) = some (callE l [a, b], r) := by
          intro ts r he hs
          obtain ⟨t1, i, t2, rfl, e1, e2⟩ := split3 ts he
          have h1 := br_A fa ha (lv := 5) (ts := t1) (r := ((lvlK 4, l, 0), i) :: (t2 ++ r)) (by omega) (by omega) e1 (stop_op (v := 4) (by omega) (by omega) (by omega) hl)
          have h2 := br_A fb hb (lv := 5) (ts := t2) (r := r) (by omega) (by omega) e2 hs
          rw [runJ_cmp]; unfold cmpJ
          simp only [List.append_assoc, List.cons_append] at h1 ⊢
          rw [h1]
          simp only [Option.bind_some]
          rw [show isT 5 (lvlO 4) (((lvlK 4, l, 0), i) :: (t2 ++ r)) = true by simp [isT, lvlK, hl], if_pos rfl, List.tail_cons, h2]
          rfl
        refine ⟨fun n ts r h1 hn he hs => ?_, fun n ts r h1 h7 h3 h4 hn he hs => ?_, fun ts r h8 he => by rw [ho] at h8; omega⟩
        · rw [ho] at hn
          exact climb (4 - n) 4 n (by omega) h1 (by omega) (hA4 ts r he (hs.mono (by omega))) hs (fun _ _ => (isT_head hh he).2 (by rw [ho]; omega))
        · rw [ho] at hn
          have h5 := climb (4 - (n + 1)) 4 (n + 1) (by omega) (by omega) (by omega) (hA4 ts r he (hs.mono (by omega))) hs (fun _ _ => (isT_head hh he).2 (by rw [ho]; omega))
          rw [runJ_lev h3 h4 (by omega), h5]; rfl
      · have hlft : lftL v = v := by unfold lftL; rw [if_neg e4]
        have hB : ∀ ts r : List Tk, ts.map (·.1) = tkI (wI (callE l [a, b])) → stop (v + 1) r → runJ (.lev v (ts ++ r)) = runJ (.loop v (callE l [a, b]) r) := by
          intro ts r he hs
          obtain ⟨t1, i, t2, rfl, e1, e2⟩ := split3 ts he
          rw [hlft] at e1
          have h1 := br_B fa ha (n := v) (ts := t1) (r := ((lvlK v, l, 0), i) :: (t2 ++ r)) hv.1 hv.2.1 hv.2.2 e4 e1 (stop_op hv.1 hv.2.1 hv.2.2 hl)
          have h2 := br_A fb hb (lv := v + 1) (ts := t2) (r := r) (by omega) (by omega) e2 hs
          simp only [List.append_assoc, List.cons_append] at h1 ⊢
          rw [h1, runJ_loop v hv.2.1]
          unfold loopJ
          rw [show isT (lvlK v) (lvlO v) (((lvlK v, l, 0), i) :: (t2 ++ r)) = true by simp [isT, hl], if_pos rfl, List.tail_cons, h2]
          rfl
        have hA : ∀ (n : Nat) (ts r : List Tk), 1 ≤ n → n ≤ v → ts.map (·.1) = tkI (wI (callE l [a, b])) → stop n r → runJ (.lev n (ts ++ r)) = some (callE l [a, b], r) := by
          intro n ts r h1 hn he hs
          have hV : runJ (.lev v (ts ++ r)) = some (callE l [a, b], r) := by
            rw [hB ts r he (hs.mono (by omega)), runJ_loop v hv.2.1]
            unfold loopJ
            rw [(hs.mono hn).1 v (Nat.le_refl _) hv.2.1 hv.2.2]; rfl
          exact climb (v - n) v n (by omega) h1 (by omega) hV hs (fun _ _ => (isT_head hh he).2 (by rw [ho]; omega))
        refine ⟨fun n ts r h1 hn he hs => hA n ts r h1 (by rw [ho] at hn; exact hn) he hs, fun n ts r h1 h7 h3 h4 hn he hs => ?_, fun ts r h8 he => by rw [ho] at h8; omega⟩
        rw [ho] at hn
        by_cases hnv : n = v
        · subst hnv; exact hB ts r he hs
        · rw [runJ_lev h3 h4 (by omega), hA (n + 1) ts r (by omega) (by omega) he hs]; rfl
    · -- not
      obtain ⟨ho, hwi⟩ := own_neg a
      have fa := ih a (by simp [callE, Ex.args])
      have ha := ihh a (by simp [callE, Ex.args])
      have hA3 : ∀ ts r : List Tk, ts.map (·.1) = tkI (wI (callE wNot [a])) → stop 3 r → runJ (.lev 3 (ts ++ r)) = some (callE wNot [a], r) := by
        intro ts r he hs
        rw [hwi, tkI_app] at he
        obtain ⟨t1, t2, rfl, e1, e2⟩ := List.map_eq_append_iff.1 he
        obtain ⟨i, rfl⟩ := sing (x := (4, wNot, 0)) e1
        have h2 := br_A fa ha (lv := 3) (ts := t2) (r := r) (by omega) (by omega) e2 hs
        rw [runJ_not]; unfold notJ
        simp only [List.cons_append, List.nil_append]
        rw [show isT 4 [wNot] (((4, wNot, 0), i) :: (t2 ++ r)) = true by simp [isT], if_pos rfl, List.tail_cons, h2]
        rfl
      refine ⟨fun n ts r h1 hn he hs => ?_, fun n ts r h1 h7 h3 h4 hn he hs => ?_, fun ts r h8 he => by rw [ho] at h8; omega⟩
      · rw [ho] at hn
        exact climb (3 - n) 3 n (by omega) h1 (by omega) (hA3 ts r he (hs.mono hn)) hs (fun _ h => by omega)
      · rw [ho] at hn
        have h5 := climb (3 - (n + 1)) 3 (n + 1) (by omega) (by omega) (by omega) (hA3 ts r he (hs.mono (by omega))) hs (fun _ h => by omega)
        rw [runJ_lev h3 h4 (by omega), h5]; rfl
    · -- cut
      obtain ⟨ho, hwi⟩ := own_cut a b c
      have fa := ih a (by simp [callE, Ex.args])
      have fb := ih b (by simp [callE, Ex.args])
      have fc := ih c (by simp [callE, Ex.args])
      have ha := ihh a (by simp [callE, Ex.args])
      have hC : ∀ ts r : List Tk, ts.map (·.1) = tkI (wI (callE wCut [a, b, c])) → runJ (.lev 8 (ts ++ r)) = runJ (.post (callE wCut [a, b, c]) r) := by
        intro ts r he
        rw [hwi] at he
        simp only [tkI_app] at he
        obtain ⟨t5, t6, rfl, e5, e6⟩ := List.map_eq_append_iff.1 he
        obtain ⟨t4, tc, rfl, e4, ec⟩ := List.map_eq_append_iff.1 e5
        obtain ⟨t3, tb, rfl, e3, eb⟩ := List.map_eq_append_iff.1 e4
        obtain ⟨t2, tb', rfl, e2, eb'⟩ := List.map_eq_append_iff.1 e3
        obtain ⟨ta, tx, rfl, ea, ex⟩ := List.map_eq_append_iff.1 e2
        obtain ⟨i1, rfl⟩ := sing (x := (5, [91], 0)) ex
        obtain ⟨i2, rfl⟩ := sing (x := (5, [58], 0)) eb
        obtain ⟨i3, rfl⟩ := sing (x := (5, [93], 0)) e6
        have h1 := br_C fa ha (ts := ta) (r := ((5, [91], 0), i1) :: (tb' ++ ((5, [58], 0), i2) :: (tc ++ ((5, [93], 0), i3) :: r))) ea
        have h2 := fb.A 1 tb' (((5, [58], 0), i2) :: (tc ++ ((5, [93], 0), i3) :: r)) (by omega) (own_pos b).1 eb' (stop_sign (.inr (.inr (.inl rfl))))
        have h3 := fc.A 1 tc (((5, [93], 0), i3) :: r) (by omega) (own_pos c).1 ec (stop_sign (.inr (.inr (.inr rfl))))
        simp only [List.append_assoc, List.cons_append, List.nil_append] at h1 h2 h3 ⊢
        rw [h1, runJ_post]
        unfold postJ
        rw [show isT 5 [[91]] (((5, [91], 0), i1) :: (tb' ++ ((5, [58], 0), i2) :: (tc ++ ((5, [93], 0), i3) :: r))) = true by simp [isT], if_pos rfl, List.tail_cons, h2]
        simp only [Option.bind_some]
        rw [show isT 5 [[58]] (((5, [58], 0), i2) :: (tc ++ ((5, [93], 0), i3) :: r)) = true by simp [isT], if_pos rfl, List.tail_cons, h3]
        simp only [Option.bind_some]
        rw [show isT 5 [[93]] (((5, [93], 0), i3) :: r) = true by simp [isT], if_pos rfl, List.tail_cons]
      have hA : ∀ (n : Nat) (ts r : List Tk), 1 ≤ n → n ≤ 8 → ts.map (·.1) = tkI (wI (callE wCut [a, b, c])) → stop n r → runJ (.lev n (ts ++ r)) = some (callE wCut [a, b, c], r) := by
        intro n ts r h1 hn he hs
        have h8 : runJ (.lev 8 (ts ++ r)) = some (callE wCut [a, b, c], r) := by
          rw [hC ts r he, runJ_post]
          unfold postJ
          rw [hs.2 (by omega)]; rfl
        exact climb (8 - n) 8 n (by omega) h1 (by omega) h8 hs (fun _ _ => (isT_head hh he).2 (by rw [ho]; omega))
      refine ⟨fun n ts r h1 hn he hs => hA n ts r h1 (by rw [ho] at hn; exact hn) he hs, fun n ts r h1 h7 h3 h4 hn he hs => ?_, fun ts r h8 he => hC ts r he⟩
      rw [runJ_lev h3 h4 (by omega), hA (n + 1) ts r (by omega) (by omega) he hs]; rfl
    · -- a call
      obtain ⟨ho, hwi⟩ := own_app (us := us) hn hl
      refine fm_of_prim ho hh (fun ts r he => ?_)
      rw [hwi, tkI_app, tkI_app] at he
      obtain ⟨t12, t3, rfl, e12, e3⟩ := List.map_eq_append_iff.1 he
      obtain ⟨t1, t2, rfl, e1, e2⟩ := List.map_eq_append_iff.1 e12
      · obtain ⟨i1, i2, rfl⟩ := duo (x := (4, l, 0)) (y := (5, [40], 0)) e1
        obtain ⟨i3, rfl⟩ := sing (x := (5, [41], 0)) e3
        rw [runJ_prim]
        unfold primJ
        simp only [List.cons_append, List.nil_append, List.append_assoc]
        rw [if_neg (by decide), if_neg (by decide), if_neg (by decide), if_pos trivial, hn]
        rw [show isT 5 [[40]] (((5, [40], 0), i2) :: (t2 ++ ((5, [41], 0), i3) :: r)) = true by simp [isT]]
        simp only [Bool.and_self, if_true]
        cases us with
        | nil =>
          have : t2 = [] := by
            have h := e2
            simp only [wIs, joinI] at h
            exact List.map_eq_nil_iff.1 h
          subst this
          simp [isT]
        | cons u us =>
          have hnc : isT 5 [[41]] (t2 ++ ((5, [41], 0), i3) :: r) = false := by
            have hu := ihh u (by simp [callE, Ex.args])
            have hj : ∃ X, joinI (wIs (u :: us)) = wI u ++ X := by
              cases us with
              | nil => exact ⟨[], by simp [wIs, joinI]⟩
              | cons v us => exact ⟨[sgT [44], none] ++ joinI (wIs (v :: us)), by simp only [wIs, joinI, List.append_assoc]⟩
            obtain ⟨X, hX⟩ := hj
            rw [hX] at e2
            have := head_br 1 hu X
            unfold br at this
            rw [if_neg (by have := (own_pos u).1; simp; omega)] at this
            exact (isT_head this e2).1
          have := args_fm (u :: us) l [] t2 r ((5, [41], 0), i3) (by simp) (fun w hw => ih w (by simpa [callE, Ex.args] using hw)) e2 rfl
          rw [if_neg (by rw [List.tail_cons, hnc]; simp), List.tail_cons]
          simpa using this

/-- the tokens of a well-formed tree, at whatever places, are parsed as that tree -/
theorem run_fm {t : Ex} (hw : Well t) {ts : List Tk} (he : ts.map (·.1) = tkI (wI t)) : runJ (.lev 1 ts) = some (t, []) := by
  have := (fm_all t.size t (Nat.le_refl _) hw).A 1 ts [] (Nat.le_refl _) (own_pos t).1 he (stop_nil 1)
  simpa using this

end Go.Proofs.Ytpabngicbfcdkaa
