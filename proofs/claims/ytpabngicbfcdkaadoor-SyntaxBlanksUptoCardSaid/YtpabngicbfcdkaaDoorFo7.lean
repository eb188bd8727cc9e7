/-
  Joined texts: The tokens of a well-formed tree are parsed as that tree. · The text of a formatted tree is divided into its tokens. · A well-formed tree's items follow one another as they may; what Parse makes of its text. · The writer's state; put. · (*writer).quote: the walk. · (*writer).call and (*writer).write: the walks.
-/
import Derived.Test.YtpabngicbfcdkaaDoorFo4
import Derived.Test.YtpabngicbfcdkaaDoorFo6
import Derived.Lib.AppendStr
import Derived.Lib.SmallJoins
import Derived.Deep.RegionHeld3
import Derived.Test.YtpabngicbfcdkaaDoorFo3
import Derived.Lib.LaidTab
import Derived.Lib.AppendIntMem

/- The tokens of a well-formed tree are parsed as that tree. -/
namespace Go.Proofs.YtpabngicbfcdkaaDoor
open Go.RowKit
set_option linter.unusedVariables false
set_option linter.unusedSimpArgs false

theorem sing {ts : List Tk} {x : TkK} (h : ts.map (·.1) = [x]) : ∃ i, ts = [(x, i)] := by
  cases ts with
  | nil => cases h
  | cons y q =>
    simp only [List.map_cons, List.cons.injEq, List.map_eq_nil_iff] at h
    obtain ⟨rfl, rfl⟩ := h
    exact ⟨y.2, rfl⟩
theorem duo {ts : List Tk} {x y : TkK} (h : ts.map (·.1) = [x, y]) : ∃ i j, ts = [(x, i), (y, j)] := by
  cases ts with
  | nil => cases h
  | cons z q =>
    simp only [List.map_cons, List.cons.injEq] at h
    obtain ⟨rfl, h⟩ := h
    obtain ⟨j, rfl⟩ := sing h
    exact ⟨z.2, j, rfl⟩
theorem own_pos (t : Ex) : 1 ≤ own t ∧ own t ≤ 9 := by
  unfold own
  have := (lvR_lt (ns t.text)).1
  repeat' split
  all_goals omega
theorem wI_eq (t : Ex) : wI t = comb t.kind (ns t.text) t.num (wIs t.args) := by cases t; rfl
theorem Ex.ext' {t u : Ex} (h1 : t.kind = u.kind) (h2 : t.text = u.text) (h3 : t.num = u.num) (h4 : t.args = u.args) : t = u := by
  cases t; cases u; simp only [Ex.kind, Ex.text, Ex.num, Ex.args] at *; subst h1; subst h2; subst h3; subst h4; rfl
theorem kid_lt {t u : Ex} (hu : u ∈ t.args) : u.size < t.size := by
  obtain ⟨i, hi⟩ := List.getElem?_of_mem hu
  have := Ex.size_kid hi
  have := t.size_eq; omega

/-- what a well-formed tree looks like -/
inductive Look (t : Ex) : Prop
  | num (n : Nat) (h : t = .mk 1 (bs []) n []) (hn : n ≤ 1152921504606846976)
  | str (l : List Nat) (h : t = .mk 2 (bs l) 0 []) (h8 : ∀ c ∈ l, c < 256)
  | ref (l : List Nat) (h : t = .mk 3 (bs l) 0 []) (h8 : ∀ c ∈ l, c < 256) (hl : l ≠ [] ∧ l.all refB = true)
  | bin (v : Nat) (l : List Nat) (a b : Ex) (h : t = callE l [a, b]) (hv : 1 ≤ v ∧ v ≤ 7 ∧ v ≠ 3) (hl : l ∈ lvlO v)
  | neg (a : Ex) (h : t = callE wNot [a])
  | cut (a b c : Ex) (h : t = callE wCut [a, b, c])
  | app (l : List Nat) (us : List Ex) (h : t = callE l us) (hn : isNm l = true) (hl : ¬ (l = wCut ∧ us.length = 3))
theorem lvlO_8 {v : Nat} {l : List Nat} (hv : 1 ≤ v ∧ v ≤ 7 ∧ v ≠ 3) (hl : l ∈ lvlO v) : ∀ c ∈ l, c < 256 := by
  have : v = 1 ∨ v = 2 ∨ v = 4 ∨ v = 5 ∨ v = 6 ∨ v = 7 := by omega
  rcases this with rfl | rfl | rfl | rfl | rfl | rfl
  all_goals
    simp [lvlO] at hl
    first
      | (subst hl; decide)
      | (rcases hl with rfl | rfl <;> decide)
      | (rcases hl with rfl | rfl | rfl | rfl <;> decide)
theorem isNm_8 {l : List Nat} (h : isNm l = true) : ∀ c ∈ l, c < 256 := by
  intro c hc
  simp only [isNm, Bool.and_eq_true, List.all_eq_true] at h
  have := h.2 c hc
  simp [letB] at this; omega
theorem look {t : Ex} (h : Well t) : Look t := by
  have hn := h.node
  have hb := bs_ns t.text
  unfold wellN at hn
  split at hn
  · rename_i hk
    simp only [Bool.and_eq_true, beq_iff_eq, decide_eq_true_eq] at hn
    obtain ⟨⟨⟨h1, h2⟩, h3⟩, h4⟩ := hn
    exact .num t.num.toNat (Ex.ext' hk (by rw [← hb, h1]; rfl) (by show t.num = ((t.num.toNat : Nat) : Int); omega) (List.eq_nil_of_length_eq_zero h4)) (by omega)
  split at hn
  · rename_i hk
    simp only [Bool.and_eq_true, beq_iff_eq] at hn
    exact .str (ns t.text) (Ex.ext' hk hb.symm hn.1 (List.eq_nil_of_length_eq_zero hn.2)) (ns_lt _)
  split at hn
  · rename_i hk
    simp only [Bool.and_eq_true, beq_iff_eq, Bool.not_eq_true', beq_eq_false_iff_ne] at hn
    exact .ref (ns t.text) (Ex.ext' hk hb.symm hn.1.2 (List.eq_nil_of_length_eq_zero hn.2)) (ns_lt _) ⟨hn.1.1.2, hn.1.1.1⟩
  split at hn
  · rename_i hk
    split at hn
    · rename_i hv
      simp only [Bool.and_eq_true, beq_iff_eq] at hn
      have hlt := lvR_lt (ns t.text)
      match ha : t.args, hn.2 with
      | [a, b], _ => exact .bin (lvR (ns t.text)) (ns t.text) a b (Ex.ext' hk hb.symm hn.1 ha) ⟨hv, hlt.1, hlt.2⟩ ((lvR_iff _ hv hlt.1 hlt.2 _).1 rfl)
    split at hn
    · rename_i hw
      simp only [Bool.and_eq_true, beq_iff_eq] at hn
      match ha : t.args, hn.2 with
      | [a], _ => exact .neg a (Ex.ext' hk (by show t.text = bs wNot; rw [← hw]; exact hb.symm) hn.1 ha)
    · rename_i hv hw
      simp only [Bool.and_eq_true, beq_iff_eq, Bool.not_eq_true', beq_eq_false_iff_ne] at hn
      by_cases hc : ns t.text = wCut ∧ t.args.length = 3
      · match ha : t.args, hc.2 with
        | [a, b, c], _ => exact .cut a b c (Ex.ext' hk (by show t.text = bs wCut; rw [← hc.1]; exact hb.symm) hn.1.1 ha)
      · refine .app (ns t.text) t.args (Ex.ext' hk hb.symm hn.1.1 rfl) ?_ hc
        have e1 : ns t.text ≠ [97, 110, 100] := fun e => hv (by rw [e]; decide)
        have e2 : ns t.text ≠ [111, 114] := fun e => hv (by rw [e]; decide)
        simp [isNm, e1, e2, hw, hn.1.2]
        simpa using hn.2
  · cases hn

/-- the looks' levels and tokens -/
theorem ns_bs' {l : List Nat} (h : ∀ c ∈ l, c < 256) : ns (bs l) = l := by
  unfold ns
  rw [← Go.ByteArray.toList_eq, bs_toList, List.map_map]
  conv => rhs; rw [← List.map_id l]
  exact List.map_congr_left fun c hc => by have := h c hc; simp; omega
theorem own_bin {v : Nat} {l : List Nat} {a b : Ex} (hv : 1 ≤ v ∧ v ≤ 7 ∧ v ≠ 3) (hl : l ∈ lvlO v) : own (callE l [a, b]) = v ∧ wI (callE l [a, b]) = br (lftL v) (own a, wI a) ++ [none, some (lvlK v, l, 0), none] ++ br (v + 1) (own b, wI b) := by
  have e := (lvR_iff v hv.1 hv.2.1 hv.2.2 l).2 hl
  have h8 := ns_bs' (lvlO_8 hv hl)
  constructor
  · unfold own; simp only [callE, Ex.kind, Ex.text, h8, e]; simp; omega
  · rw [wI_eq]
    simp only [callE, Ex.kind, Ex.text, Ex.args, h8, wIs, comb, e]
    rw [if_neg (by decide), if_neg (by decide), if_neg (by decide), if_pos (by omega)]
theorem own_neg (a : Ex) : own (callE wNot [a]) = 3 ∧ wI (callE wNot [a]) = [some (4, wNot, 0), none] ++ br 3 (own a, wI a) := by
  have h8 : ns (bs wNot) = wNot := ns_bs' (by decide)
  constructor
  · unfold own; simp only [callE, Ex.kind, Ex.text, h8]; rw [if_neg (by decide), if_neg (by decide), if_pos trivial]
  · rw [wI_eq]
    simp only [callE, Ex.kind, Ex.text, Ex.args, h8, wIs, comb]
    rw [if_neg (by decide), if_neg (by decide), if_neg (by decide), if_neg (by decide), if_pos trivial]
theorem own_cut (a b c : Ex) : own (callE wCut [a, b, c]) = 8 ∧ wI (callE wCut [a, b, c]) = br 8 (own a, wI a) ++ [sgT [91]] ++ wI b ++ [sgT [58]] ++ wI c ++ [sgT [93]] := by
  have h8 : ns (bs wCut) = wCut := ns_bs' (by decide)
  constructor
  · unfold own; simp only [callE, Ex.kind, Ex.text, Ex.args, h8]; rw [if_neg (by decide), if_neg (by decide), if_neg (by decide), if_pos ⟨trivial, rfl⟩]
  · rw [wI_eq]
    simp only [callE, Ex.kind, Ex.text, Ex.args, h8, wIs, comb]
    rw [if_neg (by decide), if_neg (by decide), if_neg (by decide), if_neg (by decide), if_neg (by decide), if_pos ⟨trivial, rfl⟩]
theorem isNm_lv {l : List Nat} (h : isNm l = true) : lvR l = 0 ∧ l ≠ wNot ∧ l ≠ [] := by
  simp only [isNm, Bool.and_eq_true, Bool.not_eq_true', Bool.or_eq_false_iff, beq_eq_false_iff_ne] at h
  obtain ⟨⟨⟨⟨h1, h2⟩, h3⟩, h4⟩, h5⟩ := h
  refine ⟨?_, h3, h4⟩
  unfold lvR
  have hs : ∀ x : List Nat, x.all letB = false → l ≠ x := fun x hx e => by rw [e, hx] at h5; cases h5
  rw [if_neg h2, if_neg h1, if_neg (by
    rintro (e | e | e | e)
    · exact hs _ (by decide) e
    · exact hs _ (by decide) e
    · exact hs _ (by decide) e
    · exact hs _ (by decide) e), if_neg (hs _ (by decide)), if_neg (by
    rintro (e | e)
    · exact hs _ (by decide) e
    · exact hs _ (by decide) e), if_neg (hs _ (by decide))]
theorem own_app {l : List Nat} {us : List Ex} (hn : isNm l = true) (hl : ¬ (l = wCut ∧ us.length = 3)) : own (callE l us) = 9 ∧ wI (callE l us) = [some (4, l, 0), sgT [40]] ++ joinI (wIs us) ++ [sgT [41]] := by
  have h8 := ns_bs' (isNm_8 hn)
  obtain ⟨h0, h1, h2⟩ := isNm_lv hn
  constructor
  · unfold own; simp only [callE, Ex.kind, Ex.text, Ex.args, h8, h0]; simp [h1]; exact fun a b => hl ⟨a, b⟩
  · rw [wI_eq]
    simp only [callE, Ex.kind, Ex.text, Ex.args, h8, comb, h0, wIs_len]
    rw [if_neg (by decide), if_neg (by decide), if_neg (by decide), if_neg (by decide), if_neg h1, if_neg hl]

/-- how the tokens begin -/
def HeadOk (w : List TkK) (lv : Nat) : Prop := ∃ h q, w = h :: q ∧ ¬ (h.1 = 5 ∧ h.2.1 = [41]) ∧ (3 < lv → ¬ (h.1 = 4 ∧ h.2.1 = wNot))
theorem head_br {t : Ex} (lv : Nat) (h : HeadOk (tkI (wI t)) (own t)) (X : List It) : HeadOk (tkI (br lv (own t, wI t) ++ X)) lv := by
  unfold br
  split
  · exact ⟨(5, [40], 0), _, rfl, by simp, fun _ => by simp⟩
  · rename_i hlt
    obtain ⟨h1, q, e, p1, p2⟩ := h
    exact ⟨h1, q ++ tkI X, by rw [tkI_app, e]; rfl, p1, fun h3 => p2 (by simp at hlt; omega)⟩
theorem head_ok : ∀ (m : Nat) (t : Ex), t.size ≤ m → Well t → HeadOk (tkI (wI t)) (own t)
  | 0, t, h, _ => absurd t.size_pos (by omega)
  | m + 1, t, hm, hw => by
    have ih : ∀ u ∈ t.args, HeadOk (tkI (wI u)) (own u) := fun u hu => head_ok m u (by have := kid_lt hu; omega) (hw.kid hu)
    rcases look hw with ⟨n, rfl, hn⟩ | ⟨l, rfl, h8⟩ | ⟨l, rfl, h8, hl⟩ | ⟨v, l, a, b, rfl, hv, hl⟩ | ⟨a, rfl⟩ | ⟨a, b, c, rfl⟩ | ⟨l, us, rfl, hn, hl⟩
    · exact ⟨_, _, rfl, by simp, fun _ => by simp⟩
    · exact ⟨_, _, rfl, by simp, fun _ => by simp⟩
    · exact ⟨_, _, rfl, by simp, fun _ => by simp⟩
    · obtain ⟨h1, h2⟩ := own_bin (a := a) (b := b) hv hl
      rw [h1, h2, List.append_assoc]
      have h := head_br (lftL v) (ih a (by simp [callE, Ex.args])) ([none, some (lvlK v, l, 0), none] ++ br (v + 1) (own b, wI b))
      obtain ⟨x, q, e, p1, p2⟩ := h
      exact ⟨x, q, e, p1, fun h => p2 (by unfold lftL; split <;> omega)⟩
    · obtain ⟨h1, h2⟩ := own_neg a
      rw [h1, h2]
      exact ⟨(4, wNot, 0), _, rfl, by simp, fun h => by omega⟩
    · obtain ⟨h1, h2⟩ := own_cut a b c
      rw [h1, h2]
      have h := head_br 8 (ih a (by simp [callE, Ex.args])) ([sgT [91]] ++ (wI b ++ ([sgT [58]] ++ (wI c ++ [sgT [93]]))))
      simpa only [List.append_assoc] using h
    · obtain ⟨h1, h2⟩ := own_app hn hl
      rw [h1, h2]
      exact ⟨(4, l, 0), _, rfl, by simp, fun _ => by simp [(isNm_lv hn).2.1]⟩
theorem isT_head {w : List TkK} {lv : Nat} (h : HeadOk w lv) {ts r : List Tk} (he : ts.map (·.1) = w) : isT 5 [[41]] (ts ++ r) = false ∧ (3 < lv → isT 4 [wNot] (ts ++ r) = false) := by
  obtain ⟨x, q, rfl, p1, p2⟩ := h
  cases ts with
  | nil => cases he
  | cons t ts =>
    simp only [List.map_cons, List.cons.injEq] at he
    rw [← he.1] at p1 p2
    constructor
    · simp only [List.cons_append, isT, List.contains_cons, List.contains_nil, Bool.or_false]
      rw [Bool.and_eq_false_iff]
      by_cases e : t.1.1 = 5
      · refine .inr ?_
        rw [beq_eq_false_iff_ne]; exact fun e2 => p1 ⟨e, e2⟩
      · exact .inl (by rw [beq_eq_false_iff_ne]; exact e)
    · intro h3
      simp only [List.cons_append, isT, List.contains_cons, List.contains_nil, Bool.or_false]
      rw [Bool.and_eq_false_iff]
      by_cases e : t.1.1 = 4
      · refine .inr ?_
        rw [beq_eq_false_iff_ne]; exact fun e2 => p2 h3 ⟨e, e2⟩
      · exact .inl (by rw [beq_eq_false_iff_ne]; exact e)

structure FM (t : Ex) : Prop where
  A : ∀ (n : Nat) (ts r : List Tk), 1 ≤ n → n ≤ own t → ts.map (·.1) = tkI (wI t) → stop n r → runJ (.lev n (ts ++ r)) = some (t, r)
  B : ∀ (n : Nat) (ts r : List Tk), 1 ≤ n → n ≤ 7 → n ≠ 3 → n ≠ 4 → n ≤ own t → ts.map (·.1) = tkI (wI t) → stop (n + 1) r → runJ (.lev n (ts ++ r)) = runJ (.loop n t r)
  C : ∀ (ts r : List Tk), 8 ≤ own t → ts.map (·.1) = tkI (wI t) → runJ (.lev 8 (ts ++ r)) = runJ (.post t r)

/-- in brackets -/
theorem in_br {t : Ex} (h : FM t) {ts r : List Tk} {w : List TkK} (hw : w = tkI (wI t)) (he : ts.map (·.1) = (5, [40], 0) :: (w ++ [(5, [41], 0)])) : runJ (.lev 9 (ts ++ r)) = some (t, r) := by
  subst hw
  cases ts with
  | nil => cases he
  | cons x q =>
    simp only [List.map_cons, List.cons.injEq] at he
    obtain ⟨q1, q2, rfl, e1, e2⟩ := List.map_eq_append_iff.1 he.2
    obtain ⟨i, rfl⟩ := sing e2
    have hA := h.A 1 q1 (((5, [41], 0), i) :: r) (Nat.le_refl _) (own_pos t).1 e1 (stop_sign (.inl rfl))
    rw [runJ_prim]
    simp only [List.cons_append, List.append_assoc, List.nil_append]
    unfold primJ
    simp only [he.1]
    rw [if_neg (by decide), if_neg (by decide), if_neg (by decide), if_neg (by decide), if_pos (by simp), hA]
    simp only [Option.bind_some]
    have : isT 5 [[41]] (((5, [41], 0), i) :: r) = true := by simp [isT]
    rw [this]; rfl
theorem br_A {t : Ex} (h : FM t) (hh : HeadOk (tkI (wI t)) (own t)) {lv : Nat} {ts r : List Tk} (h1 : 1 ≤ lv) (h9 : lv ≤ 9) (he : ts.map (·.1) = tkI (br lv (own t, wI t))) (hs : stop lv r) : runJ (.lev lv (ts ++ r)) = some (t, r) := by
  unfold br at he
  split at he
  · have hb := in_br h (ts := ts) (r := r) rfl (by rw [he]; unfold sgT; rw [tkI_cons, tkI_app]; rfl)
    refine climb (9 - lv) 9 lv (by omega) h1 (Nat.le_refl _) hb hs (fun _ _ => ?_)
    cases ts with
    | nil => unfold sgT at he; rw [tkI_cons] at he; cases he
    | cons x q =>
      unfold sgT at he; rw [tkI_cons] at he
      simp only [List.map_cons, List.cons.injEq] at he
      simp [isT, he.1]
  · rename_i hlt
    exact h.A lv ts r h1 (by simp at hlt; omega) he hs
theorem br_B {t : Ex} (h : FM t) (hh : HeadOk (tkI (wI t)) (own t)) {n : Nat} {ts r : List Tk} (h1 : 1 ≤ n) (h7 : n ≤ 7) (h3 : n ≠ 3) (h4 : n ≠ 4) (he : ts.map (·.1) = tkI (br n (own t, wI t))) (hs : stop (n + 1) r) : runJ (.lev n (ts ++ r)) = runJ (.loop n t r) := by
  by_cases hlt : own t < n
  · have := br_A h hh (lv := n + 1) (ts := ts) (r := r) (by omega) (by omega) (by unfold br at he ⊢; rw [if_pos (by simp; omega)]; rwa [if_pos (by simpa using hlt)] at he) hs
    rw [runJ_lev h3 h4 (by omega), this]; rfl
  · unfold br at he
    rw [if_neg (by simpa using hlt)] at he
    exact h.B n ts r h1 h7 h3 h4 (by omega) he hs
theorem br_C {t : Ex} (h : FM t) (hh : HeadOk (tkI (wI t)) (own t)) {ts r : List Tk} (he : ts.map (·.1) = tkI (br 8 (own t, wI t))) : runJ (.lev 8 (ts ++ r)) = runJ (.post t r) := by
  by_cases hlt : own t < 8
  · unfold br at he
    rw [if_pos (by simpa using hlt)] at he
    have hb := in_br h (ts := ts) (r := r) rfl (by rw [he]; unfold sgT; rw [tkI_cons, tkI_app]; rfl)
    rw [runJ_pst, hb]; rfl
  · unfold br at he
    rw [if_neg (by simpa using hlt)] at he
    exact h.C ts r (by omega) he

/-- arguments -/
theorem args_fm : ∀ (us : List Ex) (name : List Nat) (acc : List Ex) (ts r : List Tk) (y : Tk), us ≠ [] → (∀ u ∈ us, FM u) → ts.map (·.1) = tkI (joinI (wIs us)) → y.1 = (5, [41], 0) → runJ (.args name acc (ts ++ y :: r)) = some (callE name (acc ++ us), r)
  | [], _, _, _, _, _, h, _, _, _ => absurd rfl h
  | [u], name, acc, ts, r, y, _, hf, he, hy => by
    obtain ⟨⟨k, l, n⟩, i⟩ := y
    cases hy
    have hA := (hf u (by simp)).A 1 ts (((5, [41], 0), i) :: r) (Nat.le_refl _) (own_pos u).1 he (stop_sign (.inl rfl))
    rw [runJ_args]; unfold argsJ; rw [hA]
    simp [isT]
  | u :: v :: us, name, acc, ts, r, y, _, hf, he, hy => by
    simp only [wIs, joinI, tkI_app] at he
    obtain ⟨ts12, ts3, rfl, e12, e3⟩ := List.map_eq_append_iff.1 he
    obtain ⟨ts1, ts2, rfl, e1, e2⟩ := List.map_eq_append_iff.1 e12
    obtain ⟨i, rfl⟩ := sing (x := (5, [44], 0)) e2
    have hA := (hf u (by simp)).A 1 ts1 (((5, [44], 0), i) :: (ts3 ++ y :: r)) (Nat.le_refl _) (own_pos u).1 e1 (stop_sign (.inr (.inl rfl)))
    have ih := args_fm (v :: us) name (acc ++ [u]) ts3 r y (by simp) (fun w hw => hf w (List.mem_cons_of_mem _ hw)) e3 hy
    rw [runJ_args]; unfold argsJ
    simp only [List.append_assoc, List.cons_append, List.nil_append] at hA ih ⊢
    rw [hA]
    simp only [Option.bind_some]
    rw [show isT 5 [[44]] (((5, [44], 0), i) :: (ts3 ++ y :: r)) = true by simp [isT], if_pos rfl]
    simpa using ih

theorem fm_of_prim {t : Ex} (h9 : own t = 9) (hh : HeadOk (tkI (wI t)) (own t)) (hp : ∀ ts r : List Tk, ts.map (·.1) = tkI (wI t) → runJ (.lev 9 (ts ++ r)) = some (t, r)) : FM t := by
  have hA : ∀ (n : Nat) (ts r : List Tk), 1 ≤ n → n ≤ 9 → ts.map (·.1) = tkI (wI t) → stop n r → runJ (.lev n (ts ++ r)) = some (t, r) := fun n ts r h1 hn he hs => climb (9 - n) 9 n (by omega) h1 (Nat.le_refl _) (hp ts r he) hs (fun _ _ => (isT_head hh he).2 (by omega))
  refine ⟨fun n ts r h1 hn he hs => hA n ts r h1 (by omega) he hs, fun n ts r h1 h7 h3 h4 hn he hs => ?_, fun ts r h8 he => ?_⟩
  · rw [runJ_lev h3 h4 (by omega), hA (n + 1) ts r (by omega) (by omega) he hs]; rfl
  · rw [runJ_pst, hp ts r he]; rfl

set_option maxHeartbeats 1000000 in
theorem fm_all : ∀ (m : Nat) (t : Ex), t.size ≤ m → Well t → FM t
  | 0, t, h, _ => absurd t.size_pos (by omega)
  | m + 1, t, hm, hw => by
    have hh := head_ok t.size t (Nat.le_refl _) hw
    have ih : ∀ u ∈ t.args, FM u := fun u hu => fm_all m u (by have := kid_lt hu; omega) (hw.kid hu)
    have ihh : ∀ u ∈ t.args, HeadOk (tkI (wI u)) (own u) := fun u hu => head_ok u.size u (Nat.le_refl _) (hw.kid hu)
    rcases look hw with ⟨n, rfl, hn⟩ | ⟨l, rfl, h8⟩ | ⟨l, rfl, h8, hl⟩ | ⟨v, l, a, b, rfl, hv, hl⟩ | ⟨a, rfl⟩ | ⟨a, b, c, rfl⟩ | ⟨l, us, rfl, hn, hl⟩
    · refine fm_of_prim rfl hh (fun ts r he => ?_)
      have h := he
      simp only [wI, comb, wIs] at h
      rw [if_pos trivial] at h
      obtain ⟨i, rfl⟩ := sing (x := (1, [], n)) h
      rw [runJ_prim]; unfold primJ
      simp only [List.cons_append, List.nil_append]
      rw [if_pos trivial]
    · refine fm_of_prim rfl hh (fun ts r he => ?_)
      have h := he
      simp only [wI, comb, wIs, ns_bs' h8] at h
      rw [if_neg (by decide), if_pos trivial] at h
      obtain ⟨i, rfl⟩ := sing (x := (2, l, 0)) h
      rw [runJ_prim]; unfold primJ
      simp only [List.cons_append, List.nil_append]
      rw [if_neg (by decide), if_pos trivial]
    · refine fm_of_prim rfl hh (fun ts r he => ?_)
      have h := he
      simp only [wI, comb, wIs, ns_bs' h8] at h
      rw [if_neg (by decide), if_neg (by decide), if_pos trivial] at h
      obtain ⟨i, rfl⟩ := sing (x := (3, l, 0)) h
      rw [runJ_prim]; unfold primJ
      simp only [List.cons_append, List.nil_append]
      rw [if_neg (by decide), if_neg (by decide), if_pos trivial]
    · -- two operands
      obtain ⟨ho, hwi⟩ := own_bin (a := a) (b := b) hv hl
      have fa := ih a (by simp [callE, Ex.args])
      have fb := ih b (by simp [callE, Ex.args])
      have ha := ihh a (by simp [callE, Ex.args])
      have hb := ihh b (by simp [callE, Ex.args])
      have split3 : ∀ ts : List Tk, ts.map (·.1) = tkI (wI (callE l [a, b])) → ∃ t1 i t2, ts = t1 ++ ((lvlK v, l, 0), i) :: t2 ∧ t1.map (·.1) = tkI (br (lftL v) (own a, wI a)) ∧ t2.map (·.1) = tkI (br (v + 1) (own b, wI b)) := by
        intro ts he
        rw [hwi, tkI_app, tkI_app] at he
        obtain ⟨t12, t3, rfl, e12, e3⟩ := List.map_eq_append_iff.1 he
        obtain ⟨t1, t2, rfl, e1, e2⟩ := List.map_eq_append_iff.1 e12
        obtain ⟨i, rfl⟩ := sing (x := (lvlK v, l, 0)) e2
        exact ⟨t1, i, t3, by simp, e1, e3⟩
      by_cases e4 : v = 4
      · subst e4
        have hA4 : ∀ ts r : List Tk, ts.map (·.1) = tkI (wI (callE l [a, b])) → stop 5 r → runJ (.lev 4 (ts ++ r)) = some (callE l [a, b], r) := by
          intro ts r he hs
          obtain ⟨t1, i, t2, rfl, e1, e2⟩ := split3 ts he
          have h1 := br_A fa ha (lv := 5) (ts := t1) (r := ((lvlK 4, l, 0), i) :: (t2 ++ r)) (by omega) (by omega) e1 (stop_op (v := 4) (by omega) (by omega) (by omega) hl)
          have h2 := br_A fb hb (lv := 5) (ts := t2) (r := r) (by omega) (by omega) e2 hs
          rw [runJ_cmp]; unfold cmpJ
          simp only [List.append_assoc, List.cons_append] at h1 ⊢
          rw [h1]
          simp only [Option.bind_some]
          rw [show isT 5 (lvlO 4) (((lvlK 4, l, 0), i) :: (t2 ++ r)) = true by simp [isT, lvlK, hl], if_pos rfl, List.tail_cons, h2]
          rfl
        refine ⟨fun n ts r h1 hn he hs => ?_, fun n ts r h1 h7 h3 h4 hn he hs => ?_, fun ts r h8 he => by rw [ho] at h8; omega⟩
        · rw [ho] at hn
          exact climb (4 - n) 4 n (by omega) h1 (by omega) (hA4 ts r he (hs.mono (by omega))) hs (fun _ _ => (isT_head hh he).2 (by rw [ho]; omega))
        · rw [ho] at hn
          have h5 := climb (4 - (n + 1)) 4 (n + 1) (by omega) (by omega) (by omega) (hA4 ts r he (hs.mono (by omega))) hs (fun _ _ => (isT_head hh he).2 (by rw [ho]; omega))
          rw [runJ_lev h3 h4 (by omega), h5]; rfl
      · have hlft : lftL v = v := by unfold lftL; rw [if_neg e4]
        have hB : ∀ ts r : List Tk, ts.map (·.1) = tkI (wI (callE l [a, b])) → stop (v + 1) r → runJ (.lev v (ts ++ r)) = runJ (.loop v (callE l [a, b]) r) := by
          intro ts r he hs
          obtain ⟨t1, i, t2, rfl, e1, e2⟩ := split3 ts he
          rw [hlft] at e1
          have h1 := br_B fa ha (n := v) (ts := t1) (r := ((lvlK v, l, 0), i) :: (t2 ++ r)) hv.1 hv.2.1 hv.2.2 e4 e1 (stop_op hv.1 hv.2.1 hv.2.2 hl)
          have h2 := br_A fb hb (lv := v + 1) (ts := t2) (r := r) (by omega) (by omega) e2 hs
          simp only [List.append_assoc, List.cons_append] at h1 ⊢
          rw [h1, runJ_loop v hv.2.1]
          unfold loopJ
          rw [show isT (lvlK v) (lvlO v) (((lvlK v, l, 0), i) :: (t2 ++ r)) = true by simp [isT, hl], if_pos rfl, List.tail_cons, h2]
          rfl
        have hA : ∀ (n : Nat) (ts r : List Tk), 1 ≤ n → n ≤ v → ts.map (·.1) = tkI (wI (callE l [a, b])) → stop n r → runJ (.lev n (ts ++ r)) = some (callE l [a, b], r) := by
          intro n ts r h1 hn he hs
          have hV : runJ (.lev v (ts ++ r)) = some (callE l [a, b], r) := by
            rw [hB ts r he (hs.mono (by omega)), runJ_loop v hv.2.1]
            unfold loopJ
            rw [(hs.mono hn).1 v (Nat.le_refl _) hv.2.1 hv.2.2]; rfl
          exact climb (v - n) v n (by omega) h1 (by omega) hV hs (fun _ _ => (isT_head hh he).2 (by rw [ho]; omega))
        refine ⟨fun n ts r h1 hn he hs => hA n ts r h1 (by rw [ho] at hn; exact hn) he hs, fun n ts r h1 h7 h3 h4 hn he hs => ?_, fun ts r h8 he => by rw [ho] at h8; omega⟩
        rw [ho] at hn
        by_cases hnv : n = v
        · subst hnv; exact hB ts r he hs
        · rw [runJ_lev h3 h4 (by omega), hA (n + 1) ts r (by omega) (by omega) he hs]; rfl
    · -- not
      obtain ⟨ho, hwi⟩ := own_neg a
      have fa := ih a (by simp [callE, Ex.args])
      have ha := ihh a (by simp [callE, Ex.args])
      have hA3 : ∀ ts r : List Tk, ts.map (·.1) = tkI (wI (callE wNot [a])) → stop 3 r → runJ (.lev 3 (ts ++ r)) = some (callE wNot [a], r) := by
        intro ts r he hs
        rw [hwi, tkI_app] at he
        obtain ⟨t1, t2, rfl, e1, e2⟩ := List.map_eq_append_iff.1 he
        obtain ⟨i, rfl⟩ := sing (x := (4, wNot, 0)) e1
        have h2 := br_A fa ha (lv := 3) (ts := t2) (r := r) (by omega) (by omega) e2 hs
        rw [runJ_not]; unfold notJ
        simp only [List.cons_append, List.nil_append]
        rw [show isT 4 [wNot] (((4, wNot, 0), i) :: (t2 ++ r)) = true by simp [isT], if_pos rfl, List.tail_cons, h2]
        rfl
      refine ⟨fun n ts r h1 hn he hs => ?_, fun n ts r h1 h7 h3 h4 hn he hs => ?_, fun ts r h8 he => by rw [ho] at h8; omega⟩
      · rw [ho] at hn
        exact climb (3 - n) 3 n (by omega) h1 (by omega) (hA3 ts r he (hs.mono hn)) hs (fun _ h => by omega)
      · rw [ho] at hn
        have h5 := climb (3 - (n + 1)) 3 (n + 1) (by omega) (by omega) (by omega) (hA3 ts r he (hs.mono (by omega))) hs (fun _ h => by omega)
        rw [runJ_lev h3 h4 (by omega), h5]; rfl
    · -- cut
      obtain ⟨ho, hwi⟩ := own_cut a b c
      have fa := ih a (by simp [callE, Ex.args])
      have fb := ih b (by simp [callE, Ex.args])
      have fc := ih c (by simp [callE, Ex.args])
      have ha := ihh a (by simp [callE, Ex.args])
      have hC : ∀ ts r : List Tk, ts.map (·.1) = tkI (wI (callE wCut [a, b, c])) → runJ (.lev 8 (ts ++ r)) = runJ (.post (callE wCut [a, b, c]) r) := by
        intro ts r he
        rw [hwi] at he
        simp only [tkI_app] at he
        obtain ⟨t5, t6, rfl, e5, e6⟩ := List.map_eq_append_iff.1 he
        obtain ⟨t4, tc, rfl, e4, ec⟩ := List.map_eq_append_iff.1 e5
        obtain ⟨t3, tb, rfl, e3, eb⟩ := List.map_eq_append_iff.1 e4
        obtain ⟨t2, tb', rfl, e2, eb'⟩ := List.map_eq_append_iff.1 e3
        obtain ⟨ta, tx, rfl, ea, ex⟩ := List.map_eq_append_iff.1 e2
        obtain ⟨i1, rfl⟩ := sing (x := (5, [91], 0)) ex
        obtain ⟨i2, rfl⟩ := sing (x := (5, [58], 0)) eb
        obtain ⟨i3, rfl⟩ := sing (x := (5, [93], 0)) e6
        have h1 := br_C fa ha (ts := ta) (r := ((5, [91], 0), i1) :: (tb' ++ ((5, [58], 0), i2) :: (tc ++ ((5, [93], 0), i3) :: r))) ea
        have h2 := fb.A 1 tb' (((5, [58], 0), i2) :: (tc ++ ((5, [93], 0), i3) :: r)) (by omega) (own_pos b).1 eb' (stop_sign (.inr (.inr (.inl rfl))))
        have h3 := fc.A 1 tc (((5, [93], 0), i3) :: r) (by omega) (own_pos c).1 ec (stop_sign (.inr (.inr (.inr rfl))))
        simp only [List.append_assoc, List.cons_append, List.nil_append] at h1 h2 h3 ⊢
        rw [h1, runJ_post]
        unfold postJ
        rw [show isT 5 [[91]] (((5, [91], 0), i1) :: (tb' ++ ((5, [58], 0), i2) :: (tc ++ ((5, [93], 0), i3) :: r))) = true by simp [isT], if_pos rfl, List.tail_cons, h2]
        simp only [Option.bind_some]
        rw [show isT 5 [[58]] (((5, [58], 0), i2) :: (tc ++ ((5, [93], 0), i3) :: r)) = true by simp [isT], if_pos rfl, List.tail_cons, h3]
        simp only [Option.bind_some]
        rw [show isT 5 [[93]] (((5, [93], 0), i3) :: r) = true by simp [isT], if_pos rfl, List.tail_cons]
      have hA : ∀ (n : Nat) (ts r : List Tk), 1 ≤ n → n ≤ 8 → ts.map (·.1) = tkI (wI (callE wCut [a, b, c])) → stop n r → runJ (.lev n (ts ++ r)) = some (callE wCut [a, b, c], r) := by
        intro n ts r h1 hn he hs
        have h8 : runJ (.lev 8 (ts ++ r)) = some (callE wCut [a, b, c], r) := by
          rw [hC ts r he, runJ_post]
          unfold postJ
          rw [hs.2 (by omega)]; rfl
        exact climb (8 - n) 8 n (by omega) h1 (by omega) h8 hs (fun _ _ => (isT_head hh he).2 (by rw [ho]; omega))
      refine ⟨fun n ts r h1 hn he hs => hA n ts r h1 (by rw [ho] at hn; exact hn) he hs, fun n ts r h1 h7 h3 h4 hn he hs => ?_, fun ts r h8 he => hC ts r he⟩
      rw [runJ_lev h3 h4 (by omega), hA (n + 1) ts r (by omega) (by omega) he hs]; rfl
    · -- a call
      obtain ⟨ho, hwi⟩ := own_app (us := us) hn hl
      refine fm_of_prim ho hh (fun ts r he => ?_)
      rw [hwi, tkI_app, tkI_app] at he
      obtain ⟨t12, t3, rfl, e12, e3⟩ := List.map_eq_append_iff.1 he
      obtain ⟨t1, t2, rfl, e1, e2⟩ := List.map_eq_append_iff.1 e12
      · obtain ⟨i1, i2, rfl⟩ := duo (x := (4, l, 0)) (y := (5, [40], 0)) e1
        obtain ⟨i3, rfl⟩ := sing (x := (5, [41], 0)) e3
        rw [runJ_prim]
        unfold primJ
        simp only [List.cons_append, List.nil_append, List.append_assoc]
        rw [if_neg (by decide), if_neg (by decide), if_neg (by decide), if_pos trivial, hn]
        rw [show isT 5 [[40]] (((5, [40], 0), i2) :: (t2 ++ ((5, [41], 0), i3) :: r)) = true by simp [isT]]
        simp only [Bool.and_self, if_true]
        cases us with
        | nil =>
          have : t2 = [] := by
            have h := e2
            simp only [wIs, joinI] at h
            exact List.map_eq_nil_iff.1 h
          subst this
          simp [isT]
        | cons u us =>
          have hnc : isT 5 [[41]] (t2 ++ ((5, [41], 0), i3) :: r) = false := by
            have hu := ihh u (by simp [callE, Ex.args])
            have hj : ∃ X, joinI (wIs (u :: us)) = wI u ++ X := by
              cases us with
              | nil => exact ⟨[], by simp [wIs, joinI]⟩
              | cons v us => exact ⟨[sgT [44], none] ++ joinI (wIs (v :: us)), by simp only [wIs, joinI, List.append_assoc]⟩
            obtain ⟨X, hX⟩ := hj
            rw [hX] at e2
            have := head_br 1 hu X
            unfold br at this
            rw [if_neg (by have := (own_pos u).1; simp; omega)] at this
            exact (isT_head this e2).1
          have := args_fm (u :: us) l [] t2 r ((5, [41], 0), i3) (by simp) (fun w hw => ih w (by simpa [callE, Ex.args] using hw)) e2 rfl
          rw [if_neg (by rw [List.tail_cons, hnc]; simp), List.tail_cons]
          simpa using this

/-- the tokens of a well-formed tree, at whatever places, are parsed as that tree -/
theorem run_fm {t : Ex} (hw : Well t) {ts : List Tk} (he : ts.map (·.1) = tkI (wI t)) : runJ (.lev 1 ts) = some (t, []) := by
  have := (fm_all t.size t (Nat.le_refl _) hw).A 1 ts [] (Nat.le_refl _) (own_pos t).1 he (stop_nil 1)
  simpa using this

end Go.Proofs.YtpabngicbfcdkaaDoor

/- The text of a formatted tree is divided into its tokens. -/
namespace Go.Proofs.YtpabngicbfcdkaaDoor
open Go.RowKit
set_option linter.unusedVariables false
set_option linter.unusedSimpArgs false

/-- the digits of a number -/
def decGo : Nat → Nat → List Nat
  | 0, _ => []
  | f + 1, n => if n < 10 then [48 + n] else decGo f (n / 10) ++ [48 + n % 10]
def decP (n : Nat) : List Nat := decGo (n + 1) n
theorem decGo_stab : ∀ (f g n : Nat), n < f → n < g → decGo f n = decGo g n
  | 0, _, n, h, _ => by omega
  | _ + 1, 0, n, _, h => by omega
  | f + 1, g + 1, n, h1, h2 => by
    simp only [decGo]
    split
    · rfl
    · rw [decGo_stab f g (n / 10) (by omega) (by omega)]
theorem decP_small {n : Nat} (h : n < 10) : decP n = [48 + n] := by unfold decP; simp [decGo, h]
theorem decP_big {n : Nat} (h : ¬ n < 10) : decP n = decP (n / 10) ++ [48 + n % 10] := by
  unfold decP
  rw [decGo, if_neg h, decGo_stab n (n / 10 + 1) (n / 10) (by omega) (by omega)]
theorem decP_ne (n : Nat) : decP n ≠ [] := by
  by_cases h : n < 10
  · rw [decP_small h]; simp
  · rw [decP_big h]; simp
theorem decP_dig : ∀ (m n : Nat), n ≤ m → ∀ c ∈ decP n, digB c = true
  | 0, n, h, c, hc => by
    rw [decP_small (by omega)] at hc
    simp at hc; subst hc; simp [digB]; omega
  | m + 1, n, h, c, hc => by
    by_cases h10 : n < 10
    · rw [decP_small h10] at hc
      simp at hc; subst hc; simp [digB]; omega
    · rw [decP_big h10] at hc
      rcases List.mem_append.1 hc with hc | hc
      · exact decP_dig m (n / 10) (by omega) c hc
      · simp at hc; subst hc; simp [digB]; omega
theorem valGo_app : ∀ (l : List Nat) (a : Nat) (x : Nat), (∀ k, valGo a l = some k → valGo a (l ++ [x]) = if (1152921504606846976 - (x - 48)) / 10 < k then none else some (10 * k + (x - 48)))
  | [], a, x, k, h => by
    simp only [valGo] at h; cases h
    simp [valGo]
  | c :: l, a, x, k, h => by
    simp only [valGo, List.cons_append] at h ⊢
    split at h
    · cases h
    · rename_i hc; rw [if_neg hc]; exact valGo_app l _ x k h
theorem valGo_dec : ∀ (m n : Nat), n ≤ m → n ≤ 1152921504606846976 → valGo 0 (decP n) = some n
  | 0, n, h, h9 => by
    rw [decP_small (by omega)]
    obtain rfl : n = 0 := by omega
    rfl
  | m + 1, n, h, h9 => by
    by_cases h10 : n < 10
    · rw [decP_small h10]
      simp only [valGo]
      rw [if_neg (by omega)]
      congr 1; omega
    · rw [decP_big h10, valGo_app _ _ _ _ (valGo_dec m (n / 10) (by omega) (by omega)), if_neg (by omega)]
      congr 1; omega
theorem decP_head : ∀ (m n : Nat), n ≤ m → (decP n).head? = some 48 → n = 0
  | 0, n, h, _ => by omega
  | m + 1, n, h, hh => by
    by_cases h10 : n < 10
    · rw [decP_small h10] at hh; simp at hh; omega
    · rw [decP_big h10] at hh
      have hne := decP_ne (n / 10)
      have : (decP (n / 10) ++ [48 + n % 10]).head? = (decP (n / 10)).head? := by
        cases hd : decP (n / 10) with
        | nil => exact absurd hd hne
        | cons a b => rfl
      rw [this] at hh
      have := decP_head m (n / 10) (by omega) hh
      omega
theorem valP_dec (n : Nat) (h : n ≤ 1152921504606846976) : valP (decP n) = some n := by
  unfold valP
  rw [if_neg, valGo_dec n n (Nat.le_refl _) h]
  rintro ⟨h1, h2⟩
  have := decP_head n n (Nat.le_refl _) h1
  subst this
  rw [decP_small (by omega)] at h2; simp at h2

/-- a byte in quotes -/
def hexC (d : Nat) : Nat := if d < 10 then 48 + d else 87 + d
def quC (c : Nat) : List Nat := if c = 10 then [92, 110] else if c = 9 then [92, 116] else if c = 13 then [92, 114] else if c = 34 ∨ c = 92 then [92, c] else if c < 32 ∨ 127 ≤ c then [92, 120, hexC (c / 16), hexC (c % 16)] else [c]
def quX (l : List Nat) : List Nat := 34 :: (l.flatMap quC ++ [34])
theorem hexP_C {d : Nat} (h : d < 16) : hexP (hexC d) = some d := by
  have : ∀ d : Fin 16, hexP (hexC d.1) = some d.1 := by decide
  exact this ⟨d, h⟩
theorem quo_C {c : Nat} (h : c < 256) (acc r : List Nat) : quoGo acc (quC c ++ r) = quoGo (acc ++ [c]) r := by
  unfold quC
  split
  · rename_i e; subst e; exact quo_esc (r := 110 :: r) acc (x := 10) (n := 1) rfl
  split
  · rename_i e; subst e; exact quo_esc (r := 116 :: r) acc (x := 9) (n := 1) rfl
  split
  · rename_i e; subst e; exact quo_esc (r := 114 :: r) acc (x := 13) (n := 1) rfl
  split
  · rename_i e
    rcases e with rfl | rfl
    · exact quo_esc (r := 34 :: r) acc (x := 34) (n := 1) rfl
    · exact quo_esc (r := 92 :: r) acc (x := 92) (n := 1) rfl
  split
  · have he : escP (120 :: hexC (c / 16) :: hexC (c % 16) :: r) = some (c, 3) := by
      simp only [escP]
      rw [hexP_C (by omega), hexP_C (by omega)]
      simp
      omega
    exact quo_esc (r := 120 :: hexC (c / 16) :: hexC (c % 16) :: r) acc he
  · rename_i h1 h2 h3 h4 h5
    exact quo_chr acc r (by omega) (by omega) (by omega)
theorem quo_X : ∀ (l acc r : List Nat), (∀ c ∈ l, c < 256) → quoGo acc (l.flatMap quC ++ 34 :: r) = some (acc ++ l, r)
  | [], acc, r, _ => by simp [quo_end]
  | c :: l, acc, r, h => by
    rw [List.flatMap_cons, List.append_assoc, quo_C (h c (List.mem_cons_self ..)), quo_X l (acc ++ [c]) r (fun x hx => h x (List.mem_cons_of_mem _ hx))]
    simp

/-- the bytes of a token -/
def tb (t : TkK) : List Nat := if t.1 = 1 then decP t.2.2 else if t.1 = 2 then quX t.2.1 else if t.1 = 3 then 64 :: t.2.1 else t.2.1
def goodT (t : TkK) : Prop := (t.1 = 1 ∧ t.2.1 = [] ∧ t.2.2 ≤ 1152921504606846976) ∨ (t.1 = 2 ∧ t.2.2 = 0 ∧ ∀ c ∈ t.2.1, c < 256) ∨ (t.1 = 3 ∧ t.2.2 = 0 ∧ t.2.1 ≠ [] ∧ t.2.1.all refB = true) ∨ (t.1 = 4 ∧ t.2.2 = 0 ∧ t.2.1 ≠ [] ∧ t.2.1.all letB = true) ∨
  (t.1 = 5 ∧ t.2.2 = 0 ∧ t.2.1 ∈ [[43, 43], [61, 61], [33, 61], [60, 61], [43], [45], [42], [60], [40], [41], [91], [93], [58], [44]])
/-- a sign that goes together with nothing -/
def freeT (t : TkK) : Prop := t.1 = 5 ∧ t.2.1 ∈ [[40], [41], [91], [93], [58], [44]]
/-- a byte that ends every token -/
def sepC (c : Nat) : Bool := c == 32 || c == 9 || c == 10 || c == 13 || c == 40 || c == 41 || c == 91 || c == 93 || c == 58 || c == 44
def sepH (r : List Nat) : Prop := ∀ c, r.head? = some c → sepC c = true
theorem sepC_no {c : Nat} (h : sepC c = true) : digB c = false ∧ refB c = false ∧ letB c = false ∧ c ≠ 43 ∧ c ≠ 61 := by
  simp only [sepC, Bool.or_eq_true, beq_iff_eq] at h
  rcases h with ((((((((h | h) | h) | h) | h) | h) | h) | h) | h) | h <;> subst h <;> decide
theorem spn_sep {is : Nat → Bool} {l r : List Nat} (hl : l.all is = true) (hr : ∀ c, r.head? = some c → is c = false) : spn is (l ++ r) = l.length := by
  rw [List.all_eq_true] at hl
  refine spn_end (fun j c hj hc => ?_) (by simp) (fun c hc => ?_)
  · rw [List.getElem?_append_left hj] at hc; exact hl c (List.mem_of_getElem? hc)
  · rw [List.getElem?_append_right (Nat.le_refl _), Nat.sub_self, ← List.head?_eq_getElem?] at hc; exact hr c hc
theorem tb_pos {t : TkK} (h : goodT t) : tb t ≠ [] ∧ ∀ c, (tb t).head? = some c → blankB c = false := by
  obtain ⟨k, l, n⟩ := t
  rcases h with ⟨h1, h2, h3⟩ | ⟨h1, h2, h3⟩ | ⟨h1, h2, h3, h4⟩ | ⟨h1, h2, h3, h4⟩ | ⟨h1, h2, h3⟩
  all_goals simp only at h1 h2 h3; subst h1
  · refine ⟨decP_ne n, fun c hc => ?_⟩
    have := decP_dig n n (Nat.le_refl _) c (List.mem_of_mem_head? hc)
    simp [digB] at this; simp [blankB]; omega
  · exact ⟨by simp [tb, quX], fun c hc => by simp [tb, quX] at hc; subst hc; rfl⟩
  · exact ⟨by simp [tb], fun c hc => by simp [tb] at hc; subst hc; rfl⟩
  · refine ⟨h3, fun c hc => ?_⟩
    simp only at h4
    rw [List.all_eq_true] at h4
    have := h4 c (List.mem_of_mem_head? hc)
    simp [letB] at this; simp [blankB]; omega
  · have : ∀ l ∈ [[43, 43], [61, 61], [33, 61], [60, 61], [43], [45], [42], [60], [40], [41], [91], [93], [58], [44]], l ≠ [] ∧ ∀ c ∈ l.head?, blankB c = false := by decide
    exact ⟨(this l h3).1, fun c hc => (this l h3).2 c hc⟩

/-- a token's bytes are read as that token, whatever ends it -/
theorem next_tb {t : TkK} {r : List Nat} (h : goodT t) (hr : freeT t ∨ sepH r) : nextP (tb t ++ r) = some (t, (tb t).length) := by
  obtain ⟨k, l, n⟩ := t
  rcases h with ⟨h1, h2, h3⟩ | ⟨h1, h2, h3⟩ | ⟨h1, h2, h3, h4⟩ | ⟨h1, h2, h3, h4⟩ | ⟨h1, h2, h3⟩
  · simp only at h1 h2 h3; subst h1; subst h2
    have hr : sepH r := by
      rcases hr with hf | hr
      · exact absurd hf.1 (by simp)
      · exact hr
    have e : tb (1, [], n) = decP n := rfl
    rw [e]
    have hd := decP_dig n n (Nat.le_refl _)
    obtain ⟨c, q, hcq⟩ : ∃ c q, decP n = c :: q := by
      cases hx : decP n with
      | nil => exact absurd hx (decP_ne n)
      | cons c q => exact ⟨c, q, rfl⟩
    have hs : spn digB (decP n ++ r) = (decP n).length := spn_sep (List.all_eq_true.2 hd) (fun c hc => (sepC_no (hr c hc)).1)
    rw [next_dig (l := decP n ++ r) (r := q ++ r) (c := c) (by rw [hcq]; rfl) (hd c (by rw [hcq]; simp)), hs, List.take_left, valP_dec n h3]
  · simp only at h1 h2 h3; subst h1; subst h2
    have e : tb (2, l, 0) = 34 :: (l.flatMap quC ++ [34]) := rfl
    rw [e]
    have hq : quoP (34 :: (l.flatMap quC ++ [34]) ++ r) = some (l, (34 :: (l.flatMap quC ++ [34])).length) := by
      unfold quoP
      simp only [List.cons_append, List.drop_succ_cons, List.drop_zero, List.append_assoc, List.nil_append]
      rw [quo_X l [] r h3]
      simp; omega
    have hx := next_quo (l := 34 :: (l.flatMap quC ++ [34]) ++ r) (r := l.flatMap quC ++ [34] ++ r) rfl
    rw [hx, hq]
  · simp only at h1 h2 h3 h4; subst h1; subst h2
    have hr : sepH r := by
      rcases hr with hf | hr
      · exact absurd hf.1 (by simp)
      · exact hr
    have e : tb (3, l, 0) = 64 :: l := rfl
    rw [e]
    have hs : spn refB (l ++ r) = l.length := spn_sep h4 (fun c hc => (sepC_no (hr c hc)).2.1)
    rw [next_ref (l := 64 :: l ++ r) (r := l ++ r) rfl, hs, if_neg (by simpa using h3), List.take_left]
    simp; omega
  · simp only at h1 h2 h3 h4; subst h1; subst h2
    have hr2 : sepH r := by
      rcases hr with hf | hr
      · exact absurd hf.1 (by simp)
      · exact hr
    have e : tb (4, l, 0) = l := rfl
    rw [e]
    obtain ⟨c, q, rfl⟩ : ∃ c q, l = c :: q := by
      cases l with
      | nil => exact absurd rfl h3
      | cons c q => exact ⟨c, q, rfl⟩
    have hc : letB c = true := by rw [List.all_eq_true] at h4; exact h4 c (by simp)
    have hc2 : 97 ≤ c ∧ c ≤ 122 := by simpa [letB] using hc
    have hs : spn letB (c :: q ++ r) = (c :: q).length := spn_sep h4 (fun c hd => (sepC_no (hr2 c hd)).2.2.1)
    rw [next_let (l := c :: q ++ r) (r := q ++ r) (c := c) rfl (by simp [digB]; omega) (by omega) (by omega) hc, hs, List.take_left]
  · simp only at h1 h2 h3; subst h1; subst h2
    have e : tb (5, l, 0) = l := rfl
    rw [e]
    have hh : r = [] ∨ ∃ d q, r = d :: q := by cases r with
      | nil => exact .inl rfl
      | cons d q => exact .inr ⟨d, q, rfl⟩
    simp only [List.mem_cons, List.mem_nil_iff, or_false] at h3
    rcases hh with rfl | ⟨d, q, rfl⟩
    · rcases h3 with rfl | rfl | rfl | rfl | rfl | rfl | rfl | rfl | rfl | rfl | rfl | rfl | rfl | rfl <;> rfl
    · have hd : (∃ c, l = [c] ∧ (c = 40 ∨ c = 41 ∨ c = 91 ∨ c = 93 ∨ c = 58 ∨ c = 44)) ∨ (d ≠ 43 ∧ d ≠ 61) := by
        rcases hr with hf | hr
        · left
          have := hf.2
          simp only [List.mem_cons, List.mem_nil_iff, or_false] at this
          rcases this with h | h | h | h | h | h <;> exact ⟨_, h, by decide⟩
        · exact .inr (sepC_no (hr d rfl)).2.2.2
      rcases h3 with rfl | rfl | rfl | rfl | rfl | rfl | rfl | rfl | rfl | rfl | rfl | rfl | rfl | rfl
      all_goals first
        | rfl
        | (rcases hd with ⟨c, h1, h2⟩ | ⟨h1, h2⟩
           · exact absurd h2 (by simp at h1; subst h1; decide)
           · simp [nextP, digB, letB, sgnP, twoB, oneB, h1, h2])
        | (simp [nextP, digB, letB, sgnP, twoB, oneB])

/-- the bytes of an item -/
def xI : It → List Nat
  | none => [32]
  | some t => tb t
def txI (l : List It) : List Nat := l.flatMap xI
theorem txI_app (a b : List It) : txI (a ++ b) = txI a ++ txI b := by simp [txI]
/-- the tokens with their places -/
def atI : Nat → List It → List Tk
  | _, [] => []
  | i, none :: r => atI (i + 1) r
  | i, some t :: r => (t, i) :: atI (i + (tb t).length) r
theorem atI_map : ∀ (l : List It) (i : Nat), (atI i l).map (·.1) = tkI l
  | [], _ => rfl
  | none :: r, i => by simp only [atI, tkI_none]; exact atI_map r _
  | some t :: r, i => by simp only [atI, tkI_cons, List.map_cons, atI_map r]
/-- items that follow one another as they may -/
def nextOk : List It → Prop
  | [] => True
  | none :: _ => True
  | some t :: _ => freeT t
def OkI : List It → Prop
  | [] => True
  | none :: r => OkI r
  | some t :: r => goodT t ∧ (freeT t ∨ nextOk r) ∧ OkI r
theorem free_good {t : TkK} (h : freeT t) : tb t = t.2.1 ∧ ∃ c, t.2.1 = [c] ∧ sepC c = true := by
  obtain ⟨k, l, n⟩ := t
  obtain ⟨h1, h2⟩ := h
  simp only at h1 h2
  subst h1
  refine ⟨rfl, ?_⟩
  simp only [List.mem_cons, List.mem_nil_iff, or_false] at h2
  rcases h2 with rfl | rfl | rfl | rfl | rfl | rfl <;> exact ⟨_, rfl, rfl⟩
theorem nextOk_sep {l : List It} (h : nextOk l) (X : List Nat) (hX : l = [] → sepH X) : sepH (txI l ++ X) := by
  cases l with
  | nil => exact hX rfl
  | cons x r =>
    cases x with
    | none => intro c hc; simp [txI, xI] at hc; subst hc; rfl
    | some t =>
      obtain ⟨h1, c, h2, h3⟩ := free_good h
      intro d hd
      simp only [txI, List.flatMap_cons, xI, h1, h2, List.cons_append, List.head?_cons, Option.some.injEq] at hd
      subst hd; exact h3
theorem toks_I : ∀ (l : List It) (acc : List Tk) (i : Nat), OkI l → toksGo acc i (txI l) = some (acc ++ atI i l)
  | [], acc, i, _ => by simp [txI, atI, toks_nil]
  | none :: r, acc, i, h => by
    show toksGo acc i (32 :: txI r) = _
    rw [toks_blank _ _ _ rfl, toks_I r _ _ h]; rfl
  | some t :: r, acc, i, h => by
    obtain ⟨h1, h2, h3⟩ := h
    obtain ⟨hne, hbl⟩ := tb_pos h1
    have hn : nextP (tb t ++ txI r) = some (t, (tb t).length) := next_tb h1 (h2.imp id (fun h => by have := nextOk_sep h [] (fun _ c hc => by cases hc); simpa using this))
    have e : txI (some t :: r) = tb t ++ txI r := rfl
    rw [e]
    obtain ⟨c, q, hcq⟩ : ∃ c q, tb t = c :: q := by
      cases hx : tb t with
      | nil => exact absurd hx hne
      | cons c q => exact ⟨c, q, rfl⟩
    have hc := hbl c (by rw [hcq]; rfl)
    have h9 : nextP (c :: (q ++ txI r)) = some (t, (tb t).length) := by rw [← List.cons_append, ← hcq]; exact hn
    rw [hcq, List.cons_append, toks_some _ _ hc h9, ← List.cons_append, ← hcq, List.drop_left, toks_I r _ _ h3]
    simp [atI]
theorem toksP_I {l : List It} (h : OkI l) : toksP (txI l) = some (atI 0 l) := by
  unfold toksP; rw [toks_I l [] 0 h]; rfl

end Go.Proofs.YtpabngicbfcdkaaDoor

/- A well-formed tree's items follow one another as they may; what Parse makes of its text. -/
namespace Go.Proofs.YtpabngicbfcdkaaDoor
open Go.RowKit
set_option linter.unusedVariables false
set_option linter.unusedSimpArgs false

theorem OkI_app : ∀ (l X : List It), OkI l → nextOk X → OkI X → OkI (l ++ X)
  | [], X, _, _, h => h
  | none :: r, X, h, hn, hx => OkI_app r X h hn hx
  | some t :: r, X, h, hn, hx => by
    obtain ⟨h1, h2, h3⟩ := h
    refine ⟨h1, ?_, OkI_app r X h3 hn hx⟩
    cases r with
    | nil => exact .inr hn
    | cons y q => exact h2.imp id (fun h => by cases y <;> exact h)
theorem free_sg {l : List Nat} (h : l ∈ [[40], [41], [91], [93], [58], [44]]) : freeT (5, l, 0) := ⟨rfl, h⟩
theorem good_sg {l : List Nat} (h : l ∈ [[40], [41], [91], [93], [58], [44]]) : goodT (5, l, 0) := by
  refine .inr (.inr (.inr (.inr ⟨rfl, rfl, ?_⟩)))
  have : ∀ l ∈ [[40], [41], [91], [93], [58], [44]], l ∈ [[43, 43], [61, 61], [33, 61], [60, 61], [43], [45], [42], [60], [40], [41], [91], [93], [58], [44]] := by decide
  exact this l h
theorem OkI_sg {l : List Nat} (h : l ∈ [[40], [41], [91], [93], [58], [44]]) {X : List It} (hx : OkI X) : OkI (sgT l :: X) := ⟨good_sg h, .inl (free_sg h), hx⟩
theorem OkI_br {lv : Nat} {p : Nat × List It} (h : OkI p.2) : OkI (br lv p) := by
  unfold br
  split
  · exact OkI_sg (by decide) (OkI_app _ _ h (free_sg (by decide)) (OkI_sg (by decide) trivial))
  · exact h
theorem good_op {v : Nat} {l : List Nat} (hv : 1 ≤ v ∧ v ≤ 7 ∧ v ≠ 3) (hl : l ∈ lvlO v) : goodT (lvlK v, l, 0) := by
  have : v = 1 ∨ v = 2 ∨ v = 4 ∨ v = 5 ∨ v = 6 ∨ v = 7 := by omega
  rcases this with rfl | rfl | rfl | rfl | rfl | rfl
  · simp [lvlO] at hl; subst hl; exact .inr (.inr (.inr (.inl ⟨rfl, rfl, by simp, by decide⟩)))
  · simp [lvlO] at hl; subst hl; exact .inr (.inr (.inr (.inl ⟨rfl, rfl, by simp, by decide⟩)))
  all_goals
    refine .inr (.inr (.inr (.inr ⟨rfl, rfl, ?_⟩)))
    simp [lvlO] at hl
    first
      | (subst hl; decide)
      | (rcases hl with rfl | rfl <;> decide)
      | (rcases hl with rfl | rfl | rfl | rfl <;> decide)
theorem OkI_join : ∀ us : List Ex, (∀ u ∈ us, OkI (wI u)) → OkI (joinI (wIs us))
  | [], _ => trivial
  | [u], h => h u (by simp)
  | u :: v :: us, h => by
    have ih := OkI_join (v :: us) (fun w hw => h w (List.mem_cons_of_mem _ hw))
    show OkI (wI u ++ [sgT [44], none] ++ joinI (wIs (v :: us)))
    rw [List.append_assoc]
    exact OkI_app _ _ (h u (by simp)) (free_sg (by decide)) (OkI_sg (by decide) ih)
theorem OkI_w : ∀ (m : Nat) (t : Ex), t.size ≤ m → Well t → OkI (wI t)
  | 0, t, h, _ => absurd t.size_pos (by omega)
  | m + 1, t, hm, hw => by
    have ih : ∀ u ∈ t.args, OkI (wI u) := fun u hu => OkI_w m u (by have := kid_lt hu; omega) (hw.kid hu)
    rcases look hw with ⟨n, rfl, hn⟩ | ⟨l, rfl, h8⟩ | ⟨l, rfl, h8, hl⟩ | ⟨v, l, a, b, rfl, hv, hl⟩ | ⟨a, rfl⟩ | ⟨a, b, c, rfl⟩ | ⟨l, us, rfl, hn, hl⟩
    · show OkI (comb 1 (ns (bs [])) (n : Int) [])
      unfold comb
      rw [if_pos rfl]
      exact ⟨.inl ⟨rfl, rfl, hn⟩, .inr trivial, trivial⟩
    · show OkI (comb 2 (ns (bs l)) 0 [])
      unfold comb
      rw [if_neg (by decide), if_pos rfl, ns_bs' h8]
      exact ⟨.inr (.inl ⟨rfl, rfl, h8⟩), .inr trivial, trivial⟩
    · show OkI (comb 3 (ns (bs l)) 0 [])
      unfold comb
      rw [if_neg (by decide), if_neg (by decide), if_pos rfl, ns_bs' h8]
      exact ⟨.inr (.inr (.inl ⟨rfl, rfl, hl.1, hl.2⟩)), .inr trivial, trivial⟩
    · rw [(own_bin hv hl).2, List.append_assoc]
      have ha := ih a (by simp [callE, Ex.args])
      have hb := ih b (by simp [callE, Ex.args])
      exact OkI_app _ _ (OkI_br ha) trivial (show OkI (some (lvlK v, l, 0) :: none :: br (v + 1) (own b, wI b)) from ⟨good_op hv hl, .inr trivial, OkI_br hb⟩)
    · rw [(own_neg a).2]
      have ha := ih a (by simp [callE, Ex.args])
      exact (show OkI (some (4, wNot, 0) :: none :: br 3 (own a, wI a)) from ⟨.inr (.inr (.inr (.inl ⟨rfl, rfl, by simp [wNot], by decide⟩))), .inr trivial, OkI_br ha⟩)
    · rw [(own_cut a b c).2]
      simp only [List.append_assoc, List.singleton_append]
      have ha := ih a (by simp [callE, Ex.args])
      have hb := ih b (by simp [callE, Ex.args])
      have hc := ih c (by simp [callE, Ex.args])
      exact OkI_app _ _ (OkI_br ha) (free_sg (by decide)) (OkI_sg (by decide) (OkI_app _ _ hb (free_sg (by decide)) (OkI_sg (by decide) (OkI_app _ _ hc (free_sg (by decide)) (OkI_sg (by decide) trivial)))))
    · rw [(own_app hn hl).2, List.append_assoc]
      have hj := OkI_join us (fun u hu => ih u (by simpa [callE, Ex.args] using hu))
      have hlt : l ≠ [] ∧ l.all letB = true := by
        have h := hn
        simp only [isNm, Bool.and_eq_true, Bool.not_eq_true', beq_eq_false_iff_ne] at h
        exact ⟨h.1.2, h.2⟩
      exact (show OkI (some (4, l, 0) :: sgT [40] :: (joinI (wIs us) ++ [sgT [41]])) from ⟨.inr (.inr (.inr (.inl ⟨rfl, rfl, hlt.1, hlt.2⟩))), .inr (free_sg (by decide)), OkI_sg (by decide) (OkI_app _ _ hj (free_sg (by decide)) (OkI_sg (by decide) trivial))⟩)
/-- the tokens of a formatted text -/
theorem toks_fm {t : Ex} (h : Well t) : toksP (txI (wI t)) = some (atI 0 (wI t)) := toksP_I (OkI_w t.size t (Nat.le_refl _) h)
theorem run_toks_fm {t : Ex} (h : Well t) : runJ (.lev 1 (atI 0 (wI t))) = some (t, []) := run_fm h (atI_map _ _)

theorem dec8 (n : Nat) : ∀ c ∈ decP n, c < 256 := fun c hc => by
  have := decP_dig n n (Nat.le_refl _) c hc
  simp [digB] at this; omega
set_option maxRecDepth 100000 in
theorem quC8 {c : Nat} (h : c < 256) : ∀ d ∈ quC c, d < 256 := by
  have : ∀ c : Fin 256, ∀ d ∈ quC c.1, d < 256 := by decide
  exact this ⟨c, h⟩
theorem tb8 {t : TkK} (h : goodT t) : ∀ c ∈ tb t, c < 256 := by
  obtain ⟨k, l, n⟩ := t
  rcases h with ⟨h1, h2, h3⟩ | ⟨h1, h2, h3⟩ | ⟨h1, h2, h3, h4⟩ | ⟨h1, h2, h3, h4⟩ | ⟨h1, h2, h3⟩
  all_goals simp only at h1 h2 h3; subst h1
  · exact dec8 n
  · intro c hc
    have e : tb (2, l, n) = 34 :: (l.flatMap quC ++ [34]) := rfl
    rw [e] at hc
    rcases List.mem_cons.1 hc with rfl | hc
    · decide
    · rcases List.mem_append.1 hc with hc | hc
      · obtain ⟨x, hx, hcx⟩ := List.mem_flatMap.1 hc
        exact quC8 (h3 x hx) c hcx
      · simp at hc; omega
  · intro c hc
    have e : tb (3, l, n) = 64 :: l := rfl
    rw [e] at hc
    rcases List.mem_cons.1 hc with rfl | hc
    · decide
    · simp only at h4; rw [List.all_eq_true] at h4
      have := h4 c hc
      simp [refB, letB, digB] at this; omega
  · intro c hc
    simp only at h4; rw [List.all_eq_true] at h4
    have := h4 c hc
    simp [letB] at this; omega
  · have : ∀ l ∈ [[43, 43], [61, 61], [33, 61], [60, 61], [43], [45], [42], [60], [40], [41], [91], [93], [58], [44]], ∀ c ∈ l, c < 256 := by decide
    exact this l h3
theorem txI8 : ∀ l : List It, OkI l → ∀ c ∈ txI l, c < 256
  | [], _, c, hc => by cases hc
  | none :: r, h, c, hc => by
    rcases List.mem_cons.1 (show c ∈ 32 :: txI r from hc) with rfl | hc
    · decide
    · exact txI8 r h c hc
  | some t :: r, h, c, hc => by
    rcases List.mem_append.1 (show c ∈ tb t ++ txI r from hc) with hc | hc
    · exact tb8 h.1 c hc
    · exact txI8 r h.2.2 c hc
theorem ns_fm {t : Ex} (h : Well t) : ns (bs (txI (wI t))) = txI (wI t) := ns_bs' (txI8 _ (OkI_w t.size t (Nat.le_refl _) h))
theorem bs_sz {l : List Nat} (h : ∀ c ∈ l, c < 256) : (bs l).size = l.length := by
  have := ns_len (bs l); rw [ns_bs' h] at this; exact this.symm
theorem fm_size {t : Ex} (h : Well t) : (bs (txI (wI t))).size = (txI (wI t)).length := bs_sz (txI8 _ (OkI_w t.size t (Nat.le_refl _) h))

end Go.Proofs.YtpabngicbfcdkaaDoor

/- The writer's state; put. -/
namespace Go.Proofs.YtpabngicbfcdkaaDoor
open Go.RowKit
set_option linter.unusedVariables false
set_option linter.unusedSimpArgs false

/-- what was written behind l, of a piece that was to be written: the whole if there is room for it, else too much -/
structure WR (l p l' : List Nat) (K : Nat) : Prop where
  fit : l.length + p.length ≤ 4096 → l' = l ++ p
  big : 4096 < l.length + p.length → 4096 < l'.length
  len : l'.length ≤ l.length + K
theorem WR.app {l p l1 q l2 : List Nat} {K1 K2 : Nat} (h : WR l p l1 K1) (h2 : WR l1 q l2 K2) : WR l (p ++ q) l2 (K1 + K2) := by
  have a1 := h.fit
  have a2 := h.big
  have a3 := h.len
  have b1 := h2.fit
  have b2 := h2.big
  have b3 := h2.len
  refine ⟨fun hl => ?_, fun hl => ?_, by omega⟩
  · rw [List.length_append] at hl
    have e := a1 (by omega)
    rw [b1 (by rw [e, List.length_append]; omega), e, List.append_assoc]
  · rw [List.length_append] at hl
    by_cases hc : l.length + p.length ≤ 4096
    · have e := a1 hc
      exact b2 (by rw [e, List.length_append]; omega)
    · have := a2 (by omega)
      exact b2 (by omega)
theorem WR.put (l p : List Nat) : WR l p (l ++ p) p.length :=
  ⟨fun _ => rfl, fun h => by rw [List.length_append]; omega, by rw [List.length_append]; exact Nat.le_refl _⟩
theorem WR.mono {l p l' : List Nat} {K K' : Nat} (h : WR l p l' K) (hk : K ≤ K') : WR l p l' K' := ⟨h.fit, h.big, by have := h.len; omega⟩
theorem WR.full {l : List Nat} (p : List Nat) (h : 4096 < l.length) : WR l p l 0 := ⟨fun h2 => by omega, fun _ => h, by omega⟩
/-- it was too much before the end -/
theorem WR.cut {l p l' : List Nat} {K : Nat} (h : WR l p l' K) (hf : 4096 < l'.length) (q : List Nat) : WR l (p ++ q) l' K :=
  ⟨fun h2 => by
    rw [List.length_append] at h2
    have e := h.fit (by omega)
    rw [e, List.length_append] at hf; omega, fun _ => hf, h.len⟩

/-- the writer at pb: the bytes that it holds -/
structure WS (w : World) (pb : Nat) (l : List Nat) : Prop where
  c0 : ∃ a c, w.cell? ⟨pb, 0, none⟩ = some (.slice a l.length c) ∧ Own w (pb + 1) 5 .u8 (.slice a l.length c) (nints l)
  fz : ∀ j, w.frozen? ⟨pb, j, none⟩ = false
  by8 : ∀ c ∈ l, c < 256
theorem WS.lt {w pb l} (h : WS w pb l) : pb < w.heap.size := by
  obtain ⟨a, c, h0, -⟩ := h.c0
  exact World.block_lt_of_cell? w _ h0
theorem WS.below {w w' pb l} (h : WS w pb l) (hb : Below w.heap.size w w') : WS w' pb l := by
  obtain ⟨a, c, h0, h1⟩ := h.c0
  exact ⟨⟨a, c, below_cell hb h0, h1.below hb⟩, fun j => by
    have := (Fr.of_below (S := fun _ => False) hb).frozen (x := ⟨pb, j, none⟩) h.lt (fun h => h)
    exact this.trans (h.fz j), h.by8⟩
theorem nints_len (l : List Nat) : (nints l).length = l.length := by simp [nints]
theorem nints_app (l m : List Nat) : nints (l ++ m) = nints l ++ nints m := by simp [nints]
/-- a row that grew, to be stored in the writer -/
theorem WS.put {w w1 w6 : World} {pb : Nat} {l : List Nat} {a : Option Addr} {c : Nat} (h : WS w pb l) (c0 : w.cell? ⟨pb, 0, none⟩ = some (.slice a l.length c)) (h1 : Own w (pb + 1) 5 .u8 (.slice a l.length c) (nints l)) (hb : Below w.heap.size w w1) (hg : w1.grownBy w6 (Value.slice a l.length c).ownBlock) :
    w6.cell? ⟨pb, 0, none⟩ = some (.slice a l.length c) ∧ w6.frozen? ⟨pb, 0, none⟩ = false ∧ ∀ (a' : Option Addr) (c' n : Nat) (l2 : List Nat), n = l2.length → Own w6 (pb + 1) 5 .u8 (.slice a' n c') (nints l2) → (∀ c ∈ l2, c < 256) → WS (w6.setCell ⟨pb, 0, none⟩ (.slice a' n c')) pb l2 ∧ Below pb w (w6.setCell ⟨pb, 0, none⟩ (.slice a' n c')) := by
  have hlt := h.lt
  have hf0 : Fr (fun x => pb + 1 ≤ x) w w6 := (Fr.of_below hb).trans (Fr.of_grown hg (fun k hk => (Row.block_lt (Own.below h1 hb) hk).2))
  have hc : w6.cell? ⟨pb, 0, none⟩ = some (.slice a l.length c) := hf0.cell c0 (by simp)
  refine ⟨hc, (hf0.frozen (x := ⟨pb, 0, none⟩) hlt (by simp)).trans (h.fz 0), fun a' c' n l2 hn ho h8 => ?_⟩
  subst hn
  have hf1 : Fr (fun x => x = pb) w6 (w6.setCell ⟨pb, 0, none⟩ (.slice a' l2.length c')) := (Fr.refl (fun x => x = pb) w6).setCell (p := ⟨pb, 0, none⟩) rfl _
  refine ⟨⟨⟨a', c', set_same hc, ?_⟩, fun j => ?_, h8⟩, ?_⟩
  · exact Row.fr ho hf1 (fun g hg2 e => by have := (Row.block_lt ho hg2).2; omega)
  · rw [show (w6.setCell ⟨pb, 0, none⟩ (.slice a' l2.length c')).frozen? ⟨pb, j, none⟩ = w6.frozen? ⟨pb, j, none⟩ by simp]
    exact (hf0.frozen (x := ⟨pb, j, none⟩) hlt (by simp)).trans (h.fz j)
  · exact ((hf0.mono (T := fun x => pb ≤ x) (fun i hi => by omega)).trans (hf1.mono (T := fun x => pb ≤ x) (fun i hi => by omega))).below (fun i hi => hi) (by omega)

theorem ns_append (a b : ByteArray) : ns (a ++ b) = ns a ++ ns b := by
  unfold ns; rw [Go.Joins.data_append, List.map_append]
theorem strCells_ns (s : ByteArray) : Lib.strCells s = (nints (ns s)).map (Value.int .u8) := by
  unfold Lib.strCells nints ns
  rw [List.map_map, List.map_map]; rfl

/-- append of a string's bytes -/
theorem app_str {w : World} {ops : Array Oper} {rest : List Oper} {o : Oper} {a : Act} {Q : Exit → Act → World → Prop} (sl x : Operand) (hgd : o.guard = none)
    (ho : o.op = .call { callee := .builtin .append, args := #[sl, x], argTypes := #[60, 9] })
    (base : Nat) (v : Value) (l : List Nat) (hs : a.eval sl = v) (hown : Own w base 5 .u8 v (nints l)) (s : ByteArray) (hx : a.eval x = .string s)
    (hlen : l.length + s.size ≤ 140737488355328) (hbase : base ≤ w.heap.size)
    (h : ∀ a' c' w', Own w' base 5 .u8 (.slice a' (l ++ ns s).length c') (nints (l ++ ns s)) → w.grownBy w' v.ownBlock → wpList Tryd.prog ops Q rest (a.put o.dst (.slice a' (l ++ ns s).length c')) w') : wpList Tryd.prog ops Q (o :: rest) a w := by
  obtain ⟨i, hi, hz, hsz, hby⟩ := EU8'.hi
  refine Lib.wpList_append_own_string w hgd sl x 60 9 ho base 5 i EU8'.ht Tryd.underlying9 hi hz hsz hby v l.length ((nints l).map (Value.int .u8)) hs (by have := hown; unfold Own at this; rwa [nints_len] at this) s hx (by unfold maxLen; omega) hlen hbase ?_
  intro v' w' h1 hg _
  have h2 : Own w' base 5 .u8 v' (nints (l ++ ns s)) := by
    show Row w' base 5 1 v' (nints (l ++ ns s)).length ((nints (l ++ ns s)).map (Value.int .u8))
    rw [nints_len, nints_app, List.map_append, ← strCells_ns, List.length_append, ns_len]; exact h1
  obtain ⟨a', c', he⟩ := Own.form h2
  rw [nints_len] at he
  subst he
  exact h a' c' w' h2 hg

set_option maxRecDepth 100000 in
set_option maxHeartbeats 2000000 in
/-- put writes a text behind the others -/
theorem put_any (s : ByteArray) (pb : Nat) (l : List Nat) (w : World) (h : WS w pb l) (hlen : l.length + s.size ≤ 100000000000) :
    Calls Tryd.prog 42 #[.pointer (some ⟨pb, 0, none⟩), .string s] w fun e w' => e = .returned (.tuple #[]) ∧ WS w' pb (l ++ ns s) ∧ Below pb w w' := by
  obtain ⟨a, c, c0, ho⟩ := h.c0
  have fz0 := h.fz 0
  have H8 : Hid (∀ u ∈ l ++ ns s, u < 256) := Lib.hid (fun u hu => by
    rcases List.mem_append.1 hu with hu | hu
    · exact h.by8 u hu
    · exact ns_lt s u hu)
  have HP := Lib.hid (fun w6 hg => WS.put (w1 := w) (w6 := w6) h c0 ho (Below.refl _ _) hg)
  have HLT := Lib.hid h.lt
  have HO := Lib.hid ho
  clear h ho
  obtain ⟨N, hN⟩ : ∃ N, N = l.length := ⟨_, rfl⟩
  rw [← hN] at c0 HO HP hlen
  have HNN := Lib.hid hN
  clear hN
  go_enter Tryd.func42, Tryd.ntmps42
  go_wp2_with (at_builtin; refine app_str (.tmp 8) (.tmp 9) rfl rfl (pb + 1) (.slice a N c) l rfl HO.out s rfl (by have := HNN.out; omega) (by have := HLT.out; omega) ?_; intro a6 c6 w6 ho6 hg6; obtain ⟨c06, fz6, hfin⟩ := HP.out w6 hg6; have HFIN := Lib.hid (hfin a6 c6 _ _ rfl ho6 H8.out); clear ho6 hg6 hfin c0 fz0)
  refine bodyPost_end (v := .tuple #[]) (by simp [results, Tryd.results42, go_sem]; try rfl) rfl ?_
  rw [← List.length_append]
  exact ⟨rfl, HFIN.out.1, HFIN.out.2⟩

end Go.Proofs.YtpabngicbfcdkaaDoor

/- (*writer).quote: the walk. -/
namespace Go.Proofs.YtpabngicbfcdkaaDoor
open Go.RowKit
set_option linter.unusedVariables false
set_option linter.unusedSimpArgs false

/-- append of a readable slice to one of the call's own, at a step of a region that draws its order -/
theorem step_app_rd {P : Program} {w : World} {ops : Array Oper} {o : Oper} {a : Act} {K : Act → World → Prop} {Q : Exit → Act → World → Prop} {G : Prop} (s x : Operand) {t e : TypeId} {k : IntKind} {bytes : Nat} (E : Elt P t e k bytes)
    (hgd : o.guard = none) (ho : o.op = .call { callee := .builtin .append, args := #[s, x], argTypes := #[t, t] })
    (base : Nat) (v : Value) (l : List Int) (hs : a.eval s = v) (hown : Own w base e k v l) (ad : Option Addr) (m c : Nat) (l2 : List Int) (hx : a.eval x = .slice ad m c) (hr : Rd w k ad m l2)
    (hlen : (l.length + l2.length) * bytes ≤ 140737488355328) (hpos : 0 < bytes) (hbase : base ≤ w.heap.size)
    (h : ∀ a' c' w', Own w' base e k (.slice a' (l ++ l2).length c') (l ++ l2) → w.grownBy w' v.ownBlock → K (a.put o.dst (.slice a' (l ++ l2).length c')) w') : if Region.wanted o (yielded ops a.tmps) = true then Oper.wp P o a w K Q else G := by
  have hw : Region.wanted o (yielded ops a.tmps) = true := by simp [Region.wanted, hgd]
  rw [if_pos hw]
  obtain ⟨i, hi, hz, hsz, hby⟩ := E.hi
  have hm : m = l2.length := hr.len.symm
  have hb2 : (l.length + l2.length) ≤ 140737488355328 := Nat.le_trans (Nat.le_mul_of_pos_right _ hpos) hlen
  cases ad with
  | some ad =>
    obtain ⟨v', w', hrun, h2, h3, _, _⟩ := run_append_own_at (P := P) w base t o.type e i (.int k 0) 1 bytes E.ht hi hz hsz hby rfl (by decide) v l.length (l.map (Value.int k)) hown ad m c (l2.map (Value.int k)) (by simp [hm]) hr.news (ints_oneCell k l2)
      (by unfold maxLen; omega) (by rw [hm]; exact hlen) hbase
    have ho2 : Own w' base e k v' (l ++ l2) := by
      unfold Own
      rw [List.map_append, List.length_append, ← hm]; exact h2
    obtain ⟨a', c', rfl⟩ := ho2.form
    unfold Oper.wp execOp
    simp only [ho, resolve, invoke, builtin, Sem.run_bind, Sem.run_pure, Result.andThen_ok, List.map_toArray, List.map_cons, List.map_nil, hs, hx, hrun]
    exact h a' c' w' ho2 h3
  | none =>
    have h0 : m = 0 := by
      rcases Nat.eq_zero_or_pos m with h0 | h0
      · exact h0
      · obtain ⟨b, off, ha, _⟩ := hr.cell 0 h0; cases ha
    subst h0
    have hl2 : l2 = [] := List.eq_nil_of_length_eq_zero hm.symm
    subst hl2
    have hrun : (Builtin.append_ #[t, t] o.type #[v, .slice none 0 c]).run P w = .ok v w := by
      rcases hown.2 with ⟨rfl, h0⟩ | ⟨g, cap, cur, rfl, _, _, hnc, _⟩
      · simp [Builtin.append_, run_underlying E.ht, sizeOf, typeInfo, hi, Builtin.lenOf, Builtin.firstCells]
      · simp [Builtin.append_, run_underlying E.ht, sizeOf, typeInfo, hi, Builtin.lenOf, Builtin.firstCells, hnc, storeCells]
    unfold Oper.wp execOp
    simp only [ho, resolve, invoke, builtin, Sem.run_bind, Sem.run_pure, Result.andThen_ok, List.map_toArray, List.map_cons, List.map_nil, hs, hx, hrun]
    obtain ⟨a', c', rfl⟩ := hown.form
    have := h a' c' w (by simpa using hown) (World.grownBy.refl _ _)
    simpa [Oper.upon] using this

theorem and15 {x : Nat} (h : x < 256) : bits BinOp.and IntKind.u8 (x : Int) 15 = ((x % 16 : Nat) : Int) := by
  have : ∀ d : Fin 256, bits BinOp.and IntKind.u8 (d.1 : Int) 15 = ((d.1 % 16 : Nat) : Int) := by decide +kernel
  exact this ⟨x, h⟩
theorem hexL (d : Nat) (hd : d < 16) : ((⟨#[48, 49, 50, 51, 52, 53, 54, 55, 56, 57, 97, 98, 99, 100, 101, 102]⟩ : ByteArray)[d]'hd).toNat = hexC d := by
  have : ∀ d : Fin 16, ((⟨#[48, 49, 50, 51, 52, 53, 54, 55, 56, 57, 97, 98, 99, 100, 101, 102]⟩ : ByteArray)[d.1]'d.2).toNat = hexC d.1 := by decide +kernel
  exact this ⟨d, hd⟩
theorem Rd.two (w : World) (e : TypeId) (x y : Int) (hx : 0 ≤ x ∧ x ≤ 255) (hy : 0 ≤ y ∧ y ≤ 255) : Rd (w.alloc (.cells #[.int .u8 x, .int .u8 y] e)) .u8 (some ⟨w.heap.size, 0, none⟩) 2 [x, y] :=
  Rd.lits w .u8 e [x, y] (by simp) (by intro z hz; simp at hz; rcases hz with rfl | rfl <;> (simp [Lit.wf, IntKind.min, IntKind.max, IntKind.signed, IntKind.bits]; omega))
theorem Rd.four (w : World) (e : TypeId) (x y u v : Int) (hx : 0 ≤ x ∧ x ≤ 255) (hy : 0 ≤ y ∧ y ≤ 255) (hu : 0 ≤ u ∧ u ≤ 255) (hv : 0 ≤ v ∧ v ≤ 255) : Rd (w.alloc (.cells #[.int .u8 x, .int .u8 y, .int .u8 u, .int .u8 v] e)) .u8 (some ⟨w.heap.size, 0, none⟩) 4 [x, y, u, v] :=
  Rd.lits w .u8 e [x, y, u, v] (by simp) (by intro z hz; simp at hz; rcases hz with rfl | rfl | rfl | rfl <;> (simp [Lit.wf, IntKind.min, IntKind.max, IntKind.signed, IntKind.bits]; omega))
/-- what is written of a string's first bytes -/
def quB (s : ByteArray) (k : Nat) : List Nat := 34 :: ((ns s).take k).flatMap quC
theorem quB_all (s : ByteArray) : quB s s.size ++ [34] = quX (ns s) := by
  unfold quB quX
  rw [List.take_of_length_le (by rw [ns_len]; exact Nat.le_refl _)]; simp
theorem quB_succ {s : ByteArray} {k x : Nat} (h : (ns s)[k]? = some x) : quB s (k + 1) = quB s k ++ quC x := by
  unfold quB
  rw [take_snoc h, List.flatMap_append]
  simp
theorem quB_split (s : ByteArray) (k : Nat) : ∃ q, quX (ns s) = quB s k ++ q := by
  refine ⟨((ns s).drop k).flatMap quC ++ [34], ?_⟩
  unfold quX quB
  rw [List.cons_append, ← List.append_assoc, ← List.flatMap_append, List.take_append_drop]

set_option maxRecDepth 100000 in
set_option maxHeartbeats 8000000 in
theorem quote_any (s : ByteArray) (pb : Nat) (l : List Nat) (w : World) (h : WS w pb l) (hlen : l.length + 4 * s.size + 8 ≤ 100000000000) :
    Calls Tryd.prog 44 #[.pointer (some ⟨pb, 0, none⟩), .string s] w fun e w' => e = .returned (.tuple #[]) ∧ ∃ l', WS w' pb l' ∧ WR l (quX (ns s)) l' (4 * s.size + 2) ∧ Below pb w w' := by
  have HL := Lib.hid hlen
  have HPUT := Lib.hid (put_any ⟨#[34]⟩ pb l w h (by have : (⟨#[34]⟩ : ByteArray).size = 1 := rfl; omega))
  have HNL := Lib.hid (ns_len s)
  have HLT := Lib.hid (ns_lt s)
  have HPL := Lib.hid h.lt
  clear h hlen
  go_enter Tryd.func44, Tryd.ntmps44
  go_wp2_with (go_at_call 42; refine HPUT.out.mono ?_; rintro e w1 ⟨rfl, hs1, hb1⟩; have HS1 := Lib.hid hs1; have HB1 := Lib.hid hb1; clear hs1 hb1)
  go_loopg [10] (s.size) (fun gg kv wr => ∃ (k : Nat) (l' : List Nat), k ≤ s.size ∧ gg = s.size - k ∧ kv = .int .i64 k ∧ WS wr pb l' ∧ WR l (quB s k) l' (4 * k + 1) ∧ Below pb w wr)
  case atStart => exact ⟨0, l ++ ns ⟨#[34]⟩, by omega, rfl, rfl, HS1.out, WR.put l [34], HB1.out⟩
  case round =>
    obtain ⟨k, l', hk, rfl, rfl, hws, hwr, hb⟩ := hrel
    have HW := Lib.hid hws
    have HR := Lib.hid hwr
    have HB := Lib.hid hb
    obtain ⟨a, c, c0, ho⟩ := hws.c0
    have fz0 := hws.fz 0
    have HO := Lib.hid ho
    have HP := Lib.hid (fun w1 w6 hb1 hg => WS.put (w1 := w1) (w6 := w6) hws c0 ho hb1 hg)
    obtain ⟨N, hN⟩ : ∃ N, N = l'.length := ⟨_, rfl⟩
    have HNN := Lib.hid hN
    have HN9 : Hid (N + 7 ≤ 100000000000) := Lib.hid (by have h1 := HL.out; have h2 := HR.out.len; omega)
    rw [← hN] at c0 HO HP
    clear hws hwr hb ho hN
    have hkI : (k : Int) ≤ (s.size : Int) := by omega
    have hsI : (s.size : Int) ≤ 25000000000 := by have := HL.out; omega
    have hni : (N : Int) ≤ 100000000000 := by have := HN9.out; omega
    by_cases hks : k = s.size
    · subst hks
      have HPUT2 := Lib.hid (put_any ⟨#[34]⟩ pb l' wr HW.out (by have : (⟨#[34]⟩ : ByteArray).size = 1 := rfl; have := HN9.out; have := HNN.out; have h1 := HL.out; have h2 := HR.out.len; omega))
      clear c0 fz0
      go_wp2_with (go_at_call 42; refine HPUT2.out.mono ?_; rintro e w2 ⟨rfl, hs2, hb2⟩; have HS2 := Lib.hid hs2; have HB2 := Lib.hid hb2; clear hs2 hb2)
      refine bodyPost_end (v := .tuple #[]) (by simp [results, Tryd.results44, go_sem]; try rfl) rfl ?_
      refine ⟨rfl, _, HS2.out, ?_, HB.out.trans HB2.out⟩
      rw [← quB_all]
      exact (WR.app HR.out (WR.put l' [34])).mono (by simp only [List.length_cons, List.length_nil]; omega)
    · have hki : (k : Int) < (s.size : Int) := by omega
      have hkl : k < s.size := by omega
      by_cases hf : 4096 < N
      · have hfi : (4096 : Int) < (N : Int) := by omega
        have HF : Hid (4096 < l'.length) := Lib.hid (by rw [← HNN.out]; exact hf)
        clear hf
        go_wp2
        refine bodyPost_ret (v := .tuple #[]) (by simp [results, Tryd.results44, go_sem]; try rfl) rfl ?_
        refine ⟨rfl, l', HW.out, ?_, HB.out⟩
        obtain ⟨q, hq⟩ := quB_split s k
        rw [hq]
        exact (WR.cut HR.out HF.out q).mono (by omega)
      · have hfi : decide ((4096 : Int) < (N : Int)) = false := decide_eq_false (by omega)
        have HG := Lib.hid (ns_get hkl)
        obtain ⟨x, hx⟩ : ∃ x, (s[k]'hkl).toNat = x := ⟨_, rfl⟩
        rw [hx] at HG
        have HX9 : Hid (x < 256) := Lib.hid (HLT.out x (List.mem_of_getElem? HG.out))
        have hx9 : (x : Int) ≤ 255 := by have := HX9.out; omega
        have HSTEP : Hid (∀ p, quC x = p → p.length ≤ 4 → WR l (quB s (k + 1)) (l' ++ p) (4 * (k + 1) + 1)) := Lib.hid (fun p hp h4 => by
          rw [quB_succ HG.out, hp]
          exact (WR.app HR.out (WR.put l' p)).mono (by omega))
        have H8 : Hid (∀ p : List Nat, (∀ c ∈ p, c < 256) → ∀ c ∈ l' ++ p, c < 256) := Lib.hid (fun p hp u hu => by
          rcases List.mem_append.1 hu with hu | hu
          · exact HW.out.by8 u hu
          · exact hp u hu)
        have HKS := Lib.hid hkl
        clear hf hks
        by_cases e1 : x = 10
        · subst e1
          have HQ : Hid (quC 10 = [92, 110]) := Lib.hid (by decide)
          have HPUT2 := Lib.hid (put_any ⟨#[92, 110]⟩ pb l' wr HW.out (by have : (⟨#[92, 110]⟩ : ByteArray).size = 2 := rfl; have := HN9.out; have := HNN.out; have h1 := HL.out; have h2 := HR.out.len; have h3 := HKS.out; omega))
          go_wp2_with (go_at_call 42; refine HPUT2.out.mono ?_; rintro e w2 ⟨rfl, hs2, hb2⟩; have HS2 := Lib.hid hs2; have HB2 := Lib.hid hb2; clear hs2 hb2)
          go_roundg (s.size - (k + 1))
          case measure => have := HKS.out; omega
          case rel => exact ⟨k + 1, _, HKS.out, rfl, by go_num, HS2.out, HSTEP.out [92, 110] HQ.out (by simp), HB.out.trans HB2.out⟩
        have b1 : ((x : Int) == 10) = false := by rw [beq_eq_false_iff_ne]; omega
        by_cases e2 : x = 9
        · subst e2
          have HQ : Hid (quC 9 = [92, 116]) := Lib.hid (by decide)
          have HPUT2 := Lib.hid (put_any ⟨#[92, 116]⟩ pb l' wr HW.out (by have : (⟨#[92, 116]⟩ : ByteArray).size = 2 := rfl; have := HN9.out; have := HNN.out; have h1 := HL.out; have h2 := HR.out.len; have h3 := HKS.out; omega))
          go_wp2_with (go_at_call 42; refine HPUT2.out.mono ?_; rintro e w2 ⟨rfl, hs2, hb2⟩; have HS2 := Lib.hid hs2; have HB2 := Lib.hid hb2; clear hs2 hb2)
          go_roundg (s.size - (k + 1))
          case measure => have := HKS.out; omega
          case rel => exact ⟨k + 1, _, HKS.out, rfl, by go_num, HS2.out, HSTEP.out [92, 116] HQ.out (by simp), HB.out.trans HB2.out⟩
        have b2 : ((x : Int) == 9) = false := by rw [beq_eq_false_iff_ne]; omega
        by_cases e3 : x = 13
        · subst e3
          have HQ : Hid (quC 13 = [92, 114]) := Lib.hid (by decide)
          have HPUT2 := Lib.hid (put_any ⟨#[92, 114]⟩ pb l' wr HW.out (by have : (⟨#[92, 114]⟩ : ByteArray).size = 2 := rfl; have := HN9.out; have := HNN.out; have h1 := HL.out; have h2 := HR.out.len; have h3 := HKS.out; omega))
          go_wp2_with (go_at_call 42; refine HPUT2.out.mono ?_; rintro e w2 ⟨rfl, hs2, hb2⟩; have HS2 := Lib.hid hs2; have HB2 := Lib.hid hb2; clear hs2 hb2)
          go_roundg (s.size - (k + 1))
          case measure => have := HKS.out; omega
          case rel => exact ⟨k + 1, _, HKS.out, rfl, by go_num, HS2.out, HSTEP.out [92, 114] HQ.out (by simp), HB.out.trans HB2.out⟩
        have b3 : ((x : Int) == 13) = false := by rw [beq_eq_false_iff_ne]; omega
        by_cases e4 : x = 34
        · subst e4
          have HQ : Hid (quC 34 = [92, 34]) := Lib.hid (by decide)
          have H8' := Lib.hid (H8.out [92, 34] (by intro u hu; have := HX9.out; simp at hu; rcases hu with rfl | rfl <;> omega))
          go_wp2_with (at_builtin; go_loud (refine app_rd (.tmp 58) (.tmp 60) EU8' rfl rfl (pb + 1) (.slice a N c) (nints l') rfl (HO.out.alloc _) (some ⟨_, 0, none⟩) 2 2 ([92, 34] : List Int) rfl (Rd.two _ _ _ _ (by omega) (by omega)) (by have := HNN.out; have := HN9.out; simp; omega) (by decide) (by have h1 := HB.out.size; have h2 := HPL.out; simp; omega) ?_; intro a6 c6 w6 ho6 hg6; obtain ⟨c06, fz6, hfin⟩ := HP.out _ w6 (below_alloc _ _) hg6; have HF6 := Lib.hid (hfin a6 c6 (l'.length + 2) (l' ++ [92, 34]) (by simp) (by have h := ho6; rw [show (nints l' ++ ([92, 34] : List Int)).length = l'.length + 2 by simp] at h; rw [show nints (l' ++ [92, 34]) = nints l' ++ ([92, 34] : List Int) by simp [nints]]; exact h) H8'.out); clear ho6 hg6 hfin c0 fz0))
          have HS2 := Lib.hid HF6.out.1
          have HB2 := Lib.hid HF6.out.2
          go_roundg (s.size - (k + 1))
          case measure => have := HKS.out; omega
          case rel => exact ⟨k + 1, _, HKS.out, rfl, by go_num, HS2.out, HSTEP.out [92, 34] HQ.out (by simp), HB.out.trans HB2.out⟩
        have b4 : ((x : Int) == 34) = false := by rw [beq_eq_false_iff_ne]; omega
        by_cases e5 : x = 92
        · subst e5
          have HQ : Hid (quC 92 = [92, 92]) := Lib.hid (by decide)
          have H8' := Lib.hid (H8.out [92, 92] (by intro u hu; have := HX9.out; simp at hu; rcases hu with rfl | rfl <;> omega))
          go_wp2_with (at_builtin; go_loud (refine app_rd (.tmp 58) (.tmp 60) EU8' rfl rfl (pb + 1) (.slice a N c) (nints l') rfl (HO.out.alloc _) (some ⟨_, 0, none⟩) 2 2 ([92, 92] : List Int) rfl (Rd.two _ _ _ _ (by omega) (by omega)) (by have := HNN.out; have := HN9.out; simp; omega) (by decide) (by have h1 := HB.out.size; have h2 := HPL.out; simp; omega) ?_; intro a6 c6 w6 ho6 hg6; obtain ⟨c06, fz6, hfin⟩ := HP.out _ w6 (below_alloc _ _) hg6; have HF6 := Lib.hid (hfin a6 c6 (l'.length + 2) (l' ++ [92, 92]) (by simp) (by have h := ho6; rw [show (nints l' ++ ([92, 92] : List Int)).length = l'.length + 2 by simp] at h; rw [show nints (l' ++ [92, 92]) = nints l' ++ ([92, 92] : List Int) by simp [nints]]; exact h) H8'.out); clear ho6 hg6 hfin c0 fz0))
          have HS2 := Lib.hid HF6.out.1
          have HB2 := Lib.hid HF6.out.2
          go_roundg (s.size - (k + 1))
          case measure => have := HKS.out; omega
          case rel => exact ⟨k + 1, _, HKS.out, rfl, by go_num, HS2.out, HSTEP.out [92, 92] HQ.out (by simp), HB.out.trans HB2.out⟩
        have b5 : ((x : Int) == 92) = false := by rw [beq_eq_false_iff_ne]; omega
        by_cases e6 : 32 ≤ x ∧ x < 127
        · have b6 : decide ((x : Int) < 32) = false := decide_eq_false (by omega)
          have b7 : decide ((127 : Int) ≤ (x : Int)) = false := decide_eq_false (by omega)
          have HQ : Hid (quC x = [x]) := Lib.hid (by unfold quC; rw [if_neg e1, if_neg e2, if_neg e3, if_neg (by omega), if_neg (by omega)])
          have H8' := Lib.hid (H8.out [x] (by intro u hu; have := HX9.out; simp at hu; omega))
          go_wp2_with (at_builtin; go_loud (refine app_rd (.tmp 26) (.tmp 28) EU8' rfl rfl (pb + 1) (.slice a N c) (nints l') rfl (HO.out.alloc _) (some ⟨_, 0, none⟩) 1 1 [(x : Int)] rfl (Rd.one _ .u8 _ _ (by have := HX9.out; simp [Lit.wf, IntKind.min, IntKind.max, IntKind.signed, IntKind.bits]; omega)) (by have := HNN.out; have := HN9.out; simp; omega) (by decide) (by have h1 := HB.out.size; have h2 := HPL.out; simp; omega) ?_; intro a6 c6 w6 ho6 hg6; obtain ⟨c06, fz6, hfin⟩ := HP.out _ w6 (below_alloc _ _) hg6; have HF6 := Lib.hid (hfin a6 c6 (l'.length + 1) (l' ++ [x]) (by simp) (by have h := ho6; rw [show (nints l' ++ [(x : Int)]).length = l'.length + 1 by simp] at h; rw [show nints (l' ++ [x]) = nints l' ++ [(x : Int)] by simp [nints]]; exact h) H8'.out); clear ho6 hg6 hfin c0 fz0))
          have HS2 := Lib.hid HF6.out.1
          have HB2 := Lib.hid HF6.out.2
          go_roundg (s.size - (k + 1))
          case measure => have := HKS.out; omega
          case rel => exact ⟨k + 1, _, HKS.out, rfl, by go_num, HS2.out, HSTEP.out [x] HQ.out (by simp), HB.out.trans HB2.out⟩
        obtain ⟨d1, hd1⟩ : ∃ d, d = x / 16 := ⟨_, rfl⟩
        obtain ⟨d2, hd2⟩ : ∃ d, d = x % 16 := ⟨_, rfl⟩
        have k1 : d1 < 16 := by have := HX9.out; omega
        have k2 : d2 < 16 := by omega
        have k1i : (d1 : Int) < 16 := by omega
        have k2i : (d2 : Int) < 16 := by omega
        have hshr : (x : Int) / 16 = (d1 : Int) := by omega
        have hand : bits BinOp.and IntKind.u8 (x : Int) 15 = (d2 : Int) := by rw [hd2]; exact and15 HX9.out
        obtain ⟨c1, hc1⟩ : ∃ c, ((⟨#[48, 49, 50, 51, 52, 53, 54, 55, 56, 57, 97, 98, 99, 100, 101, 102]⟩ : ByteArray)[d1]'k1).toNat = c := ⟨_, rfl⟩
        obtain ⟨c2, hc2⟩ : ∃ c, ((⟨#[48, 49, 50, 51, 52, 53, 54, 55, 56, 57, 97, 98, 99, 100, 101, 102]⟩ : ByteArray)[d2]'k2).toNat = c := ⟨_, rfl⟩
        have HC1 : Hid (c1 = hexC d1 ∧ c1 < 256) := Lib.hid ⟨by rw [← hc1]; exact hexL d1 k1, by rw [← hc1, hexL d1 k1]; unfold hexC; split <;> omega⟩
        have HC2 : Hid (c2 = hexC d2 ∧ c2 < 256) := Lib.hid ⟨by rw [← hc2]; exact hexL d2 k2, by rw [← hc2, hexL d2 k2]; unfold hexC; split <;> omega⟩
        have HQ : Hid (quC x = [92, 120, c1, c2]) := Lib.hid (by unfold quC; rw [if_neg e1, if_neg e2, if_neg e3, if_neg (by omega), if_pos (by omega), HC1.out.1, HC2.out.1, hd1, hd2])
        have H8' := Lib.hid (H8.out [92, 120, c1, c2] (by intro u hu; have := HC1.out.2; have := HC2.out.2; simp at hu; rcases hu with rfl | rfl | rfl | rfl <;> omega))
        have g1 : (c1 : Int) ≤ 255 := by have := HC1.out.2; omega
        have g2 : (c2 : Int) ≤ 255 := by have := HC2.out.2; omega
        have HLT9 : Hid (x < 32 ∨ x ≥ 127) := Lib.hid (by omega)
        clear e1 e2 e3 e4 e5 e6 hd1 hd2
        have e7' : ((x : Int) < 32) ∨ (decide ((x : Int) < 32) = false ∧ (127 : Int) ≤ (x : Int)) := by
          by_cases h : x < 32
          · exact .inl (by omega)
          · exact .inr ⟨decide_eq_false (by omega), by have := HLT9.out; omega⟩
        have c0a : ∀ o, (wr.alloc o).cell? ⟨pb, 0, none⟩ = some (.slice a N c) := fun o => below_cell (below_alloc wr o) c0
        have c0b : ∀ o, (wr.drew.alloc o).cell? ⟨pb, 0, none⟩ = some (.slice a N c) := fun o => below_cell (below_alloc wr.drew o) (show wr.drew.cell? _ = _ from c0)
        rcases e7' with e7 | ⟨e7, e7'⟩
        all_goals
          go_upto_region 16 with fail
          go_region_law (refine step_app_rd (.tmp 75) (.tmp 82) EU8' rfl rfl (pb + 1) (.slice a N c) (nints l') rfl (Own.drew (HO.out.alloc _)) (some ⟨_, 0, none⟩) 4 4 ([92, 120, (c1 : Int), (c2 : Int)] : List Int) rfl ((Rd.four _ _ _ _ _ _ (by omega) (by omega) (by omega) (by omega)).below (Below.drew (Below.refl _ _))) (by have := HNN.out; have := HN9.out; simp; omega) (by decide) (by have h1 := HB.out.size; have h2 := HPL.out; simp; omega) ?_; intro a6 c6 w6 ho6 hg6; obtain ⟨c06, fz6, hfin⟩ := HP.out _ w6 ((below_alloc _ _).drew) hg6; have HF6 := Lib.hid (hfin a6 c6 (l'.length + 4) (l' ++ [92, 120, c1, c2]) (by simp) (by have h := ho6; rw [show (nints l' ++ ([92, 120, (c1 : Int), (c2 : Int)] : List Int)).length = l'.length + 4 by simp] at h; rw [show nints (l' ++ [92, 120, c1, c2]) = nints l' ++ [92, 120, (c1 : Int), (c2 : Int)] by simp [nints]]; exact h) H8'.out); clear ho6 hg6 hfin c0 fz0 c0a c0b)
        all_goals
          have HS2 := Lib.hid HF6.out.1
          have HB2 := Lib.hid HF6.out.2
          go_wp2
          go_roundg (s.size - (k + 1))
          case measure => have := HKS.out; omega
          case rel => exact ⟨k + 1, _, HKS.out, rfl, by go_num, HS2.out, HSTEP.out [92, 120, c1, c2] HQ.out (by simp), HB.out.trans HB2.out⟩

end Go.Proofs.YtpabngicbfcdkaaDoor

/- (*writer).call and (*writer).write: the walks. -/
namespace Go.Proofs.YtpabngicbfcdkaaDoor
open Go.RowKit
set_option linter.unusedVariables false
set_option linter.unusedSimpArgs false

mutual
/-- how long a tree's text is at most -/
def wt : Ex → Nat
  | .mk k s n us => 4 * s.size + 64 + wts us
def wts : List Ex → Nat
  | [] => 0
  | t :: r => wt t + 64 + wts r
end
theorem wt_eq (t : Ex) : wt t = 4 * t.text.size + 64 + wts t.args := by cases t; rfl
theorem wts_app : ∀ a b : List Ex, wts (a ++ b) = wts a + wts b
  | [], b => by simp [wts]
  | t :: r, b => by simp only [List.cons_append, wts, wts_app r b]; omega
theorem wts_len : ∀ us : List Ex, 64 * us.length ≤ wts us
  | [] => by simp
  | t :: r => by have := wts_len r; simp only [wts, List.length_cons]; omega
theorem wts_get : ∀ {us : List Ex} {i : Nat} {u : Ex}, us[i]? = some u → wts (us.take i) + wt u + 64 ≤ wts us
  | x :: r, 0, u, h => by simp at h; subst h; simp only [List.take_zero, wts]; omega
  | x :: r, i + 1, u, h => by
    have := wts_get (us := r) (i := i) (by simpa using h)
    simp only [List.take_succ_cons, wts]; omega

abbrev TabW (w : World) : Prop := Lib.TabIs Tryd.prog w "internal/strconv.uint64pow10" .u64 Lib.pow10Tab
/-- the table is there, and stays -/
def TAB (pb : Nat) (w : World) : Prop := ∀ w', Below pb w w' → TabW w'
theorem TAB.next {pb : Nat} {w w1 : World} (h : TAB pb w) (hb : Below pb w w1) : TAB pb w1 := fun w' h2 => h w' (hb.trans h2)

def WrPost (w : World) (pb : Nat) (l p : List Nat) (K : Nat) (e : Ending) (w' : World) : Prop := e = .returned (.tuple #[]) ∧ ∃ l', WS w' pb l' ∧ WR l p l' K ∧ Below pb w w'
abbrev RdB (pb : Nat) (w : World) (t : Ex) (tb tq : Nat) : Prop := RdP (fun b => b < pb) w t ⟨tb, tq, none⟩
theorem RdB.next {pb : Nat} {w w1 : World} {t : Ex} {tb tq : Nat} (h : RdB pb w t tb tq) (hb : Below pb w w1) (hp : pb ≤ w.heap.size) : RdB pb w1 t tb tq :=
  ⟨rfl, RdE.fr (S := fun x => pb ≤ x) ⟨hb.os, hb.tape, hb.output, hb.size, fun i hi hn => hb.block i (by omega)⟩ (fun i hi => by omega) t h.2⟩
/-- write at one tree -/
def WrP (t : Ex) : Prop := ∀ (w : World) (pb tb tq : Nat) (l : List Nat) (lv : Nat), 1 ≤ lv → lv ≤ 9 → RdB pb w t tb tq → WS w pb l → TAB pb w → l.length + wt t + 2 ≤ 10000000000 →
  Calls Tryd.prog 24 #[.pointer (some ⟨pb, 0, none⟩), .pointer (some ⟨tb, tq, none⟩), .int .i64 lv] w (WrPost w pb l (txI (br lv (own t, wI t))) (wt t + 2))
/-- what a call of write at an argument does, in every later world -/
def KidW (pb : Nat) (w : World) (u : Ex) (kb ko : Nat) : Prop := ∀ (wx : World) (l : List Nat) (lv : Nat) (i : Int), i = (lv : Int) → Below pb w wx → WS wx pb l → 1 ≤ lv → lv ≤ 9 → l.length + wt u + 2 ≤ 10000000000 →
  Calls Tryd.prog 24 #[.pointer (some ⟨pb, 0, none⟩), .pointer (some ⟨kb, ko, none⟩), .int .i64 i] wx (WrPost wx pb l (txI (br lv (own u, wI u))) (wt u + 2))
theorem KidW.of {pb : Nat} {w : World} {u : Ex} {kb ko : Nat} (h : WrP u) (hr : RdB pb w u kb ko) (ht : TAB pb w) (hp : pb ≤ w.heap.size) : KidW pb w u kb ko :=
  fun wx l lv i hi hb hs h1 h9 hl => by subst hi; exact h wx pb kb ko l lv h1 h9 (hr.next hb hp) hs (ht.next hb) hl
theorem xI_op {v : Nat} {l : List Nat} (hv : 1 ≤ v ∧ v ≤ 7 ∧ v ≠ 3) : txI [none, some (lvlK v, l, 0), none] = 32 :: (l ++ [32]) := by
  unfold txI
  simp only [List.flatMap_cons, List.flatMap_nil, xI, tb]
  have : lvlK v = 4 ∨ lvlK v = 5 := by unfold lvlK; split <;> simp
  rcases this with h | h <;> simp [h]

theorem put_lit (s : ByteArray) (q : List Nat) (hq : ns s = q) (K : Nat) (hk : q.length ≤ K) (pb : Nat) (l : List Nat) (w : World) (h : WS w pb l) (hlen : l.length + K ≤ 100000000000) :
    Calls Tryd.prog 42 #[.pointer (some ⟨pb, 0, none⟩), .string s] w fun e w' => e = .returned (.tuple #[]) ∧ WS w' pb (l ++ q) ∧ Below pb w w' := by
  subst hq
  exact put_any s pb l w h (by rw [ns_len] at hk; omega)
theorem put_mid (s : ByteArray) (pb : Nat) (l : List Nat) (w : World) (h : WS w pb l) (hlen : l.length + s.size + 2 ≤ 100000000000) :
    Calls Tryd.prog 42 #[.pointer (some ⟨pb, 0, none⟩), .string (⟨#[32]⟩ ++ s ++ ⟨#[32]⟩)] w fun e w' => e = .returned (.tuple #[]) ∧ WS w' pb (l ++ (32 :: (ns s ++ [32]))) ∧ Below pb w w' :=
  put_lit _ _ (by rw [ns_append, ns_append]; rfl) (s.size + 2) (by simp [ns_len]) pb l w h (by omega)
theorem put_at (s : ByteArray) (pb : Nat) (l : List Nat) (w : World) (h : WS w pb l) (hlen : l.length + s.size + 2 ≤ 100000000000) :
    Calls Tryd.prog 42 #[.pointer (some ⟨pb, 0, none⟩), .string (⟨#[64]⟩ ++ s)] w fun e w' => e = .returned (.tuple #[]) ∧ WS w' pb (l ++ (64 :: ns s)) ∧ Below pb w w' :=
  put_lit _ _ (by rw [ns_append]; rfl) (s.size + 2) (by simp [ns_len]) pb l w h (by omega)
theorem put_opn (s : ByteArray) (pb : Nat) (l : List Nat) (w : World) (h : WS w pb l) (hlen : l.length + s.size + 2 ≤ 100000000000) :
    Calls Tryd.prog 42 #[.pointer (some ⟨pb, 0, none⟩), .string (s ++ ⟨#[40]⟩)] w fun e w' => e = .returned (.tuple #[]) ∧ WS w' pb (l ++ (ns s ++ [40])) ∧ Below pb w w' :=
  put_lit _ _ (by rw [ns_append]; rfl) (s.size + 2) (by simp [ns_len]) pb l w h (by omega)

set_option maxRecDepth 100000 in
set_option maxHeartbeats 4000000 in
theorem call_bin (w : World) (pb tb tq : Nat) (l : List Nat) (v : Nat) (o : List Nat) (a b : Ex) (t : Ex) (het : t = callE o [a, b]) (hv : 1 ≤ v ∧ v ≤ 7 ∧ v ≠ 3) (ho : o ∈ lvlO v) (hr : RdB pb w t tb tq) (iha : WrP a) (ihb : WrP b) (hs : WS w pb l) (ht : TAB pb w) (hlen : l.length + wt t ≤ 10000000000) :
    Calls Tryd.prog 45 #[.pointer (some ⟨pb, 0, none⟩), .pointer (some ⟨tb, tq, none⟩)] w (WrPost w pb l (txI (wI t)) (wt t)) := by
  obtain ⟨-, aa, ac, hnd, -, hra⟩ := hr.2.node
  have HPL := Lib.hid hs.lt
  have HCE : Hid (∀ wx, Below pb w wx → wx.cell? ⟨tb, tq + 1, none⟩ = some (.string t.text) ∧ wx.cell? ⟨tb, tq + 3, none⟩ = some (.slice aa t.args.length ac)) := Lib.hid (fun wx hb => by
    have hf : Fr (fun x => pb ≤ x) w wx := ⟨hb.os, hb.tape, hb.output, hb.size, fun i hi hn => hb.block i (by omega)⟩
    have hT : tb < pb := hr.2.node.1
    exact ⟨hf.cell hnd.cells.2.1 (by simp only; omega), hf.cell hnd.cells.2.2.2 (by simp only; omega)⟩)
  have hta : t.args = [a, b] := by rw [het]; rfl
  have htx : ns t.text = o := by rw [het]; exact ns_bs' (lvlO_8 hv ho)
  have hlv : lvR (ns t.text) = v := by rw [htx]; exact (lvR_iff v hv.1 hv.2.1 hv.2.2 o).2 ho
  obtain ⟨kb, ko, rfl, hka⟩ := hra.get (i := 0) (t := a) (by rw [hta]; rfl)
  obtain ⟨kb', ko', he, hkb⟩ := hra.get (i := 1) (t := b) (by rw [hta]; rfl)
  cases he
  have HKA := Lib.hid (KidW.of (ko := ko) iha ⟨rfl, by simpa using hka⟩ ht (Nat.le_of_lt hs.lt))
  have HKB := Lib.hid (KidW.of (ko := ko + 4) ihb ⟨rfl, by simpa using hkb⟩ ht (Nat.le_of_lt hs.lt))
  have HO : Hid (Calls Tryd.prog 38 #[.string t.text] w fun e w' => e = .returned (oprV v) ∧ w = w') := Lib.hid (by rw [← hlv]; exact operator_any t.text w)
  have HTX : Hid (txI (wI t) = txI (br (lftL v) (own a, wI a)) ++ (32 :: (ns t.text ++ [32])) ++ txI (br (v + 1) (own b, wI b))) := Lib.hid (by
    rw [htx, het, (own_bin hv ho).2, txI_app, txI_app, xI_op hv])
  have HWT : Hid (wt t = 4 * t.text.size + 64 + (wt a + 64 + (wt b + 64))) := Lib.hid (by rw [wt_eq, hta]; simp [wts])
  have hl1 : 1 ≤ lftL v ∧ lftL v ≤ 9 := by unfold lftL; split <;> omega
  have HL1 := Lib.hid hl1
  have HV := Lib.hid hv
  obtain ⟨s, hs0⟩ : ∃ s, s = t.text := ⟨_, rfl⟩
  rw [hta] at HCE
  rw [← hs0] at HCE HO HTX HWT
  obtain ⟨z1, z3⟩ := HCE.out w (Below.refl _ _)
  have HA := Lib.hid (HKA.out w l (lftL v) _ rfl (Below.refl _ _) hs hl1.1 hl1.2 (by have := HWT.out; omega))
  have HLEN := Lib.hid hlen
  have h0i : (0 : Int) < (v : Int) := by omega
  have hrg : rgtL v = v + 1 := by unfold rgtL; rw [if_neg (by omega)]
  unfold oprV at HO
  rw [hrg] at HO
  have HPUT := Lib.hid (fun (l2 : List Nat) (w2 : World) (h2 : WS w2 pb l2) (h3 : l2.length ≤ l.length + (wt a + 2)) => put_mid s pb l2 w2 h2 (by have h1 := HWT.out; have h5 := HLEN.out; omega))
  have hz1 : ¬ 9223372036854775807 < 1 + s.size := by have := HWT.out; omega
  have hz2 : ¬ 9223372036854775807 < 1 + s.size + 1 := by have := HWT.out; omega
  clear hlen hs ht hr hnd hra hka hkb hta htx hlv hl1 hrg hs0 het ho iha ihb hv
  go_enter Tryd.func45, Tryd.ntmps45
  go_wp2_with (first
    | (go_at_call 24; refine (HKB.out w3 (l2 ++ (32 :: (ns s ++ [32]))) (v + 1) ((v : Int) + 1) (by omega) (HB2.out.trans HB3.out) HS3.out (by omega) (by have := HV.out; omega) (by have h1 := HWT.out; have h2 := HR2.out.len; have h3 := HLEN.out; have h4 := ns_len s; simp; omega)).mono ?_; rintro e w4 ⟨rfl, l4, hs4, hr4, hb4⟩; have HS4 := Lib.hid hs4; have HR4 := Lib.hid hr4; have HB4 := Lib.hid hb4; clear hs4 hr4 hb4)
    | (go_at_call 38; refine HO.out.mono ?_; rintro e w2 ⟨rfl, rfl⟩)
    | (go_at_call 24; refine HA.out.mono ?_; rintro e w2 ⟨rfl, l2, hs2, hr2, hb2⟩; have HS2 := Lib.hid hs2; have HR2 := Lib.hid hr2; have HB2 := Lib.hid hb2; obtain ⟨y1, y3⟩ := HCE.out w2 hb2; clear hs2 hr2 hb2 z1 z3)
    | (go_at_call 42; refine (HPUT.out l2 w2 HS2.out HR2.out.len).mono ?_; rintro e w3 ⟨rfl, hs3, hb3⟩; have HS3 := Lib.hid hs3; have HB3 := Lib.hid hb3; obtain ⟨x1, x3⟩ := HCE.out w3 (HB2.out.trans hb3); clear hs3 hb3 y1 y3))
  refine bodyPost_ret (v := .tuple #[]) (by simp [results, Tryd.results45, go_sem]; try rfl) rfl ?_
  refine ⟨rfl, l4, HS4.out, ?_, HB2.out.trans (HB3.out.trans HB4.out)⟩
  rw [HTX.out]
  exact (WR.app (WR.app HR2.out (WR.put l2 _)) HR4.out).mono (by have h1 := HWT.out; have h4 := ns_len s; simp; omega)

theorem br_one (t : Ex) : br 1 (own t, wI t) = wI t := by
  unfold br; rw [if_neg (by have := (own_pos t).1; simp only; omega)]
theorem xI_sg (l : List Nat) : txI [sgT l] = l := by simp [txI, sgT, xI, tb]
set_option maxRecDepth 100000 in
set_option maxHeartbeats 4000000 in
theorem call_neg (w : World) (pb tb tq : Nat) (l : List Nat) (a : Ex) (t : Ex) (het : t = callE wNot [a]) (hr : RdB pb w t tb tq) (iha : WrP a) (hs : WS w pb l) (ht : TAB pb w) (hlen : l.length + wt t ≤ 10000000000) :
    Calls Tryd.prog 45 #[.pointer (some ⟨pb, 0, none⟩), .pointer (some ⟨tb, tq, none⟩)] w (WrPost w pb l (txI (wI t)) (wt t)) := by
  obtain ⟨-, aa, ac, hnd, -, hra⟩ := hr.2.node
  have HPL := Lib.hid hs.lt
  have HCE : Hid (∀ wx, Below pb w wx → wx.cell? ⟨tb, tq + 1, none⟩ = some (.string t.text) ∧ wx.cell? ⟨tb, tq + 3, none⟩ = some (.slice aa t.args.length ac)) := Lib.hid (fun wx hb => by
    have hf : Fr (fun x => pb ≤ x) w wx := ⟨hb.os, hb.tape, hb.output, hb.size, fun i hi hn => hb.block i (by omega)⟩
    have hT : tb < pb := hr.2.node.1
    exact ⟨hf.cell hnd.cells.2.1 (by simp only; omega), hf.cell hnd.cells.2.2.2 (by simp only; omega)⟩)
  have hta : t.args = [a] := by rw [het]; rfl
  have htx : ns t.text = wNot := by rw [het]; exact ns_bs' (by decide)
  have hlv : lvR (ns t.text) = 0 := by rw [htx]; rfl
  have hown : own t = 3 := by rw [het]; exact (own_neg a).1
  obtain ⟨kb, ko, rfl, hka⟩ := hra.get (i := 0) (t := a) (by rw [hta]; rfl)
  have HKA := Lib.hid (KidW.of (ko := ko) iha ⟨rfl, by simpa using hka⟩ ht (Nat.le_of_lt hs.lt))
  have HO : Hid (Calls Tryd.prog 38 #[.string t.text] w fun e w' => e = .returned (oprV 0) ∧ w = w') := Lib.hid (by have h := operator_any t.text w; rw [hlv] at h; exact h)
  have HL : Hid (Calls Tryd.prog 41 #[.pointer (some ⟨tb, tq, none⟩)] w fun e w' => e = .returned (.int .i64 3) ∧ w = w') := Lib.hid (by have h := levelOf_any _ t tb tq w hr (by have := wts_len t.args; have := wt_eq t; omega); rw [hown] at h; exact h)
  have HTX : Hid (txI (wI t) = [110, 111, 116, 32] ++ txI (br 3 (own a, wI a))) := Lib.hid (by
    rw [het, (own_neg a).2, txI_app]; rfl)
  have HWT : Hid (wt t = 4 * t.text.size + 64 + (wt a + 64)) := Lib.hid (by rw [wt_eq, hta]; simp [wts])
  rw [hta] at HCE
  obtain ⟨z1, z3⟩ := HCE.out w (Below.refl _ _)
  have HPUT := Lib.hid (put_lit ⟨#[110, 111, 116, 32]⟩ [110, 111, 116, 32] rfl 4 (by decide) pb l w hs (by omega))
  have HLEN := Lib.hid hlen
  clear hlen hs ht hr hnd hra hka hta htx hlv het iha hown
  go_enter Tryd.func45, Tryd.ntmps45
  unfold oprV at HO
  go_wp2_with (first
    | (go_at_call 38; refine HO.out.mono ?_; rintro e w1 ⟨rfl, rfl⟩)
    | (go_at_call 41; refine HL.out.mono ?_; rintro e w1 ⟨rfl, rfl⟩)
    | (go_at_call 24; refine (HKA.out w3 (l ++ [110, 111, 116, 32]) 3 3 rfl HB3.out HS3.out (by decide) (by decide) (by have h1 := HWT.out; have h3 := HLEN.out; simp; omega)).mono ?_; rintro e w4 ⟨rfl, l4, hs4, hr4, hb4⟩; have HS4 := Lib.hid hs4; have HR4 := Lib.hid hr4; have HB4 := Lib.hid hb4; clear hs4 hr4 hb4)
    | (go_at_call 42; refine HPUT.out.mono ?_; rintro e w3 ⟨rfl, hs3, hb3⟩; have HS3 := Lib.hid hs3; have HB3 := Lib.hid hb3; obtain ⟨x1, x3⟩ := HCE.out w3 hb3; clear hs3 hb3 z1 z3))
  refine bodyPost_ret (v := .tuple #[]) (by simp [results, Tryd.results45, go_sem]; try rfl) rfl ?_
  refine ⟨rfl, l4, HS4.out, ?_, HB3.out.trans HB4.out⟩
  rw [HTX.out]
  exact (WR.app (WR.put l _) HR4.out).mono (by have h1 := HWT.out; simp; omega)

set_option maxRecDepth 100000 in
set_option maxHeartbeats 4000000 in
theorem call_cut (w : World) (pb tb tq : Nat) (l : List Nat) (a b c : Ex) (t : Ex) (het : t = callE wCut [a, b, c]) (hr : RdB pb w t tb tq) (iha : WrP a) (ihb : WrP b) (ihc : WrP c) (hs : WS w pb l) (ht : TAB pb w) (hlen : l.length + wt t ≤ 10000000000) :
    Calls Tryd.prog 45 #[.pointer (some ⟨pb, 0, none⟩), .pointer (some ⟨tb, tq, none⟩)] w (WrPost w pb l (txI (wI t)) (wt t)) := by
  obtain ⟨-, aa, ac, hnd, -, hra⟩ := hr.2.node
  have HPL := Lib.hid hs.lt
  have HCE : Hid (∀ wx, Below pb w wx → wx.cell? ⟨tb, tq + 1, none⟩ = some (.string t.text) ∧ wx.cell? ⟨tb, tq + 3, none⟩ = some (.slice aa t.args.length ac)) := Lib.hid (fun wx hb => by
    have hf : Fr (fun x => pb ≤ x) w wx := ⟨hb.os, hb.tape, hb.output, hb.size, fun i hi hn => hb.block i (by omega)⟩
    have hT : tb < pb := hr.2.node.1
    exact ⟨hf.cell hnd.cells.2.1 (by simp only; omega), hf.cell hnd.cells.2.2.2 (by simp only; omega)⟩)
  have hta : t.args = [a, b, c] := by rw [het]; rfl
  have htx : ns t.text = wCut := by rw [het]; exact ns_bs' (by decide)
  have hlv : lvR (ns t.text) = 0 := by rw [htx]; rfl
  have hown : own t = 8 := by rw [het]; exact (own_cut a b c).1
  obtain ⟨kb, ko, rfl, hka⟩ := hra.get (i := 0) (t := a) (by rw [hta]; rfl)
  obtain ⟨kb', ko', he, hkb⟩ := hra.get (i := 1) (t := b) (by rw [hta]; rfl)
  cases he
  obtain ⟨kb', ko', he, hkc⟩ := hra.get (i := 2) (t := c) (by rw [hta]; rfl)
  cases he
  have HKA := Lib.hid (KidW.of (ko := ko) iha ⟨rfl, by simpa using hka⟩ ht (Nat.le_of_lt hs.lt))
  have HKB := Lib.hid (KidW.of (ko := ko + 4) ihb ⟨rfl, by simpa using hkb⟩ ht (Nat.le_of_lt hs.lt))
  have HKC := Lib.hid (KidW.of (ko := ko + 8) ihc ⟨rfl, by simpa using hkc⟩ ht (Nat.le_of_lt hs.lt))
  have HO : Hid (Calls Tryd.prog 38 #[.string t.text] w fun e w' => e = .returned (oprV 0) ∧ w = w') := Lib.hid (by have h := operator_any t.text w; rw [hlv] at h; exact h)
  have HL : Hid (Calls Tryd.prog 41 #[.pointer (some ⟨tb, tq, none⟩)] w fun e w' => e = .returned (.int .i64 8) ∧ w = w') := Lib.hid (by have h := levelOf_any _ t tb tq w hr (by have := wts_len t.args; have := wt_eq t; omega); rw [hown] at h; exact h)
  have HTX : Hid (txI (wI t) = txI (br 8 (own a, wI a)) ++ [91] ++ txI (br 1 (own b, wI b)) ++ [58] ++ txI (br 1 (own c, wI c)) ++ [93]) := Lib.hid (by
    rw [het, (own_cut a b c).2, br_one, br_one]
    simp only [txI_app, xI_sg])
  have HWT : Hid (wt t = 4 * t.text.size + 64 + (wt a + 64 + (wt b + 64 + (wt c + 64)))) := Lib.hid (by rw [wt_eq, hta]; simp [wts])
  rw [hta] at HCE
  obtain ⟨z1, z3⟩ := HCE.out w (Below.refl _ _)
  have HA := Lib.hid (HKA.out w l 8 8 rfl (Below.refl _ _) hs (by decide) (by decide) (by have := HWT.out; omega))
  have HLEN := Lib.hid hlen
  have HP1 := Lib.hid (fun (l2 : List Nat) (w2 : World) (h2 : WS w2 pb l2) (h3 : l2.length ≤ 10000000000) => put_lit ⟨#[91]⟩ [91] rfl 1 (by decide) pb l2 w2 h2 (by omega))
  have HP2 := Lib.hid (fun (l2 : List Nat) (w2 : World) (h2 : WS w2 pb l2) (h3 : l2.length ≤ 10000000000) => put_lit ⟨#[58]⟩ [58] rfl 1 (by decide) pb l2 w2 h2 (by omega))
  have HP3 := Lib.hid (fun (l2 : List Nat) (w2 : World) (h2 : WS w2 pb l2) (h3 : l2.length ≤ 10000000000) => put_lit ⟨#[93]⟩ [93] rfl 1 (by decide) pb l2 w2 h2 (by omega))
  clear hlen hs ht hr hnd hra hka hkb hkc hta htx hlv het iha ihb ihc hown
  go_enter Tryd.func45, Tryd.ntmps45
  unfold oprV at HO
  go_wp2_with (first
    | (go_at_call 38; refine HO.out.mono ?_; rintro e w1 ⟨rfl, rfl⟩)
    | (go_at_call 41; refine HL.out.mono ?_; rintro e w1 ⟨rfl, rfl⟩)
    | (go_at_call 24; refine (HKC.out w5 (l4 ++ [58]) 1 1 rfl (HB2.out.trans (HB3.out.trans (HB4.out.trans HB5.out))) HS5.out (by decide) (by decide) (by have h1 := HWT.out; have h3 := HLEN.out; have h4 := HR2.out.len; have h5 := HR4.out.len; simp at h5 ⊢; omega)).mono ?_; rintro e w6 ⟨rfl, l6, hs6, hr6, hb6⟩; have HS6 := Lib.hid hs6; have HR6 := Lib.hid hr6; have HB6 := Lib.hid hb6; clear hs6 hr6 hb6)
    | (go_at_call 24; refine (HKB.out w3 (l2 ++ [91]) 1 1 rfl (HB2.out.trans HB3.out) HS3.out (by decide) (by decide) (by have h1 := HWT.out; have h3 := HLEN.out; have h4 := HR2.out.len; simp; omega)).mono ?_; rintro e w4 ⟨rfl, l4, hs4, hr4, hb4⟩; have HS4 := Lib.hid hs4; have HR4 := Lib.hid hr4; have HB4 := Lib.hid hb4; obtain ⟨z1, z3⟩ := HCE.out w4 (HB2.out.trans (HB3.out.trans hb4)); clear hs4 hr4 hb4 x1 x3)
    | (go_at_call 24; refine HA.out.mono ?_; rintro e w2 ⟨rfl, l2, hs2, hr2, hb2⟩; have HS2 := Lib.hid hs2; have HR2 := Lib.hid hr2; have HB2 := Lib.hid hb2; obtain ⟨y1, y3⟩ := HCE.out w2 hb2; clear hs2 hr2 hb2 z1 z3)
    | (go_at_call 42; refine (HP3.out l6 w6 HS6.out (by have h1 := HWT.out; have h3 := HLEN.out; have h4 := HR2.out.len; have h5 := HR4.out.len; have h6 := HR6.out.len; simp at h5 h6; omega)).mono ?_; rintro e w7 ⟨rfl, hs7, hb7⟩; have HS7 := Lib.hid hs7; have HB7 := Lib.hid hb7; clear hs7 hb7)
    | (go_at_call 42; refine (HP2.out l4 w4 HS4.out (by have h1 := HWT.out; have h3 := HLEN.out; have h4 := HR2.out.len; have h5 := HR4.out.len; simp at h5; omega)).mono ?_; rintro e w5 ⟨rfl, hs5, hb5⟩; have HS5 := Lib.hid hs5; have HB5 := Lib.hid hb5; obtain ⟨x1, x3⟩ := HCE.out w5 (HB2.out.trans (HB3.out.trans (HB4.out.trans hb5))); clear hs5 hb5 z1 z3)
    | (go_at_call 42; refine (HP1.out l2 w2 HS2.out (by have h1 := HWT.out; have h3 := HLEN.out; have h4 := HR2.out.len; omega)).mono ?_; rintro e w3 ⟨rfl, hs3, hb3⟩; have HS3 := Lib.hid hs3; have HB3 := Lib.hid hb3; obtain ⟨x1, x3⟩ := HCE.out w3 (HB2.out.trans hb3); clear hs3 hb3 y1 y3))
  refine bodyPost_ret (v := .tuple #[]) (by simp [results, Tryd.results45, go_sem]; try rfl) rfl ?_
  refine ⟨rfl, _, HS7.out, ?_, HB2.out.trans (HB3.out.trans (HB4.out.trans (HB5.out.trans (HB6.out.trans HB7.out))))⟩
  rw [HTX.out]
  exact (WR.app (WR.app (WR.app (WR.app (WR.app HR2.out (WR.put l2 _)) HR4.out) (WR.put l4 _)) HR6.out) (WR.put l6 _)).mono (by have h1 := HWT.out; simp; omega)

theorem joinI_snoc : ∀ (ps : List (Nat × List It)) (p : Nat × List It), joinI (ps ++ [p]) = if ps = [] then p.2 else joinI ps ++ [sgT [44], none] ++ p.2
  | [], p => rfl
  | [a], p => rfl
  | a :: b :: r, p => by
    have ih := joinI_snoc (b :: r) p
    rw [if_neg (by simp)] at ih
    rw [if_neg (by simp)]
    show a.2 ++ [sgT [44], none] ++ joinI ((b :: r) ++ [p]) = a.2 ++ [sgT [44], none] ++ joinI (b :: r) ++ [sgT [44], none] ++ p.2
    rw [ih]; simp only [List.append_assoc]
theorem wIs_take : ∀ (us : List Ex) (i : Nat), wIs (us.take i) = (wIs us).take i
  | [], i => by simp [wIs]
  | u :: r, 0 => rfl
  | u :: r, i + 1 => by simp only [List.take_succ_cons, wIs, wIs_take r i]
/-- the text of a call up to an argument -/
def upA (s : List Nat) (us : List Ex) (i : Nat) : List Nat := s ++ [40] ++ txI (joinI (wIs (us.take i)))
theorem upA_zero (s : List Nat) (us : List Ex) : upA s us 0 = s ++ [40] := by simp [upA, wIs, joinI, txI]
theorem wIs_app : ∀ a b : List Ex, wIs (a ++ b) = wIs a ++ wIs b
  | [], b => rfl
  | x :: r, b => by simp only [List.cons_append, wIs, wIs_app r b]
theorem take_snc {us : List Ex} {i : Nat} {u : Ex} (h : us[i]? = some u) : us.take (i + 1) = us.take i ++ [u] := by
  rw [List.take_add_one, h]; rfl
theorem upA_one {s : List Nat} {us : List Ex} {u : Ex} (h : us[0]? = some u) : upA s us 1 = upA s us 0 ++ txI (br 1 (own u, wI u)) := by
  unfold upA
  rw [take_snc h, br_one]
  simp [wIs, joinI, txI]
theorem upA_succ {s : List Nat} {us : List Ex} {i : Nat} {u : Ex} (h : us[i]? = some u) (hi : 0 < i) : upA s us (i + 1) = upA s us i ++ [44, 32] ++ txI (br 1 (own u, wI u)) := by
  unfold upA
  rw [take_snc h, br_one, wIs_app]
  have hl : i < us.length := (List.getElem?_eq_some_iff.1 h).1
  have hne : wIs (us.take i) ≠ [] := fun e => by
    have := wIs_len (us.take i)
    rw [e, List.length_take] at this
    simp at this; omega
  show s ++ [40] ++ txI (joinI (wIs (us.take i) ++ [(own u, wI u)])) = _
  rw [joinI_snoc, if_neg hne]
  simp only [txI_app, List.append_assoc]
  rfl
theorem wts_step {us : List Ex} {i : Nat} {u : Ex} (h : us[i]? = some u) : wts (us.take (i + 1)) = wts (us.take i) + (wt u + 64) := by
  rw [take_snc h, wts_app]; simp [wts]
theorem wts_take (us : List Ex) (i : Nat) : wts (us.take i) ≤ wts us := by
  have : wts (us.take i) + wts (us.drop i) = wts us := by rw [← wts_app, List.take_append_drop]
  omega

set_option maxRecDepth 100000 in
set_option maxHeartbeats 4000000 in
theorem call_app (w : World) (pb tb tq : Nat) (l : List Nat) (o : List Nat) (us : List Ex) (t : Ex) (het : t = callE o us) (hn : isNm o = true) (hc3 : ¬ (o = wCut ∧ us.length = 3)) (hr : RdB pb w t tb tq) (ih : ∀ u ∈ us, WrP u) (hs : WS w pb l) (ht : TAB pb w) (hlen : l.length + wt t ≤ 10000000000) :
    Calls Tryd.prog 45 #[.pointer (some ⟨pb, 0, none⟩), .pointer (some ⟨tb, tq, none⟩)] w (WrPost w pb l (txI (wI t)) (wt t)) := by
  obtain ⟨-, aa, ac, hnd, -, hra⟩ := hr.2.node
  have HPL := Lib.hid hs.lt
  have HCE : Hid (∀ wx, Below pb w wx → wx.cell? ⟨tb, tq + 1, none⟩ = some (.string t.text) ∧ wx.cell? ⟨tb, tq + 3, none⟩ = some (.slice aa t.args.length ac)) := Lib.hid (fun wx hb => by
    have hf : Fr (fun x => pb ≤ x) w wx := ⟨hb.os, hb.tape, hb.output, hb.size, fun i hi hn => hb.block i (by omega)⟩
    have hT : tb < pb := hr.2.node.1
    exact ⟨hf.cell hnd.cells.2.1 (by simp only; omega), hf.cell hnd.cells.2.2.2 (by simp only; omega)⟩)
  have hta : t.args = us := by rw [het]; rfl
  have htx : ns t.text = o := by rw [het]; exact ns_bs' (isNm_8 hn)
  have hlv : lvR (ns t.text) = 0 := by rw [htx]; exact (isNm_lv hn).1
  have hown : own t = 9 := by rw [het]; exact (own_app hn hc3).1
  have HO : Hid (Calls Tryd.prog 38 #[.string t.text] w fun e w' => e = .returned (oprV 0) ∧ w = w') := Lib.hid (by have h := operator_any t.text w; rw [hlv] at h; exact h)
  have HL : Hid (Calls Tryd.prog 41 #[.pointer (some ⟨tb, tq, none⟩)] w fun e w' => e = .returned (.int .i64 9) ∧ w = w') := Lib.hid (by have h := levelOf_any _ t tb tq w hr (by have := wts_len t.args; have := wt_eq t; omega); rw [hown] at h; exact h)
  have HTX : Hid (txI (wI t) = upA (ns t.text) us us.length ++ [41]) := Lib.hid (by
    rw [htx, het, (own_app hn hc3).2, txI_app, txI_app]
    unfold upA
    rw [List.take_length]
    simp [txI, xI, sgT]; rfl)
  have HWT : Hid (wt t = 4 * t.text.size + 64 + wts us) := Lib.hid (by rw [wt_eq, hta])
  have HWL := Lib.hid (wts_len us)
  rw [hta] at HCE hra
  have HK : Hid (∀ (i : Nat) u, us[i]? = some u → ∃ kb ko, aa = some ⟨kb, ko, none⟩ ∧ KidW pb w u kb (ko + i * 4)) := Lib.hid (fun i u hu => by
    obtain ⟨kb, ko, rfl, hk⟩ := hra.get (i := i) (t := u) hu
    rw [show ko + 4 * i = ko + i * 4 by omega] at hk
    exact ⟨kb, ko, rfl, KidW.of (ko := ko + i * 4) (ih u (List.mem_of_getElem? hu)) ⟨rfl, hk⟩ ht (Nat.le_of_lt hs.lt)⟩)
  obtain ⟨s, hs0⟩ : ∃ s, s = t.text := ⟨_, rfl⟩
  rw [← hs0] at HCE HO HTX HWT
  obtain ⟨z1, z3⟩ := HCE.out w (Below.refl _ _)
  have HLEN := Lib.hid hlen
  have HPUT := Lib.hid (put_opn s pb l w hs (by have h1 := HWT.out; omega))
  have HPC := Lib.hid (fun (l2 : List Nat) (w2 : World) (h2 : WS w2 pb l2) (h3 : l2.length ≤ 10000000000) => put_lit ⟨#[41]⟩ [41] rfl 1 (by decide) pb l2 w2 h2 (by omega))
  have HPS := Lib.hid (fun (l2 : List Nat) (w2 : World) (h2 : WS w2 pb l2) (h3 : l2.length ≤ 10000000000) => put_lit ⟨#[44, 32]⟩ [44, 32] rfl 2 (by decide) pb l2 w2 h2 (by omega))
  have hz1 : ¬ 9223372036854775807 < s.size + 1 := by have := HWT.out; omega
  have HIH := Lib.hid ih
  obtain ⟨N, hN⟩ : ∃ N, N = us.length := ⟨_, rfl⟩
  rw [← hN] at HCE HTX HWL z3
  have HNN := Lib.hid hN
  have hN9 : (N : Int) ≤ 10000000000 := by have h1 := HWT.out; have h2 := HWL.out; omega
  unfold oprV at HO
  clear hlen hs ht hr hnd hra hta htx hlv hown hs0 het hn hc3 ih hN
  go_enter Tryd.func45, Tryd.ntmps45
  go_wp2_with (first
    | (go_at_call 38; refine HO.out.mono ?_; rintro e w1 ⟨rfl, rfl⟩)
    | (go_at_call 41; refine HL.out.mono ?_; rintro e w1 ⟨rfl, rfl⟩)
    | (go_at_call 42; refine HPUT.out.mono ?_; rintro e w3 ⟨rfl, hs3, hb3⟩; have HS3 := Lib.hid hs3; have HB3 := Lib.hid hb3; obtain ⟨x1, x3⟩ := HCE.out w3 hb3; clear hs3 hb3 z1 z3))
  go_loopg [57] N (fun gg kv wr => ∃ (i : Nat) (l' : List Nat), i ≤ N ∧ gg = N - i ∧ kv = .int .i64 i ∧ WS wr pb l' ∧ WR l (upA (ns s) us i) l' (s.size + 1 + wts (us.take i)) ∧ Below pb w wr)
  case atStart => exact ⟨0, _, by omega, rfl, rfl, HS3.out, by rw [upA_zero]; exact (WR.put l _).mono (by simp [ns_len]), HB3.out⟩
  case round =>
    obtain ⟨i, l', hi, rfl, rfl, hws, hwr, hb⟩ := hrel
    have HW := Lib.hid hws
    have HR := Lib.hid hwr
    have HB := Lib.hid hb
    obtain ⟨z1, z3⟩ := HCE.out wr hb
    have HLL : Hid (l'.length + wts (us.drop i) + 60 ≤ 10000000000) := Lib.hid (by
      have h1 := HWT.out
      have h2 := HLEN.out
      have h3 := hwr.len
      have h4 : wts (us.take i) + wts (us.drop i) = wts us := by rw [← wts_app, List.take_append_drop]
      omega)
    have hiI : (i : Int) ≤ (N : Int) := by omega
    clear hws hwr hb x1 x3
    by_cases hiN : i = N
    · subst hiN
      go_wp2_with (go_at_call 42; refine (HPC.out l' wr HW.out (by have := HLL.out; omega)).mono ?_; rintro e w4 ⟨rfl, hs4, hb4⟩; have HS4 := Lib.hid hs4; have HB4 := Lib.hid hb4; clear hs4 hb4)
      refine bodyPost_end (v := .tuple #[]) (by simp [results, Tryd.results45, go_sem]; try rfl) rfl ?_
      refine ⟨rfl, _, HS4.out, ?_, HB.out.trans HB4.out⟩
      rw [HTX.out]
      exact (WR.app HR.out (WR.put l' [41])).mono (by have h1 := HWT.out; have h2 := wts_take us i; simp only [List.length_singleton]; omega)
    · have hil : i < us.length := by have := HNN.out; omega
      have hii : (i : Int) < (N : Int) := by omega
      have HU : Hid (us[i]? = some us[i]) := Lib.hid (List.getElem?_eq_getElem hil)
      obtain ⟨u, hu⟩ : ∃ u, u = us[i] := ⟨_, rfl⟩
      rw [← hu] at HU
      obtain ⟨kb, ko, rfl, hk⟩ := HK.out i u HU.out
      have HKI := Lib.hid hk
      have HIN : Hid (i < N) := Lib.hid (by omega)
      have HWU : Hid (wt u + 64 ≤ wts (us.drop i)) := Lib.hid (by
        have h1 := wts_step HU.out
        have h4 : wts (us.take i) + wts (us.drop i) = wts us := by rw [← wts_app, List.take_append_drop]
        have h5 := wts_take us (i + 1)
        omega)
      clear hk hu hil hiN
      by_cases h0 : i = 0
      · subst h0
        have HKA := Lib.hid (HKI.out wr l' 1 1 rfl HB.out HW.out (by decide) (by decide) (by have h1 := HLL.out; have h2 := HWU.out; omega))
        simp only [Nat.zero_mul, Nat.add_zero] at HKA
        go_wp2_with (go_at_call 24; refine HKA.out.mono ?_; rintro e w4 ⟨rfl, l4, hs4, hr4, hb4⟩; have HS4 := Lib.hid hs4; have HR4 := Lib.hid hr4; have HB4 := Lib.hid hb4; clear hs4 hr4 hb4)
        go_roundg (N - (0 + 1))
        case measure => have := HIN.out; omega
        case rel => exact ⟨0 + 1, l4, HIN.out, rfl, by go_num, HS4.out, by rw [upA_one HU.out]; exact (WR.app HR.out HR4.out).mono (by have := wts_step HU.out; omega), HB.out.trans HB4.out⟩
      · have h0i : (0 : Int) < (i : Int) := by omega
        have H0 : Hid (0 < i) := Lib.hid (by omega)
        have HKA := Lib.hid (fun (w3 : World) (hb3 : Below pb wr w3) (hs3 : WS w3 pb (l' ++ [44, 32])) => HKI.out w3 (l' ++ [44, 32]) 1 1 rfl (HB.out.trans hb3) hs3 (by decide) (by decide) (by have h1 := HLL.out; have h2 := HWU.out; simp; omega))
        clear h0
        go_wp2_with (first
          | (go_at_call 24; refine (HKA.out w3 HB3'.out HS3'.out).mono ?_; rintro e w4 ⟨rfl, l4, hs4, hr4, hb4⟩; have HS4 := Lib.hid hs4; have HR4 := Lib.hid hr4; have HB4 := Lib.hid hb4; clear hs4 hr4 hb4)
          | (go_at_call 42; refine (HPS.out l' wr HW.out (by have := HLL.out; omega)).mono ?_; rintro e w3 ⟨rfl, hs3, hb3⟩; have HS3' := Lib.hid hs3; have HB3' := Lib.hid hb3; obtain ⟨x1, x3⟩ := HCE.out w3 (HB.out.trans hb3); clear hs3 hb3 z1 z3))
        go_roundg (N - (i + 1))
        case measure => have := HIN.out; omega
        case rel => exact ⟨i + 1, l4, HIN.out, rfl, by go_num, HS4.out, by rw [upA_succ HU.out H0.out]; exact (WR.app (WR.app HR.out (WR.put l' [44, 32])) HR4.out).mono (by have := wts_step HU.out; simp only [List.length_cons, List.length_nil]; omega), HB.out.trans (HB3'.out.trans HB4.out)⟩

end Go.Proofs.YtpabngicbfcdkaaDoor
