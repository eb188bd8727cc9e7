/-
  The plain law of formatting: the tokens of a tree, and that they are parsed as that tree.
-/
import Derived.Test.YtpabngicbfcdkaaParP
namespace Go.Proofs.Ytpabngicbfcdkaa
open Go.RowKit
set_option linter.unusedVariables false
set_option linter.unusedSimpArgs false

/-- the level of an operator with two operands, or 0 -/
def lvR (x : List Nat) : Nat := if x = [111, 114] then 1 else if x = [97, 110, 100] then 2 else if x = [61, 61] ∨ x = [33, 61] ∨ x = [60] ∨ x = [60, 61] then 4 else if x = [43, 43] then 5 else if x = [43] ∨ x = [45] then 6 else if x = [42] then 7 else 0
theorem lvR_lt (x : List Nat) : lvR x ≤ 7 ∧ lvR x ≠ 3 := by
  unfold lvR
  repeat' split
  all_goals omega
theorem lvR_iff (n : Nat) (h1 : 1 ≤ n) (h7 : n ≤ 7) (h3 : n ≠ 3) (x : List Nat) : lvR x = n ↔ x ∈ lvlO n := by
  constructor
  · intro h
    unfold lvR at h
    split at h
    · rename_i e; subst h; rw [e]; decide
    split at h
    · rename_i e; subst h; rw [e]; decide
    split at h
    · rename_i e; subst h; rcases e with e | e | e | e <;> (rw [e]; decide)
    split at h
    · rename_i e; subst h; rw [e]; decide
    split at h
    · rename_i e; subst h; rcases e with e | e <;> (rw [e]; decide)
    split at h
    · rename_i e; subst h; rw [e]; decide
    · omega
  · intro h
    have h9 : n = 1 ∨ n = 2 ∨ n = 4 ∨ n = 5 ∨ n = 6 ∨ n = 7 := by omega
    rcases h9 with rfl | rfl | rfl | rfl | rfl | rfl
    · simp [lvlO] at h; subst h; rfl
    · simp [lvlO] at h; subst h; rfl
    · simp [lvlO] at h; rcases h with rfl | rfl | rfl | rfl <;> rfl
    · simp [lvlO] at h; subst h; rfl
    · simp [lvlO] at h; rcases h with rfl | rfl <;> rfl
    · simp [lvlO] at h; subst h; rfl

/-- kind, text, number -/
abbrev TkK := Nat × List Nat × Nat
/-- a token, or a blank -/
abbrev It := Option TkK
def sgT (l : List Nat) : It := some (5, l, 0)
def own (t : Ex) : Nat := if t.kind ≠ 4 then 9 else if 0 < lvR (ns t.text) then lvR (ns t.text) else if ns t.text = wNot then 3 else if ns t.text = wCut ∧ t.args.length = 3 then 8 else 9
/-- brackets, where the grammar has a level -/
def br (lv : Nat) (p : Nat × List It) : List It := if p.1 < lv then sgT [40] :: (p.2 ++ [sgT [41]]) else p.2
def lftL (v : Nat) : Nat := if v = 4 then 5 else v
def joinI : List (Nat × List It) → List It
  | [] => []
  | [a] => a.2
  | a :: b :: r => a.2 ++ [sgT [44], none] ++ joinI (b :: r)
def comb (k : Int) (l : List Nat) (n : Int) (ps : List (Nat × List It)) : List It :=
  if k = 1 then [some (1, [], n.toNat)] else if k = 2 then [some (2, l, 0)] else if k = 3 then [some (3, l, 0)]
  else if 0 < lvR l then (match ps with
    | [a, b] => br (lftL (lvR l)) a ++ [none, some (lvlK (lvR l), l, 0), none] ++ br (lvR l + 1) b
    | _ => [])
  else if l = wNot then (match ps with
    | [a] => [some (4, wNot, 0), none] ++ br 3 a
    | _ => [])
  else if l = wCut ∧ ps.length = 3 then (match ps with
    | [a, b, c] => br 8 a ++ [sgT [91]] ++ b.2 ++ [sgT [58]] ++ c.2 ++ [sgT [93]]
    | _ => [])
  else [some (4, l, 0), sgT [40]] ++ joinI ps ++ [sgT [41]]
mutual
/-- the tokens and blanks of a formatted tree -/
def wI : Ex → List It
  | .mk k s n us => comb k (ns s) n (wIs us)
def wIs : List Ex → List (Nat × List It)
  | [] => []
  | t :: r => (own t, wI t) :: wIs r
end
theorem wIs_len : ∀ us : List Ex, (wIs us).length = us.length
  | [] => rfl
  | t :: r => by simp [wIs, wIs_len r]
/-- the tokens alone -/
def tkI (l : List It) : List TkK := l.filterMap id
theorem tkI_app (a b : List It) : tkI (a ++ b) = tkI a ++ tkI b := List.filterMap_append ..
theorem tkI_cons (t : TkK) (r : List It) : tkI (some t :: r) = t :: tkI r := rfl
theorem tkI_none (r : List It) : tkI (none :: r) = tkI r := rfl

theorem bs_ns (s : ByteArray) : bs (ns s) = s := by
  have h := ext_bs s 0 s.size
  rw [List.drop_zero, Nat.sub_zero, List.take_of_length_le (by rw [ns_len]; exact Nat.le_refl _)] at h
  rw [← h]
  have h2 : (s.extract 0 s.size).data = s.data := by
    apply Array.toList_inj.1
    rw [Lib.extract_data, List.take_of_length_le (by show s.data.toList.length ≤ _; exact Nat.le_refl _), List.drop_zero]
  cases hs : s
  cases hx : s.extract 0 s.size
  rw [hx, hs] at h2
  simp only at h2
  rw [← hs, hx, h2, hs]

/-- well-formed, at one node -/
def wellN (t : Ex) : Bool :=
  if t.kind = 1 then ns t.text == [] && decide (0 ≤ t.num) && decide (t.num ≤ 1152921504606846976) && t.args.length == 0
  else if t.kind = 2 then t.num == 0 && t.args.length == 0
  else if t.kind = 3 then (ns t.text).all refB && !(ns t.text == []) && t.num == 0 && t.args.length == 0
  else if t.kind = 4 then
    if 0 < lvR (ns t.text) then t.num == 0 && t.args.length == 2
    else if ns t.text = wNot then t.num == 0 && t.args.length == 1
    else t.num == 0 && !(ns t.text == []) && (ns t.text).all letB
  else false
abbrev Well (t : Ex) : Prop := t.all wellN
theorem Well.kid {t : Ex} (h : Well t) {u : Ex} (hu : u ∈ t.args) : Well u := by
  obtain ⟨i, hi⟩ := List.getElem?_of_mem hu
  exact ((Ex.all_eq wellN t).1 h).2 i u hi
theorem Well.node {t : Ex} (h : Well t) : wellN t = true := ((Ex.all_eq wellN t).1 h).1

/-- no part at a level goes on with these tokens -/
def stop (n : Nat) (r : List Tk) : Prop := (∀ m, n ≤ m → m ≤ 7 → m ≠ 3 → isT (lvlK m) (lvlO m) r = false) ∧ (n ≤ 8 → isT 5 [[91]] r = false)
theorem stop.mono {n m : Nat} {r : List Tk} (h : stop n r) (hm : n ≤ m) : stop m r := ⟨fun k h1 h2 h3 => h.1 k (by omega) h2 h3, fun h1 => h.2 (by omega)⟩
theorem stop_nil (n : Nat) : stop n [] := ⟨fun _ _ _ _ => rfl, fun _ => rfl⟩
theorem stop_sign {n : Nat} {l : List Nat} {i : Nat} {r : List Tk} (hl : l = [41] ∨ l = [44] ∨ l = [58] ∨ l = [93]) : stop n (((5, l, 0), i) :: r) := by
  have h : ∀ m, m ≤ 7 → (lvlO m).contains l = false := by
    intro m hm
    have : ∀ m : Fin 8, (lvlO m.1).contains [41] = false ∧ (lvlO m.1).contains [44] = false ∧ (lvlO m.1).contains [58] = false ∧ (lvlO m.1).contains [93] = false := by decide
    have := this ⟨m, by omega⟩
    rcases hl with rfl | rfl | rfl | rfl
    · exact this.1
    · exact this.2.1
    · exact this.2.2.1
    · exact this.2.2.2
  refine ⟨fun m _ h7 _ => ?_, fun _ => ?_⟩
  · simp only [isT, h m h7, Bool.and_false]
  · rcases hl with rfl | rfl | rfl | rfl <;> rfl
/-- an operator stops the levels above its own -/
theorem stop_op {v : Nat} (h1 : 1 ≤ v) (h7 : v ≤ 7) (h3 : v ≠ 3) {l : List Nat} (hl : l ∈ lvlO v) {i : Nat} {r : List Tk} : stop (v + 1) (((lvlK v, l, 0), i) :: r) := by
  refine ⟨fun m hm hm7 hm3 => ?_, fun _ => ?_⟩
  · have : (lvlO m).contains l = false := by
      have e := (lvR_iff v h1 h7 h3 l).2 hl
      cases hc : (lvlO m).contains l with
      | false => rfl
      | true =>
        have := (lvR_iff m (by omega) hm7 hm3 l).2 (by simpa using hc)
        omega
    simp only [isT, this, Bool.and_false]
  · have : l ≠ [91] := by
      rintro rfl
      have e := (lvR_iff v h1 h7 h3 [91]).2 hl
      have : lvR [91] = 0 := by decide
      omega
    simp [isT, Ne.symm this, this]

/-- from a level down to a lower one -/
theorem climb {ts : List Tk} {t : Ex} {r : List Tk} : ∀ (d m n : Nat), m = n + d → 1 ≤ n → m ≤ 9 → runJ (.lev m ts) = some (t, r) → stop n r → (n ≤ 3 → 3 < m → isT 4 [wNot] ts = false) → runJ (.lev n ts) = some (t, r)
  | 0, m, n, h, _, _, hr, _, _ => by obtain rfl : m = n := by omega
                                     exact hr
  | d + 1, m, n, h, h1, h9, hr, hs, hn => by
    have ih := climb d m (n + 1) (by omega) (by omega) h9 hr (hs.mono (by omega)) (fun h3 h4 => hn (by omega) h4)
    by_cases e8 : n = 8
    · subst e8
      rw [runJ_pst, ih]
      simp only [Option.bind_some]
      rw [runJ_post]; unfold postJ; rw [hs.2 (by omega)]; rfl
    by_cases e3 : n = 3
    · subst e3
      rw [runJ_not]; unfold notJ; rw [hn (by omega) (by omega)]; exact ih
    by_cases e4 : n = 4
    · subst e4
      rw [runJ_cmp]; unfold cmpJ; rw [ih]
      simp only [Option.bind_some]
      have := hs.1 4 (by omega) (by omega) (by omega)
      rw [show isT 5 (lvlO 4) r = false from this]; rfl
    · rw [runJ_lev e3 e4 (by omega), ih]
      simp only [Option.bind_some]
      rw [runJ_loop n (by omega)]; unfold loopJ; rw [hs.1 n (by omega) (by omega) e3]; rfl

end Go.Proofs.Ytpabngicbfcdkaa
