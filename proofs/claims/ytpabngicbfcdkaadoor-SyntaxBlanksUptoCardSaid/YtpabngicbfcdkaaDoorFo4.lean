/-
  Joined texts: The plain law of the parser. · The plain law of formatting: the tokens of a tree, and that they are parsed as that tree. · syntax.operator: the walk. · syntax.levelOf: the walk. · The parser's state; at, take, expect, call. · The parser: chain.
-/
import Derived.Test.YtpabngicbfcdkaaDoorFo3
import Derived.Test.YtpabngicbfcdkaaDoorFo1
import Derived.Test.YtpabngicbfcdkaaDoorFo2
import Derived.Deep.RegionWith

/- The plain law of the parser. -/
namespace Go.Proofs.YtpabngicbfcdkaaDoor
open Go.RowKit
set_option linter.unusedVariables false
set_option linter.unusedSimpArgs false

/-- the next token is one of some words or signs -/
def isT (k : Nat) (texts : List (List Nat)) (ts : List Tk) : Bool := match ts with
  | [] => false
  | t :: _ => t.1.1 == k && texts.contains t.1.2.1
def hdT (ts : List Tk) : List Nat := match ts with
  | [] => []
  | t :: _ => t.1.2.1
def lvlK (n : Nat) : Nat := if n ≤ 2 then 4 else 5
def lvlO (n : Nat) : List (List Nat) := if n = 1 then [[111, 114]] else if n = 2 then [[97, 110, 100]] else if n = 4 then [[61, 61], [33, 61], [60], [60, 61]] else if n = 5 then [[43, 43]] else if n = 6 then [[43], [45]] else [[42]]
def wNot : List Nat := [110, 111, 116]
def wCut : List Nat := [99, 117, 116]
def isNm (l : List Nat) : Bool := !(l == [97, 110, 100] || l == [111, 114] || l == wNot) && !(l == []) && l.all letB
def callE (name : List Nat) (us : List Ex) : Ex := .mk 4 (bs name) 0 us
def eE : Ex := .mk 0 (bs []) 0 []

inductive Job where
  | lev (n : Nat) (ts : List Tk)
  | loop (n : Nat) (e : Ex) (ts : List Tk)
  | post (e : Ex) (ts : List Tk)
  | args (name : List Nat) (acc : List Ex) (ts : List Tk)

abbrev Res := Option (Ex × List Tk)
def primJ (go : Job → Res) (ts : List Tk) : Res := match ts with
  | [] => none
  | t :: r =>
    if t.1.1 = 1 then some (.mk 1 (bs []) (t.1.2.2 : Nat) [], r)
    else if t.1.1 = 2 then some (.mk 2 (bs t.1.2.1) 0 [], r)
    else if t.1.1 = 3 then some (.mk 3 (bs t.1.2.1) 0 [], r)
    else if t.1.1 = 4 then
      if isNm t.1.2.1 && isT 5 [[40]] r then
        if isT 5 [[41]] r.tail then some (callE t.1.2.1 [], r.tail.tail) else go (.args t.1.2.1 [] r.tail)
      else none
    else if t.1.1 = 5 ∧ t.1.2.1 = [40] then (go (.lev 1 r)).bind fun x => if isT 5 [[41]] x.2 then some (x.1, x.2.tail) else none
    else none
def notJ (go : Job → Res) (ts : List Tk) : Res := if isT 4 [wNot] ts then (go (.lev 3 ts.tail)).bind fun x => some (callE wNot [x.1], x.2) else go (.lev 4 ts)
def cmpJ (go : Job → Res) (ts : List Tk) : Res := (go (.lev 5 ts)).bind fun x => if isT 5 (lvlO 4) x.2 then (go (.lev 5 x.2.tail)).bind fun y => some (callE (hdT x.2) [x.1, y.1], y.2) else some x
def levJ (go : Job → Res) (n : Nat) (ts : List Tk) : Res :=
  if n = 3 then notJ go ts
  else if n = 4 then cmpJ go ts
  else if n = 8 then (go (.lev 9 ts)).bind fun x => go (.post x.1 x.2)
  else if n = 9 then primJ go ts
  else (go (.lev (n + 1) ts)).bind fun x => go (.loop n x.1 x.2)
def loopJ (go : Job → Res) (n : Nat) (e : Ex) (ts : List Tk) : Res := if isT (lvlK n) (lvlO n) ts then (go (.lev (n + 1) ts.tail)).bind fun x => go (.loop n (callE (hdT ts) [e, x.1]) x.2) else some (e, ts)
def postJ (go : Job → Res) (e : Ex) (ts : List Tk) : Res :=
  if isT 5 [[91]] ts then
    (go (.lev 1 ts.tail)).bind fun x => if isT 5 [[58]] x.2 then (go (.lev 1 x.2.tail)).bind fun y => if isT 5 [[93]] y.2 then go (.post (callE wCut [e, x.1, y.1]) y.2.tail) else none else none
  else some (e, ts)
def argsJ (go : Job → Res) (name : List Nat) (acc : List Ex) (ts : List Tk) : Res :=
  (go (.lev 1 ts)).bind fun x => if isT 5 [[44]] x.2 then go (.args name (acc ++ [x.1]) x.2.tail) else if isT 5 [[41]] x.2 then some (callE name (acc ++ [x.1]), x.2.tail) else none
/-- one step of a job, told how its parts end -/
def stepJ (go : Job → Res) : Job → Res
  | .lev n ts => levJ go n ts
  | .loop n e ts => loopJ go n e ts
  | .post e ts => postJ go e ts
  | .args name acc ts => argsJ go name acc ts

def runF : Nat → Job → Res
  | 0, _ => none
  | f + 1, j => stepJ (runF f) j
def Job.ts : Job → List Tk
  | .lev _ ts => ts
  | .loop _ _ ts => ts
  | .post _ ts => ts
  | .args _ _ ts => ts
/-- a job's weight -/
def Job.wt : Job → Nat
  | .lev n ts => 12 * ts.length + (12 - n)
  | .loop _ _ ts => 12 * ts.length
  | .post _ ts => 12 * ts.length
  | .args _ _ ts => 12 * ts.length + 12
/-- how much is left at most -/
def Job.most : Job → Nat
  | .lev _ ts => ts.length - 1
  | .loop _ _ ts => ts.length
  | .post _ ts => ts.length
  | .args _ _ ts => ts.length - 1
def Job.need : Job → Nat
  | .lev _ _ => 1
  | .args _ _ _ => 1
  | _ => 0
theorem isT_pos {k : Nat} {l : List (List Nat)} {ts : List Tk} (h : isT k l ts = true) : 0 < ts.length := by
  cases ts with
  | nil => cases h
  | cons t r => simp
theorem tail_len {k : Nat} {l : List (List Nat)} {ts : List Tk} (h : isT k l ts = true) : ts.tail.length + 1 = ts.length := by
  cases ts with
  | nil => cases h
  | cons t r => simp

/-- what is left is shorter -/
def Shr (go : Job → Res) : Prop := ∀ j x, go j = some x → x.2.length + j.need ≤ j.ts.length
theorem stepJ_shr {go : Job → Res} (h : Shr go) : Shr (stepJ go) := by
  intro j x hx
  have bnd : ∀ {o : Res} {g : Ex × List Tk → Res} {x}, o.bind g = some x → ∃ y, o = some y ∧ g y = some x := fun {o g x} e => by
    cases o with
    | none => cases e
    | some y => exact ⟨y, rfl, e⟩
  cases j with
  | lev n ts =>
    change levJ go n ts = some x at hx
    unfold levJ at hx
    split at hx
    · unfold notJ at hx
      split at hx
      · rename_i h1
        obtain ⟨y, hy, e⟩ := bnd hx
        cases e
        have := h _ _ hy
        have := tail_len h1
        simp only [Job.need, Job.ts] at *; omega
      · have := h _ _ hx
        simpa only [Job.need, Job.ts] using this
    · split at hx
      · unfold cmpJ at hx
        obtain ⟨y, hy, e⟩ := bnd hx
        have h2 := h _ _ hy
        split at e
        · rename_i h1
          obtain ⟨z, hz, e⟩ := bnd e
          cases e
          have h3 := h _ _ hz
          have := tail_len h1
          simp only [Job.need, Job.ts] at *; omega
        · cases e
          simpa only [Job.need, Job.ts] using h2
      · split at hx
        · obtain ⟨y, hy, e⟩ := bnd hx
          have h2 := h _ _ hy
          have h3 := h _ _ e
          simp only [Job.need, Job.ts] at *; omega
        · split at hx
          · unfold primJ at hx
            split at hx
            · cases hx
            · rename_i t r
              split at hx
              · cases hx; simp [Job.need, Job.ts]
              · split at hx
                · cases hx; simp [Job.need, Job.ts]
                · split at hx
                  · cases hx; simp [Job.need, Job.ts]
                  · split at hx
                    · split at hx
                      · rename_i h1
                        simp only [Bool.and_eq_true] at h1
                        have h2 := tail_len h1.2
                        split at hx
                        · rename_i h3
                          have h4 := tail_len h3
                          cases hx
                          simp only [Job.need, Job.ts, List.length_cons]; omega
                        · have h4 := h _ _ hx
                          simp only [Job.need, Job.ts, List.length_cons] at *; omega
                      · cases hx
                    · split at hx
                      · obtain ⟨y, hy, e⟩ := bnd hx
                        have h2 := h _ _ hy
                        split at e
                        · rename_i h1
                          have h3 := tail_len h1
                          cases e
                          simp only [Job.need, Job.ts, List.length_cons] at *; omega
                        · cases e
                      · cases hx
          · obtain ⟨y, hy, e⟩ := bnd hx
            have h2 := h _ _ hy
            have h3 := h _ _ e
            simp only [Job.need, Job.ts] at *; omega
  | loop n e ts =>
    change loopJ go n e ts = some x at hx
    unfold loopJ at hx
    split at hx
    · rename_i h1
      obtain ⟨y, hy, e⟩ := bnd hx
      have h2 := h _ _ hy
      have h3 := h _ _ e
      have := tail_len h1
      simp only [Job.need, Job.ts] at *; omega
    · cases hx; simp [Job.need, Job.ts]
  | post e ts =>
    change postJ go e ts = some x at hx
    unfold postJ at hx
    split at hx
    · rename_i h1
      obtain ⟨y, hy, e⟩ := bnd hx
      have h2 := h _ _ hy
      have := tail_len h1
      split at e
      · rename_i h4
        have := tail_len h4
        obtain ⟨z, hz, e⟩ := bnd e
        have h3 := h _ _ hz
        split at e
        · rename_i h6
          have := tail_len h6
          have h5 := h _ _ e
          simp only [Job.need, Job.ts] at *; omega
        · cases e
      · cases e
    · cases hx; simp [Job.need, Job.ts]
  | args name acc ts =>
    change argsJ go name acc ts = some x at hx
    unfold argsJ at hx
    obtain ⟨y, hy, e⟩ := bnd hx
    have h2 := h _ _ hy
    split at e
    · rename_i h1
      have := tail_len h1
      have h3 := h _ _ e
      simp only [Job.need, Job.ts] at *; omega
    · split at e
      · rename_i h1
        have := tail_len h1
        cases e
        simp only [Job.need, Job.ts] at *; omega
      · cases e
theorem runF_shr : ∀ f, Shr (runF f)
  | 0 => fun j x h => by cases h
  | f + 1 => stepJ_shr (runF_shr f)

def Job.ok : Job → Prop
  | .lev n _ => n ≤ 9
  | .loop n _ _ => n ≤ 7
  | _ => True
/-- a step looks only at lighter jobs -/
theorem stepJ_congr {go go' : Job → Res} (hs : Shr go) : ∀ j : Job, j.ok → (∀ k : Job, k.ok → k.wt < j.wt → go k = go' k) → stepJ go j = stepJ go' j := by
  have bc : ∀ {o : Res} {g g' : Ex × List Tk → Res}, (∀ y, o = some y → g y = g' y) → o.bind g = o.bind g' := fun {o g g'} h => by
    cases o with
    | none => rfl
    | some y => exact h y rfl
  intro j hok h
  cases j with
  | lev n ts =>
    have hn9 : n ≤ 9 := hok
    change levJ go n ts = levJ go' n ts
    unfold levJ
    split
    · rename_i h3; subst h3
      unfold notJ
      split
      · rename_i h1
        rw [← h _ (by first | trivial | (simp only [Job.ok] at *; omega)) (by have := tail_len h1; simp only [Job.wt]; omega)]
      · rw [← h _ (by first | trivial | (simp only [Job.ok] at *; omega)) (by simp only [Job.wt]; omega)]
    · split
      · rename_i h3; subst h3
        unfold cmpJ
        rw [← h _ (by first | trivial | (simp only [Job.ok] at *; omega)) (by simp only [Job.wt]; omega)]
        refine bc fun y hy => ?_
        have h2 := hs _ _ hy
        split
        · rename_i h1
          rw [← h _ (by first | trivial | (simp only [Job.ok] at *; omega)) (by have := tail_len h1; simp only [Job.wt, Job.need, Job.ts] at *; omega)]
        · rfl
      · split
        · rename_i h3; subst h3
          rw [← h _ (by first | trivial | (simp only [Job.ok] at *; omega)) (by simp only [Job.wt]; omega)]
          refine bc fun y hy => ?_
          have h2 := hs _ _ hy
          exact h _ (by first | trivial | (simp only [Job.ok] at *; omega)) (by simp only [Job.wt, Job.need, Job.ts] at *; omega)
        · split
          · rename_i h3; subst h3
            unfold primJ
            cases ts with
            | nil => rfl
            | cons t r =>
              simp only
              split
              · rfl
              · split
                · rfl
                · split
                  · rfl
                  · split
                    · split
                      · rename_i h1
                        simp only [Bool.and_eq_true] at h1
                        have h2 := tail_len h1.2
                        split
                        · rfl
                        · exact h _ (by first | trivial | (simp only [Job.ok] at *; omega)) (by simp only [Job.wt, List.length_cons]; omega)
                      · rfl
                    · split
                      · rw [← h _ (by first | trivial | (simp only [Job.ok] at *; omega)) (by simp only [Job.wt, List.length_cons]; omega)]
                      · rfl
          · rw [← h _ (by first | trivial | (simp only [Job.ok] at *; omega)) (by simp only [Job.wt]; omega)]
            refine bc fun y hy => ?_
            have h2 := hs _ _ hy
            exact h _ (by first | trivial | (simp only [Job.ok] at *; omega)) (by simp only [Job.wt, Job.need, Job.ts] at *; omega)
  | loop n e ts =>
    change loopJ go n e ts = loopJ go' n e ts
    unfold loopJ
    split
    · rename_i h1
      have := tail_len h1
      rw [← h _ (by first | trivial | (simp only [Job.ok] at *; omega)) (by simp only [Job.wt]; omega)]
      refine bc fun y hy => ?_
      have h2 := hs _ _ hy
      exact h _ (by first | trivial | (simp only [Job.ok] at *; omega)) (by simp only [Job.wt, Job.need, Job.ts] at *; omega)
    · rfl
  | post e ts =>
    change postJ go e ts = postJ go' e ts
    unfold postJ
    split
    · rename_i h1
      have := tail_len h1
      rw [← h _ (by first | trivial | (simp only [Job.ok] at *; omega)) (by simp only [Job.wt]; omega)]
      refine bc fun y hy => ?_
      have h2 := hs _ _ hy
      split
      · rename_i h4
        have := tail_len h4
        rw [← h _ (by first | trivial | (simp only [Job.ok] at *; omega)) (by simp only [Job.wt, Job.need, Job.ts] at *; omega)]
        refine bc fun z hz => ?_
        have h3 := hs _ _ hz
        split
        · rename_i h6
          have := tail_len h6
          exact h _ (by first | trivial | (simp only [Job.ok] at *; omega)) (by simp only [Job.wt, Job.need, Job.ts] at *; omega)
        · rfl
      · rfl
    · rfl
  | args name acc ts =>
    change argsJ go name acc ts = argsJ go' name acc ts
    unfold argsJ
    rw [← h _ (by first | trivial | (simp only [Job.ok] at *; omega)) (by simp only [Job.wt]; omega)]
    refine bc fun y hy => ?_
    have h2 := hs _ _ hy
    split
    · rename_i h1
      have := tail_len h1
      exact h _ (by first | trivial | (simp only [Job.ok] at *; omega)) (by simp only [Job.wt, Job.need, Job.ts] at *; omega)
    · rfl

theorem runF_stab : ∀ (f f' : Nat) (j : Job), j.ok → j.wt < f → j.wt < f' → runF f j = runF f' j
  | 0, _, j, _, h, _ => absurd h (by omega)
  | _ + 1, 0, j, _, _, h => absurd h (by omega)
  | f + 1, f' + 1, j, ok, h, h' => stepJ_congr (runF_shr f) j ok fun k hk hw => runF_stab f f' k hk (by omega) (by omega)
/-- how a job ends -/
def runJ (j : Job) : Res := runF (j.wt + 1) j
theorem runJ_eq (j : Job) (ok : j.ok) : runJ j = stepJ runJ j := by
  unfold runJ
  exact stepJ_congr (runF_shr j.wt) j ok fun k hk hw => runF_stab _ _ k hk hw (by omega)
theorem runJ_shr : Shr runJ := fun j x h => runF_shr _ j x h
theorem runJ_lev {n : Nat} {ts : List Tk} (h3 : n ≠ 3) (h4 : n ≠ 4) (h8 : n < 8) : runJ (.lev n ts) = (runJ (.lev (n + 1) ts)).bind fun x => runJ (.loop n x.1 x.2) := by
  refine (runJ_eq (.lev n ts) (by show n ≤ 9; omega)).trans ?_
  change levJ runJ n ts = _
  unfold levJ
  rw [if_neg h3, if_neg h4, if_neg (by omega), if_neg (by omega)]
theorem runJ_not (ts : List Tk) : runJ (.lev 3 ts) = notJ runJ ts := runJ_eq (.lev 3 ts) (by show 3 ≤ 9; omega)
theorem runJ_cmp (ts : List Tk) : runJ (.lev 4 ts) = cmpJ runJ ts := runJ_eq (.lev 4 ts) (by show 4 ≤ 9; omega)
theorem runJ_pst (ts : List Tk) : runJ (.lev 8 ts) = (runJ (.lev 9 ts)).bind fun x => runJ (.post x.1 x.2) := runJ_eq (.lev 8 ts) (by show 8 ≤ 9; omega)
theorem runJ_prim (ts : List Tk) : runJ (.lev 9 ts) = primJ runJ ts := runJ_eq (.lev 9 ts) (by show 9 ≤ 9; omega)
theorem runJ_loop (n : Nat) (hn : n ≤ 7) (e : Ex) (ts : List Tk) : runJ (.loop n e ts) = loopJ runJ n e ts := runJ_eq (.loop n e ts) hn
theorem runJ_post (e : Ex) (ts : List Tk) : runJ (.post e ts) = postJ runJ e ts := runJ_eq (.post e ts) trivial
theorem runJ_args (name : List Nat) (acc : List Ex) (ts : List Tk) : runJ (.args name acc ts) = argsJ runJ name acc ts := runJ_eq (.args name acc ts) trivial

end Go.Proofs.YtpabngicbfcdkaaDoor

/- The plain law of formatting: the tokens of a tree, and that they are parsed as that tree. -/
namespace Go.Proofs.YtpabngicbfcdkaaDoor
open Go.RowKit
set_option linter.unusedVariables false
set_option linter.unusedSimpArgs false

/-- the level of an operator with two operands, or 0 -/
def lvR (x : List Nat) : Nat := if x = [111, 114] then 1 else if x = [97, 110, 100] then 2 else if x = [61, 61] ∨ x = [33, 61] ∨ x = [60] ∨ x = [60, 61] then 4 else if x = [43, 43] then 5 else if x = [43] ∨ x = [45] then 6 else if x = [42] then 7 else 0
theorem lvR_lt (x : List Nat) : lvR x ≤ 7 ∧ lvR x ≠ 3 := by
  unfold lvR
  repeat' split
  all_goals omega
theorem lvR_iff (n : Nat) (h1 : 1 ≤ n) (h7 : n ≤ 7) (h3 : n ≠ 3) (x : List Nat) : lvR x = n ↔ x ∈ lvlO n := by
  constructor
  · intro h
    unfold lvR at h
    split at h
    · rename_i e; subst h; rw [e]; decide
    split at h
    · rename_i e; subst h; rw [e]; decide
    split at h
    · rename_i e; subst h; rcases e with e | e | e | e <;> (rw [e]; decide)
    split at h
    · rename_i e; subst h; rw [e]; decide
    split at h
    · rename_i e; subst h; rcases e with e | e <;> (rw [e]; decide)
    split at h
    · rename_i e; subst h; rw [e]; decide
    · omega
  · intro h
    have h9 : n = 1 ∨ n = 2 ∨ n = 4 ∨ n = 5 ∨ n = 6 ∨ n = 7 := by omega
    rcases h9 with rfl | rfl | rfl | rfl | rfl | rfl
    · simp [lvlO] at h; subst h; rfl
    · simp [lvlO] at h; subst h; rfl
    · simp [lvlO] at h; rcases h with rfl | rfl | rfl | rfl <;> rfl
    · simp [lvlO] at h; subst h; rfl
    · simp [lvlO] at h; rcases h with rfl | rfl <;> rfl
    · simp [lvlO] at h; subst h; rfl

/-- kind, text, number -/
abbrev TkK := Nat × List Nat × Nat
/-- a token, or a blank -/
abbrev It := Option TkK
def sgT (l : List Nat) : It := some (5, l, 0)
def own (t : Ex) : Nat := if t.kind ≠ 4 then 9 else if 0 < lvR (ns t.text) then lvR (ns t.text) else if ns t.text = wNot then 3 else if ns t.text = wCut ∧ t.args.length = 3 then 8 else 9
/-- brackets, where the grammar has a level -/
def br (lv : Nat) (p : Nat × List It) : List It := if p.1 < lv then sgT [40] :: (p.2 ++ [sgT [41]]) else p.2
def lftL (v : Nat) : Nat := if v = 4 then 5 else v
def joinI : List (Nat × List It) → List It
  | [] => []
  | [a] => a.2
  | a :: b :: r => a.2 ++ [sgT [44], none] ++ joinI (b :: r)
def comb (k : Int) (l : List Nat) (n : Int) (ps : List (Nat × List It)) : List It :=
  if k = 1 then [some (1, [], n.toNat)] else if k = 2 then [some (2, l, 0)] else if k = 3 then [some (3, l, 0)]
  else if 0 < lvR l then (match ps with
    | [a, b] => br (lftL (lvR l)) a ++ [none, some (lvlK (lvR l), l, 0), none] ++ br (lvR l + 1) b
    | _ => [])
  else if l = wNot then (match ps with
    | [a] => [some (4, wNot, 0), none] ++ br 3 a
    | _ => [])
  else if l = wCut ∧ ps.length = 3 then (match ps with
    | [a, b, c] => br 8 a ++ [sgT [91]] ++ b.2 ++ [sgT [58]] ++ c.2 ++ [sgT [93]]
    | _ => [])
  else [some (4, l, 0), sgT [40]] ++ joinI ps ++ [sgT [41]]
mutual
/-- the tokens and blanks of a formatted tree -/
def wI : Ex → List It
  | .mk k s n us => comb k (ns s) n (wIs us)
def wIs : List Ex → List (Nat × List It)
  | [] => []
  | t :: r => (own t, wI t) :: wIs r
end
theorem wIs_len : ∀ us : List Ex, (wIs us).length = us.length
  | [] => rfl
  | t :: r => by simp [wIs, wIs_len r]
/-- the tokens alone -/
def tkI (l : List It) : List TkK := l.filterMap id
theorem tkI_app (a b : List It) : tkI (a ++ b) = tkI a ++ tkI b := List.filterMap_append ..
theorem tkI_cons (t : TkK) (r : List It) : tkI (some t :: r) = t :: tkI r := rfl
theorem tkI_none (r : List It) : tkI (none :: r) = tkI r := rfl

theorem bs_ns (s : ByteArray) : bs (ns s) = s := by
  have h := ext_bs s 0 s.size
  rw [List.drop_zero, Nat.sub_zero, List.take_of_length_le (by rw [ns_len]; exact Nat.le_refl _)] at h
  rw [← h]
  have h2 : (s.extract 0 s.size).data = s.data := by
    apply Array.toList_inj.1
    rw [Lib.extract_data, List.take_of_length_le (by show s.data.toList.length ≤ _; exact Nat.le_refl _), List.drop_zero]
  cases hs : s
  cases hx : s.extract 0 s.size
  rw [hx, hs] at h2
  simp only at h2
  rw [← hs, hx, h2, hs]

/-- well-formed, at one node -/
def wellN (t : Ex) : Bool :=
  if t.kind = 1 then ns t.text == [] && decide (0 ≤ t.num) && decide (t.num ≤ 1152921504606846976) && t.args.length == 0
  else if t.kind = 2 then t.num == 0 && t.args.length == 0
  else if t.kind = 3 then (ns t.text).all refB && !(ns t.text == []) && t.num == 0 && t.args.length == 0
  else if t.kind = 4 then
    if 0 < lvR (ns t.text) then t.num == 0 && t.args.length == 2
    else if ns t.text = wNot then t.num == 0 && t.args.length == 1
    else t.num == 0 && !(ns t.text == []) && (ns t.text).all letB
  else false
abbrev Well (t : Ex) : Prop := t.all wellN
theorem Well.kid {t : Ex} (h : Well t) {u : Ex} (hu : u ∈ t.args) : Well u := by
  obtain ⟨i, hi⟩ := List.getElem?_of_mem hu
  exact ((Ex.all_eq wellN t).1 h).2 i u hi
theorem Well.node {t : Ex} (h : Well t) : wellN t = true := ((Ex.all_eq wellN t).1 h).1

/-- no part at a level goes on with these tokens -/
def stop (n : Nat) (r : List Tk) : Prop := (∀ m, n ≤ m → m ≤ 7 → m ≠ 3 → isT (lvlK m) (lvlO m) r = false) ∧ (n ≤ 8 → isT 5 [[91]] r = false)
theorem stop.mono {n m : Nat} {r : List Tk} (h : stop n r) (hm : n ≤ m) : stop m r := ⟨fun k h1 h2 h3 => h.1 k (by omega) h2 h3, fun h1 => h.2 (by omega)⟩
theorem stop_nil (n : Nat) : stop n [] := ⟨fun _ _ _ _ => rfl, fun _ => rfl⟩
theorem stop_sign {n : Nat} {l : List Nat} {i : Nat} {r : List Tk} (hl : l = [41] ∨ l = [44] ∨ l = [58] ∨ l = [93]) : stop n (((5, l, 0), i) :: r) := by
  have h : ∀ m, m ≤ 7 → (lvlO m).contains l = false := by
    intro m hm
    have : ∀ m : Fin 8, (lvlO m.1).contains [41] = false ∧ (lvlO m.1).contains [44] = false ∧ (lvlO m.1).contains [58] = false ∧ (lvlO m.1).contains [93] = false := by decide
    have := this ⟨m, by omega⟩
    rcases hl with rfl | rfl | rfl | rfl
    · exact this.1
    · exact this.2.1
    · exact this.2.2.1
    · exact this.2.2.2
  refine ⟨fun m _ h7 _ => ?_, fun _ => ?_⟩
  · simp only [isT, h m h7, Bool.and_false]
  · rcases hl with rfl | rfl | rfl | rfl <;> rfl
/-- an operator stops the levels above its own -/
theorem stop_op {v : Nat} (h1 : 1 ≤ v) (h7 : v ≤ 7) (h3 : v ≠ 3) {l : List Nat} (hl : l ∈ lvlO v) {i : Nat} {r : List Tk} : stop (v + 1) (((lvlK v, l, 0), i) :: r) := by
  refine ⟨fun m hm hm7 hm3 => ?_, fun _ => ?_⟩
  · have : (lvlO m).contains l = false := by
      have e := (lvR_iff v h1 h7 h3 l).2 hl
      cases hc : (lvlO m).contains l with
      | false => rfl
      | true =>
        have := (lvR_iff m (by omega) hm7 hm3 l).2 (by simpa using hc)
        omega
    simp only [isT, this, Bool.and_false]
  · have : l ≠ [91] := by
      rintro rfl
      have e := (lvR_iff v h1 h7 h3 [91]).2 hl
      have : lvR [91] = 0 := by decide
      omega
    simp [isT, Ne.symm this, this]

/-- from a level down to a lower one -/
theorem climb {ts : List Tk} {t : Ex} {r : List Tk} : ∀ (d m n : Nat), m = n + d → 1 ≤ n → m ≤ 9 → runJ (.lev m ts) = some (t, r) → stop n r → (n ≤ 3 → 3 < m → isT 4 [wNot] ts = false) → runJ (.lev n ts) = some (t, r)
  | 0, m, n, h, _, _, hr, _, _ => by obtain rfl : m = n := by omega
                                     exact hr
  | d + 1, m, n, h, h1, h9, hr, hs, hn => by
    have ih := climb d m (n + 1) (by omega) (by omega) h9 hr (hs.mono (by omega)) (fun h3 h4 => hn (by omega) h4)
    by_cases e8 : n = 8
    · subst e8
      rw [runJ_pst, ih]
      simp only [Option.bind_some]
      rw [runJ_post]; unfold postJ; rw [hs.2 (by omega)]; rfl
    by_cases e3 : n = 3
    · subst e3
      rw [runJ_not]; unfold notJ; rw [hn (by omega) (by omega)]; exact ih
    by_cases e4 : n = 4
    · subst e4
      rw [runJ_cmp]; unfold cmpJ; rw [ih]
      simp only [Option.bind_some]
      have := hs.1 4 (by omega) (by omega) (by omega)
      rw [show isT 5 (lvlO 4) r = false from this]; rfl
    · rw [runJ_lev e3 e4 (by omega), ih]
      simp only [Option.bind_some]
      rw [runJ_loop n (by omega)]; unfold loopJ; rw [hs.1 n (by omega) (by omega) e3]; rfl

end Go.Proofs.YtpabngicbfcdkaaDoor

/- syntax.operator: the walk. -/
namespace Go.Proofs.YtpabngicbfcdkaaDoor
open Go.RowKit
set_option linter.unusedVariables false
set_option linter.unusedSimpArgs false

theorem str_lit (s : ByteArray) (l : List UInt8) : (s.toList == l) = decide (ns s = l.map (·.toNat)) := by
  rw [Bool.eq_iff_iff, beq_iff_eq, decide_eq_true_iff, Go.ByteArray.toList_eq]
  constructor
  · intro h; unfold ns; rw [h]
  · intro h
    unfold ns at h
    exact List.map_inj_right (fun a b hab => UInt8.toNat_inj.1 hab) |>.1 h
def rgtL (v : Nat) : Nat := if v = 0 then 0 else v + 1
def oprV (v : Nat) : Value := .tuple #[.int .i64 (v : Nat), .int .i64 (lftL v : Nat), .int .i64 (rgtL v : Nat)]

set_option maxRecDepth 100000 in
set_option maxHeartbeats 2000000 in
theorem operator_any (s : ByteArray) (w : World) : Calls Tryd.prog 38 #[.string s] w fun e w' => e = .returned (oprV (lvR (ns s))) ∧ w = w' := by
  by_cases e0 : ns s = [111, 114]
  · have HV : Hid (lvR (ns s) = 1) := Lib.hid (by rw [e0]; rfl)
    have f0 : (s.toList == [111, 114]) = true := by rw [str_lit]; exact decide_eq_true e0
    clear e0
    go_enter Tryd.func38, Tryd.ntmps38
    go_wp2
    exact bodyPost_ret (v := oprV 1) (by simp [results, Tryd.results38, go_sem, oprV, lftL, rgtL]; try rfl) rfl ⟨by rw [HV.out], rfl⟩
  have f0 : (s.toList == [111, 114]) = false := by rw [str_lit]; exact decide_eq_false e0
  by_cases e1 : ns s = [97, 110, 100]
  · have HV : Hid (lvR (ns s) = 2) := Lib.hid (by rw [e1]; rfl)
    have f1 : (s.toList == [97, 110, 100]) = true := by rw [str_lit]; exact decide_eq_true e1
    clear e0 e1
    go_enter Tryd.func38, Tryd.ntmps38
    go_wp2
    exact bodyPost_ret (v := oprV 2) (by simp [results, Tryd.results38, go_sem, oprV, lftL, rgtL]; try rfl) rfl ⟨by rw [HV.out], rfl⟩
  have f1 : (s.toList == [97, 110, 100]) = false := by rw [str_lit]; exact decide_eq_false e1
  by_cases e2 : ns s = [61, 61]
  · have HV : Hid (lvR (ns s) = 4) := Lib.hid (by rw [e2]; rfl)
    have f2 : (s.toList == [61, 61]) = true := by rw [str_lit]; exact decide_eq_true e2
    clear e0 e1 e2
    go_enter Tryd.func38, Tryd.ntmps38
    go_wp2
    exact bodyPost_ret (v := oprV 4) (by simp [results, Tryd.results38, go_sem, oprV, lftL, rgtL]; try rfl) rfl ⟨by rw [HV.out], rfl⟩
  have f2 : (s.toList == [61, 61]) = false := by rw [str_lit]; exact decide_eq_false e2
  by_cases e3 : ns s = [33, 61]
  · have HV : Hid (lvR (ns s) = 4) := Lib.hid (by rw [e3]; rfl)
    have f3 : (s.toList == [33, 61]) = true := by rw [str_lit]; exact decide_eq_true e3
    clear e0 e1 e2 e3
    go_enter Tryd.func38, Tryd.ntmps38
    go_wp2
    exact bodyPost_ret (v := oprV 4) (by simp [results, Tryd.results38, go_sem, oprV, lftL, rgtL]; try rfl) rfl ⟨by rw [HV.out], rfl⟩
  have f3 : (s.toList == [33, 61]) = false := by rw [str_lit]; exact decide_eq_false e3
  by_cases e4 : ns s = [60]
  · have HV : Hid (lvR (ns s) = 4) := Lib.hid (by rw [e4]; rfl)
    have f4 : (s.toList == [60]) = true := by rw [str_lit]; exact decide_eq_true e4
    clear e0 e1 e2 e3 e4
    go_enter Tryd.func38, Tryd.ntmps38
    go_wp2
    exact bodyPost_ret (v := oprV 4) (by simp [results, Tryd.results38, go_sem, oprV, lftL, rgtL]; try rfl) rfl ⟨by rw [HV.out], rfl⟩
  have f4 : (s.toList == [60]) = false := by rw [str_lit]; exact decide_eq_false e4
  by_cases e5 : ns s = [60, 61]
  · have HV : Hid (lvR (ns s) = 4) := Lib.hid (by rw [e5]; rfl)
    have f5 : (s.toList == [60, 61]) = true := by rw [str_lit]; exact decide_eq_true e5
    clear e0 e1 e2 e3 e4 e5
    go_enter Tryd.func38, Tryd.ntmps38
    go_wp2
    exact bodyPost_ret (v := oprV 4) (by simp [results, Tryd.results38, go_sem, oprV, lftL, rgtL]; try rfl) rfl ⟨by rw [HV.out], rfl⟩
  have f5 : (s.toList == [60, 61]) = false := by rw [str_lit]; exact decide_eq_false e5
  by_cases e6 : ns s = [43, 43]
  · have HV : Hid (lvR (ns s) = 5) := Lib.hid (by rw [e6]; rfl)
    have f6 : (s.toList == [43, 43]) = true := by rw [str_lit]; exact decide_eq_true e6
    clear e0 e1 e2 e3 e4 e5 e6
    go_enter Tryd.func38, Tryd.ntmps38
    go_wp2
    exact bodyPost_ret (v := oprV 5) (by simp [results, Tryd.results38, go_sem, oprV, lftL, rgtL]; try rfl) rfl ⟨by rw [HV.out], rfl⟩
  have f6 : (s.toList == [43, 43]) = false := by rw [str_lit]; exact decide_eq_false e6
  by_cases e7 : ns s = [43]
  · have HV : Hid (lvR (ns s) = 6) := Lib.hid (by rw [e7]; rfl)
    have f7 : (s.toList == [43]) = true := by rw [str_lit]; exact decide_eq_true e7
    clear e0 e1 e2 e3 e4 e5 e6 e7
    go_enter Tryd.func38, Tryd.ntmps38
    go_wp2
    exact bodyPost_ret (v := oprV 6) (by simp [results, Tryd.results38, go_sem, oprV, lftL, rgtL]; try rfl) rfl ⟨by rw [HV.out], rfl⟩
  have f7 : (s.toList == [43]) = false := by rw [str_lit]; exact decide_eq_false e7
  by_cases e8 : ns s = [45]
  · have HV : Hid (lvR (ns s) = 6) := Lib.hid (by rw [e8]; rfl)
    have f8 : (s.toList == [45]) = true := by rw [str_lit]; exact decide_eq_true e8
    clear e0 e1 e2 e3 e4 e5 e6 e7 e8
    go_enter Tryd.func38, Tryd.ntmps38
    go_wp2
    exact bodyPost_ret (v := oprV 6) (by simp [results, Tryd.results38, go_sem, oprV, lftL, rgtL]; try rfl) rfl ⟨by rw [HV.out], rfl⟩
  have f8 : (s.toList == [45]) = false := by rw [str_lit]; exact decide_eq_false e8
  by_cases e9 : ns s = [42]
  · have HV : Hid (lvR (ns s) = 7) := Lib.hid (by rw [e9]; rfl)
    have f9 : (s.toList == [42]) = true := by rw [str_lit]; exact decide_eq_true e9
    clear e0 e1 e2 e3 e4 e5 e6 e7 e8 e9
    go_enter Tryd.func38, Tryd.ntmps38
    go_wp2
    exact bodyPost_ret (v := oprV 7) (by simp [results, Tryd.results38, go_sem, oprV, lftL, rgtL]; try rfl) rfl ⟨by rw [HV.out], rfl⟩
  have f9 : (s.toList == [42]) = false := by rw [str_lit]; exact decide_eq_false e9
  have HV : Hid (lvR (ns s) = 0) := Lib.hid (by unfold lvR; simp [e0, e1, e2, e3, e4, e5, e6, e7, e8, e9])
  clear e0 e1 e2 e3 e4 e5 e6 e7 e8 e9
  go_enter Tryd.func38, Tryd.ntmps38
  go_wp2
  exact bodyPost_ret (v := oprV 0) (by simp [results, Tryd.results38, go_sem, oprV, lftL, rgtL]; try rfl) rfl ⟨by rw [HV.out], rfl⟩

end Go.Proofs.YtpabngicbfcdkaaDoor

/- syntax.levelOf: the walk. -/
namespace Go.Proofs.YtpabngicbfcdkaaDoor
open Go.RowKit
set_option linter.unusedVariables false
set_option linter.unusedSimpArgs false

set_option maxRecDepth 100000 in
set_option maxHeartbeats 2000000 in
theorem levelOf_any (T : Nat → Prop) (t : Ex) (pb po : Nat) (w : World) (hr : RdP T w t ⟨pb, po, none⟩) (hl : t.args.length ≤ 1000000000) : Calls Tryd.prog 41 #[.pointer (some ⟨pb, po, none⟩)] w fun e w' => e = .returned (.int .i64 (own t : Nat)) ∧ w = w' := by
  obtain ⟨-, aa, ac, hnd, -, -⟩ := hr.2.node
  obtain ⟨c0, c1, c2, c3⟩ := hnd.cells
  simp only at c0 c1 c2 c3
  obtain ⟨n, hn⟩ : ∃ n, n = t.args.length := ⟨_, rfl⟩
  rw [← hn] at c3
  have hni : (n : Int) ≤ 1000000000 := by omega
  have HN := Lib.hid hn
  obtain ⟨v, hv⟩ : ∃ v, v = lvR (ns t.text) := ⟨_, rfl⟩
  have HO : Hid (Calls Tryd.prog 38 #[.string t.text] w fun e w' => e = .returned (oprV v) ∧ w = w') := Lib.hid (by rw [hv]; exact operator_any t.text w)
  have hv7 : v ≤ 7 := by rw [hv]; exact (lvR_lt _).1
  by_cases hk : t.kind = 4
  · have hkn : (t.kind != 4) = false := by rw [hk]; rfl
    by_cases h0 : 0 < v
    · have HE : Hid (own t = v) := Lib.hid (by unfold own; rw [if_neg (by omega), ← hv, if_pos h0])
      have h0i : (0 : Int) < (v : Int) := by omega
      rw [hk] at c0
      unfold oprV at HO
      clear hnd hr hl hn hv hk h0
      go_enter Tryd.func41, Tryd.ntmps41
      go_wp2_with (go_at_call 38; refine HO.out.mono ?_; rintro e w2 ⟨rfl, rfl⟩)
      go_ret
      exact ⟨by rw [HE.out]; rfl, rfl⟩
    · obtain rfl : v = 0 := by omega
      rw [hk] at c0
      have s1 : (t.text.toList == [110, 111, 116]) = decide (ns t.text = wNot) := str_lit t.text [110, 111, 116]
      have s2 : (t.text.toList == [99, 117, 116]) = decide (ns t.text = wCut) := str_lit t.text [99, 117, 116]
      have HOWN : Hid (own t = if ns t.text = wNot then 3 else if ns t.text = wCut ∧ n = 3 then 8 else 9) := Lib.hid (by unfold own; rw [if_neg (by omega), ← hv, if_neg (by omega), hn])
      unfold oprV at HO
      clear hnd hr hl hn hv hk h0
      by_cases h1 : ns t.text = wNot
      · have HE : Hid (own t = 3) := Lib.hid (by rw [HOWN.out, if_pos h1])
        rw [decide_eq_true h1] at s1
        clear h1 s2
        go_enter Tryd.func41, Tryd.ntmps41
        go_wp2_with (go_at_call 38; refine HO.out.mono ?_; rintro e w2 ⟨rfl, rfl⟩)
        go_ret
        exact ⟨by rw [HE.out]; rfl, rfl⟩
      · rw [decide_eq_false h1] at s1
        by_cases h2 : ns t.text = wCut
        · rw [decide_eq_true h2] at s2
          by_cases h3 : n = 3
          · have HE : Hid (own t = 8) := Lib.hid (by rw [HOWN.out, if_neg h1, if_pos ⟨h2, h3⟩])
            subst h3
            clear h1 h2
            go_enter Tryd.func41, Tryd.ntmps41
            go_wp2_with (go_at_call 38; refine HO.out.mono ?_; rintro e w2 ⟨rfl, rfl⟩)
            go_ret
            exact ⟨by rw [HE.out]; rfl, rfl⟩
          · have HE : Hid (own t = 9) := Lib.hid (by rw [HOWN.out, if_neg h1, if_neg (fun h => h3 h.2)])
            have h4 : ((n : Int) == 3) = false := by rw [beq_eq_false_iff_ne]; omega
            have h5 : (n == 3) = false := by rw [beq_eq_false_iff_ne]; exact h3
            have h6 : decide (n = 3) = false := decide_eq_false h3
            clear h1 h2 h3
            go_enter Tryd.func41, Tryd.ntmps41
            go_wp2_with (go_at_call 38; refine HO.out.mono ?_; rintro e w2 ⟨rfl, rfl⟩)
            go_ret
            exact ⟨by rw [HE.out]; rfl, rfl⟩
        · rw [decide_eq_false h2] at s2
          have HE : Hid (own t = 9) := Lib.hid (by rw [HOWN.out, if_neg h1, if_neg (fun h => h2 h.1)])
          clear h1 h2
          go_enter Tryd.func41, Tryd.ntmps41
          go_wp2_with (go_at_call 38; refine HO.out.mono ?_; rintro e w2 ⟨rfl, rfl⟩)
          go_ret
          exact ⟨by rw [HE.out]; rfl, rfl⟩
  · have HE : Hid (own t = 9) := Lib.hid (by unfold own; rw [if_pos hk])
    have hkn : (t.kind != 4) = true := by simpa [bne] using hk
    clear hnd hr hl hn hv hk HO
    go_enter Tryd.func41, Tryd.ntmps41
    go_wp2
    go_ret
    exact ⟨by rw [HE.out]; rfl, rfl⟩

end Go.Proofs.YtpabngicbfcdkaaDoor

/- The parser's state; at, take, expect, call. -/
namespace Go.Proofs.YtpabngicbfcdkaaDoor
open Go.RowKit
set_option linter.unusedVariables false
set_option linter.unusedSimpArgs false

/-- the parser at pb: the tokens that are left, and whether it is bad -/
structure PS (w : World) (pb : Nat) (a : Option Addr) (c : Nat) (ts : List Tk) (bad : Bool) : Prop where
  c0 : w.cell? ⟨pb, 0, none⟩ = some (.slice a ts.length c)
  c1 : w.cell? ⟨pb, 1, none⟩ = some (.bool bad)
  fz : ∀ j, w.frozen? ⟨pb, j, none⟩ = false
  rd : RdG w 4 a ts.length (cellsT ts)
  ap : ∀ x, a = some x → x.block < pb
  hc : ts.length ≤ c
  lim : ts.length ≤ 1000000
  by8 : ∀ t ∈ ts, ∀ u ∈ t.1.2.1, u < 256
  sz : ∀ t ∈ ts, t.1.2.1.length ≤ 1000000
theorem PS.lt {w pb a c ts bad} (h : PS w pb a c ts bad) : pb < w.heap.size := World.block_lt_of_cell? w _ h.c0
theorem PS.below {w w' pb a c ts bad} (h : PS w pb a c ts bad) (hb : Below w.heap.size w w') : PS w' pb a c ts bad :=
  ⟨below_cell hb h.c0, below_cell hb h.c1, fun j => by
    have := (Fr.of_below (S := fun _ => False) hb).frozen (x := ⟨pb, j, none⟩) h.lt (fun h => h)
    exact this.trans (h.fz j), h.rd.below hb, h.ap, h.hc, h.lim, h.by8, h.sz⟩
theorem PS.blk {w pb a c ts bad} (h : PS w pb a c ts bad) {x : Addr} (hx : a = some x) (hn : 0 < ts.length) : x.block < w.heap.size := by
  have hl := h.rd.len
  obtain ⟨u, hu⟩ : ∃ u, (cellsT ts)[0]? = some u := ⟨_, List.getElem?_eq_getElem (by omega)⟩
  obtain ⟨b, off, ha, hc⟩ := h.rd.cell 0 u hu
  rw [hx] at ha; cases ha
  exact World.block_lt_of_cell? w _ hc
theorem PS.fr {S : Nat → Prop} {w w' pb a c ts bad} (h : PS w pb a c ts bad) (hf : Fr S w w') (h1 : ¬ S pb) (h2 : ∀ x, a = some x → 0 < ts.length → ¬ S x.block) : PS w' pb a c ts bad := by
  refine ⟨hf.cell h.c0 h1, hf.cell h.c1 h1, fun j => (hf.frozen h.lt h1).trans (h.fz j), ⟨h.rd.len, fun j u hu => ?_⟩, h.ap, h.hc, h.lim, h.by8, h.sz⟩
  obtain ⟨b, off, ha, hc⟩ := h.rd.cell j u hu
  have hl := h.rd.len
  have hj := (List.getElem?_eq_some_iff.1 hu).1
  exact ⟨b, off, ha, hf.cell hc (by have := h2 _ ha (by omega); exact this)⟩
theorem PS.head {w pb a c t r bad} (h : PS w pb a c (t :: r) bad) : ∃ b off, a = some ⟨b, off, none⟩ ∧ b ≠ pb ∧ w.cell? ⟨b, off, none⟩ = some (.int .i64 (t.1.1 : Nat)) ∧ w.cell? ⟨b, off + 1, none⟩ = some (.string (bs t.1.2.1)) ∧ w.cell? ⟨b, off + 2, none⟩ = some (.int .i64 (t.1.2.2 : Nat)) ∧ w.cell? ⟨b, off + 3, none⟩ = some (.int .i64 (t.2 : Nat)) := by
  obtain ⟨b, off, ha, h0⟩ := h.rd.cell 0 _ rfl
  refine ⟨b, off, ha, ?_, h0, ?_, ?_, ?_⟩
  · have := h.ap _ ha; exact Nat.ne_of_lt this
  · obtain ⟨b', off', ha', h1⟩ := h.rd.cell 1 _ rfl
    rw [ha] at ha'; cases ha'; exact h1
  · obtain ⟨b', off', ha', h1⟩ := h.rd.cell 2 _ rfl
    rw [ha] at ha'; cases ha'; exact h1
  · obtain ⟨b', off', ha', h1⟩ := h.rd.cell 3 _ rfl
    rw [ha] at ha'; cases ha'; exact h1
/-- the parser goes bad -/
theorem PS.setBad {w pb a c ts bad} (h : PS w pb a c ts bad) : PS (w.setCell ⟨pb, 1, none⟩ (.bool true)) pb a c ts true := by
  have hf : Fr (fun x => x = pb) w (w.setCell ⟨pb, 1, none⟩ (.bool true)) := (Fr.refl (fun x => x = pb) w).setCell (p := ⟨pb, 1, none⟩) rfl _
  refine ⟨set_other (by simp) h.c0, set_same h.c1, fun j => by simp [h.fz j], ⟨h.rd.len, fun j u hu => ?_⟩, h.ap, h.hc, h.lim, h.by8, h.sz⟩
  obtain ⟨b, off, ha, hc⟩ := h.rd.cell j u hu
  exact ⟨b, off, ha, hf.cell hc (by have := h.ap _ ha; exact Nat.ne_of_lt this)⟩
/-- the next token is taken -/
theorem PS.setTail {w pb b off c t r bad} (h : PS w pb (some ⟨b, off, none⟩) c (t :: r) bad) {ad : Option Addr} (had : ad = if c = 1 then some ⟨b, off, none⟩ else some ⟨b, off + 4, none⟩) : PS (w.setCell ⟨pb, 0, none⟩ (.slice ad r.length (c - 1))) pb ad (c - 1) r bad := by
  have hf : Fr (fun x => x = pb) w (w.setCell ⟨pb, 0, none⟩ (.slice ad r.length (c - 1))) := (Fr.refl (fun x => x = pb) w).setCell (p := ⟨pb, 0, none⟩) rfl _
  have hl := h.rd.len
  have hlen := h.hc
  have hbp : b < pb := by have := h.ap _ rfl; exact this
  refine ⟨set_same h.c0, set_other (by simp) h.c1, fun j => by simp [h.fz j], ⟨?_, fun j u hu => ?_⟩, ?_, ?_, ?_, fun t ht => h.by8 t (List.mem_cons_of_mem _ ht), fun t ht => h.sz t (List.mem_cons_of_mem _ ht)⟩
  · simp only [cellsT, List.flatMap_cons, List.length_append, List.length_cons, List.length_nil] at hl ⊢; omega
  · have hr : 0 < r.length := by
      cases r with
      | nil => cases hu
      | cons x q => simp
    rw [if_neg (by simp only [List.length_cons] at hlen; omega)] at had
    obtain ⟨b', off', ha, hc⟩ := h.rd.cell (4 + j) u (by
      show (cellsT (t :: r))[4 + j]? = some u
      unfold cellsT
      rw [List.flatMap_cons, List.getElem?_append_right (by simp)]
      simpa [cellsT] using hu)
    cases ha
    exact ⟨b, off + 4, had, by rw [show off + 4 + j = off + (4 + j) by omega]; exact hf.cell hc (Nat.ne_of_lt hbp)⟩
  · intro x hx
    rw [had] at hx
    split at hx <;> cases hx <;> exact hbp
  · simp only [List.length_cons] at hlen; omega
  · have := h.lim; simp only [List.length_cons] at this; omega

theorem bs_inj {a b : List Nat} (ha : ∀ c ∈ a, c < 256) (hb : ∀ c ∈ b, c < 256) (h : bs a = bs b) : a = b := by
  have h1 : (bs a).toList = (bs b).toList := by rw [h]
  rw [bs_toList, bs_toList] at h1
  have h2 := congrArg (List.map (fun u : UInt8 => u.toNat)) h1
  rw [List.map_map, List.map_map] at h2
  have e : ∀ l : List Nat, (∀ c ∈ l, c < 256) → l.map ((fun u : UInt8 => u.toNat) ∘ fun u => u.toUInt8) = l := fun l hl => by
    conv => rhs; rw [← List.map_id l]
    exact List.map_congr_left fun c hc => by have := hl c hc; simp; omega
  rwa [e a ha, e b hb] at h2
theorem contains_bs (texts : List (List Nat)) (x : List Nat) (ht : ∀ l ∈ texts, ∀ c ∈ l, c < 256) (hx : ∀ c ∈ x, c < 256) : Lib.containsS (texts.map bs) (bs x) = texts.contains x := by
  rw [Bool.eq_iff_iff, Lib.containsS_iff, List.contains_iff_mem, List.mem_map]
  constructor
  · rintro ⟨l, hl, e⟩
    have := bs_inj (ht l hl) hx e
    rwa [← this]
  · exact fun h => ⟨x, h, rfl⟩

set_option maxRecDepth 100000 in
set_option maxHeartbeats 1500000 in
theorem at_any (k : Nat) (texts : List (List Nat)) (h8 : ∀ l ∈ texts, ∀ c ∈ l, c < 256) (hk : k ≤ 9) (hl9 : texts.length ≤ 9) (lb lc : Nat) (w : World) (hz : ∀ j, j < texts.length → w.cell? ⟨lb, j, none⟩ = some (.string ((texts.map bs).getD j ByteArray.empty)))
    {pb a c ts bad} (hp : PS w pb a c ts bad) :
    Calls Tryd.prog 60 #[.pointer (some ⟨pb, 0, none⟩), .int .i64 k, .slice (some ⟨lb, 0, none⟩) texts.length lc] w fun e w' => e = .returned (.bool (isT k texts ts)) ∧ w = w' := by
  have c0 := hp.c0
  have HP := Lib.hid hp
  have HCON : ∀ x, (∀ c ∈ x, c < 256) → Hid (Calls Tryd.prog 67 #[.slice (some ⟨lb, 0, none⟩) texts.length lc, .string (bs x)] w fun e w' => e = .returned (.bool (texts.contains x)) ∧ w = w') := fun x hx => Lib.hid (by
    have h := Tryd.slices_Contains_string lb 0 texts.length lc (texts.map bs) (bs x) w (by simp) (by omega) (fun j hj => by rw [Nat.zero_add]; exact hz j (by simpa using hj))
    refine h.mono fun e w' h => ⟨?_, h.2.symm⟩
    rw [h.1, List.take_of_length_le (by simp), contains_bs _ _ h8 hx])
  cases ts with
  | nil =>
    simp only [List.length_nil] at c0
    clear HCON hz h8 hp
    go_enter Tryd.func60, Tryd.ntmps60
    go_wp2
    go_ret
    exact ⟨rfl, rfl⟩
  | cons t r =>
    obtain ⟨b, off, rfl, -, x0, x1, -, -⟩ := hp.head
    have HC := HCON t.1.2.1 (hp.by8 t (by simp))
    simp only [List.length_cons] at c0
    have hlen : ((r.length + 1 : Nat) : Int) ≤ 1000000 := by have h1 := hp.hc; have h2 := hp.lim; simp only [List.length_cons] at h1 h2; omega
    have hlp : (0 : Int) < ((r.length + 1 : Nat) : Int) := by omega
    obtain ⟨n, hn⟩ : ∃ n, n = r.length + 1 := ⟨_, rfl⟩
    rw [← hn] at c0 hlen hlp
    have hn0 : 0 < n := by omega
    clear HCON hz h8 hp hn
    by_cases hkk : t.1.1 = k
    · have hkb : ((t.1.1 : Int) == (k : Int)) = true := by rw [hkk]; simp
      have HE : Hid (isT k texts (t :: r) = texts.contains t.1.2.1) := Lib.hid (by simp [isT, hkk])
      obtain ⟨q, hq⟩ : ∃ q, q = texts.contains t.1.2.1 := ⟨_, rfl⟩
      rw [← hq] at HC HE
      clear hkk hq
      go_enter Tryd.func60, Tryd.ntmps60
      go_wp2_with (refine HC.out.mono ?_; rintro e w2 ⟨rfl, rfl⟩)
      go_ret
      exact ⟨by rw [HE.out]; rfl, rfl⟩
    · have hkb : ((t.1.1 : Int) == (k : Int)) = false := by rw [beq_eq_false_iff_ne]; omega
      have HE : Hid (isT k texts (t :: r) = false) := Lib.hid (by simp [isT, hkk])
      clear hkk HC
      go_enter Tryd.func60, Tryd.ntmps60
      go_wp2
      go_ret
      exact ⟨by rw [HE.out]; rfl, rfl⟩

/-- the token that is taken -/
def hdV : List Tk → Value
  | [] => tokV 0 (bs []) 0 0
  | t :: _ => tokV (t.1.1 : Nat) (bs t.1.2.1) (t.1.2.2 : Nat) (t.2 : Nat)
def TakePost (w : World) (pb : Nat) (ts : List Tk) (bad : Bool) (w' : World) : Prop := (∃ a c, PS w' pb a c ts.tail (bad || ts.isEmpty)) ∧ Fr (fun x => x = pb) w w'

set_option maxRecDepth 100000 in
set_option maxHeartbeats 1500000 in
theorem take_any {w : World} {pb a c ts bad} (hp : PS w pb a c ts bad) :
    Calls Tryd.prog 61 #[.pointer (some ⟨pb, 0, none⟩)] w fun e w' => e = .returned (hdV ts) ∧ TakePost w pb ts bad w' := by
  obtain ⟨w1, hw1⟩ : ∃ w1, w1 = w.alloc (.cells #[.int .i64 0, .string ⟨#[]⟩, .int .i64 0, .int .i64 0] 48) := ⟨_, rfl⟩
  have HB1 : Hid (Below w.heap.size w w1) := Lib.hid (by rw [hw1]; exact below_alloc _ _)
  have HS1 : Hid (w1.heap.size = w.heap.size + 1) := Lib.hid (by rw [hw1]; simp)
  have hTC : TC w1 w.heap.size 0 ByteArray.empty 0 0 := by rw [hw1]; exact alloc_tc _ _ _ _ _ _
  have HP1 := Lib.hid (hp.below HB1.out)
  have HPL := Lib.hid hp.lt
  have HW1 := Lib.hid hw1
  have HTC := Lib.hid hTC
  obtain ⟨r0, r1, r2, r3, rf⟩ := hTC
  have rf0 := rf 0
  have rf1 := rf 1
  have rf2 := rf 2
  have rf3 := rf 3
  have c0 := HP1.out.c0
  have c1 := HP1.out.c1
  have cf0 := HP1.out.fz 0
  have cf1 := HP1.out.fz 1
  have hne : ¬ (pb = w.heap.size) := by have := HPL.out; omega
  have hne' : ¬ (w.heap.size = pb) := by have := HPL.out; omega
  have HP := Lib.hid hp
  clear rf hw1 hp
  cases ts with
  | nil =>
    simp only [List.length_nil] at c0
    go_enter Tryd.func61, Tryd.ntmps61
    go_upto_region 1 with fail
    rw [← HW1.out]
    go_wp2
    refine bodyPost_ret (v := .agg #[.int .i64 0, .string ⟨#[]⟩, .int .i64 0, .int .i64 0]) (by simp [results, Tryd.results61, go_sem, r0, r1, r2, r3]; try rfl) rfl ⟨rfl, ⟨a, c, ?_⟩, ?_⟩
    · have h := HP1.out.setBad.fr (fr4 _ w.heap.size (.int .i64 0) (.string ⟨#[]⟩) (.int .i64 0) (.int .i64 0)) hne (fun x _ h0 => absurd h0 (by simp))
      simpa using h
    · exact ((Fr.of_below (S := fun x => x = pb) HB1.out).setCell (p := ⟨pb, 1, none⟩) rfl _).then (fr4 _ w.heap.size (.int .i64 0) (.string ⟨#[]⟩) (.int .i64 0) (.int .i64 0)) (fun i e => .inr (by omega))
  | cons t r =>
    obtain ⟨b, off, rfl, hbp, x0, x1, x2, x3⟩ := HP1.out.head
    simp only [List.length_cons] at c0
    have hlen : ((r.length + 1 : Nat) : Int) ≤ 1000000 := by have h1 := HP1.out.hc; have h2 := HP1.out.lim; simp only [List.length_cons] at h1 h2; omega
    have hcc : r.length + 1 ≤ c := HP1.out.hc
    obtain ⟨n, hn⟩ : ∃ n, n = r.length + 1 := ⟨_, rfl⟩
    rw [← hn] at c0 hlen hcc
    have hn0 : 0 < n := by omega
    have hn1 : 1 ≤ n := by omega
    have hnb : ((n : Int) == 0) = false := by rw [beq_eq_false_iff_ne]; omega
    have hn1i : (1 : Int) ≤ (n : Int) := by omega
    have HN : Hid (n - 1 = r.length) := Lib.hid (by omega)
    clear hn
    go_enter Tryd.func61, Tryd.ntmps61
    go_upto_region 1 with fail
    rw [← HW1.out]
    go_upto_region 5 with fail
    obtain ⟨w2, hw2⟩ : ∃ w2, w2 = w1.alloc (.cells #[.int .i64 (t.1.1 : Nat), .string (bs t.1.2.1), .int .i64 (t.1.2.2 : Nat), .int .i64 (t.2 : Nat)] 48) := ⟨_, rfl⟩
    rw [← hw2]
    have HB2 : Hid (Below w1.heap.size w1 w2) := Lib.hid (by rw [hw2]; exact below_alloc _ _)
    have HP2 := Lib.hid (HP1.out.below HB2.out)
    have hTC2 : TC w2 w1.heap.size (t.1.1 : Nat) (bs t.1.2.1) (t.1.2.2 : Nat) (t.2 : Nat) := by rw [hw2]; exact alloc_tc _ _ _ _ _ _
    have HTC2 := Lib.hid hTC2
    have HTC1 := Lib.hid (HTC.out.below HB2.out)
    have c02 := HP2.out.c0
    simp only [List.length_cons] at c02
    have cf02 := HP2.out.fz 0
    have hq9 : Hid (n = r.length + 1) := Lib.hid (by have := HN.out; omega)
    rw [← hq9.out] at c02
    obtain ⟨b1, hb1⟩ : ∃ b1, b1 = w1.heap.size := ⟨_, rfl⟩
    have HB1S := Lib.hid hb1
    rw [← hb1] at HTC2 ⊢
    clear hTC2 hw2 hb1 c0 c1 cf0 cf1 r0 r1 r2 r3 rf0 rf1 rf2 rf3 x0 x1 x2 x3
    go_upto_region 6 with fail
    obtain ⟨ad, had⟩ : ∃ ad, ad = (if c = 1 then some (⟨b, off, none⟩ : Addr) else some ⟨b, off + 4, none⟩) := ⟨_, rfl⟩
    rw [← had]
    have hps := HP2.out.setTail had
    have HAD : Hid (∀ x, ad = some x → x.block = b) := Lib.hid (fun x hx => by rw [had] at hx; split at hx <;> cases hx <;> rfl)
    rw [← HN.out] at hps
    obtain ⟨w3, hw3⟩ : ∃ w3, w3 = w2.setCell ⟨pb, 0, none⟩ (.slice ad (n - 1) (c - 1)) := ⟨_, rfl⟩
    rw [← hw3] at hps ⊢
    have HP3 := Lib.hid hps
    have HF3 : Hid (Fr (fun x => x = pb) w2 w3) := Lib.hid (by rw [hw3]; exact (Fr.refl (fun x => x = pb) w2).setCell (p := ⟨pb, 0, none⟩) rfl _)
    have hb1p : ¬ (b1 = pb) := by have h1 := HB1S.out; have h2 := HS1.out; have h3 := HPL.out; omega
    obtain ⟨r0, r1, r2, r3, rf⟩ := HTC1.out.fr HF3.out hne'
    have rf0 := rf 0
    have rf1 := rf 1
    have rf2 := rf 2
    have rf3 := rf 3
    obtain ⟨y0, y1, y2, y3, yf⟩ := HTC2.out.fr HF3.out hb1p
    clear hps hw3 had c02 cf02 rf yf
    go_wp2
    refine bodyPost_ret (v := .agg #[.int .i64 (t.1.1 : Nat), .string (bs t.1.2.1), .int .i64 (t.1.2.2 : Nat), .int .i64 (t.2 : Nat)]) (by simp [results, Tryd.results61, go_sem, r0, r1, r2, r3]; try rfl) rfl ⟨rfl, ⟨ad, c - 1, ?_⟩, ?_⟩
    · have h := HP3.out.fr (fr4 _ w.heap.size (.int .i64 (t.1.1 : Nat)) (.string (bs t.1.2.1)) (.int .i64 (t.1.2.2 : Nat)) (.int .i64 (t.2 : Nat))) hne (fun x hx h0 => by
        have h1 := HP.out.blk (x := ⟨b, off, none⟩) rfl (by simp)
        have h2 := HAD.out x hx
        rw [h2]; simp only at h1; omega)
      simpa using h
    · exact (((Fr.of_below (S := fun x => x = pb) (bthen HB1.out HB2.out)).trans HF3.out)).then (fr4 _ w.heap.size _ _ _ _) (fun i e => .inr (by omega))

theorem PS.trail {w w' pb ts bad} (h : TakePost w pb ts bad w') : ∃ a c, PS w' pb a c ts.tail (bad || ts.isEmpty) := h.1

set_option maxRecDepth 100000 in
set_option maxHeartbeats 1500000 in
/-- a sign is taken, or the parser goes bad -/
theorem expect_any (l : List Nat) (h8 : ∀ c ∈ l, c < 256) {w : World} {pb a c ts bad} (hp : PS w pb a c ts bad) :
    Calls Tryd.prog 87 #[.pointer (some ⟨pb, 0, none⟩), .string (bs l)] w fun e w' => e = .returned (.tuple #[]) ∧ (∃ a' c', PS w' pb a' c' (if isT 5 [l] ts then ts.tail else ts) (if isT 5 [l] ts then bad else true)) ∧ Fr (fun x => x = pb) w w' := by
  obtain ⟨w1, hw1⟩ : ∃ w1, w1 = w.alloc (.cells #[.string (bs l)] 9) := ⟨_, rfl⟩
  have HB1 : Hid (Below w.heap.size w w1) := Lib.hid (by rw [hw1]; exact below_alloc _ _)
  have HP1 := Lib.hid (hp.below HB1.out)
  have HAT := Lib.hid (at_any 5 [l] (by simpa using h8) (by omega) (by simp) w.heap.size 1 w1 (fun j hj => by
    simp at hj; subst hj; rw [hw1]; simp) HP1.out)
  simp only [List.length_cons, List.length_nil, Nat.zero_add] at HAT
  have HTK := Lib.hid (take_any HP1.out)
  have c1 := HP1.out.c1
  have cf1 := HP1.out.fz 1
  have HW1 := Lib.hid hw1
  clear hw1 hp h8
  cases hi : isT 5 [l] ts with
  | true =>
    rw [hi] at HAT
    have hie : ts.isEmpty = false := by cases ts with
      | nil => cases hi
      | cons t r => rfl
    simp only [TakePost, hie, Bool.or_false] at HTK
    clear hi hie
    go_enter Tryd.func87, Tryd.ntmps87
    go_wp2_with (first | (go_at_call 60; rw [← HW1.out]; refine HAT.out.mono ?_; rintro e w2 ⟨rfl, rfl⟩) | (go_at_call 61; refine HTK.out.mono ?_; rintro e w2 ⟨rfl, hps, hf⟩; have HPS := Lib.hid hps; have HF := Lib.hid hf; clear hps hf))
    refine bodyPost_end (v := .tuple #[]) (by simp [results, Tryd.results87, go_sem]; try rfl) rfl ?_
    exact ⟨rfl, by simpa using HPS.out, (Fr.of_below (S := fun x => x = pb) HB1.out).trans HF.out⟩
  | false =>
    rw [hi] at HAT
    clear hi
    go_enter Tryd.func87, Tryd.ntmps87
    go_wp2_with (first | (go_at_call 60; rw [← HW1.out]; refine HAT.out.mono ?_; rintro e w2 ⟨rfl, rfl⟩))
    refine bodyPost_ret (v := .tuple #[]) (by simp [results, Tryd.results87, go_sem]; try rfl) rfl ?_
    exact ⟨rfl, ⟨a, c, by simpa using HP1.out.setBad⟩, (Fr.of_below (S := fun x => x = pb) HB1.out).setCell (p := ⟨pb, 1, none⟩) rfl _⟩

set_option maxRecDepth 100000 in
set_option maxHeartbeats 1500000 in
theorem call_any (s : ByteArray) (a : Option Addr) (n c : Nat) (w : World) : Calls Tryd.prog 62 #[.string s, .slice a n c] w fun e w' => e = .returned (.agg #[.int .i64 4, .string s, .int .i64 0, .slice a n c]) ∧ Below w.heap.size w w' := by
  go_enter Tryd.func62, Tryd.ntmps62
  go_wp2
  exact bodyPost_ret (v := .agg #[.int .i64 4, .string s, .int .i64 0, .slice a n c]) (by simp [results, Tryd.results62, go_sem]; try rfl) rfl ⟨rfl, below_alloc _ _⟩

end Go.Proofs.YtpabngicbfcdkaaDoor

/- The parser: chain. -/
namespace Go.Proofs.YtpabngicbfcdkaaDoor
open Go.RowKit
set_option linter.unusedVariables false
set_option linter.unusedSimpArgs false

/-- a tree by value, its arguments in blocks from B on -/
def RE (B : Nat) (w : World) (t : Ex) (v : Value) : Prop := ∃ a c, v = exV t a c ∧ t.args.length ≤ c ∧ RdA (fun i => B ≤ i) w t.args a
theorem RE.fr {B pb : Nat} {w w' t v} (h : RE B w t v) (hf : Fr (fun x => x = pb) w w') (hB : pb < B) : RE B w' t v := by
  obtain ⟨a, c, h1, h2, h3⟩ := h
  exact ⟨a, c, h1, h2, h3.fr hf (fun i hi e => by omega)⟩
theorem RE.mono {B B' : Nat} {w t v} (h : RE B w t v) (hB : B' ≤ B) : RE B' w t v := by
  obtain ⟨a, c, h1, h2, h3⟩ := h
  exact ⟨a, c, h1, h2, h3.mono (fun i _ hi => by omega)⟩
/-- how a part of the parser ends -/
def ParPost (pb : Nat) (w : World) (res : Res) (bad : Bool) (ts : List Tk) (e : Ending) (w' : World) : Prop :=
  ∃ t v a c ts' bad', e = .returned v ∧ RE w.heap.size w' t v ∧ PS w' pb a c ts' bad' ∧ ts'.length ≤ ts.length ∧ Fr (fun x => x = pb) w w' ∧ (bad = true → bad' = true) ∧ (bad = false → if bad' = true then res = none else res = some (t, ts'))
/-- the program's functions, by level -/
def FN : Nat → Nat
  | 1 => 31
  | 2 => 51
  | 3 => 63
  | 4 => 68
  | 5 => 75
  | 6 => 81
  | 7 => 84
  | 8 => 85
  | _ => 86
def Spec (M : Nat) : Prop := ∀ (n : Nat), 1 ≤ n → n ≤ 9 → ∀ (w : World) (pb : Nat) (a : Option Addr) (c : Nat) (ts : List Tk) (bad : Bool), PS w pb a c ts bad → (Job.lev n ts).wt < M → Calls Tryd.prog (FN n) #[.pointer (some ⟨pb, 0, none⟩)] w (ParPost pb w (runJ (.lev n ts)) bad ts)

/-- trees by value, one behind the other -/
abbrev TV := Ex × Option Addr × Nat
def cellsX (L : List TV) : List Value := L.flatMap fun x => [.int .i64 x.1.kind, .string x.1.text, .int .i64 x.1.num, .slice x.2.1 x.1.args.length x.2.2]
theorem cellsX_len (L : List TV) : (cellsX L).length = L.length * 4 := by
  induction L with
  | nil => rfl
  | cons x r ih => simp only [cellsX, List.flatMap_cons, List.length_append, List.length_cons, List.length_nil] at *; omega
theorem cellsX_get : ∀ (L : List TV) (i j : Nat) (x : TV), L[i]? = some x → j < 4 → (cellsX L)[4 * i + j]? = [Value.int .i64 x.1.kind, .string x.1.text, .int .i64 x.1.num, .slice x.2.1 x.1.args.length x.2.2][j]?
  | y :: r, 0, j, x, h, hj => by
    simp at h; subst h
    simp only [cellsX, List.flatMap_cons, Nat.mul_zero, Nat.zero_add]
    rw [List.getElem?_append_left (by simpa using hj)]
  | y :: r, i + 1, j, x, h, hj => by
    simp only [cellsX, List.flatMap_cons]
    rw [List.getElem?_append_right (by simp; omega)]
    have := cellsX_get r i j x (by simpa using h) hj
    rw [← this]
    simp only [cellsX, List.length_cons, List.length_nil]
    congr 1
    omega
/-- trees in a block of their own -/
theorem rdA_block {T : Nat → Prop} {w : World} {g : Nat} {ty : TypeId} {cs : Array Value} (L : List TV) (hb : w.heap[g]? = some (.cells cs ty (0, 0))) (hc : cs.toList = cellsX L) (hT : T g)
    (h : ∀ x ∈ L, x.1.args.length ≤ x.2.2 ∧ RdA T w x.1.args x.2.1) : RdA T w (L.map (·.1)) (some ⟨g, 0, none⟩) := by
  refine .inr ⟨g, 0, rfl, RdL.of_get fun i t ht => ?_⟩
  rw [List.getElem?_map] at ht
  obtain ⟨x, hx, rfl⟩ := Option.map_eq_some_iff.1 ht
  have hm := h x (List.mem_of_getElem? hx)
  refine RdE.mk' hT (a := x.2.1) (c := x.2.2) ⟨cs, ty, hb, ?_, ?_, ?_, ?_⟩ hm.1 hm.2
  all_goals rw [← Array.getElem?_toList, hc, Nat.zero_add]
  · have := cellsX_get L i 0 x hx (by omega); simpa using this
  · have := cellsX_get L i 1 x hx (by omega); simpa using this
  · have := cellsX_get L i 2 x hx (by omega); simpa using this
  · have := cellsX_get L i 3 x hx (by omega); simpa using this
/-- the four cells of a tree's value -/
structure EC (w : World) (g : Nat) (t : Ex) (a : Option Addr) (c : Nat) : Prop where
  c0 : w.cell? ⟨g, 0, none⟩ = some (.int .i64 t.kind)
  c1 : w.cell? ⟨g, 1, none⟩ = some (.string t.text)
  c2 : w.cell? ⟨g, 2, none⟩ = some (.int .i64 t.num)
  c3 : w.cell? ⟨g, 3, none⟩ = some (.slice a t.args.length c)
  fz : ∀ j, w.frozen? ⟨g, j, none⟩ = false
theorem EC.lt {w : World} {g t a c} (h : EC w g t a c) : g < w.heap.size := World.block_lt_of_cell? w _ h.c0
theorem EC.fr {w w' : World} {F : Nat → Prop} {g t a c} (h : EC w g t a c) (hf : Fr F w w') (hF : ¬ F g) : EC w' g t a c :=
  ⟨hf.cell h.c0 hF, hf.cell h.c1 hF, hf.cell h.c2 hF, hf.cell h.c3 hF, fun j => (hf.frozen h.lt hF).trans (h.fz j)⟩
theorem EC.below {w w' : World} {g t a c} (h : EC w g t a c) (hb : Below w.heap.size w w') : EC w' g t a c := h.fr (.of_below (S := fun _ => False) hb) (fun h => h)
theorem alloc_ec (w : World) (t : Ex) (a : Option Addr) (c : Nat) (A : TypeId) : EC (w.alloc (.cells #[.int .i64 t.kind, .string t.text, .int .i64 t.num, .slice a t.args.length c] A)) w.heap.size t a c := ⟨by simp, by simp, by simp, by simp, fun j => by simp⟩
theorem set_ec {w : World} {g t a c} (h : EC w g t a c) (t' : Ex) (a' : Option Addr) (c' : Nat) : EC ((((w.setCell ⟨g, 0, none⟩ (.int .i64 t'.kind)).setCell ⟨g, 1, none⟩ (.string t'.text)).setCell ⟨g, 2, none⟩ (.int .i64 t'.num)).setCell ⟨g, 3, none⟩ (.slice a' t'.args.length c')) g t' a' c' := by
  have n1 : ∀ {i j : Nat}, i ≠ j → (⟨g, i, none⟩ : Addr) ≠ ⟨g, j, none⟩ := fun h e => h (by cases e; rfl)
  refine ⟨?_, ?_, ?_, ?_, fun j => ?_⟩
  · exact set_other (n1 (by omega)) (set_other (n1 (by omega)) (set_other (n1 (by omega)) (set_same h.c0)))
  · exact set_other (n1 (by omega)) (set_other (n1 (by omega)) (set_same (set_other (n1 (by omega)) h.c1)))
  · exact set_other (n1 (by omega)) (set_same (set_other (n1 (by omega)) (set_other (n1 (by omega)) h.c2)))
  · exact set_same (set_other (n1 (by omega)) (set_other (n1 (by omega)) (set_other (n1 (by omega)) h.c3)))
  · simp [h.fz j]

/-- what has been read so far, against the whole -/
def Sofar (all rest : Res) (bad bad' : Bool) (ts ts' : List Tk) : Prop := ts'.length ≤ ts.length ∧ (bad = true → bad' = true) ∧ (bad = false → if bad' = true then all = none else all = rest)

/-- the walk of chain between its rounds -/
def CH (n : Nat) (w : World) (pb be lb : Nat) (all : Res) (bad : Bool) (ts : List Tk) (wr : World) (e : Ex) (ts' : List Tk) (bad' : Bool) : Prop :=
  (∃ a c, PS wr pb a c ts' bad') ∧ (∃ aa cc, EC wr be e aa cc ∧ e.args.length ≤ cc ∧ RdA (fun i => w.heap.size < i ∧ i ≠ be) wr e.args aa) ∧
  (∀ j, j < (lvlO n).length → wr.cell? ⟨lb, j, none⟩ = some (.string (((lvlO n).map bs).getD j ByteArray.empty))) ∧ Fr (fun x => x = pb) w wr ∧
  Sofar all (runJ (.loop n e ts')) bad bad' ts ts'

theorem PS.drew {w pb a c ts bad} (h : PS w pb a c ts bad) : PS w.drew pb a c ts bad := ⟨h.c0, h.c1, h.fz, ⟨h.rd.len, h.rd.cell⟩, h.ap, h.hc, h.lim, h.by8, h.sz⟩
theorem EC.drew {w : World} {g t a c} (h : EC w g t a c) : EC w.drew g t a c := ⟨h.c0, h.c1, h.c2, h.c3, h.fz⟩
theorem fld1 (k : Int) (s : ByteArray) (n a : Int) (w : World) : (Instr.field 48 (.agg #[.int .i64 k, .string s, .int .i64 n, .int .i64 a]) 1).run Tryd.prog w = .ok (.string s) w := by kernel_rfl
/-- the end of a part whose result cell is the first block -/
theorem fin_par {w wr wf : World} {pb be : Nat} {all rest : Res} {bad bad' : Bool} {ts ts' : List Tk} {e : Ex} {a aa : Option Addr} {c cc : Nat} (hps : PS wr pb a c ts' bad') (hcc : e.args.length ≤ cc) (hra : RdA (fun i => w.heap.size < i ∧ i ≠ be) wr e.args aa)
    (hfr : Fr (fun x => x = pb) w wr) (hso : Sofar all rest bad bad' ts ts') (hend : bad' = false → rest = some (e, ts')) (hf : Fr (fun x => x = w.heap.size) wr wf) (hpl : pb < w.heap.size) : ParPost pb w all bad ts (.returned (exV e aa cc)) wf := by
  refine ⟨e, _, a, c, ts', bad', rfl, ⟨aa, cc, rfl, hcc, (hra.fr hf (fun i hi e => by omega)).mono (fun i _ hi => by omega)⟩, hps.fr hf (by omega) (fun x hx _ e => by have := hps.ap x hx; omega), hso.1, hfr.then hf (fun i e => .inr (by omega)), hso.2.1, fun hb => ?_⟩
  have h := hso.2.2 hb
  split at h
  · rename_i hx; rw [if_pos hx]; exact h
  · rename_i hx
    rw [if_neg hx, h]
    exact hend (by simpa using hx)

set_option maxRecDepth 100000 in
set_option maxHeartbeats 1500000 in
/-- operands with operators between them -/
theorem chain_any (n : Nat) (hn : n ≤ 7) (h3 : n ≠ 3) (h4 : n ≠ 4) (G : Nat) (hcf : ∀ args w, (callFunc G args).run Tryd.prog w = .ok (.enter G args) w)
    (M : Nat) (HG : ∀ (w : World) (pb : Nat) (a : Option Addr) (c : Nat) (ts : List Tk) (bad : Bool), PS w pb a c ts bad → (Job.lev (n + 1) ts).wt < M → Calls Tryd.prog G #[.pointer (some ⟨pb, 0, none⟩)] w (ParPost pb w (runJ (.lev (n + 1) ts)) bad ts))
    (h8 : ∀ l ∈ lvlO n, ∀ c ∈ l, c < 256) (hl9 : (lvlO n).length ≤ 9) (lb lc : Nat)
    (w : World) (pb : Nat) (a : Option Addr) (c : Nat) (ts : List Tk) (bad : Bool) (hp : PS w pb a c ts bad) (hM : (Job.lev n ts).wt ≤ M)
    (hlb : lb ≠ pb) (hz : ∀ j, j < (lvlO n).length → w.cell? ⟨lb, j, none⟩ = some (.string (((lvlO n).map bs).getD j ByteArray.empty))) :
    Calls Tryd.prog 50 #[.pointer (some ⟨pb, 0, none⟩), .func (.func G) #[.pointer (some ⟨pb, 0, none⟩)] #[], .int .i64 (lvlK n), .slice (some ⟨lb, 0, none⟩) (lvlO n).length lc] w (ParPost pb w (runJ (.lev n ts)) bad ts) := by
  obtain ⟨w1, hw1⟩ : ∃ w1, w1 = w.alloc (.cells #[.int .i64 0, .string ⟨#[]⟩, .int .i64 0, .slice none 0 0] 25) := ⟨_, rfl⟩
  have HB1 : Hid (Below w.heap.size w w1) := Lib.hid (by rw [hw1]; exact below_alloc _ _)
  have HS1 : Hid (w1.heap.size = w.heap.size + 1) := Lib.hid (by rw [hw1]; simp)
  have HP1 := Lib.hid (hp.below HB1.out)
  have hTC : EC w1 w.heap.size eE none 0 := by rw [hw1]; exact alloc_ec w eE none 0 _
  have HTC := Lib.hid hTC
  have HC1 := Lib.hid (HG w1 pb a c ts bad HP1.out (by simp only [Job.wt] at *; omega))
  have HGG := Lib.hid HG
  have HPL := Lib.hid hp.lt
  have HW1 := Lib.hid hw1
  have HZ := Lib.hid hz
  have HM := Lib.hid hM
  have HCF := Lib.hid hcf
  have HH8 := Lib.hid h8
  have HLB := Lib.hid hlb
  obtain ⟨K, hK⟩ : ∃ K, K = lvlK n := ⟨_, rfl⟩
  obtain ⟨O, hO⟩ : ∃ O, O = lvlO n := ⟨_, rfl⟩
  have HO := Lib.hid hO
  have HK := Lib.hid hK
  rw [← hK, ← hO]
  clear HG hw1 hz h8 hp hM hK hO hlb
  go_enter Tryd.func50, Tryd.ntmps50
  go_upto_region 1 with fail
  rw [← HW1.out]
  go_wp2_with (refine HC1.out.mono ?_; rintro e w2 ⟨t, v, a2, c2, ts2, bad2, rfl, ⟨aa, cc, rfl, hcc, hra⟩, hps, hlen, hf, hb1, hb2⟩; simp only [exV])
  obtain ⟨w3, hw3⟩ : ∃ w3, w3 = w2.alloc (.cells #[.int .i64 t.kind, .string t.text, .int .i64 t.num, .slice aa t.args.length cc] 25) := ⟨_, rfl⟩
  rw [← hw3]
  have hb3 : Below w2.heap.size w2 w3 := by rw [hw3]; exact below_alloc _ _
  obtain ⟨be, hbe⟩ : ∃ be, be = w2.heap.size := ⟨_, rfl⟩
  have hec : EC w3 be t aa cc := by rw [hw3, hbe]; exact alloc_ec _ _ _ _ _
  have HBE : Hid (w.heap.size < be) := Lib.hid (by have h1 := hf.size; have h2 := HS1.out; omega)
  have hfw3 : Fr (fun x => x = pb) w w3 := (Fr.of_below (S := fun x => x = pb) HB1.out).trans (hf.trans (.of_below hb3))
  have HCH : Hid (CH n w pb be lb (runJ (.lev n ts)) bad ts w3 t ts2 bad2) := Lib.hid ⟨⟨a2, c2, hps.below hb3⟩, ⟨aa, cc, hec, hcc, (hra.mono (fun i h1 h2 => ⟨by have := HS1.out; omega, by omega⟩)).below hb3⟩, fun j hj => hfw3.cell (HZ.out j hj) HLB.out, hfw3, hlen, hb1, fun h => by
    have h2 := hb2 h
    rw [runJ_lev h3 h4 (by omega)]
    split at h2
    · rename_i hx; rw [if_pos hx, h2]; rfl
    · rename_i hx; rw [if_neg hx, h2]; rfl⟩
  have HTC3 : Hid (EC w3 w.heap.size eE none 0) := Lib.hid ((HTC.out.fr hf (by have := HPL.out; omega)).below hb3)
  rw [← hbe]
  clear hw3 hb3 hbe hec hfw3 hcc hra hps hlen hf hb1 hb2
  go_loopg [10] (ts.length + 1) (fun gg nv wr => ∃ (e : Ex) (ts' : List Tk) (bad' : Bool), ts'.length + 1 ≤ gg ∧ ts'.length ≤ ts.length ∧ CH n w pb be lb (runJ (.lev n ts)) bad ts wr e ts' bad' ∧ EC wr w.heap.size eE none 0)
  case atStart => exact ⟨t, ts2, bad2, by have := HCH.out.2.2.2.2.1; omega, HCH.out.2.2.2.2.1, HCH.out, HTC3.out⟩
  case round =>
    clear HCH HTC3
    obtain ⟨e, ts', bad', hgg, hle, ⟨⟨a', c', hps⟩, ⟨aa, cc, hec, hcc, hra⟩, hzr, hfr, hso⟩, htc⟩ := hrel
    obtain ⟨x0, x1, x2, x3, xf⟩ := hec
    obtain ⟨y0, y1, y2, y3, yf⟩ := htc
    have yf0 := yf 0
    have yf1 := yf 1
    have yf2 := yf 2
    have yf3 := yf 3
    have HLE := Lib.hid hle
    have HGQ := Lib.hid hgg
    clear hgg
    have HPS := Lib.hid hps
    have HRA := Lib.hid hra
    have HZR := Lib.hid hzr
    have HFR := Lib.hid hfr
    have HSO := Lib.hid hso
    have HEC : Hid (EC wr be e aa cc) := Lib.hid ⟨x0, x1, x2, x3, xf⟩
    have HTCR : Hid (EC wr w.heap.size eE none 0) := Lib.hid ⟨y0, y1, y2, y3, yf⟩
    have HCC := Lib.hid hcc
    have c1 := hps.c1
    have HAT := Lib.hid (at_any K O (by rw [HO.out]; exact HH8.out) (by rw [HK.out]; unfold lvlK; split <;> omega) (by rw [HO.out]; exact hl9) lb lc wr (by rw [HO.out]; exact hzr) hps)
    clear hle hps hra hzr hfr hso xf yf hcc
    cases hbd : bad' with
    | true =>
      subst hbd
      go_wp2
      exact bodyPost_ret (v := .agg #[.int .i64 e.kind, .string e.text, .int .i64 e.num, .slice aa e.args.length cc]) (by simp [results, Tryd.results50, go_sem, y0, y1, y2, y3]; try rfl) rfl (fin_par HPS.out HCC.out HRA.out HFR.out HSO.out (fun h => by cases h) (fr4 wr w.heap.size (.int .i64 e.kind) (.string e.text) (.int .i64 e.num) (.slice aa e.args.length cc)) HPL.out)
    | false =>
      subst hbd
      cases hi : isT K O ts' with
      | false =>
        rw [hi] at HAT
        have HRES : Hid (runJ (.loop n e ts') = some (e, ts')) := Lib.hid (by rw [runJ_loop n hn]; unfold loopJ; rw [← HK.out, ← HO.out, hi]; rfl)
        clear hi
        go_wp2_with (refine HAT.out.mono ?_; rintro e9 w9 ⟨rfl, rfl⟩)
        exact bodyPost_ret (v := .agg #[.int .i64 e.kind, .string e.text, .int .i64 e.num, .slice aa e.args.length cc]) (by simp [results, Tryd.results50, go_sem, y0, y1, y2, y3]; try rfl) rfl (fin_par HPS.out HCC.out HRA.out HFR.out HSO.out (fun _ => HRES.out) (fr4 wr w.heap.size (.int .i64 e.kind) (.string e.text) (.int .i64 e.num) (.slice aa e.args.length cc)) HPL.out)
      | true =>
        obtain ⟨t0, r0, rfl⟩ : ∃ t0 r0, ts' = t0 :: r0 := by
          cases ts' with
          | nil => cases hi
          | cons a b => exact ⟨a, b, rfl⟩
        rw [hi] at HAT
        have HRES : Hid (runJ (.loop n e (t0 :: r0)) = (runJ (.lev (n + 1) r0)).bind fun x => runJ (.loop n (callE t0.1.2.1 [e, x.1]) x.2)) := Lib.hid (by rw [runJ_loop n hn]; unfold loopJ; rw [← HK.out, ← HO.out, hi]; rfl)
        have HTK := Lib.hid (take_any HPS.out)
        simp only [hdV, tokV, TakePost, List.isEmpty, Bool.or_false, List.tail_cons] at HTK
        have hfld := fld1 (t0.1.1 : Nat) (bs t0.1.2.1) (t0.1.2.2 : Nat) (t0.2 : Nat)
        clear hi
        go_upto_region 4 with (first | (go_at_call 60; refine HAT.out.mono ?_; rintro e9 w9 ⟨rfl, rfl⟩) | (go_at_call 61; refine HTK.out.mono ?_; rintro e9 w5 ⟨rfl, ⟨a5, c5, hps5⟩, hf5⟩; have HPS5 := Lib.hid hps5; have HF5 := Lib.hid hf5; clear hps5 hf5))
        have HBEP : Hid (¬ (be = pb)) := Lib.hid (by have := HBE.out; have := HPL.out; omega)
        have HEC5 := Lib.hid (HEC.out.fr HF5.out HBEP.out).drew
        obtain ⟨x0, x1, x2, x3, xf⟩ := HEC5.out
        have HC5 := Lib.hid (HGG.out w5.drew pb a5 c5 r0 false HPS5.out.drew (by have h1 := HM.out; have h2 := HLE.out; simp only [Job.wt, List.length_cons] at *; omega))
        clear c1 y0 y1 y2 y3 yf0 yf1 yf2 yf3
        go_region_with (first
          | (go_at_call 62; refine (call_any _ _ _ _ _).mono ?_; rintro e9 w7 ⟨rfl, hb7⟩; obtain ⟨q0, q1, q2, q3, qf⟩ := (HEC6.out.below (below_alloc _ _)).below hb7; have qf0 := qf 0; have qf1 := qf 1; have qf2 := qf 2; have qf3 := qf 3; clear qf)
          | (refine HC5.out.mono ?_; rintro e9 w6 ⟨t6, v6, a6, c6, ts6, bad6, rfl, ⟨aa6, cc6, rfl, hcc6, hra6⟩, hps6, hlen6, hf6, hb6, hb6'⟩; simp only [exV]; have HEC6 := Lib.hid (HEC5.out.fr hf6 HBEP.out); obtain ⟨z0, z1, z2, z3, zf⟩ := HEC6.out; clear zf))
        all_goals
          have HF6 : Hid (Fr (fun x => x = pb) wr w6) := Lib.hid (HF5.out.drew.trans hf6)
          have HB67 := Lib.hid (bthen (below_alloc w6 (.cells #[.int .i64 e.kind, .string e.text, .int .i64 e.num, .slice aa e.args.length cc, .int .i64 t6.kind, .string t6.text, .int .i64 t6.num, .slice aa6 t6.args.length cc6] 25)) hb7)
          have HBW : Hid (be < wr.heap.size) := Lib.hid HEC.out.lt
          have HW5 : Hid (wr.heap.size ≤ w5.drew.heap.size) := Lib.hid HF5.out.drew.size
          have HW6 : Hid (wr.heap.size ≤ w6.heap.size) := Lib.hid HF6.out.size
          have HRA6 : Hid (RdA (fun i => w.heap.size < i ∧ i ≠ be) w6 e.args aa) := Lib.hid (HRA.out.fr HF6.out (fun i hi e => by have := HPL.out; omega))
          have HRT6 : Hid (RdA (fun i => w.heap.size < i ∧ i ≠ be) w6 t6.args aa6) := Lib.hid (hra6.mono (fun i h1 h2 => ⟨by have := HBE.out; have := HBW.out; have := HW5.out; omega, by have := HBW.out; have := HW5.out; omega⟩))
          have HRB : Hid (RdA (fun i => w.heap.size < i ∧ i ≠ be) w7 [e, t6] (some ⟨w6.heap.size, 0, none⟩)) := Lib.hid ((rdA_block [(e, aa, cc), (t6, aa6, cc6)] (heap_new_at rfl) rfl ⟨by have := HBE.out; have := HBW.out; have := HW6.out; omega, by have := HBW.out; have := HW6.out; omega⟩ (fun x hx => by
            rcases List.mem_cons.1 hx with rfl | hx
            · exact ⟨HCC.out, HRA6.out.below (below_alloc _ _)⟩
            · rcases List.mem_cons.1 hx with rfl | hx
              · exact ⟨hcc6, HRT6.out.below (below_alloc _ _)⟩
              · cases hx)).below hb7)
          have HEC7 := Lib.hid ((HEC6.out.below (below_alloc _ _)).below hb7)
          have HPS7 := Lib.hid ((hps6.below (below_alloc _ _)).below hb7)
          have HF7 : Hid (Fr (fun x => x = pb) wr w7) := Lib.hid (HF6.out.trans (.of_below HB67.out))
          have HSO6 : Hid (Sofar (runJ (.lev n ts)) (runJ (.loop n (callE t0.1.2.1 [e, t6]) ts6)) bad bad6 ts ts6) := Lib.hid ⟨by have := HLE.out; simp only [List.length_cons] at this; omega, fun h => (by have := HSO.out.2.1 h; cases this), fun h => by
            have h1 := HSO.out.2.2 h
            rw [if_neg (by simp), HRES.out] at h1
            have h2 := hb6' (by first | rfl | trivial)
            split at h2
            · rename_i hx; rw [if_pos hx, h1, h2]; rfl
            · rename_i hx; rw [if_neg hx, h1, h2]; rfl⟩
          have HL6 := Lib.hid hlen6
          clear hra6 hps6 hlen6 hf6 hb6 hb6' hb7 x0 x1 x2 x3 xf z0 z1 z2 z3 q0 q1 q2 q3 qf0 qf1 qf2 qf3 hcc6
          obtain ⟨wf, hwf⟩ : ∃ wf, wf = ((((w7.setCell ⟨be, 0, none⟩ (.int .i64 4)).setCell ⟨be, 1, none⟩ (.string (bs t0.1.2.1))).setCell ⟨be, 2, none⟩ (.int .i64 0)).setCell ⟨be, 3, none⟩ (.slice (some ⟨w6.heap.size, 0, none⟩) 2 2)) := ⟨_, rfl⟩
          rw [← hwf]
          have HFF : Hid (Fr (fun x => x = be) w7 wf) := Lib.hid (by rw [hwf]; exact fr4 w7 be _ _ _ _)
          have HECF : Hid (EC wf be (callE t0.1.2.1 [e, t6]) (some ⟨w6.heap.size, 0, none⟩) 2) := Lib.hid (by rw [hwf]; exact set_ec HEC7.out (callE t0.1.2.1 [e, t6]) (some ⟨w6.heap.size, 0, none⟩) 2)
          clear hwf
          go_wp2
          go_roundg (r0.length + 1)
          case measure => have := HGQ.out; simp only [List.length_cons] at this; omega
          case rel =>
            refine ⟨callE t0.1.2.1 [e, t6], ts6, bad6, by have := HL6.out; omega, HSO6.out.1, ⟨⟨a6, c6, HPS7.out.fr HFF.out (fun e => HBEP.out e.symm) (fun x hx _ e => by have := HPS7.out.ap x hx; have := HPL.out; have := HBE.out; omega)⟩, ⟨_, _, HECF.out, by simp [callE, Ex.args], HRB.out.fr HFF.out (fun i hi e => hi.2 e)⟩, fun j hj => ?_, ?_, HSO6.out⟩, ?_⟩
            · refine HFF.out.cell (HF7.out.cell (HZR.out j hj) HLB.out) ?_
              have := World.block_lt_of_cell? w _ (HZ.out j hj)
              have := HBE.out
              simp only at *; omega
            · exact (HFR.out.trans HF7.out).then HFF.out (fun i e => .inr (by have := HBE.out; omega))
            · exact (HTCR.out.fr HF7.out (by have := HPL.out; omega)).fr HFF.out (by have := HBE.out; omega)

end Go.Proofs.YtpabngicbfcdkaaDoor
