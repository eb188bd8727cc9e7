/-
  The plain law of the parser.
-/
import Derived.Test.YtpabngicbfcdkaaTok6
import Derived.Test.YtpabngicbfcdkaaSTree
namespace Go.Proofs.Ytpabngicbfcdkaa
open Go.RowKit
set_option linter.unusedVariables false
set_option linter.unusedSimpArgs false

/-- the next token is one of some words or signs -/
def isT (k : Nat) (texts : List (List Nat)) (ts : List Tk) : Bool := match ts with
  | [] => false
  | t :: _ => t.1.1 == k && texts.contains t.1.2.1
def hdT (ts : List Tk) : List Nat := match ts with
  | [] => []
  | t :: _ => t.1.2.1
def lvlK (n : Nat) : Nat := if n ≤ 2 then 4 else 5
def lvlO (n : Nat) : List (List Nat) := if n = 1 then [[111, 114]] else if n = 2 then [[97, 110, 100]] else if n = 4 then [[61, 61], [33, 61], [60], [60, 61]] else if n = 5 then [[43, 43]] else if n = 6 then [[43], [45]] else [[42]]
def wNot : List Nat := [110, 111, 116]
def wCut : List Nat := [99, 117, 116]
def isNm (l : List Nat) : Bool := !(l == [97, 110, 100] || l == [111, 114] || l == wNot) && !(l == []) && l.all letB
def callE (name : List Nat) (us : List Ex) : Ex := .mk 4 (bs name) 0 us
def eE : Ex := .mk 0 (bs []) 0 []

inductive Job where
  | lev (n : Nat) (ts : List Tk)
  | loop (n : Nat) (e : Ex) (ts : List Tk)
  | post (e : Ex) (ts : List Tk)
  | args (name : List Nat) (acc : List Ex) (ts : List Tk)

abbrev Res := Option (Ex × List Tk)
def primJ (go : Job → Res) (ts : List Tk) : Res := match ts with
  | [] => none
  | t :: r =>
    if t.1.1 = 1 then some (.mk 1 (bs []) (t.1.2.2 : Nat) [], r)
    else if t.1.1 = 2 then some (.mk 2 (bs t.1.2.1) 0 [], r)
    else if t.1.1 = 3 then some (.mk 3 (bs t.1.2.1) 0 [], r)
    else if t.1.1 = 4 then
      if isNm t.1.2.1 && isT 5 [[40]] r then
        if isT 5 [[41]] r.tail then some (callE t.1.2.1 [], r.tail.tail) else go (.args t.1.2.1 [] r.tail)
      else none
    else if t.1.1 = 5 ∧ t.1.2.1 = [40] then (go (.lev 1 r)).bind fun x => if isT 5 [[41]] x.2 then some (x.1, x.2.tail) else none
    else none
def notJ (go : Job → Res) (ts : List Tk) : Res := if isT 4 [wNot] ts then (go (.lev 3 ts.tail)).bind fun x => some (callE wNot [x.1], x.2) else go (.lev 4 ts)
def cmpJ (go : Job → Res) (ts : List Tk) : Res := (go (.lev 5 ts)).bind fun x => if isT 5 (lvlO 4) x.2 then (go (.lev 5 x.2.tail)).bind fun y => some (callE (hdT x.2) [x.1, y.1], y.2) else some x
def levJ (go : Job → Res) (n : Nat) (ts : List Tk) : Res :=
  if n = 3 then notJ go ts
  else if n = 4 then cmpJ go ts
  else if n = 8 then (go (.lev 9 ts)).bind fun x => go (.post x.1 x.2)
  else if n = 9 then primJ go ts
  else (go (.lev (n + 1) ts)).bind fun x => go (.loop n x.1 x.2)
def loopJ (go : Job → Res) (n : Nat) (e : Ex) (ts : List Tk) : Res := if isT (lvlK n) (lvlO n) ts then (go (.lev (n + 1) ts.tail)).bind fun x => go (.loop n (callE (hdT ts) [e, x.1]) x.2) else some (e, ts)
def postJ (go : Job → Res) (e : Ex) (ts : List Tk) : Res :=
  if isT 5 [[91]] ts then
    (go (.lev 1 ts.tail)).bind fun x => if isT 5 [[58]] x.2 then (go (.lev 1 x.2.tail)).bind fun y => if isT 5 [[93]] y.2 then go (.post (callE wCut [e, x.1, y.1]) y.2.tail) else none else none
  else some (e, ts)
def argsJ (go : Job → Res) (name : List Nat) (acc : List Ex) (ts : List Tk) : Res :=
  (go (.lev 1 ts)).bind fun x => if isT 5 [[44]] x.2 then go (.args name (acc ++ [x.1]) x.2.tail) else if isT 5 [[41]] x.2 then some (callE name (acc ++ [x.1]), x.2.tail) else none
/-- one step of a job, told how its parts end -/
def stepJ (go : Job → Res) : Job → Res
  | .lev n ts => levJ go n ts
  | .loop n e ts => loopJ go n e ts
  | .post e ts => postJ go e ts
  | .args name acc ts => argsJ go name acc ts

def runF : Nat → Job → Res
  | 0, _ => none
  | f + 1, j => stepJ (runF f) j
def Job.ts : Job → List Tk
  | .lev _ ts => ts
  | .loop _ _ ts => ts
  | .post _ ts => ts
  | .args _ _ ts => ts
/-- a job's weight -/
def Job.wt : Job → Nat
  | .lev n ts => 12 * ts.length + (12 - n)
  | .loop _ _ ts => 12 * ts.length
  | .post _ ts => 12 * ts.length
  | .args _ _ ts => 12 * ts.length + 12
/-- how much is left at most -/
def Job.most : Job → Nat
  | .lev _ ts => ts.length - 1
  | .loop _ _ ts => ts.length
  | .post _ ts => ts.length
  | .args _ _ ts => ts.length - 1
def Job.need : Job → Nat
  | .lev _ _ => 1
  | .args _ _ _ => 1
  | _ => 0
theorem isT_pos {k : Nat} {l : List (List Nat)} {ts : List Tk} (h : isT k l ts = true) : 0 < ts.length := by
  cases ts with
  | nil => cases h
  | cons t r => simp
theorem tail_len {k : Nat} {l : List (List Nat)} {ts : List Tk} (h : isT k l ts = true) : ts.tail.length + 1 = ts.length := by
  cases ts with
  | nil => cases h
  | cons t r => simp

/-- what is left is shorter -/
def Shr (go : Job → Res) : Prop := ∀ j x, go j = some x → x.2.length + j.need ≤ j.ts.length
theorem stepJ_shr {go : Job → Res} (h : Shr go) : Shr (stepJ go) := by
  intro j x hx
  have bnd : ∀ {o : Res} {g : Ex × List Tk → Res} {x}, o.bind g = some x → ∃ y, o = some y ∧ g y = some x := fun {o g x} e => by
    cases o with
    | none => cases e
    | some y => exact ⟨y, rfl, e⟩
  cases j with
  | lev n ts =>
    change levJ go n ts = some x at hx
    unfold levJ at hx
    split at hx
    · unfold notJ at hx
      split at hx
      · rename_i h1
        obtain ⟨y, hy, e⟩ := bnd hx
        cases e
        have := h _ _ hy
        have := tail_len h1
        simp only [Job.need, Job.ts] at *; omega
      · have := h _ _ hx
        simpa only [Job.need, Job.ts] using this
    · split at hx
      · unfold cmpJ at hx
        obtain ⟨y, hy, e⟩ := bnd hx
        have h2 := h _ _ hy
        split at e
        · rename_i h1
          obtain ⟨z, hz, e⟩ := bnd e
          cases e
          have h3 := h _ _ hz
          have := tail_len h1
          simp only [Job.need, Job.ts] at *; omega
        · cases e
          simpa only [Job.need, Job.ts] using h2
      · split at hx
        · obtain ⟨y, hy, e⟩ := bnd hx
          have h2 := h _ _ hy
          have h3 := h _ _ e
          simp only [Job.need, Job.ts] at *; omega
        · split at hx
          · unfold primJ at hx
            split at hx
            · cases hx
            · rename_i t r
              split at hx
              · cases hx; simp [Job.need, Job.ts]
              · split at hx
                · cases hx; simp [Job.need, Job.ts]
                · split at hx
                  · cases hx; simp [Job.need, Job.ts]
                  · split at hx
                    · split at hx
                      · rename_i h1
                        simp only [Bool.and_eq_true] at h1
                        have h2 := tail_len h1.2
                        split at hx
                        · rename_i h3
                          have h4 := tail_len h3
                          cases hx
                          simp only [Job.need, Job.ts, List.length_cons]; omega
                        · have h4 := h _ _ hx
                          simp only [Job.need, Job.ts, List.length_cons] at *; omega
                      · cases hx
                    · split at hx
                      · obtain ⟨y, hy, e⟩ := bnd hx
                        have h2 := h _ _ hy
                        split at e
                        · rename_i h1
                          have h3 := tail_len h1
                          cases e
                          simp only [Job.need, Job.ts, List.length_cons] at *; omega
                        · cases e
                      · cases hx
          · obtain ⟨y, hy, e⟩ := bnd hx
            have h2 := h _ _ hy
            have h3 := h _ _ e
            simp only [Job.need, Job.ts] at *; omega
  | loop n e ts =>
    change loopJ go n e ts = some x at hx
    unfold loopJ at hx
    split at hx
    · rename_i h1
      obtain ⟨y, hy, e⟩ := bnd hx
      have h2 := h _ _ hy
      have h3 := h _ _ e
      have := tail_len h1
      simp only [Job.need, Job.ts] at *; omega
    · cases hx; simp [Job.need, Job.ts]
  | post e ts =>
    change postJ go e ts = some x at hx
    unfold postJ at hx
    split at hx
    · rename_i h1
      obtain ⟨y, hy, e⟩ := bnd hx
      have h2 := h _ _ hy
      have := tail_len h1
      split at e
      · rename_i h4
        have := tail_len h4
        obtain ⟨z, hz, e⟩ := bnd e
        have h3 := h _ _ hz
        split at e
        · rename_i h6
          have := tail_len h6
          have h5 := h _ _ e
          simp only [Job.need, Job.ts] at *; omega
        · cases e
      · cases e
    · cases hx; simp [Job.need, Job.ts]
  | args name acc ts =>
    change argsJ go name acc ts = some x at hx
    unfold argsJ at hx
    obtain ⟨y, hy, e⟩ := bnd hx
    have h2 := h _ _ hy
    split at e
    · rename_i h1
      have := tail_len h1
      have h3 := h _ _ e
      simp only [Job.need, Job.ts] at *; omega
    · split at e
      · rename_i h1
        have := tail_len h1
        cases e
        simp only [Job.need, Job.ts] at *; omega
      · cases e
theorem runF_shr : ∀ f, Shr (runF f)
  | 0 => fun j x h => by cases h
  | f + 1 => stepJ_shr (runF_shr f)

def Job.ok : Job → Prop
  | .lev n _ => n ≤ 9
  | .loop n _ _ => n ≤ 7
  | _ => True
/-- a step looks only at lighter jobs -/
theorem stepJ_congr {go go' : Job → Res} (hs : Shr go) : ∀ j : Job, j.ok → (∀ k : Job, k.ok → k.wt < j.wt → go k = go' k) → stepJ go j = stepJ go' j := by
  have bc : ∀ {o : Res} {g g' : Ex × List Tk → Res}, (∀ y, o = some y → g y = g' y) → o.bind g = o.bind g' := fun {o g g'} h => by
    cases o with
    | none => rfl
    | some y => exact h y rfl
  intro j hok h
  cases j with
  | lev n ts =>
    have hn9 : n ≤ 9 := hok
    change levJ go n ts = levJ go' n ts
    unfold levJ
    split
    · rename_i h3; subst h3
      unfold notJ
      split
      · rename_i h1
        rw [← h _ (by first | trivial | (simp only [Job.ok] at *; omega)) (by have := tail_len h1; simp only [Job.wt]; omega)]
      · rw [← h _ (by first | trivial | (simp only [Job.ok] at *; omega)) (by simp only [Job.wt]; omega)]
    · split
      · rename_i h3; subst h3
        unfold cmpJ
        rw [← h _ (by first | trivial | (simp only [Job.ok] at *; omega)) (by simp only [Job.wt]; omega)]
        refine bc fun y hy => ?_
        have h2 := hs _ _ hy
        split
        · rename_i h1
          rw [← h _ (by first | trivial | (simp only [Job.ok] at *; omega)) (by have := tail_len h1; simp only [Job.wt, Job.need, Job.ts] at *; omega)]
        · rfl
      · split
        · rename_i h3; subst h3
          rw [← h _ (by first | trivial | (simp only [Job.ok] at *; omega)) (by simp only [Job.wt]; omega)]
          refine bc fun y hy => ?_
          have h2 := hs _ _ hy
          exact h _ (by first | trivial | (simp only [Job.ok] at *; omega)) (by simp only [Job.wt, Job.need, Job.ts] at *; omega)
        · split
          · rename_i h3; subst h3
            unfold primJ
            cases ts with
            | nil => rfl
            | cons t r =>
              simp only
              split
              · rfl
              · split
                · rfl
                · split
                  · rfl
                  · split
                    · split
                      · rename_i h1
                        simp only [Bool.and_eq_true] at h1
                        have h2 := tail_len h1.2
                        split
                        · rfl
                        · exact h _ (by first | trivial | (simp only [Job.ok] at *; omega)) (by simp only [Job.wt, List.length_cons]; omega)
                      · rfl
                    · split
                      · rw [← h _ (by first | trivial | (simp only [Job.ok] at *; omega)) (by simp only [Job.wt, List.length_cons]; omega)]
                      · rfl
          · rw [← h _ (by first | trivial | (simp only [Job.ok] at *; omega)) (by simp only [Job.wt]; omega)]
            refine bc fun y hy => ?_
            have h2 := hs _ _ hy
            exact h _ (by first | trivial | (simp only [Job.ok] at *; omega)) (by simp only [Job.wt, Job.need, Job.ts] at *; omega)
  | loop n e ts =>
    change loopJ go n e ts = loopJ go' n e ts
    unfold loopJ
    split
    · rename_i h1
      have := tail_len h1
      rw [← h _ (by first | trivial | (simp only [Job.ok] at *; omega)) (by simp only [Job.wt]; omega)]
      refine bc fun y hy => ?_
      have h2 := hs _ _ hy
      exact h _ (by first | trivial | (simp only [Job.ok] at *; omega)) (by simp only [Job.wt, Job.need, Job.ts] at *; omega)
    · rfl
  | post e ts =>
    change postJ go e ts = postJ go' e ts
    unfold postJ
    split
    · rename_i h1
      have := tail_len h1
      rw [← h _ (by first | trivial | (simp only [Job.ok] at *; omega)) (by simp only [Job.wt]; omega)]
      refine bc fun y hy => ?_
      have h2 := hs _ _ hy
      split
      · rename_i h4
        have := tail_len h4
        rw [← h _ (by first | trivial | (simp only [Job.ok] at *; omega)) (by simp only [Job.wt, Job.need, Job.ts] at *; omega)]
        refine bc fun z hz => ?_
        have h3 := hs _ _ hz
        split
        · rename_i h6
          have := tail_len h6
          exact h _ (by first | trivial | (simp only [Job.ok] at *; omega)) (by simp only [Job.wt, Job.need, Job.ts] at *; omega)
        · rfl
      · rfl
    · rfl
  | args name acc ts =>
    change argsJ go name acc ts = argsJ go' name acc ts
    unfold argsJ
    rw [← h _ (by first | trivial | (simp only [Job.ok] at *; omega)) (by simp only [Job.wt]; omega)]
    refine bc fun y hy => ?_
    have h2 := hs _ _ hy
    split
    · rename_i h1
      have := tail_len h1
      exact h _ (by first | trivial | (simp only [Job.ok] at *; omega)) (by simp only [Job.wt, Job.need, Job.ts] at *; omega)
    · rfl

theorem runF_stab : ∀ (f f' : Nat) (j : Job), j.ok → j.wt < f → j.wt < f' → runF f j = runF f' j
  | 0, _, j, _, h, _ => absurd h (by omega)
  | _ + 1, 0, j, _, _, h => absurd h (by omega)
  | f + 1, f' + 1, j, ok, h, h' => stepJ_congr (runF_shr f) j ok fun k hk hw => runF_stab f f' k hk (by omega) (by omega)
/-- how a job ends -/
def runJ (j : Job) : Res := runF (j.wt + 1) j
theorem runJ_eq (j : Job) (ok : j.ok) : runJ j = stepJ runJ j := by
  unfold runJ
  exact stepJ_congr (runF_shr j.wt) j ok fun k hk hw => runF_stab _ _ k hk hw (by omega)
theorem runJ_shr : Shr runJ := fun j x h => runF_shr _ j x h
theorem runJ_lev {n : Nat} {ts : List Tk} (h3 : n ≠ 3) (h4 : n ≠ 4) (h8 : n < 8) : runJ (.lev n ts) = (runJ (.lev (n + 1) ts)).bind fun x => runJ (.loop n x.1 x.2) := by
  refine (runJ_eq (.lev n ts) (by show n ≤ 9; omega)).trans ?_
  change levJ runJ n ts = _
  unfold levJ
  rw [if_neg h3, if_neg h4, if_neg (by omega), if_neg (by omega)]
theorem runJ_not (ts : List Tk) : runJ (.lev 3 ts) = notJ runJ ts := runJ_eq (.lev 3 ts) (by show 3 ≤ 9; omega)
theorem runJ_cmp (ts : List Tk) : runJ (.lev 4 ts) = cmpJ runJ ts := runJ_eq (.lev 4 ts) (by show 4 ≤ 9; omega)
theorem runJ_pst (ts : List Tk) : runJ (.lev 8 ts) = (runJ (.lev 9 ts)).bind fun x => runJ (.post x.1 x.2) := runJ_eq (.lev 8 ts) (by show 8 ≤ 9; omega)
theorem runJ_prim (ts : List Tk) : runJ (.lev 9 ts) = primJ runJ ts := runJ_eq (.lev 9 ts) (by show 9 ≤ 9; omega)
theorem runJ_loop (n : Nat) (hn : n ≤ 7) (e : Ex) (ts : List Tk) : runJ (.loop n e ts) = loopJ runJ n e ts := runJ_eq (.loop n e ts) hn
theorem runJ_post (e : Ex) (ts : List Tk) : runJ (.post e ts) = postJ runJ e ts := runJ_eq (.post e ts) trivial
theorem runJ_args (name : List Nat) (acc : List Ex) (ts : List Tk) : runJ (.args name acc ts) = argsJ runJ name acc ts := runJ_eq (.args name acc ts) trivial

end Go.Proofs.Ytpabngicbfcdkaa
