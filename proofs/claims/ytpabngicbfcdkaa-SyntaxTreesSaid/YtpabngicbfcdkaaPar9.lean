/-
  The parser: every level, from every state; how large its trees are.
-/
import Derived.Test.YtpabngicbfcdkaaPar8
namespace Go.Proofs.Ytpabngicbfcdkaa
open Go.RowKit
set_option linter.unusedVariables false
set_option linter.unusedSimpArgs false

theorem spec_all : ∀ M, Spec M
  | 0 => fun n _ _ w pb a c ts bad _ h => absurd h (by omega)
  | M + 1 => fun n h1 h9 w pb a c ts bad hp h => by
    have ih := spec_all M
    have hM : (Job.lev n ts).wt ≤ M := by omega
    match n, h1, h9, hM with
    | 1, _, _, hM => exact lev1_any M ih w pb a c ts bad hp hM
    | 2, _, _, hM => exact lev2_any M ih w pb a c ts bad hp hM
    | 3, _, _, hM => exact lev3_any M ih w pb a c ts bad hp hM
    | 4, _, _, hM => exact lev4_any M ih w pb a c ts bad hp hM
    | 5, _, _, hM => exact lev5_any M ih w pb a c ts bad hp hM
    | 6, _, _, hM => exact lev6_any M ih w pb a c ts bad hp hM
    | 7, _, _, hM => exact lev7_any M ih w pb a c ts bad hp hM
    | 8, _, _, hM => exact lev8_any M ih w pb a c ts bad hp hM
    | 9, _, _, hM => exact lev9_any M ih w pb a c ts bad hp hM
/-- query, from every state -/
theorem query_any (w : World) (pb : Nat) (a : Option Addr) (c : Nat) (ts : List Tk) (bad : Bool) (hp : PS w pb a c ts bad) :
    Calls Try.prog 22 #[.pointer (some ⟨pb, 0, none⟩)] w (ParPost pb w (runJ (.lev 1 ts)) bad ts) :=
  spec_all _ 1 (by omega) (by omega) w pb a c ts bad hp (Nat.lt_succ_self _)

/-- nodes that a job brings along -/
def Job.sz : Job → Nat
  | .lev _ _ => 0
  | .loop _ e _ => e.size
  | .post e _ => e.size
  | .args _ acc _ => 1 + Ex.sizes acc
def SzOk (go : Job → Res) : Prop := ∀ j x, go j = some x → x.1.size + x.2.length ≤ j.ts.length + j.sz
theorem size_call (name : List Nat) (us : List Ex) : (callE name us).size = 1 + Ex.sizes us := by simp [callE, Ex.size]
theorem stepJ_sz {go : Job → Res} (h : SzOk go) : SzOk (stepJ go) := by
  intro j x hx
  have bnd : ∀ {o : Res} {g : Ex × List Tk → Res} {x}, o.bind g = some x → ∃ y, o = some y ∧ g y = some x := fun {o g x} e => by
    cases o with
    | none => cases e
    | some y => exact ⟨y, rfl, e⟩
  cases j with
  | lev n ts =>
    change levJ go n ts = some x at hx
    unfold levJ at hx
    split at hx
    · unfold notJ at hx
      split at hx
      · rename_i h1
        obtain ⟨y, hy, e⟩ := bnd hx
        cases e
        have := h _ _ hy
        have := tail_len h1
        simp only [Job.sz, Job.ts, size_call, Ex.sizes] at *; omega
      · have := h _ _ hx
        simpa only [Job.sz, Job.ts] using this
    · split at hx
      · unfold cmpJ at hx
        obtain ⟨y, hy, e⟩ := bnd hx
        have h2 := h _ _ hy
        split at e
        · rename_i h1
          obtain ⟨z, hz, e⟩ := bnd e
          cases e
          have h3 := h _ _ hz
          have := tail_len h1
          simp only [Job.sz, Job.ts, size_call, Ex.sizes] at *; omega
        · cases e
          simpa only [Job.sz, Job.ts] using h2
      · split at hx
        · obtain ⟨y, hy, e⟩ := bnd hx
          have h2 := h _ _ hy
          have h3 := h _ _ e
          simp only [Job.sz, Job.ts] at *; omega
        · split at hx
          · unfold primJ at hx
            split at hx
            · cases hx
            · rename_i t r
              split at hx
              · cases hx; simp [Job.sz, Job.ts, Ex.size, Ex.sizes]; omega
              · split at hx
                · cases hx; simp [Job.sz, Job.ts, Ex.size, Ex.sizes]; omega
                · split at hx
                  · cases hx; simp [Job.sz, Job.ts, Ex.size, Ex.sizes]; omega
                  · split at hx
                    · split at hx
                      · rename_i h1
                        simp only [Bool.and_eq_true] at h1
                        have h2 := tail_len h1.2
                        split at hx
                        · rename_i h3
                          have h4 := tail_len h3
                          cases hx
                          simp only [Job.sz, Job.ts, List.length_cons, size_call, Ex.sizes]; omega
                        · have h4 := h _ _ hx
                          simp only [Job.sz, Job.ts, List.length_cons, Ex.sizes] at *; omega
                      · cases hx
                    · split at hx
                      · obtain ⟨y, hy, e⟩ := bnd hx
                        have h2 := h _ _ hy
                        split at e
                        · rename_i h1
                          have h3 := tail_len h1
                          cases e
                          simp only [Job.sz, Job.ts, List.length_cons] at *; omega
                        · cases e
                      · cases hx
          · obtain ⟨y, hy, e⟩ := bnd hx
            have h2 := h _ _ hy
            have h3 := h _ _ e
            simp only [Job.sz, Job.ts] at *; omega
  | loop n e ts =>
    change loopJ go n e ts = some x at hx
    unfold loopJ at hx
    split at hx
    · rename_i h1
      obtain ⟨y, hy, e⟩ := bnd hx
      have h2 := h _ _ hy
      have h3 := h _ _ e
      have := tail_len h1
      simp only [Job.sz, Job.ts, size_call, Ex.sizes] at *; omega
    · cases hx; simp [Job.sz, Job.ts]; omega
  | post e ts =>
    change postJ go e ts = some x at hx
    unfold postJ at hx
    split at hx
    · rename_i h1
      obtain ⟨y, hy, e⟩ := bnd hx
      have h2 := h _ _ hy
      have := tail_len h1
      split at e
      · rename_i h4
        have := tail_len h4
        obtain ⟨z, hz, e⟩ := bnd e
        have h3 := h _ _ hz
        split at e
        · rename_i h6
          have := tail_len h6
          have h5 := h _ _ e
          simp only [Job.sz, Job.ts, size_call, Ex.sizes] at *; omega
        · cases e
      · cases e
    · cases hx; simp [Job.sz, Job.ts]; omega
  | args name acc ts =>
    change argsJ go name acc ts = some x at hx
    unfold argsJ at hx
    obtain ⟨y, hy, e⟩ := bnd hx
    have h2 := h _ _ hy
    split at e
    · rename_i h1
      have := tail_len h1
      have h3 := h _ _ e
      simp only [Job.sz, Job.ts, Ex.sizes_append, Ex.sizes] at *; omega
    · split at e
      · rename_i h1
        have := tail_len h1
        cases e
        simp only [Job.sz, Job.ts, size_call, Ex.sizes_append, Ex.sizes] at *; omega
      · cases e
theorem runF_sz : ∀ f, SzOk (runF f)
  | 0 => fun j x h => by cases h
  | f + 1 => stepJ_sz (runF_sz f)
/-- a tree has at most as many nodes as tokens were read -/
theorem runJ_sz {j : Job} {x : Ex × List Tk} (h : runJ j = some x) : x.1.size + x.2.length ≤ j.ts.length + j.sz := runF_sz _ j x h

end Go.Proofs.Ytpabngicbfcdkaa
