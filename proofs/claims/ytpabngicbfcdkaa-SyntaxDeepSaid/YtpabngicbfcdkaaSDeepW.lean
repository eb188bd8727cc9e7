/-
  The walk of SyntaxDeep.
-/
import Derived.Test.YtpabngicbfcdkaaFmW
import Derived.Test.YtpabngicbfcdkaaSizeX
import Derived.Test.YtpabngicbfcdkaaAwk
import Derived.Lib.SmallJoins
namespace Go.Proofs.Ytpabngicbfcdkaa
open Go.RowKit
set_option linter.unusedVariables false
set_option linter.unusedSimpArgs false

/-- Parse of a formatted text -/
theorem parse_fm {t : Ex} (h : Well t) (hl : (txI (wI t)).length ≤ 4096) : parseP (bs (txI (wI t))) = if 64 < t.depth then (9, eE) else (0, t) := by
  unfold parseP
  rw [if_neg (by rw [fm_size h]; omega), ns_fm h, toks_fm h]
  simp only [run_toks_fm h]

def negK : Nat → Ex
  | 0 => .mk 1 (bs []) ((1 : Nat) : Int) []
  | k + 1 => callE wNot [negK k]
def appK : Nat → Ex
  | 0 => .mk 1 (bs []) ((1 : Nat) : Int) []
  | k + 1 => callE [102] [appK k]
theorem one_w : Well (.mk 1 (bs []) ((1 : Nat) : Int) []) := ⟨rfl, trivial⟩
theorem negK_w : ∀ k, Well (negK k) ∧ 3 ≤ own (negK k) ∧ (negK k).depth = k + 1 ∧ (negK k).size = k + 1 ∧ txI (wI (negK k)) = (List.replicate k [110, 111, 116, 32]).flatten ++ [49]
  | 0 => ⟨one_w, by decide, rfl, rfl, rfl⟩
  | k + 1 => by
    obtain ⟨h1, h2, h3, h4, h5⟩ := negK_w k
    refine ⟨⟨?_, h1, trivial⟩, by rw [show own (negK (k + 1)) = 3 from (own_neg _).1]; omega, ?_, ?_, ?_⟩
    · have e : ns (bs wNot) = wNot := ns_bs' (by decide)
      show wellN (.mk 4 (bs wNot) 0 [negK k]) = true
      simp only [wellN, Ex.kind, Ex.text, Ex.num, Ex.args, e]
      rfl
    · simp only [negK, callE, Ex.depth, Ex.depths, h3]; omega
    · simp only [negK, callE, Ex.size, Ex.sizes, h4]; omega
    · show txI (wI (callE wNot [negK k])) = _
      rw [(own_neg _).2]
      unfold br
      rw [if_neg (by simp; omega), txI_app, h5, List.replicate_succ, List.flatten_cons]
      rfl
theorem appK_w : ∀ k, Well (appK k) ∧ (appK k).depth = k + 1 ∧ (appK k).size = k + 1 ∧ txI (wI (appK k)) = (List.replicate k [102, 40]).flatten ++ [49] ++ List.replicate k 41
  | 0 => ⟨one_w, rfl, rfl, rfl⟩
  | k + 1 => by
    obtain ⟨h1, h3, h4, h5⟩ := appK_w k
    have hn : isNm [102] = true := by decide
    refine ⟨⟨?_, h1, trivial⟩, ?_, ?_, ?_⟩
    · have e : ns (bs [102]) = [102] := ns_bs' (by decide)
      show wellN (.mk 4 (bs [102]) 0 [appK k]) = true
      simp only [wellN, Ex.kind, Ex.text, Ex.num, Ex.args, e]
      rfl
    · simp only [appK, callE, Ex.depth, Ex.depths, h3]; omega
    · simp only [appK, callE, Ex.size, Ex.sizes, h4]; omega
    · show txI (wI (callE [102] [appK k])) = _
      rw [(own_app hn (fun h => absurd h.1 (by decide))).2, txI_app, txI_app]
      simp only [wIs, joinI]
      rw [h5, List.replicate_succ, List.flatten_cons]
      have e : List.replicate (k + 1) 41 = List.replicate k 41 ++ [41] := List.replicate_succ'
      rw [e]
      simp only [List.append_assoc]
      rfl

/-- blanks, a digit, blanks -/
theorem toks_blanks : ∀ (m : Nat) (acc : List Tk) (i : Nat) (r : List Nat), toksGo acc i (List.replicate m 32 ++ r) = toksGo acc (i + m) r
  | 0, acc, i, r => by simp
  | m + 1, acc, i, r => by
    rw [List.replicate_succ, List.cons_append, toks_blank _ _ _ rfl, toks_blanks m]
    congr 1; omega
theorem wide_toks (a b : Nat) : toksP (List.replicate a 32 ++ 55 :: List.replicate b 32) = some [((1, [], 7), a)] := by
  unfold toksP
  rw [toks_blanks, Nat.zero_add]
  have hn : nextP (55 :: List.replicate b 32) = some ((1, [], 7), 1) := by
    have h := next_tb (t := (1, [], 7)) (r := List.replicate b 32) (.inl ⟨rfl, rfl, by decide⟩) (.inr (fun c hc => by
      cases b with
      | zero => cases hc
      | succ b => rw [List.replicate_succ] at hc; simp at hc; subst hc; rfl))
    exact h
  rw [toks_some _ _ rfl hn]
  simp only [List.drop_succ_cons, List.drop_zero, List.nil_append]
  have := toks_blanks b [((1, [], 7), a)] (a + 1) []
  rw [List.append_nil] at this
  rw [this, toks_nil]
theorem wide_parse {s : ByteArray} {a b : Nat} (h : ns s = List.replicate a 32 ++ 55 :: List.replicate b 32) (hs : s.size = a + 1 + b) : parseP s = if 4096 < s.size then (9, eE) else (0, .mk 1 (bs []) ((7 : Nat) : Int) []) := by
  unfold parseP
  split
  · rfl
  · rw [h, wide_toks]
    simp only
    have : runJ (.lev 1 [((1, [], 7), a)]) = some (.mk 1 (bs []) ((7 : Nat) : Int) [], []) := by
      have hw : Well (.mk 1 (bs []) ((7 : Nat) : Int) []) := ⟨rfl, trivial⟩
      exact run_fm hw (ts := [((1, [], 7), a)]) rfl
    simp only [this]
    rw [if_neg (by simp [Ex.depth, Ex.depths])]
theorem ns_append (a b : ByteArray) : ns (a ++ b) = ns a ++ ns b := by
  unfold ns; rw [Go.Joins.data_append, List.map_append]
theorem size_append' (a b : ByteArray) : (a ++ b).size = a.size + b.size := by
  rw [← ns_len, ← ns_len, ← ns_len, ns_append, List.length_append]
theorem eq_bs {s : ByteArray} {l : List Nat} (h : ns s = l) : s = bs l := by rw [← h, bs_ns]

/-- a tree that is parsed is small -/
theorem parseP_sz (s : ByteArray) : (parseP s).2.size ≤ 5000 := by
  unfold parseP
  split
  · simp [eE, Ex.size, Ex.sizes]
  · rename_i hs
    cases ht : toksP (ns s) with
    | none => simp [eE, Ex.size, Ex.sizes]
    | some ts =>
      simp only
      have hl := toks_len _ [] 0 (ns s) ts (Nat.le_refl _) ht
      rw [ns_len] at hl; simp at hl
      split
      · rename_i t hr
        have := runJ_sz hr
        simp only [Job.ts, Job.sz] at this
        split
        · simp [eE, Ex.size, Ex.sizes]
        · simp; omega
      · simp [eE, Ex.size, Ex.sizes]

theorem is_errN (k : Nat) (w : World) : Calls Try.prog 15 #[errN k, .int .i64 9] w fun e w' => e = .returned (.bool (decide (k = 9))) ∧ w = w' := by
  by_cases h : k = 9
  · subst h; exact is_errno 9 (by decide) w
  · have HN := Lib.hid (num_errN k w)
    have b1 : ((k : Int) == 9) = false := by rw [beq_eq_false_iff_ne]; omega
    have HE : Hid (decide (k = 9) = false) := Lib.hid (decide_eq_false h)
    obtain ⟨v, hv⟩ : ∃ v, v = errN k := ⟨_, rfl⟩
    rw [← hv] at HN ⊢
    clear h hv
    go_enter Try.func15, Try.ntmps15
    go_wp2_with (refine HN.out.mono ?_; rintro e w' ⟨rfl, rfl⟩)
    go_ret
    exact ⟨by rw [HE.out]; rfl, rfl⟩

end Go.Proofs.Ytpabngicbfcdkaa
