/-
  Joined texts: Brackets of a formatted text belong together: the place of the bracket that closes one. · The tokens of a formatted text, as they lie in memory; pieces of the text; name and closing of the laws. · SyntaxBlanks: the walk. · a list of nodes as an argument. · a list of nodes as an argument: its texts are no longer than its bulk. · SyntaxBlanks, for every input of bulk at most 1048576: the frame round its walk: what the arguments are read as, the call, what is read behind it; the tied card. The condition: the listed package variables hold what the program lays (the card ties this to the program's text).
-/
import Derived.Test.YtpabngicbfcdkaaDoorFo8
import Derived.Test.YtpabngicbfcdkaaDoorFo10
import Derived.Test.YtpabngicbfcdkaaDoorFo11
import Derived.ProofKit
import Derived.OpenShut
import Derived.ShutString
import Derived.ChangeOld
import Derived.Below
import Derived.SizedLaws
import Derived.JoinedCond

/- Brackets of a formatted text belong together: the place of the bracket that closes one. -/
namespace Go.Proofs.YtpabngicbfcdkaaDoor
open Go.RowKit
set_option linter.unusedVariables false
set_option linter.unusedSimpArgs false

def vlB (x : TkK) : Int := if x = (5, [40], 0) then 1 else if x = (5, [41], 0) then -1 else 0
def smB : List TkK → Int
  | [] => 0
  | x :: r => vlB x + smB r
theorem smB_app : ∀ a b : List TkK, smB (a ++ b) = smB a + smB b
  | [], b => by simp [smB]
  | x :: r, b => by simp only [List.cons_append, smB, smB_app r b]; omega
structure Bal (l : List TkK) : Prop where
  tot : smB l = 0
  pre : ∀ n, 0 ≤ smB (l.take n)
theorem Bal.nil : Bal [] := ⟨rfl, fun n => by simp [smB]⟩
theorem Bal.app {a b : List TkK} (ha : Bal a) (hb : Bal b) : Bal (a ++ b) :=
  ⟨by rw [smB_app, ha.tot, hb.tot]; rfl, fun n => by
    rw [List.take_append, smB_app]
    have := ha.pre n
    have := hb.pre (n - a.length)
    omega⟩
theorem Bal.one {x : TkK} (h : vlB x = 0) : Bal [x] := ⟨by simp [smB, h], fun n => by cases n <;> simp [smB, h]⟩
theorem Bal.wrap {a : List TkK} (ha : Bal a) : Bal ((5, [40], 0) :: (a ++ [(5, [41], 0)])) := by
  have v1 : vlB (5, [40], 0) = 1 := rfl
  have v2 : vlB (5, [41], 0) = -1 := rfl
  refine ⟨?_, fun n => ?_⟩
  · simp only [smB, smB_app, ha.tot, v1, v2]; rfl
  · cases n with
    | zero => simp [smB]
    | succ n =>
      rw [List.take_succ_cons, List.take_append]
      simp only [smB, smB_app, v1]
      have := ha.pre n
      have h2 : -1 ≤ smB (List.take (n - a.length) [((5, [41], 0) : TkK)]) := by
        cases n - a.length with
        | zero => simp [smB]
        | succ m => simp [smB, v2]
      omega
theorem vl_op {v : Nat} {l : List Nat} (hv : 1 ≤ v ∧ v ≤ 7 ∧ v ≠ 3) (hl : l ∈ lvlO v) : vlB (lvlK v, l, 0) = 0 := by
  have : ∀ v : Fin 8, ∀ l ∈ lvlO v.1, v.1 ≠ 0 → v.1 ≠ 3 → vlB (lvlK v.1, l, 0) = 0 := by decide
  exact this ⟨v, by omega⟩ l hl (by simp only; omega) (by simp only; omega)
theorem vl_k {k : Nat} {l : List Nat} {n : Nat} (h : k ≠ 5) : vlB (k, l, n) = 0 := by
  unfold vlB
  rw [if_neg (fun e => h (congrArg Prod.fst e)), if_neg (fun e => h (congrArg Prod.fst e))]
theorem Bal.brI {lv : Nat} {u : Ex} (h : Bal (tkI (wI u))) : Bal (tkI (br lv (own u, wI u))) := by
  unfold br
  split
  · show Bal ((5, [40], 0) :: tkI (wI u ++ [sgT [41]]))
    rw [tkI_app]
    exact h.wrap
  · exact h
theorem Bal.join : ∀ us : List Ex, (∀ u ∈ us, Bal (tkI (wI u))) → Bal (tkI (joinI (wIs us)))
  | [], _ => .nil
  | [u], h => h u (by simp)
  | u :: v :: us, h => by
    have ih := Bal.join (v :: us) (fun w hw => h w (List.mem_cons_of_mem _ hw))
    show Bal (tkI (wI u ++ [sgT [44], none] ++ joinI (wIs (v :: us))))
    rw [tkI_app, tkI_app]
    have e1 : Bal (tkI [sgT [44], none]) := .one (x := (5, [44], 0)) (by decide)
    exact ((h u (by simp)).app e1).app ih
theorem bal_w : ∀ (m : Nat) (t : Ex), t.size ≤ m → Well t → Bal (tkI (wI t))
  | 0, t, h, _ => absurd t.size_pos (by omega)
  | m + 1, t, hm, hw => by
    have ih : ∀ u ∈ t.args, Bal (tkI (wI u)) := fun u hu => bal_w m u (by have := kid_lt hu; omega) (hw.kid hu)
    rcases look hw with ⟨n, rfl, hn⟩ | ⟨l, rfl, h8⟩ | ⟨l, rfl, h8, hl⟩ | ⟨v, l, a, b, rfl, hv, hl⟩ | ⟨a, rfl⟩ | ⟨a, b, c, rfl⟩ | ⟨l, us, rfl, hn, hl⟩
    · show Bal (tkI (comb 1 (ns (bs [])) (n : Int) []))
      unfold comb
      rw [if_pos rfl]
      exact .one (vl_k (by decide))
    · show Bal (tkI (comb 2 (ns (bs l)) 0 []))
      unfold comb
      rw [if_neg (by decide), if_pos rfl]
      exact .one (vl_k (by decide))
    · show Bal (tkI (comb 3 (ns (bs l)) 0 []))
      unfold comb
      rw [if_neg (by decide), if_neg (by decide), if_pos rfl]
      exact .one (vl_k (by decide))
    · rw [(own_bin hv hl).2, tkI_app, tkI_app]
      have ha := ih a (by simp [callE, Ex.args])
      have hb := ih b (by simp [callE, Ex.args])
      have e1 : Bal (tkI [none, some (lvlK v, l, 0), none]) := .one (x := (lvlK v, l, 0)) (vl_op hv hl)
      exact (ha.brI.app e1).app hb.brI
    · rw [(own_neg a).2, tkI_app]
      have ha := ih a (by simp [callE, Ex.args])
      have e1 : Bal (tkI [some (4, wNot, 0), none]) := .one (x := (4, wNot, 0)) (vl_k (by decide))
      exact e1.app ha.brI
    · rw [(own_cut a b c).2]
      simp only [tkI_app]
      have ha := ih a (by simp [callE, Ex.args])
      have hb := ih b (by simp [callE, Ex.args])
      have hc := ih c (by simp [callE, Ex.args])
      have e1 : Bal (tkI [sgT [91]]) := .one (x := (5, [91], 0)) (by decide)
      have e2 : Bal (tkI [sgT [58]]) := .one (x := (5, [58], 0)) (by decide)
      have e3 : Bal (tkI [sgT [93]]) := .one (x := (5, [93], 0)) (by decide)
      exact ((((ha.brI.app e1).app hb).app e2).app hc).app e3
    · rw [(own_app hn hl).2]
      have hj := Bal.join us (fun u hu => ih u (by simpa [callE, Ex.args] using hu))
      have : tkI ([some (4, l, 0), sgT [40]] ++ joinI (wIs us) ++ [sgT [41]]) = [(4, l, 0)] ++ ((5, [40], 0) :: (tkI (joinI (wIs us)) ++ [(5, [41], 0)])) := by
        rw [tkI_app, tkI_app]; rfl
      rw [this]
      exact (Bal.one (vl_k (by decide))).app hj.wrap

/-- the place of the bracket that closes, o brackets being open -/
def clP : List TkK → Nat → Nat → Option Nat
  | [], _, _ => none
  | x :: r, j, o => if x = (5, [40], 0) then clP r (j + 1) (o + 1) else if x = (5, [41], 0) then (if o = 1 then some j else clP r (j + 1) (o - 1)) else clP r (j + 1) o
theorem clP_some : ∀ (r : List TkK) (j o : Nat), 1 ≤ o → (o : Int) + smB r ≤ 0 → ∃ k, clP r j o = some (j + k) ∧ r[k]? = some (5, [41], 0)
  | [], j, o, h1, h => by simp only [smB] at h; omega
  | x :: r, j, o, h1, h => by
    simp only [smB] at h
    unfold clP
    by_cases e1 : x = (5, [40], 0)
    · rw [if_pos e1]
      have hv : vlB x = 1 := by unfold vlB; rw [if_pos e1]
      obtain ⟨k, g1, g2⟩ := clP_some r (j + 1) (o + 1) (by omega) (by omega)
      exact ⟨k + 1, by rw [g1]; congr 1; omega, by simpa using g2⟩
    · rw [if_neg e1]
      by_cases e2 : x = (5, [41], 0)
      · rw [if_pos e2]
        have hv : vlB x = -1 := by unfold vlB; rw [if_neg e1, if_pos e2]
        by_cases e3 : o = 1
        · exact ⟨0, by rw [if_pos e3]; rfl, by rw [e2]; rfl⟩
        · rw [if_neg e3]
          obtain ⟨k, g1, g2⟩ := clP_some r (j + 1) (o - 1) (by omega) (by omega)
          exact ⟨k + 1, by rw [g1]; congr 1; omega, by simpa using g2⟩
      · rw [if_neg e2]
        have hv : vlB x = 0 := by unfold vlB; rw [if_neg e1, if_neg e2]
        obtain ⟨k, g1, g2⟩ := clP_some r (j + 1) o h1 (by omega)
        exact ⟨k + 1, by rw [g1]; congr 1; omega, by simpa using g2⟩
/-- a bracket of a formatted text is closed behind it -/
theorem clP_w {t : Ex} (hw : Well t) {i : Nat} (hi : (tkI (wI t))[i]? = some (5, [40], 0)) : ∃ k, clP ((tkI (wI t)).drop i) i 0 = some k ∧ i < k ∧ (tkI (wI t))[k]? = some (5, [41], 0) := by
  have hb := bal_w t.size t (Nat.le_refl _) hw
  obtain ⟨L, hL⟩ : ∃ L, L = tkI (wI t) := ⟨_, rfl⟩
  rw [← hL] at hb hi ⊢
  have hlt : i < L.length := (List.getElem?_eq_some_iff.1 hi).1
  have hx : L[i] = (5, [40], 0) := (List.getElem?_eq_some_iff.1 hi).2
  have hd : L.drop i = (5, [40], 0) :: L.drop (i + 1) := by rw [List.drop_eq_getElem_cons hlt, hx]
  have hs : smB (L.take i) + (1 + smB (L.drop (i + 1))) = 0 := by
    have h := hb.tot
    rw [← List.take_append_drop i L, smB_app, hd] at h
    exact h
  have hp := hb.pre i
  rw [hd]
  unfold clP
  rw [if_pos rfl]
  obtain ⟨k, g1, g2⟩ := clP_some (L.drop (i + 1)) (i + 1) (0 + 1) (by omega) (by omega)
  exact ⟨i + 1 + k, g1, by omega, by rw [List.getElem?_drop] at g2; exact g2⟩

end Go.Proofs.YtpabngicbfcdkaaDoor

/- The tokens of a formatted text, as they lie in memory; pieces of the text; name and closing of the laws. -/
namespace Go.Proofs.YtpabngicbfcdkaaDoor
open Go.RowKit
set_option linter.unusedVariables false
set_option linter.unusedSimpArgs false

theorem cellsT_at : ∀ (ts : List Tk) (i : Nat) (t : Tk), ts[i]? = some t → (cellsT ts)[i * 4]? = some (.int .i64 (t.1.1 : Nat)) ∧ (cellsT ts)[i * 4 + 1]? = some (.string (bs t.1.2.1)) ∧ (cellsT ts)[i * 4 + 2]? = some (.int .i64 (t.1.2.2 : Nat)) ∧ (cellsT ts)[i * 4 + 3]? = some (.int .i64 (t.2 : Nat))
  | [], i, t, h => by cases h
  | x :: r, 0, t, h => by simp at h; subst h; exact ⟨rfl, rfl, rfl, rfl⟩
  | x :: r, i + 1, t, h => by
    have := cellsT_at r i t (by simpa using h)
    have e : cellsT (x :: r) = [.int .i64 (x.1.1 : Nat), .string (bs x.1.2.1), .int .i64 (x.1.2.2 : Nat), .int .i64 (x.2 : Nat)] ++ cellsT r := rfl
    have g : ∀ k, (cellsT (x :: r))[(i + 1) * 4 + k]? = (cellsT r)[i * 4 + k]? := fun k => by
      rw [e, List.getElem?_append_right (by simp; omega)]
      congr 1; simp; omega
    obtain ⟨t0, t1, t2, t3⟩ := this
    have g0 := g 0
    simp only [Nat.add_zero] at g0
    exact ⟨by rw [g0]; exact t0, by rw [g 1]; exact t1, by rw [g 2]; exact t2, by rw [g 3]; exact t3⟩
theorem row_tok {w : World} {B e a c : Nat} {ad : Option Addr} {ts : List Tk} (h : Row w B e 4 (.slice ad ts.length c) ts.length (cellsT ts)) {i : Nat} {t : Tk} (ht : ts[i]? = some t) :
    ∃ b, ad = some ⟨b, 0, none⟩ ∧ B ≤ b ∧ w.cell? ⟨b, i * 4, none⟩ = some (.int .i64 (t.1.1 : Nat)) ∧ w.cell? ⟨b, i * 4 + 1, none⟩ = some (.string (bs t.1.2.1)) ∧ w.cell? ⟨b, i * 4 + 2, none⟩ = some (.int .i64 (t.1.2.2 : Nat)) ∧ w.cell? ⟨b, i * 4 + 3, none⟩ = some (.int .i64 (t.2 : Nat)) := by
  obtain ⟨g0, g1, g2, g3⟩ := cellsT_at ts i t ht
  have hi := (List.getElem?_eq_some_iff.1 ht).1
  rcases h.2 with ⟨hv, hn⟩ | ⟨g, cap, cur, hv, hb, _⟩
  · omega
  · cases hv
    have hl := h.1
    refine ⟨g, rfl, hb, ?_, ?_, ?_, ?_⟩
    · rw [World.ownsRow.cellAt h _ (by omega)]; exact g0
    · rw [World.ownsRow.cellAt h _ (by omega)]; exact g1
    · rw [World.ownsRow.cellAt h _ (by omega)]; exact g2
    · rw [World.ownsRow.cellAt h _ (by omega)]; exact g3
/-- tokens as they lie in a block -/
structure TKs (w : World) (b : Nat) (ts : List Tk) : Prop where
  at_ : ∀ (i : Nat) (t : Tk), ts[i]? = some t → w.cell? ⟨b, i * 4, none⟩ = some (.int .i64 (t.1.1 : Nat)) ∧ w.cell? ⟨b, i * 4 + 1, none⟩ = some (.string (bs t.1.2.1)) ∧ w.cell? ⟨b, i * 4 + 2, none⟩ = some (.int .i64 (t.1.2.2 : Nat)) ∧ w.cell? ⟨b, i * 4 + 3, none⟩ = some (.int .i64 (t.2 : Nat))
theorem TKs.below {w w' b ts} (h : TKs w b ts) (hb : Below w.heap.size w w') : TKs w' b ts :=
  ⟨fun i t ht => by
    obtain ⟨h0, h1, h2, h3⟩ := h.at_ i t ht
    exact ⟨below_cell hb h0, below_cell hb h1, below_cell hb h2, below_cell hb h3⟩⟩
/-- Tokens, of a formatted text -/
theorem toks_of {t : Ex} (hw : Well t) (hl : (txI (wI t)).length ≤ 4096) (S : ByteArray) (hS : S = bs (txI (wI t))) (w : World) : Calls Tryd.prog 17 #[.string S] w fun e w' => ∃ b c, e = .returned (.tuple #[.slice (some ⟨b, 0, none⟩) (atI 0 (wI t)).length c, .nilIface]) ∧ TKs w' b (atI 0 (wI t)) ∧ Below w.heap.size w w' := by
  have hs : S.size ≤ 4096 := by rw [hS, fm_size hw]; exact hl
  refine (tokens_any S w (by omega)).mono ?_
  rintro e w' ⟨h, hb⟩
  have ht : toksP (ns S) = some (atI 0 (wI t)) := by rw [hS, ns_fm hw]; exact toks_fm hw
  rcases h with ⟨h, -⟩ | ⟨-, h, -⟩ | ⟨-, ts, a, c, h, -, rfl, hr⟩
  · omega
  · rw [ht] at h; cases h
  · rw [ht] at h
    cases h
    obtain ⟨x, r, e0⟩ := wI_head hw
    have h0 : (atI 0 (wI t))[0]? = some (x, 0) := by rw [e0]; rfl
    obtain ⟨b, rfl, -, -⟩ := row_tok (a := 0) hr h0
    refine ⟨b, c, rfl, ⟨fun i y hy => ?_⟩, hb⟩
    obtain ⟨b', hb', -, h1, h2, h3, h4⟩ := row_tok (a := 0) hr hy
    cases hb'
    exact ⟨h1, h2, h3, h4⟩

/-- where a token stands -/
theorem atI_bd : ∀ (l : List It) (o : Nat) (y : Tk), y ∈ atI o l → o ≤ y.2 ∧ y.2 + (tb y.1).length ≤ o + (txI l).length
  | [], o, y, h => by cases h
  | none :: r, o, y, h => by
    have := atI_bd r (o + 1) y h
    have e : txI (none :: r) = 32 :: txI r := rfl
    rw [e, List.length_cons]; omega
  | some t :: r, o, y, h => by
    have e : txI (some t :: r) = tb t ++ txI r := rfl
    rw [e, List.length_append]
    rcases List.mem_cons.1 h with rfl | h
    · simp only; omega
    · have := atI_bd r (o + (tb t).length) y h
      omega
theorem at_mono {l : List It} {i : Nat} {x y : Tk} (hi : (atI 0 l)[i]? = some x) (hj : (atI 0 l)[i + 1]? = some y) : x.2 ≤ y.2 := by
  obtain ⟨A, R, h1, h2, h3, h4⟩ := at_split _ _ _ _ hi
  rw [h4, List.getElem?_append_right (by omega), h3, show i + 1 - i = 0 + 1 by omega, List.getElem?_cons_succ] at hj
  have := (atI_bd _ _ _ (List.mem_of_getElem? hj)).1
  omega

/-- the end of a token's piece of the text -/
def pend (T : List Nat) (ts : List Tk) (j : Nat) : Nat := match ts[j + 1]? with
  | some y => y.2
  | none => T.length
def pce (k : Nat) (T : List Nat) (ts : List Tk) (j : Nat) : List Nat := match ts[j]? with
  | some x => (T.drop x.2).take (pend T ts j - x.2) ++ blX (j + k)
  | none => []
def pcu (k : Nat) (T : List Nat) (ts : List Tk) : Nat → List Nat
  | 0 => []
  | i + 1 => pcu k T ts i ++ pce k T ts i
theorem pcs_pcu (k : Nat) (T : List Nat) (ts : List Tk) : ∀ (d j : Nat), j + d = ts.length → pcu k T ts j ++ pcs k T j (ts.drop j) = pcu k T ts ts.length
  | 0, j, h => by
    have : ts.drop j = [] := List.drop_eq_nil_of_le (by omega)
    rw [this]; simp only [pcs, List.append_nil]; rw [show j = ts.length by omega]
  | d + 1, j, h => by
    have hj : j < ts.length := by omega
    have ih := pcs_pcu k T ts d (j + 1) (by omega)
    have e1 : ts[j]? = some ts[j] := List.getElem?_eq_getElem hj
    have ed : ts.drop j = ts[j] :: ts.drop (j + 1) := List.drop_eq_getElem_cons hj
    rw [← ih]
    simp only [pcu, List.append_assoc]
    congr 1
    have e2 : pce k T ts j = (T.drop ts[j].2).take (pend T ts j - ts[j].2) ++ blX (j + k) := by unfold pce; rw [e1]
    rw [e2, ed]
    by_cases hn : j + 1 < ts.length
    · have e3 : ts[j + 1]? = some ts[j + 1] := List.getElem?_eq_getElem hn
      have e4 : ts.drop (j + 1) = ts[j + 1] :: ts.drop (j + 1 + 1) := List.drop_eq_getElem_cons hn
      have e5 : pend T ts j = ts[j + 1].2 := by unfold pend; rw [e3]
      rw [e5, e4]
      simp only [pcs, List.append_assoc]
    · have e3 : ts[j + 1]? = none := List.getElem?_eq_none (by omega)
      have e4 : ts.drop (j + 1) = [] := List.drop_eq_nil_of_le (by omega)
      have e5 : pend T ts j = T.length := by unfold pend; rw [e3]
      rw [e5, e4]
      simp only [pcs, List.append_nil]
      rw [List.take_of_length_le (by simp)]
theorem pcs_all' (k : Nat) (T : List Nat) (ts : List Tk) : pcs k T 0 ts = pcu k T ts ts.length := by
  have := pcs_pcu k T ts ts.length 0 (by omega)
  simpa [pcu] using this
theorem pcu_8 {k : Nat} {T : List Nat} (ts : List Tk) (hT : ∀ c ∈ T, c < 256) : ∀ i, ∀ c ∈ pcu k T ts i, c < 256
  | 0, c, h => by cases h
  | i + 1, c, h => by
    rcases List.mem_append.1 h with h | h
    · exact pcu_8 ts hT i c h
    · unfold pce at h
      split at h
      · rcases List.mem_append.1 h with h | h
        · exact hT c (List.mem_of_mem_drop (List.mem_of_mem_take h))
        · exact ((blX_ok _).2.2 c h).2.2
      · cases h
theorem pcu_len {k : Nat} {T : List Nat} (ts : List Tk) : ∀ i, (pcu k T ts i).length ≤ i * (T.length + 2)
  | 0 => by simp [pcu]
  | i + 1 => by
    have ih := pcu_len (k := k) (T := T) ts i
    have : (pce k T ts i).length ≤ T.length + 2 := by
      unfold pce
      split
      · have := (blX_ok (i + k)).2.1
        simp only [List.length_append, List.length_take, List.length_drop]; omega
      · simp
    simp only [pcu, List.length_append]
    have e : (i + 1) * (T.length + 2) = i * (T.length + 2) + (T.length + 2) := Nat.succ_mul ..
    omega
theorem atI_len : ∀ (l : List It) (o : Nat), (∀ t, some t ∈ l → tb t ≠ []) → (atI o l).length ≤ (txI l).length
  | [], _, _ => Nat.le_refl _
  | none :: r, o, h => by
    have := atI_len r (o + 1) (fun t ht => h t (List.mem_cons_of_mem _ ht))
    have e : txI (none :: r) = 32 :: txI r := rfl
    rw [e, List.length_cons]
    show (atI (o + 1) r).length ≤ _
    omega
  | some t :: r, o, h => by
    have := atI_len r (o + (tb t).length) (fun t ht => h t (List.mem_cons_of_mem _ ht))
    have e : txI (some t :: r) = tb t ++ txI r := rfl
    have h1 := List.length_pos_iff.2 (h t (List.mem_cons_self ..))
    rw [e, List.length_append]
    show ((t, o) :: atI (o + (tb t).length) r).length ≤ _
    rw [List.length_cons]; omega
theorem ntoks {t : Ex} (hw : Well t) : (atI 0 (wI t)).length ≤ (txI (wI t)).length :=
  atI_len _ _ (fun x hx => (tb_pos (OkI_gd (OkI_w t.size t (Nat.le_refl _) hw) x hx)).1)

end Go.Proofs.YtpabngicbfcdkaaDoor

/- SyntaxBlanks: the walk. -/
namespace Go.Proofs.YtpabngicbfcdkaaDoor
open Go.RowKit
set_option linter.unusedVariables false
set_option linter.unusedSimpArgs false

set_option maxRecDepth 100000 in
set_option maxHeartbeats 4000000 in
theorem walk_SyntaxBlanks (a0 : Option Addr) (len0 cap0 : Nat) (l0 : List Nd) (k0 : Int) (W : World) (h0 : RdN W (fun b => b < W.heap.size) a0 len0 l0) (s0 : ∀ x ∈ l0, x.2.1.size ≤ 1048576) (wk : (Lit.int .u8 k0).wf = true) (ht : TAB W.heap.size W) :
    Calls Tryd.prog 7 #[.slice a0 len0 cap0, .int .u8 k0] W fun e W' => e = .returned (.bool true) ∧ Below W.heap.size W W' := by
  obtain ⟨k, rfl, hk9⟩ : ∃ k : Nat, k0 = (k : Int) ∧ k ≤ 255 := by
    simp [Lit.wf, IntKind.min, IntKind.max, IntKind.signed, IntKind.bits] at wk
    exact ⟨k0.toNat, by omega, by omega⟩
  have hk9i : (k : Int) ≤ 255 := by omega
  have HK9 := Lib.hid hk9
  have HT := Lib.hid (Tree_box a0 len0 cap0 l0 W h0 s0)
  have HTAB := Lib.hid ht
  have HAW := Lib.hid (fun (w : World) => awake_any w)
  clear h0 s0 ht wk hk9
  go_enter Tryd.func7, Tryd.ntmps7
  go_upto_region 2 with (go_at_call 8; refine HT.out.mono ?_; rintro e w1 ⟨t, k1, m1, x1, n1, a1, c1, ok, rfl, htb⟩)
  obtain ⟨w2, hw2⟩ : ∃ w2, w2 = w1.alloc (.cells #[.int .i64 k1, .string x1, .int .i64 m1, .slice a1 n1 c1] 25) := ⟨_, rfl⟩
  obtain ⟨be, hbe⟩ : ∃ be, be = w1.heap.size := ⟨_, rfl⟩
  have HTB := Lib.hid (htb w2 be hw2 hbe)
  rw [← hw2, ← hbe]
  clear hw2 hbe htb
  obtain ⟨y0, y1, y2, y3⟩ := HTB.out.cl (Below.refl _ _)
  cases ok with
  | false =>
    go_wp2_with (go_at_call 11; refine (HAW.out _).mono ?_; rintro e w3 ⟨rfl, hb3⟩; have HB3 : Hid (Below w2.heap.size w2 w3) := Lib.hid (hb3); clear hb3; clear y0 y1 y2 y3; obtain ⟨y0, y1, y2, y3⟩ := HTB.out.cl HB3.out)
    refine bodyPost_ret (v := .bool true) (by simp [results, Tryd.results7, go_sem]; try rfl) rfl ?_
    exact ⟨rfl, bthen HTB.out.bw HB3.out⟩
  | true =>
    obtain ⟨hsz, hwt⟩ := HTB.out.sz rfl
    have HSZ := Lib.hid hsz
    have HF : Hid (∀ wx, Below w2.heap.size w2 wx → Calls Tryd.prog 9 #[.agg #[.int .i64 k1, .string x1, .int .i64 m1, .slice a1 n1 c1]] wx fun e w' => e = .returned (.tuple #[.string (bs (fmtP t).2), errN (fmtP t).1]) ∧ Below wx.heap.size wx w') := Lib.hid (fun wx hb => (HTB.out.tv.below hb).fmt (by omega) (HTB.out.tab HTAB.out hb))
    rcases fmtP_cases t with ⟨hnw, hf⟩ | ⟨hw, hf⟩ | ⟨hw, hd, hl, hf⟩
    · rw [hf, show bs (4, ([] : List Nat)).2 = ⟨#[]⟩ from rfl, show errN (4, ([] : List Nat)).1 = .iface 39 (.int .i64 4) from rfl] at HF
      have hne : ∀ w, (binOp .neq 29 (.iface 39 (.int .i64 4)) .nilIface).run Tryd.prog w = .ok (.bool true) w := fun w => by kernel_rfl
      clear hf hnw hsz hwt
      go_wp2_with (first
        | (go_at_call 9; refine (HF.out _ HB3.out).mono ?_; rintro e w4 ⟨rfl, hb4⟩; have HB4 : Hid (Below w2.heap.size w2 w4) := Lib.hid (bthen HB3.out hb4); clear hb4; clear y0 y1 y2 y3; obtain ⟨y0, y1, y2, y3⟩ := HTB.out.cl HB4.out)
        | (go_at_call 11; refine (HAW.out _).mono ?_; rintro e w3 ⟨rfl, hb3⟩; have HB3 : Hid (Below w2.heap.size w2 w3) := Lib.hid (hb3); clear hb3; clear y0 y1 y2 y3; obtain ⟨y0, y1, y2, y3⟩ := HTB.out.cl HB3.out))
      refine bodyPost_ret (v := .bool true) (by simp [results, Tryd.results7, go_sem]; try rfl) rfl ?_
      exact ⟨rfl, bthen HTB.out.bw HB4.out⟩
    · rw [hf, show bs (9, ([] : List Nat)).2 = ⟨#[]⟩ from rfl, show errN (9, ([] : List Nat)).1 = .iface 39 (.int .i64 9) from rfl] at HF
      have hne : ∀ w, (binOp .neq 29 (.iface 39 (.int .i64 9)) .nilIface).run Tryd.prog w = .ok (.bool true) w := fun w => by kernel_rfl
      clear hf hw hsz hwt
      go_wp2_with (first
        | (go_at_call 9; refine (HF.out _ HB3.out).mono ?_; rintro e w4 ⟨rfl, hb4⟩; have HB4 : Hid (Below w2.heap.size w2 w4) := Lib.hid (bthen HB3.out hb4); clear hb4; clear y0 y1 y2 y3; obtain ⟨y0, y1, y2, y3⟩ := HTB.out.cl HB4.out)
        | (go_at_call 11; refine (HAW.out _).mono ?_; rintro e w3 ⟨rfl, hb3⟩; have HB3 : Hid (Below w2.heap.size w2 w3) := Lib.hid (hb3); clear hb3; clear y0 y1 y2 y3; obtain ⟨y0, y1, y2, y3⟩ := HTB.out.cl HB3.out))
      refine bodyPost_ret (v := .bool true) (by simp [results, Tryd.results7, go_sem]; try rfl) rfl ?_
      exact ⟨rfl, bthen HTB.out.bw HB4.out⟩
    · obtain ⟨T, hT⟩ : ∃ T, T = txI (wI t) := ⟨_, rfl⟩
      obtain ⟨S, hS⟩ : ∃ S, S = bs (txI (wI t)) := ⟨_, rfl⟩
      have hSz : S.size = T.length := by rw [hS, hT, fm_size hw]
      rw [hf, show errN (0, txI (wI t)).1 = .nilIface from rfl, show (0, txI (wI t)).2 = txI (wI t) from rfl, ← hS] at HF
      by_cases h8 : 800 < S.size
      · have h8i : (800 : Int) < (S.size : Int) := by omega
        clear hf hS hT hSz h8 hd hl hw hsz hwt
        go_wp2_with (first
          | (go_at_call 9; refine (HF.out _ HB3.out).mono ?_; rintro e w4 ⟨rfl, hb4⟩; have HB4 : Hid (Below w2.heap.size w2 w4) := Lib.hid (bthen HB3.out hb4); clear hb4; clear y0 y1 y2 y3; obtain ⟨y0, y1, y2, y3⟩ := HTB.out.cl HB4.out)
          | (go_at_call 11; refine (HAW.out _).mono ?_; rintro e w3 ⟨rfl, hb3⟩; have HB3 : Hid (Below w2.heap.size w2 w3) := Lib.hid (hb3); clear hb3; clear y0 y1 y2 y3; obtain ⟨y0, y1, y2, y3⟩ := HTB.out.cl HB3.out))
        refine bodyPost_ret (v := .bool true) (by simp [results, Tryd.results7, go_sem]; try rfl) rfl ?_
        exact ⟨rfl, bthen HTB.out.bw HB4.out⟩
      have h8i : decide ((800 : Int) < (S.size : Int)) = false := decide_eq_false (by omega)
      have h8m : (S.size : Int) ≤ 800 := by omega
      obtain ⟨ts, hts⟩ : ∃ ts, ts = atI 0 (wI t) := ⟨_, rfl⟩
      obtain ⟨N, hN⟩ : ∃ N, N = ts.length := ⟨_, rfl⟩
      have HTK : Hid (∀ w, Calls Tryd.prog 17 #[.string S] w fun e w' => ∃ b c, e = .returned (.tuple #[.slice (some ⟨b, 0, none⟩) N c, .nilIface]) ∧ TKs w' b ts ∧ Below w.heap.size w w') := Lib.hid (fun w => by rw [hN, hts]; exact toks_of hw hl S hS w)
      have hN9 : N ≤ 800 := by have := ntoks hw; rw [← hts, ← hT, ← hN] at this; omega
      have hN9i : (N : Int) ≤ 800 := by omega
      have HMON : Hid (∀ (i : Nat) (x y : Tk), ts[i]? = some x → ts[i + 1]? = some y → x.2 ≤ y.2) := Lib.hid (fun i x y h1 h2 => by rw [hts] at h1 h2; exact at_mono h1 h2)
      have HBD : Hid (∀ (i : Nat) (x : Tk), ts[i]? = some x → x.2 ≤ S.size ∧ goodT x.1) := Lib.hid (fun i x h => by
        rw [hts] at h
        refine ⟨by have := (atI_bd _ _ _ (List.mem_of_getElem? h)).2; rw [hSz, hT]; omega, ?_⟩
        have h2 : x.1 ∈ tkI (wI t) := by rw [← atI_map _ 0]; exact List.mem_map.2 ⟨x, List.mem_of_getElem? h, rfl⟩
        have h3 : some x.1 ∈ wI t := by
          obtain ⟨z, hz, hzx⟩ := List.mem_filterMap.1 h2
          simp only [id] at hzx; rw [← hzx]; exact hz
        exact OkI_gd (OkI_w t.size t (Nat.le_refl _) hw) x.1 h3)
      have HT8 : Hid (∀ c ∈ T, c < 256) := Lib.hid (by rw [hT]; exact txI8 _ (OkI_w t.size t (Nat.le_refl _) hw))
      have HNS : Hid (ns S = T) := Lib.hid (by rw [hS, hT]; exact ns_fm hw)
      have HSZT := Lib.hid hSz
      have HNN := Lib.hid hN
      have HPW : Hid (∀ w, Calls Tryd.prog 15 #[.string (bs (pcu k T ts N))] w fun e w' => ∃ aa cc, e = .returned (.tuple #[.agg #[.int .i64 k1, .string x1, .int .i64 m1, .slice aa n1 cc], .nilIface]) ∧ TrV 0 w' t k1 m1 x1 n1 aa cc ∧ Below w.heap.size w w') := Lib.hid (fun w => by
        have e0 : bs (pcu k T ts N) = bs (pcs k (txI (wI t)) 0 (atI 0 (wI t))) := by rw [hN, ← pcs_all', hT, hts]
        have h8 := pcu_8 (k := k) ts HT8.out N
        have hln := pcu_len (k := k) (T := T) ts N
        refine (parse_any _ w ?_).mono ?_
        · rw [bs_sz h8]
          have : N * (T.length + 2) ≤ 800 * 802 := Nat.mul_le_mul hN9 (by omega)
          omega
        unfold ParsePost
        rw [e0, parse_wide k hw hd (by rw [← hT]; omega)]
        rintro e w' ⟨aa, cc, rfl, h1, h2, h3⟩
        exact ⟨aa, cc, by rw [HTB.out.tv.hk, HTB.out.tv.hx, HTB.out.tv.hm, HTB.out.tv.hn]; rfl, ⟨HTB.out.tv.hk, HTB.out.tv.hx, HTB.out.tv.hm, HTB.out.tv.hn, ⟨_, h2⟩, h1⟩, h3⟩)
      have HSM : Hid (∀ w aa cc aa' cc', TrV 0 w t k1 m1 x1 n1 aa cc → TrV 0 w t k1 m1 x1 n1 aa' cc' → Calls Tryd.prog 16 #[.agg #[.int .i64 k1, .string x1, .int .i64 m1, .slice aa n1 cc], .agg #[.int .i64 k1, .string x1, .int .i64 m1, .slice aa' n1 cc']] w fun e w' => e = .returned (.bool true) ∧ Below w.heap.size w w') := Lib.hid (fun w aa cc aa' cc' h h' => by
        have h1 := h.same h' (by have := HSZ.out; omega) (by have := HSZ.out; omega)
        rw [exq_self] at h1
        exact h1)
      have HN9 := Lib.hid hN9
      have HTL : Hid (T.length ≤ 800) := Lib.hid (by omega)
      clear hf hS hT hSz h8 hd hl hw hsz hwt hts hN hN9
      go_wp2_with (first
        | (go_at_call 17; refine (HTK.out _).mono ?_; rintro e w5 ⟨b, tc, rfl, htk, hb5⟩; have HB5 : Hid (Below w2.heap.size w2 w5) := Lib.hid (bthen HB4.out hb5); have HTS := Lib.hid htk; clear htk hb5 y0 y1 y2 y3; obtain ⟨y0, y1, y2, y3⟩ := HTB.out.cl HB5.out)
        | (go_at_call 9; refine (HF.out _ HB3.out).mono ?_; rintro e w4 ⟨rfl, hb4⟩; have HB4 : Hid (Below w2.heap.size w2 w4) := Lib.hid (bthen HB3.out hb4); clear hb4; clear y0 y1 y2 y3; obtain ⟨y0, y1, y2, y3⟩ := HTB.out.cl HB4.out)
        | (go_at_call 11; refine (HAW.out _).mono ?_; rintro e w3 ⟨rfl, hb3⟩; have HB3 : Hid (Below w2.heap.size w2 w3) := Lib.hid (hb3); clear hb3; clear y0 y1 y2 y3; obtain ⟨y0, y1, y2, y3⟩ := HTB.out.cl HB3.out))
      go_loopw [11, 12] (fun sv iv wr => ∃ i : Nat, iv = .int .i64 i ∧ i ≤ N ∧ sv = .string (bs (pcu k T ts i)) ∧ Below w5.heap.size w5 wr) (fun _ iv _ => N - (intOf iv).toNat)
      case atStart => exact ⟨0, rfl, by omega, rfl, Below.refl _ _⟩
      case round =>
        obtain ⟨i, rfl, hi, rfl, hb⟩ := hrel
        have HB := Lib.hid hb
        have HBW : Hid (Below w2.heap.size w2 wr) := Lib.hid (bthen HB5.out hb)
        clear y0 y1 y2 y3
        have hiI : (i : Int) ≤ (N : Int) := by omega
        have h8p : ∀ j, ∀ c ∈ pcu k T ts j, c < 256 := fun j => pcu_8 ts HT8.out j
        have hln : ∀ j, j ≤ N → (pcu k T ts j).length ≤ 641600 := fun j hj => by
          have h1 := pcu_len (k := k) (T := T) ts j
          have : j * (T.length + 2) ≤ 800 * 802 := Nat.mul_le_mul (by have := HN9.out; omega) (by have := HTL.out; omega)
          omega
        by_cases hiN : i = N
        · subst hiN
          clear h8p hln hi hb
          obtain ⟨V, hV⟩ : ∃ V, V = bs (pcu k T ts i) := ⟨_, rfl⟩
          rw [← hV] at HPW ⊢
          clear hV
          go_upto_region 19 with (go_at_call 15; refine (HPW.out _).mono ?_; rintro e w6 ⟨ab, cb, rfl, hv6, hb6⟩; have HB6 : Hid (Below w2.heap.size w2 w6) := Lib.hid (bthen HBW.out hb6); have HV6 := Lib.hid hv6; clear hv6 hb6)
          obtain ⟨w7, hw7⟩ : ∃ w7, w7 = w6.alloc (.cells #[.int .i64 k1, .string x1, .int .i64 m1, .slice ab n1 cb] 25) := ⟨_, rfl⟩
          obtain ⟨bf, hbf⟩ : ∃ bf, bf = w6.heap.size := ⟨_, rfl⟩
          have HB67 : Hid (Below w6.heap.size w6 w7) := Lib.hid (by rw [hw7]; exact below_alloc _ _)
          have HB7 : Hid (Below w2.heap.size w2 w7) := Lib.hid (bthen HB6.out HB67.out)
          have HV7 := Lib.hid (HV6.out.below HB67.out)
          have z0 : w7.cell? ⟨bf, 0, none⟩ = some (.int .i64 k1) := by rw [hw7, hbf]; simp
          have z1 : w7.cell? ⟨bf, 1, none⟩ = some (.string x1) := by rw [hw7, hbf]; simp
          have z2 : w7.cell? ⟨bf, 2, none⟩ = some (.int .i64 m1) := by rw [hw7, hbf]; simp
          have z3 : w7.cell? ⟨bf, 3, none⟩ = some (.slice ab n1 cb) := by rw [hw7, hbf]; simp
          rw [← hw7, ← hbf]
          clear hw7 hbf
          obtain ⟨y0, y1, y2, y3⟩ := HTB.out.cl HB7.out
          go_wp2_with (go_at_call 16; refine (HSM.out _ _ _ _ _ HV7.out (HTB.out.tv.below HB7.out)).mono ?_; rintro e w8 ⟨rfl, hb8⟩; have HB8 := Lib.hid (bthen HB7.out hb8); clear hb8)
          refine bodyPost_ret (v := .bool true) (by simp [results, Tryd.results7, go_sem]; try rfl) rfl ?_
          exact ⟨rfl, bthen HTB.out.bw HB8.out⟩
        · have hii : (i : Int) < (N : Int) := by omega
          have hil : i < ts.length := by have := HNN.out; omega
          have HIN : Hid (i < N) := Lib.hid (by omega)
          obtain ⟨x, hx⟩ : ∃ x, ts[i]? = some x := ⟨_, List.getElem?_eq_getElem hil⟩
          have HX := Lib.hid hx
          obtain ⟨p, hp⟩ : ∃ p, p = x.2 := ⟨_, rfl⟩
          obtain ⟨q, hq⟩ : ∃ q, q = pend T ts i := ⟨_, rfl⟩
          have hpq : p ≤ q ∧ q ≤ S.size := by
            rw [hp, hq]
            unfold pend
            split
            · rename_i y hy
              exact ⟨HMON.out i x y hx hy, (HBD.out _ _ hy).1⟩
            · have := (HBD.out _ _ hx).1
              rw [HSZT.out] at this ⊢
              exact ⟨this, Nat.le_refl _⟩
          have hcx := ((HTS.out.below hb).at_ i x hx).2.2.2
          rw [← hp] at hcx
          obtain ⟨K1, hK⟩ : ∃ K1, K1 = i + 1 := ⟨_, rfl⟩
          have hK1 : (i : Int) + 1 = (K1 : Int) := by omega
          have HK := Lib.hid hK
          have HPC : Hid (pcu k T ts K1 = pcu k T ts i ++ ((T.drop p).take (q - p) ++ blX (i + k))) := Lib.hid (by
            rw [hK]
            show pcu k T ts i ++ pce k T ts i = _
            unfold pce
            rw [hx, hq, hp])
          have hpI : (p : Int) ≤ (q : Int) := by omega
          have hqI : (q : Int) ≤ (S.size : Int) := by omega
          have hpS : (p : Int) ≤ (S.size : Int) := by omega
          have hpn : p ≤ q := hpq.1
          have hqn : q ≤ S.size := hpq.2
          have HEX : Hid (S.extract p q = bs ((T.drop p).take (q - p)) ∧ (S.extract p q).size = q - p) := Lib.hid (by
            have h1 : S.extract p q = bs ((T.drop p).take (q - p)) := by rw [ext_bs, HNS.out]
            refine ⟨h1, ?_⟩
            rw [h1, bs_sz (fun c hc => HT8.out c (List.mem_of_mem_drop (List.mem_of_mem_take hc))), List.length_take, List.length_drop, ← HSZT.out]; omega)
          obtain ⟨V, hV⟩ : ∃ V, V = bs (pcu k T ts i) := ⟨_, rfl⟩
          have hVs : V.size ≤ 641600 := by rw [hV, bs_sz (h8p i)]; exact hln i hi
          have HV := Lib.hid hV
          have hwr : IntKind.i64.wrap ((i : Int) + (k : Int)) = (i : Int) + (k : Int) := IntWalk.i64_in _ (by have := HN9.out; have := HK9.out; omega)
          have hkc : IntKind.i64.wrap (k : Int) = (k : Int) := IntWalk.i64_in _ (by have := HK9.out; omega)
          have hes := HEX.out.2
          have h8t : ∀ c ∈ (T.drop p).take (q - p), c < 256 := fun c hc => HT8.out c (List.mem_of_mem_drop (List.mem_of_mem_take hc))
          have hfin : ∀ (BL : ByteArray) (l : List Nat), BL = bs l → (∀ c ∈ l, c < 256) → blX (i + k) = l → V ++ (S.extract p q ++ BL) = bs (pcu k T ts K1) := fun BL l h1 h2 h3 => by
            rw [HEX.out.1, h1, hV, bs_app h8t h2, bs_app (h8p i) (by intro c hc; rcases List.mem_append.1 hc with h | h; (exact h8t c h); (exact h2 c h)), HPC.out, h3]
          have HFIN := Lib.hid hfin
          have HMEAS : Hid (K1 ≤ N ∧ N - K1 < N - i) := Lib.hid (by omega)
          rw [← hV]
          have hcxa : ∀ o, (wr.alloc o).cell? ⟨b, i * 4 + 3, none⟩ = some (.int .i64 (p : Nat)) := fun o => below_cell (below_alloc wr o) hcx
          have hcxd : wr.drew.cell? ⟨b, i * 4 + 3, none⟩ = some (.int .i64 (p : Nat)) := hcx
          have hcxb : ∀ o, (wr.drew.alloc o).cell? ⟨b, i * 4 + 3, none⟩ = some (.int .i64 (p : Nat)) := fun o => below_cell (below_alloc wr.drew o) hcxd
          have t1 : ∀ n : Nat, n ≤ 2 → ¬ 9223372036854775807 < (S.extract p q).size + n := fun n hn => by omega
          have t1a := t1 1 (by decide)
          have t1b := t1 2 (by decide)
          have t2a : ¬ 9223372036854775807 < V.size + ((S.extract p q).size + 1) := by omega
          have t2b : ¬ 9223372036854775807 < V.size + ((S.extract p q).size + 2) := by omega
          rw [hes] at t1a t1b t2a t2b
          have HES := Lib.hid hes
          by_cases hnx : K1 < N
          · obtain ⟨y, hy⟩ : ∃ y, ts[K1]? = some y := ⟨_, List.getElem?_eq_getElem (by have := HNN.out; omega)⟩
            have hyq : y.2 = q := by rw [hq]; unfold pend; rw [← hK, hy]
            have hcy := ((HTS.out.below hb).at_ K1 y hy).2.2.2
            rw [hyq] at hcy
            have hnI : (K1 : Int) < (N : Int) := by omega
            have hm5 : (i + k) % 5 = 0 ∨ (i + k) % 5 = 1 ∨ (i + k) % 5 = 2 ∨ (i + k) % 5 = 3 ∨ (i + k) % 5 = 4 := by omega
            rcases hm5 with hm | hm | hm | hm | hm
            · have hbl : blX (i + k) = [32] := by unfold blX; simp [hm]
              have HF2 := Lib.hid (HFIN.out ⟨#[32]⟩ [32] rfl (by decide) hbl)
              have hrem : ((i : Int) + (k : Int)).tmod 5 = 0 := by rw [Int.tmod_eq_emod_of_nonneg (by omega)]; omega
              clear h8p hln hi hb hiN hil hx hp hq hpq hK hfin h8t hV hnx hes t1 hy hyq hm hbl
              go_upto_region 17 with fail
              go_region_law (fail)
              all_goals
                go_wp2
                exact ⟨⟨K1, rfl, HMEAS.out.1, by rw [← HF2.out], by first | exact (HB.out.alloc (by exact HB.out.size) _).drew | exact HB.out.drew.alloc (by exact HB.out.size) _⟩, by have := HMEAS.out.2; simp only [intOf]; omega⟩
            · have hbl : blX (i + k) = [9] := by unfold blX; simp [hm]
              have HF2 := Lib.hid (HFIN.out ⟨#[9]⟩ [9] rfl (by decide) hbl)
              have hrem : ((i : Int) + (k : Int)).tmod 5 = 1 := by rw [Int.tmod_eq_emod_of_nonneg (by omega)]; omega
              clear h8p hln hi hb hiN hil hx hp hq hpq hK hfin h8t hV hnx hes t1 hy hyq hm hbl
              go_upto_region 17 with fail
              go_region_law (fail)
              all_goals
                go_wp2
                exact ⟨⟨K1, rfl, HMEAS.out.1, by rw [← HF2.out], by first | exact (HB.out.alloc (by exact HB.out.size) _).drew | exact HB.out.drew.alloc (by exact HB.out.size) _⟩, by have := HMEAS.out.2; simp only [intOf]; omega⟩
            · have hbl : blX (i + k) = [10] := by unfold blX; simp [hm]
              have HF2 := Lib.hid (HFIN.out ⟨#[10]⟩ [10] rfl (by decide) hbl)
              have hrem : ((i : Int) + (k : Int)).tmod 5 = 2 := by rw [Int.tmod_eq_emod_of_nonneg (by omega)]; omega
              clear h8p hln hi hb hiN hil hx hp hq hpq hK hfin h8t hV hnx hes t1 hy hyq hm hbl
              go_upto_region 17 with fail
              go_region_law (fail)
              all_goals
                go_wp2
                exact ⟨⟨K1, rfl, HMEAS.out.1, by rw [← HF2.out], by first | exact (HB.out.alloc (by exact HB.out.size) _).drew | exact HB.out.drew.alloc (by exact HB.out.size) _⟩, by have := HMEAS.out.2; simp only [intOf]; omega⟩
            · have hbl : blX (i + k) = [13, 32] := by unfold blX; simp [hm]
              have HF2 := Lib.hid (HFIN.out ⟨#[13, 32]⟩ [13, 32] rfl (by decide) hbl)
              have hrem : ((i : Int) + (k : Int)).tmod 5 = 3 := by rw [Int.tmod_eq_emod_of_nonneg (by omega)]; omega
              clear h8p hln hi hb hiN hil hx hp hq hpq hK hfin h8t hV hnx hes t1 hy hyq hm hbl
              go_upto_region 17 with fail
              go_region_law (fail)
              all_goals
                go_wp2
                exact ⟨⟨K1, rfl, HMEAS.out.1, by rw [← HF2.out], by first | exact (HB.out.alloc (by exact HB.out.size) _).drew | exact HB.out.drew.alloc (by exact HB.out.size) _⟩, by have := HMEAS.out.2; simp only [intOf]; omega⟩
            · have hbl : blX (i + k) = [32, 32] := by unfold blX; simp [hm]
              have HF2 := Lib.hid (HFIN.out ⟨#[32, 32]⟩ [32, 32] rfl (by decide) hbl)
              have hrem : ((i : Int) + (k : Int)).tmod 5 = 4 := by rw [Int.tmod_eq_emod_of_nonneg (by omega)]; omega
              clear h8p hln hi hb hiN hil hx hp hq hpq hK hfin h8t hV hnx hes t1 hy hyq hm hbl
              go_upto_region 17 with fail
              go_region_law (fail)
              all_goals
                go_wp2
                exact ⟨⟨K1, rfl, HMEAS.out.1, by rw [← HF2.out], by first | exact (HB.out.alloc (by exact HB.out.size) _).drew | exact HB.out.drew.alloc (by exact HB.out.size) _⟩, by have := HMEAS.out.2; simp only [intOf]; omega⟩

          · have hnI : decide ((K1 : Int) < (N : Int)) = false := decide_eq_false (by omega)
            have hnn : decide (K1 < N) = false := decide_eq_false hnx
            have hqS : q = S.size := by
              rw [hq]; unfold pend
              rw [List.getElem?_eq_none (by have := HNN.out; omega)]
              exact HSZT.out.symm
            subst hqS
            have hm5 : (i + k) % 5 = 0 ∨ (i + k) % 5 = 1 ∨ (i + k) % 5 = 2 ∨ (i + k) % 5 = 3 ∨ (i + k) % 5 = 4 := by omega
            rcases hm5 with hm | hm | hm | hm | hm
            · have hbl : blX (i + k) = [32] := by unfold blX; simp [hm]
              have HF2 := Lib.hid (HFIN.out ⟨#[32]⟩ [32] rfl (by decide) hbl)
              have hrem : ((i : Int) + (k : Int)).tmod 5 = 0 := by rw [Int.tmod_eq_emod_of_nonneg (by omega)]; omega
              clear h8p hln hi hb hiN hil hx hp hq hpq hK hfin h8t hV hnx hes t1 hm hbl
              go_upto_region 17 with fail
              go_region_law (fail)
              all_goals
                go_wp2
                exact ⟨⟨K1, rfl, HMEAS.out.1, by rw [← HF2.out], by first | exact (HB.out.alloc (by exact HB.out.size) _).drew | exact HB.out.drew.alloc (by exact HB.out.size) _⟩, by have := HMEAS.out.2; simp only [intOf]; omega⟩
            · have hbl : blX (i + k) = [9] := by unfold blX; simp [hm]
              have HF2 := Lib.hid (HFIN.out ⟨#[9]⟩ [9] rfl (by decide) hbl)
              have hrem : ((i : Int) + (k : Int)).tmod 5 = 1 := by rw [Int.tmod_eq_emod_of_nonneg (by omega)]; omega
              clear h8p hln hi hb hiN hil hx hp hq hpq hK hfin h8t hV hnx hes t1 hm hbl
              go_upto_region 17 with fail
              go_region_law (fail)
              all_goals
                go_wp2
                exact ⟨⟨K1, rfl, HMEAS.out.1, by rw [← HF2.out], by first | exact (HB.out.alloc (by exact HB.out.size) _).drew | exact HB.out.drew.alloc (by exact HB.out.size) _⟩, by have := HMEAS.out.2; simp only [intOf]; omega⟩
            · have hbl : blX (i + k) = [10] := by unfold blX; simp [hm]
              have HF2 := Lib.hid (HFIN.out ⟨#[10]⟩ [10] rfl (by decide) hbl)
              have hrem : ((i : Int) + (k : Int)).tmod 5 = 2 := by rw [Int.tmod_eq_emod_of_nonneg (by omega)]; omega
              clear h8p hln hi hb hiN hil hx hp hq hpq hK hfin h8t hV hnx hes t1 hm hbl
              go_upto_region 17 with fail
              go_region_law (fail)
              all_goals
                go_wp2
                exact ⟨⟨K1, rfl, HMEAS.out.1, by rw [← HF2.out], by first | exact (HB.out.alloc (by exact HB.out.size) _).drew | exact HB.out.drew.alloc (by exact HB.out.size) _⟩, by have := HMEAS.out.2; simp only [intOf]; omega⟩
            · have hbl : blX (i + k) = [13, 32] := by unfold blX; simp [hm]
              have HF2 := Lib.hid (HFIN.out ⟨#[13, 32]⟩ [13, 32] rfl (by decide) hbl)
              have hrem : ((i : Int) + (k : Int)).tmod 5 = 3 := by rw [Int.tmod_eq_emod_of_nonneg (by omega)]; omega
              clear h8p hln hi hb hiN hil hx hp hq hpq hK hfin h8t hV hnx hes t1 hm hbl
              go_upto_region 17 with fail
              go_region_law (fail)
              all_goals
                go_wp2
                exact ⟨⟨K1, rfl, HMEAS.out.1, by rw [← HF2.out], by first | exact (HB.out.alloc (by exact HB.out.size) _).drew | exact HB.out.drew.alloc (by exact HB.out.size) _⟩, by have := HMEAS.out.2; simp only [intOf]; omega⟩
            · have hbl : blX (i + k) = [32, 32] := by unfold blX; simp [hm]
              have HF2 := Lib.hid (HFIN.out ⟨#[32, 32]⟩ [32, 32] rfl (by decide) hbl)
              have hrem : ((i : Int) + (k : Int)).tmod 5 = 4 := by rw [Int.tmod_eq_emod_of_nonneg (by omega)]; omega
              clear h8p hln hi hb hiN hil hx hp hq hpq hK hfin h8t hV hnx hes t1 hm hbl
              go_upto_region 17 with fail
              go_region_law (fail)
              all_goals
                go_wp2
                exact ⟨⟨K1, rfl, HMEAS.out.1, by rw [← HF2.out], by first | exact (HB.out.alloc (by exact HB.out.size) _).drew | exact HB.out.drew.alloc (by exact HB.out.size) _⟩, by have := HMEAS.out.2; simp only [intOf]; omega⟩



end Go.Proofs.YtpabngicbfcdkaaDoor

/- a list of nodes as an argument. -/
namespace Go.Proofs.YtpabngicbfcdkaaDoor
open Go.RowKit Go.ChangeShapes Go.WideShapes Go.Deep Go.Joins
set_option linter.unusedVariables false
set_option linter.unusedSimpArgs false

section
variable {H : Type} {enc : TypeId × Value → H} {W : World}

theorem open_rdi {n : Nat} {v : Value} {y : DataW H × List MemPlace} (h : DataW.trod enc Tryd.prog W 0 (fun _ => true) true n 81 [v] = some y) : ∃ aa l cc, v = .slice aa l.length cc ∧ RdI W (fun b => b < W.heap.size) aa l := by
  obtain ⟨a, len, cap, l, rfl, hr, h0⟩ := open_rd1 Tryd.underlying81 Tryd.underlying3 (by kernel_rfl) h
  refine ⟨a, l, cap, by rw [hr.len], ⟨by have := hr.max; have := hr.len; omega, fun j y hy => ?_, hr.wf⟩⟩
  have hj := (List.getElem?_eq_some_iff.1 hy).1
  obtain ⟨b, off, ha, hc⟩ := hr.cell j (by rw [← hr.len]; exact hj)
  have hg : l.getD j 0 = y := by simp [List.getD, hy]
  rw [hg] at hc
  exact ⟨b, off, ha, World.block_lt_of_cell? W _ hc, hc⟩

set_option maxRecDepth 100000 in
theorem cells_nd {n : Nat} {cs : List Value} {y : DataW H × List MemPlace} (h : DataW.trod enc Tryd.prog W 0 (fun _ => true) true n 83 cs = some y) :
    ∃ k s m aa gs cc, cs = [.int .i64 k, .string s, .int .i64 m, .slice aa (gs : List Int).length cc] ∧ RdI W (fun b => b < W.heap.size) aa gs ∧ (Lit.int .i64 k).wf = true ∧ (Lit.int .i64 m).wf = true ∧ s.size ≤ 9223372036854775807 := by
  obtain ⟨y0, y1, y2, y3, m, _, hlen, h0, h1, h2, h3⟩ := trod_struct4 Tryd.underlying83 h
  rw [show Tryd.prog.cellsOf 83 = 4 by kernel_rfl] at hlen
  match cs, hlen with
  | [c0, c1, c2, c3], _ =>
    rw [show Tryd.prog.cellsOf 3 = 1 by kernel_rfl] at h0 h2
    rw [show Tryd.prog.cellsOf 9 = 1 by kernel_rfl] at h1
    rw [show Tryd.prog.cellsOf 81 = 1 by kernel_rfl] at h3
    have h0 : DataW.trod enc Tryd.prog W 0 (fun _ => true) true m 3 [c0] = some y0 := h0
    have h1 : DataW.trod enc Tryd.prog W 0 (fun _ => true) true m 9 [c1] = some y1 := h1
    have h2 : DataW.trod enc Tryd.prog W 0 (fun _ => true) true m 3 [c2] = some y2 := h2
    have h3 : DataW.trod enc Tryd.prog W 0 (fun _ => true) true m 81 [c3] = some y3 := h3
    obtain ⟨k, e1, _, e3⟩ := DataW.trod_int Tryd.underlying3 h0
    obtain ⟨s, f1, _, f3⟩ := DataW.trod_string Tryd.underlying9 h1
    obtain ⟨q, g1, _, g3⟩ := DataW.trod_int Tryd.underlying3 h2
    obtain ⟨aa, gs, cc, k1, k2⟩ := open_rdi h3
    refine ⟨k, s, q, aa, gs, cc, ?_, k2, e3, g3, by unfold maxLen at f3; omega⟩
    simp only [List.cons.injEq, and_true] at e1 f1 g1
    rw [e1, f1, g1, k1]

theorem open_nds {a : Option Addr} {len cap : Nat} {d : DataW H} {p : List MemPlace} (h : DataW.Trod enc Tryd.prog W 0 (fun _ => true) true 22 (.slice a len cap) d p) :
    ∃ L, RdN W (fun i => i < W.heap.size) a len L ∧ len ≤ cap ∧ ∀ x ∈ L, x.2.1.size ≤ 9223372036854775807 := by
  obtain ⟨fuel, hf⟩ := h
  rcases open_slice Tryd.underlying22 hf with ⟨hcs, hx⟩ | ⟨x, l, c', m, n, D, Pl, hcs, _, hl, hm, hmm, hx, hel⟩
  · simp [Value.cells] at hcs
    obtain ⟨rfl, rfl, rfl⟩ := hcs
    exact ⟨[], ⟨rfl, by omega, fun i x hx => by simp at hx⟩, Nat.le_refl _, fun x hx => by simp at hx⟩
  · simp [Value.cells] at hcs
    obtain ⟨rfl, rfl, rfl⟩ := hcs
    simp only [if_true] at hmm
    subst hmm
    rw [show Tryd.prog.cellsOf 83 = 4 by kernel_rfl] at hel
    have each : ∀ i, i < len → ∃ y : Nd × Option Addr × Nat, W.cell? (x.add (i * 4)) = some (.int .i64 y.1.1) ∧ W.cell? ((x.add (i * 4)).add 1) = some (.string y.1.2.1) ∧ W.cell? ((x.add (i * 4)).add 2) = some (.int .i64 y.1.2.2.1) ∧ W.cell? ((x.add (i * 4)).add 3) = some (.slice y.2.1 y.1.2.2.2.length y.2.2) ∧ RdI W (fun b => b < W.heap.size) y.2.1 y.1.2.2.2 ∧ y.1.2.1.size ≤ 9223372036854775807 := by
      intro i hi
      obtain ⟨cs', hc, ht⟩ := hel i (by omega)
      obtain ⟨k, s, q, aa, gs, cc, rfl, h1, h2, h3, h4⟩ := cells_nd ht
      obtain ⟨_, _, hat⟩ := World.cells?_some hc
      have a0 := hat 0 (by omega)
      rw [show (x.add (i * 4)).add 0 = x.add (i * 4) from rfl] at a0
      exact ⟨((k, s, q, gs), aa, cc), a0, hat 1 (by omega), hat 2 (by omega), hat 3 (by omega), h1, h4⟩
    obtain ⟨f, hf⟩ := choose_lt each
    refine ⟨(List.range len).map fun i => (f i).1, ⟨by simp, by unfold maxLen at hm; omega, fun i z hz => ?_⟩, hl, fun z hz => ?_⟩
    · rw [List.getElem?_map, Option.map_eq_some_iff] at hz
      obtain ⟨j, hj, rfl⟩ := hz
      have hil : i < len := by have := (List.getElem?_eq_some_iff.1 hj).1; simpa using this
      have : j = i := by simpa [hil] using hj.symm
      subst this
      obtain ⟨b, off, rfl⟩ := spot_none (show W.cell? (x.add 0) = some (.int .i64 (f 0).1.1) from (hf 0 (by omega)).1)
      obtain ⟨c0, c1, c2, c3, hI, _⟩ := hf j hil
      rw [Addr.add_lit] at c0 c1 c2 c3
      rw [Addr.add_lit] at c1 c2 c3
      exact ⟨b, off, _, _, rfl, World.block_lt_of_cell? W _ c0, c0, c1, c2, c3, hI⟩
    · obtain ⟨i, hi, rfl⟩ := List.mem_map.1 hz
      exact (hf i (by simpa using hi)).2.2.2.2.2
end

end Go.Proofs.YtpabngicbfcdkaaDoor

/- a list of nodes as an argument: its texts are no longer than its bulk. -/
namespace Go.Proofs.YtpabngicbfcdkaaDoor
open Go.RowKit Go.ChangeShapes Go.WideShapes Go.Deep Go.Joins
set_option linter.unusedVariables false
set_option linter.unusedSimpArgs false

section
variable {H : Type} {enc : TypeId × Value → H} {W : World}

set_option maxRecDepth 100000 in
theorem cells_ndu {n : Nat} {cs : List Value} {y : DataW H × List MemPlace} (h : DataW.trod enc Tryd.prog W 0 (fun _ => true) true n 83 cs = some y) :
    ∃ k s m aa gs cc, cs = [.int .i64 k, .string s, .int .i64 m, .slice aa (gs : List Int).length cc] ∧ RdI W (fun b => b < W.heap.size) aa gs ∧ s.size ≤ Rows.uptoBulk y.1 := by
  obtain ⟨y0, y1, y2, y3, m, hy, hlen, h0, h1, h2, h3⟩ := trod_struct4 Tryd.underlying83 h
  rw [show Tryd.prog.cellsOf 83 = 4 by kernel_rfl] at hlen
  match cs, hlen with
  | [c0, c1, c2, c3], _ =>
    rw [show Tryd.prog.cellsOf 3 = 1 by kernel_rfl] at h0 h2
    rw [show Tryd.prog.cellsOf 9 = 1 by kernel_rfl] at h1
    rw [show Tryd.prog.cellsOf 81 = 1 by kernel_rfl] at h3
    have h0 : DataW.trod enc Tryd.prog W 0 (fun _ => true) true m 3 [c0] = some y0 := h0
    have h1 : DataW.trod enc Tryd.prog W 0 (fun _ => true) true m 9 [c1] = some y1 := h1
    have h2 : DataW.trod enc Tryd.prog W 0 (fun _ => true) true m 3 [c2] = some y2 := h2
    have h3 : DataW.trod enc Tryd.prog W 0 (fun _ => true) true m 81 [c3] = some y3 := h3
    obtain ⟨k, e1, _, e3⟩ := DataW.trod_int Tryd.underlying3 h0
    obtain ⟨s, f1, f2, f3⟩ := DataW.trod_string Tryd.underlying9 h1
    obtain ⟨q, g1, _, g3⟩ := DataW.trod_int Tryd.underlying3 h2
    obtain ⟨aa, gs, cc, k1, k2⟩ := open_rdi h3
    refine ⟨k, s, q, aa, gs, cc, ?_, k2, ?_⟩
    · simp only [List.cons.injEq, and_true] at e1 f1 g1
      rw [e1, f1, g1, k1]
    · have hs : s.data.toList.length = s.size := rfl
      rw [hy, f2]
      simp only [Rows.uptoBulk, Rows.uptoBulkAll]
      omega

theorem open_ndsu {a : Option Addr} {len cap : Nat} {d : DataW H} {p : List MemPlace} (h : DataW.Trod enc Tryd.prog W 0 (fun _ => true) true 22 (.slice a len cap) d p) :
    ∃ L, RdN W (fun i => i < W.heap.size) a len L ∧ len ≤ cap ∧ ∀ x ∈ L, x.2.1.size ≤ Rows.uptoBulk d := by
  obtain ⟨fuel, hf⟩ := h
  rcases open_slice Tryd.underlying22 hf with ⟨hcs, hx⟩ | ⟨x, l, c', m, n, D, Pl, hcs, _, hl, hm, hmm, hx, hel⟩
  · simp [Value.cells] at hcs
    obtain ⟨rfl, rfl, rfl⟩ := hcs
    exact ⟨[], ⟨rfl, by omega, fun i x hx => by simp at hx⟩, Nat.le_refl _, fun x hx => by simp at hx⟩
  · simp [Value.cells] at hcs
    obtain ⟨rfl, rfl, rfl⟩ := hcs
    simp only [if_true] at hmm
    subst hmm
    rw [show Tryd.prog.cellsOf 83 = 4 by kernel_rfl] at hel
    have each : ∀ i, i < len → ∃ y : Nd × Option Addr × Nat, W.cell? (x.add (i * 4)) = some (.int .i64 y.1.1) ∧ W.cell? ((x.add (i * 4)).add 1) = some (.string y.1.2.1) ∧ W.cell? ((x.add (i * 4)).add 2) = some (.int .i64 y.1.2.2.1) ∧ W.cell? ((x.add (i * 4)).add 3) = some (.slice y.2.1 y.1.2.2.2.length y.2.2) ∧ RdI W (fun b => b < W.heap.size) y.2.1 y.1.2.2.2 ∧ y.1.2.1.size ≤ Rows.uptoBulk (D i) := by
      intro i hi
      obtain ⟨cs', hc, ht⟩ := hel i (by omega)
      obtain ⟨k, s, q, aa, gs, cc, rfl, h1, h4⟩ := cells_ndu ht
      obtain ⟨_, _, hat⟩ := World.cells?_some hc
      have a0 := hat 0 (by omega)
      rw [show (x.add (i * 4)).add 0 = x.add (i * 4) from rfl] at a0
      exact ⟨((k, s, q, gs), aa, cc), a0, hat 1 (by omega), hat 2 (by omega), hat 3 (by omega), h1, h4⟩
    have hd : d = .slice ((List.range len).map D) ((List.range (m - len)).map fun j => D (len + j)) := congrArg Prod.fst hx
    obtain ⟨f, hf⟩ := choose_lt each
    refine ⟨(List.range len).map fun i => (f i).1, ⟨by simp, by unfold maxLen at hm; omega, fun i z hz => ?_⟩, hl, fun z hz => ?_⟩
    · rw [List.getElem?_map, Option.map_eq_some_iff] at hz
      obtain ⟨j, hj, rfl⟩ := hz
      have hil : i < len := by have := (List.getElem?_eq_some_iff.1 hj).1; simpa using this
      have : j = i := by simpa [hil] using hj.symm
      subst this
      obtain ⟨b, off, rfl⟩ := spot_none (show W.cell? (x.add 0) = some (.int .i64 (f 0).1.1) from (hf 0 (by omega)).1)
      obtain ⟨c0, c1, c2, c3, hI, _⟩ := hf j hil
      rw [Addr.add_lit] at c0 c1 c2 c3
      rw [Addr.add_lit] at c1 c2 c3
      exact ⟨b, off, _, _, rfl, World.block_lt_of_cell? W _ c0, c0, c1, c2, c3, hI⟩
    · obtain ⟨i, hi, rfl⟩ := List.mem_map.1 hz
      have h1 := (hf i (by simpa using hi)).2.2.2.2.2
      have h2 : Rows.uptoBulk (D i) ≤ Rows.uptoBulkAll ((List.range len).map D) := bulks.part_le (List.mem_map.2 ⟨i, hi, rfl⟩)
      have h3 := bulks.slice_elems ((List.range len).map D) ((List.range (m - len)).map fun j => D (len + j))
      rw [hd]
      omega
end

end Go.Proofs.YtpabngicbfcdkaaDoor

/- SyntaxBlanks, for every input of bulk at most 1048576: the frame round its walk: what the arguments are read as, the call, what is read behind it; the tied card. The condition: the listed package variables hold what the program lays (the card ties this to the program's text). -/
namespace Go.Proofs.YtpabngicbfcdkaaDoor.syntaxBlanks
open Go.ChangeShapes Go.WideShapes Go.ChangeAt Go.RowKit
open Go.ChangeMaps (open_string shut_string)
set_option linter.unusedVariables false
set_option linter.unusedSimpArgs false

theorem own : ownKnob Tryd.prog.godebug = none := by kernel_rfl
theorem laidOut : laidOutB Tryd.prog = true := by kernel_rfl

set_option maxRecDepth 100000 in
theorem contract (H : Type) (enc : TypeId × Value → H) (W : World) (base : Nat) (args : Array Value) (ds gs : List (DataW H)) (before : List MemPlace)
    (hval0 : ∀ (j : Nat) t v, Tryd.f7.params[j]? = some t → args[j]? = some v → Value.okWide Tryd.prog W .any base t v)
    (hW : DataW.Whole enc Tryd.prog Tryd.f7.params.toList Rows.syntaxBlanksSpec.vars false W args.toList ds gs before) (hk : Rows.uptoSmall H (ds ++ gs) = true) (hL : laidMetH Tryd.prog Rows.syntaxBlanksUptoRow.laid W) :
    Calls Tryd.prog 7 args W fun e W' => ∃ v, e = .returned v ∧ Rows.syntaxBlanksSpec.post enc Tryd.prog Tryd.f7 false true false false W args v W' := by
  have hval : ∀ (j : Nat) t v, Tryd.f7.params[j]? = some t → args[j]? = some v → Value.okWide Tryd.prog W .any base t v := hval0
  have hW' := hW
  obtain ⟨p, q, hA0, hV, rfl, hfz, hnd⟩ := hW
  have hA : DataW.TrodAll enc Tryd.prog W 0 (fun _ => true) true Tryd.f7.params.toList args.toList ds p := hA0
  rw [Tryd.params7] at hA hval
  obtain ⟨v0, vs0, d0, ds0, p0, q0, hargs, rfl, rfl, h0, r0⟩ := trodAll_cons hA
  obtain ⟨v1, vs1, d1, ds1, p1, q1, rfl, rfl, rfl, h1, r1⟩ := trodAll_cons r0
  obtain ⟨rfl, rfl, rfl⟩ := trodAll_nil r1
  obtain rfl : args = #[v0, v1] := by cases args; simp_all
  obtain ⟨rfl, rfl⟩ := trodVars_none hV
  have hbk := bulks.bound hk
  rw [List.append_nil] at hbk
  have k0 := h0
  have lt0 : ∀ x ∈ p0, x.block < W.heap.size := by obtain ⟨m, hm⟩ := k0; exact DataW.trod_lt m _ _ _ hm
  obtain ⟨a0, len0, cap0, rfl⟩ := okWide_slice Tryd.underlying22 (hval 0 22 v0 rfl rfl)
  obtain ⟨l0, w0, c0, s0⟩ := open_ndsu h0
  have k1 := h1
  have lt1 : ∀ x ∈ p1, x.block < W.heap.size := by obtain ⟨m, hm⟩ := k1; exact DataW.trod_lt m _ _ _ hm
  obtain ⟨a1, rfl, rfl, rfl, w1⟩ := open_int Tryd.underlying5 (hval 1 5 v1 rfl rfl) h1
  have b0 : ∀ x ∈ l0, x.2.1.size ≤ 1048576 := fun x hx => by
    have h1 := s0 x hx
    have h3 := bulks.part_le (l := [d0, .lit (.int .u8 a1)]) (d := d0) (by simp)
    have h5 := hbk
    omega
  clear hA0 hval0
  refine (walk_SyntaxBlanks a0 len0 cap0 l0 a1 W w0 b0 w1 (tab_of hL (tab_lt hL))).mono fun e W' ⟨he, bel⟩ => ?_
  subst he
  exact ⟨_, rfl, _, _, _, [], _, [], hW', trodAll_mk1 (shut_bool Tryd.underlying4 _), (trodAll_cons_mk (Below.trod laidOut (by kernel_rfl) (of_decide_eq_true (by kernel_rfl)) k0 bel lt0) (trodAll_cons_mk (Below.trod laidOut (by kernel_rfl) (of_decide_eq_true (by kernel_rfl)) k1 bel lt1) trodAll_mk0)), rfl, bel.frame _, fun h => by cases h⟩

theorem reads (os : Os) {H : Type} (enc : TypeId × Value → H) : ∃ places, DataW.whole enc Tryd.prog ((World.doorLaid Tryd.prog 24 os).forCall (fun _ _ => 0) ⟨#[], #[.slice none 0 0, .int .u8 0], []⟩).memory Tryd.f7.params.toList Rows.syntaxBlanksSpec.vars false (#[.slice none 0 0, .int .u8 0] : Array Value).toList 8 = some ([.nil, .lit (.int .u8 0)], [], places) :=
  ⟨[], by kernel_rfl⟩

set_option maxRecDepth 100000 in
theorem lifted (os : Os) (started : os.Started) (H : Type) (enc : TypeId × Value → H) (F : Stop.Interp) :
    ReturnsInHanded {} Tryd.checked os 7 .any ((Rows.OpenSpec.upto Rows.syntaxBlanksSpec).preRow enc Tryd.prog Tryd.f7 Rows.syntaxBlanksUptoRow.domain false Rows.syntaxBlanksUptoRow.laid) (((Rows.OpenSpec.upto Rows.syntaxBlanksSpec).at F).post enc Tryd.prog Tryd.f7 false true false false) := by
  obtain ⟨places, hx⟩ := reads os enc
  refine returnsInHanded_of_row (C := Tryd.checked) (s := (Rows.OpenSpec.upto Rows.syntaxBlanksSpec)) own started (by kernel_rfl) Tryd.func7
    (witness_row_at (enc := enc) (C := Tryd.checked) false (World.doorLaid Tryd.prog 24 os) #[.slice none 0 0, .int .u8 0] rfl (by kernel_rfl) (by kernel_rfl) (by kernel_rfl)
      (OpenSpec.preRow_of_cond 8 hx (by kernel_rfl) (fun k hk => by cases hk; kernel_rfl) (by kernel_rfl) (laid_met os _))) ?_
  intro W base args ds gs before hval hW _ hcond hsz hL _ _
  exact contract H enc W base args ds gs before hval hW (hcond _ rfl) hL

theorem over : Rows.syntaxBlanksUptoRow.holds Tryd.pinned (Rows.OpenSpec.upto Rows.syntaxBlanksSpec) :=
  OpenClaim.holds_of_cond 7 Tryd.f7 rfl rfl rfl rfl rfl rfl rfl ⟨rfl, rfl, rfl, rfl, rfl⟩ rfl rfl rfl rfl rfl (by kernel_rfl) Tryd.func7 (by kernel_rfl)
    (of_decide_eq_true (by kernel_rfl)) (by unfold Func.isWrapper; first | (rw [if_pos (by decide +kernel)]; kernel_rfl) | (rw [if_neg (by decide +kernel)]; exact ⟨rfl, rfl⟩))
    (fun os started H enc _ F => by rw [OpenClaim.pre_eq_preRow]; exact lifted os started H enc F)

/-- No parameter wants a stand-in; the program's own looks: what the card asks. -/
theorem plain (f : FuncId) (fn : Func) (hf : Tryd.pinned.checked.prog.funcNamed "evergreen/evergreenlaw54.SyntaxBlanks" = some f) (hfn : Tryd.pinned.checked.prog.funcs[f]? = some fn) :
    true = Tryd.pinned.checked.prog.looks [] ∧ ∀ (j : Nat) t, fn.params[j]? = some t → Tryd.pinned.checked.prog.wantsStandIn t = false := by
  obtain rfl : f = 7 := Option.some.inj ((show Tryd.prog.funcNamed "evergreen/evergreenlaw54.SyntaxBlanks" = some 7 by kernel_rfl).symm.trans hf) |>.symm
  obtain rfl : fn = Tryd.f7 := (Option.some.inj (Tryd.func7.symm.trans hfn)).symm
  refine ⟨by kernel_rfl, fun j t ht => ?_⟩
  rw [Tryd.params7] at ht
  have hm : t ∈ [22, 5] := by simpa using Array.mem_of_getElem? ht
  have hall : ([22, 5].all fun u => !Tryd.prog.wantsStandIn u) = true := by kernel_rfl
  exact (show Tryd.prog.wantsStandIn t = false by simpa using List.all_eq_true.1 hall t hm)
theorem card : Rows.SyntaxBlanksUptoCardSaid :=
  Claim7.holds_tied_plain_at .later [] _ _ _ _ over (fun _ h => by cases h) (by kernel_rfl) (fun _ h => by cases h) syntaxBlanksUpto_row_tie rfl ⟨rfl, rfl⟩ (by kernel_rfl) rfl plain (by kernel_rfl)

end Go.Proofs.YtpabngicbfcdkaaDoor.syntaxBlanks
namespace Go.Proofs.YtpabngicbfcdkaaDoor
theorem syntaxBlanks_upto_card_proved : Rows.SyntaxBlanksUptoCardSaid := syntaxBlanks.card
#print axioms syntaxBlanks_upto_card_proved
end Go.Proofs.YtpabngicbfcdkaaDoor
