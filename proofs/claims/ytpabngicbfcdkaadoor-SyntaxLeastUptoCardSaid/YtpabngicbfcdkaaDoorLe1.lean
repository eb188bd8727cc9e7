/-
  Joined texts: Brackets of a formatted text belong together: the place of the bracket that closes one. · The tokens of a formatted text, as they lie in memory; pieces of the text; name and closing of the laws. · name and closing of the laws: the walks. · SyntaxLeast: the walk. · a list of nodes as an argument. · a list of nodes as an argument: its texts are no longer than its bulk. · SyntaxLeast, for every input of bulk at most 1048576: the frame round its walk: what the arguments are read as, the call, what is read behind it; the tied card. The condition: the listed package variables hold what the program lays (the card ties this to the program's text).
-/
import Derived.Test.YtpabngicbfcdkaaDoorFo8
import Derived.Test.YtpabngicbfcdkaaDoorFo10
import Derived.Test.YtpabngicbfcdkaaDoorFo11
import Derived.ProofKit
import Derived.OpenShut
import Derived.ShutString
import Derived.ChangeOld
import Derived.Below
import Derived.SizedLaws
import Derived.JoinedCond

/- Brackets of a formatted text belong together: the place of the bracket that closes one. -/
namespace Go.Proofs.YtpabngicbfcdkaaDoor
open Go.RowKit
set_option linter.unusedVariables false
set_option linter.unusedSimpArgs false

def vlB (x : TkK) : Int := if x = (5, [40], 0) then 1 else if x = (5, [41], 0) then -1 else 0
def smB : List TkK → Int
  | [] => 0
  | x :: r => vlB x + smB r
theorem smB_app : ∀ a b : List TkK, smB (a ++ b) = smB a + smB b
  | [], b => by simp [smB]
  | x :: r, b => by simp only [List.cons_append, smB, smB_app r b]; omega
structure Bal (l : List TkK) : Prop where
  tot : smB l = 0
  pre : ∀ n, 0 ≤ smB (l.take n)
theorem Bal.nil : Bal [] := ⟨rfl, fun n => by simp [smB]⟩
theorem Bal.app {a b : List TkK} (ha : Bal a) (hb : Bal b) : Bal (a ++ b) :=
  ⟨by rw [smB_app, ha.tot, hb.tot]; rfl, fun n => by
    rw [List.take_append, smB_app]
    have := ha.pre n
    have := hb.pre (n - a.length)
    omega⟩
theorem Bal.one {x : TkK} (h : vlB x = 0) : Bal [x] := ⟨by simp [smB, h], fun n => by cases n <;> simp [smB, h]⟩
theorem Bal.wrap {a : List TkK} (ha : Bal a) : Bal ((5, [40], 0) :: (a ++ [(5, [41], 0)])) := by
  have v1 : vlB (5, [40], 0) = 1 := rfl
  have v2 : vlB (5, [41], 0) = -1 := rfl
  refine ⟨?_, fun n => ?_⟩
  · simp only [smB, smB_app, ha.tot, v1, v2]; rfl
  · cases n with
    | zero => simp [smB]
    | succ n =>
      rw [List.take_succ_cons, List.take_append]
      simp only [smB, smB_app, v1]
      have := ha.pre n
      have h2 : -1 ≤ smB (List.take (n - a.length) [((5, [41], 0) : TkK)]) := by
        cases n - a.length with
        | zero => simp [smB]
        | succ m => simp [smB, v2]
      omega
theorem vl_op {v : Nat} {l : List Nat} (hv : 1 ≤ v ∧ v ≤ 7 ∧ v ≠ 3) (hl : l ∈ lvlO v) : vlB (lvlK v, l, 0) = 0 := by
  have : ∀ v : Fin 8, ∀ l ∈ lvlO v.1, v.1 ≠ 0 → v.1 ≠ 3 → vlB (lvlK v.1, l, 0) = 0 := by decide
  exact this ⟨v, by omega⟩ l hl (by simp only; omega) (by simp only; omega)
theorem vl_k {k : Nat} {l : List Nat} {n : Nat} (h : k ≠ 5) : vlB (k, l, n) = 0 := by
  unfold vlB
  rw [if_neg (fun e => h (congrArg Prod.fst e)), if_neg (fun e => h (congrArg Prod.fst e))]
theorem Bal.brI {lv : Nat} {u : Ex} (h : Bal (tkI (wI u))) : Bal (tkI (br lv (own u, wI u))) := by
  unfold br
  split
  · show Bal ((5, [40], 0) :: tkI (wI u ++ [sgT [41]]))
    rw [tkI_app]
    exact h.wrap
  · exact h
theorem Bal.join : ∀ us : List Ex, (∀ u ∈ us, Bal (tkI (wI u))) → Bal (tkI (joinI (wIs us)))
  | [], _ => .nil
  | [u], h => h u (by simp)
  | u :: v :: us, h => by
    have ih := Bal.join (v :: us) (fun w hw => h w (List.mem_cons_of_mem _ hw))
    show Bal (tkI (wI u ++ [sgT [44], none] ++ joinI (wIs (v :: us))))
    rw [tkI_app, tkI_app]
    have e1 : Bal (tkI [sgT [44], none]) := .one (x := (5, [44], 0)) (by decide)
    exact ((h u (by simp)).app e1).app ih
theorem bal_w : ∀ (m : Nat) (t : Ex), t.size ≤ m → Well t → Bal (tkI (wI t))
  | 0, t, h, _ => absurd t.size_pos (by omega)
  | m + 1, t, hm, hw => by
    have ih : ∀ u ∈ t.args, Bal (tkI (wI u)) := fun u hu => bal_w m u (by have := kid_lt hu; omega) (hw.kid hu)
    rcases look hw with ⟨n, rfl, hn⟩ | ⟨l, rfl, h8⟩ | ⟨l, rfl, h8, hl⟩ | ⟨v, l, a, b, rfl, hv, hl⟩ | ⟨a, rfl⟩ | ⟨a, b, c, rfl⟩ | ⟨l, us, rfl, hn, hl⟩
    · show Bal (tkI (comb 1 (ns (bs [])) (n : Int) []))
      unfold comb
      rw [if_pos rfl]
      exact .one (vl_k (by decide))
    · show Bal (tkI (comb 2 (ns (bs l)) 0 []))
      unfold comb
      rw [if_neg (by decide), if_pos rfl]
      exact .one (vl_k (by decide))
    · show Bal (tkI (comb 3 (ns (bs l)) 0 []))
      unfold comb
      rw [if_neg (by decide), if_neg (by decide), if_pos rfl]
      exact .one (vl_k (by decide))
    · rw [(own_bin hv hl).2, tkI_app, tkI_app]
      have ha := ih a (by simp [callE, Ex.args])
      have hb := ih b (by simp [callE, Ex.args])
      have e1 : Bal (tkI [none, some (lvlK v, l, 0), none]) := .one (x := (lvlK v, l, 0)) (vl_op hv hl)
      exact (ha.brI.app e1).app hb.brI
    · rw [(own_neg a).2, tkI_app]
      have ha := ih a (by simp [callE, Ex.args])
      have e1 : Bal (tkI [some (4, wNot, 0), none]) := .one (x := (4, wNot, 0)) (vl_k (by decide))
      exact e1.app ha.brI
    · rw [(own_cut a b c).2]
      simp only [tkI_app]
      have ha := ih a (by simp [callE, Ex.args])
      have hb := ih b (by simp [callE, Ex.args])
      have hc := ih c (by simp [callE, Ex.args])
      have e1 : Bal (tkI [sgT [91]]) := .one (x := (5, [91], 0)) (by decide)
      have e2 : Bal (tkI [sgT [58]]) := .one (x := (5, [58], 0)) (by decide)
      have e3 : Bal (tkI [sgT [93]]) := .one (x := (5, [93], 0)) (by decide)
      exact ((((ha.brI.app e1).app hb).app e2).app hc).app e3
    · rw [(own_app hn hl).2]
      have hj := Bal.join us (fun u hu => ih u (by simpa [callE, Ex.args] using hu))
      have : tkI ([some (4, l, 0), sgT [40]] ++ joinI (wIs us) ++ [sgT [41]]) = [(4, l, 0)] ++ ((5, [40], 0) :: (tkI (joinI (wIs us)) ++ [(5, [41], 0)])) := by
        rw [tkI_app, tkI_app]; rfl
      rw [this]
      exact (Bal.one (vl_k (by decide))).app hj.wrap

/-- the place of the bracket that closes, o brackets being open -/
def clP : List TkK → Nat → Nat → Option Nat
  | [], _, _ => none
  | x :: r, j, o => if x = (5, [40], 0) then clP r (j + 1) (o + 1) else if x = (5, [41], 0) then (if o = 1 then some j else clP r (j + 1) (o - 1)) else clP r (j + 1) o
theorem clP_some : ∀ (r : List TkK) (j o : Nat), 1 ≤ o → (o : Int) + smB r ≤ 0 → ∃ k, clP r j o = some (j + k) ∧ r[k]? = some (5, [41], 0)
  | [], j, o, h1, h => by simp only [smB] at h; omega
  | x :: r, j, o, h1, h => by
    simp only [smB] at h
    unfold clP
    by_cases e1 : x = (5, [40], 0)
    · rw [if_pos e1]
      have hv : vlB x = 1 := by unfold vlB; rw [if_pos e1]
      obtain ⟨k, g1, g2⟩ := clP_some r (j + 1) (o + 1) (by omega) (by omega)
      exact ⟨k + 1, by rw [g1]; congr 1; omega, by simpa using g2⟩
    · rw [if_neg e1]
      by_cases e2 : x = (5, [41], 0)
      · rw [if_pos e2]
        have hv : vlB x = -1 := by unfold vlB; rw [if_neg e1, if_pos e2]
        by_cases e3 : o = 1
        · exact ⟨0, by rw [if_pos e3]; rfl, by rw [e2]; rfl⟩
        · rw [if_neg e3]
          obtain ⟨k, g1, g2⟩ := clP_some r (j + 1) (o - 1) (by omega) (by omega)
          exact ⟨k + 1, by rw [g1]; congr 1; omega, by simpa using g2⟩
      · rw [if_neg e2]
        have hv : vlB x = 0 := by unfold vlB; rw [if_neg e1, if_neg e2]
        obtain ⟨k, g1, g2⟩ := clP_some r (j + 1) o h1 (by omega)
        exact ⟨k + 1, by rw [g1]; congr 1; omega, by simpa using g2⟩
/-- a bracket of a formatted text is closed behind it -/
theorem clP_w {t : Ex} (hw : Well t) {i : Nat} (hi : (tkI (wI t))[i]? = some (5, [40], 0)) : ∃ k, clP ((tkI (wI t)).drop i) i 0 = some k ∧ i < k ∧ (tkI (wI t))[k]? = some (5, [41], 0) := by
  have hb := bal_w t.size t (Nat.le_refl _) hw
  obtain ⟨L, hL⟩ : ∃ L, L = tkI (wI t) := ⟨_, rfl⟩
  rw [← hL] at hb hi ⊢
  have hlt : i < L.length := (List.getElem?_eq_some_iff.1 hi).1
  have hx : L[i] = (5, [40], 0) := (List.getElem?_eq_some_iff.1 hi).2
  have hd : L.drop i = (5, [40], 0) :: L.drop (i + 1) := by rw [List.drop_eq_getElem_cons hlt, hx]
  have hs : smB (L.take i) + (1 + smB (L.drop (i + 1))) = 0 := by
    have h := hb.tot
    rw [← List.take_append_drop i L, smB_app, hd] at h
    exact h
  have hp := hb.pre i
  rw [hd]
  unfold clP
  rw [if_pos rfl]
  obtain ⟨k, g1, g2⟩ := clP_some (L.drop (i + 1)) (i + 1) (0 + 1) (by omega) (by omega)
  exact ⟨i + 1 + k, g1, by omega, by rw [List.getElem?_drop] at g2; exact g2⟩

end Go.Proofs.YtpabngicbfcdkaaDoor

/- The tokens of a formatted text, as they lie in memory; pieces of the text; name and closing of the laws. -/
namespace Go.Proofs.YtpabngicbfcdkaaDoor
open Go.RowKit
set_option linter.unusedVariables false
set_option linter.unusedSimpArgs false

theorem cellsT_at : ∀ (ts : List Tk) (i : Nat) (t : Tk), ts[i]? = some t → (cellsT ts)[i * 4]? = some (.int .i64 (t.1.1 : Nat)) ∧ (cellsT ts)[i * 4 + 1]? = some (.string (bs t.1.2.1)) ∧ (cellsT ts)[i * 4 + 2]? = some (.int .i64 (t.1.2.2 : Nat)) ∧ (cellsT ts)[i * 4 + 3]? = some (.int .i64 (t.2 : Nat))
  | [], i, t, h => by cases h
  | x :: r, 0, t, h => by simp at h; subst h; exact ⟨rfl, rfl, rfl, rfl⟩
  | x :: r, i + 1, t, h => by
    have := cellsT_at r i t (by simpa using h)
    have e : cellsT (x :: r) = [.int .i64 (x.1.1 : Nat), .string (bs x.1.2.1), .int .i64 (x.1.2.2 : Nat), .int .i64 (x.2 : Nat)] ++ cellsT r := rfl
    have g : ∀ k, (cellsT (x :: r))[(i + 1) * 4 + k]? = (cellsT r)[i * 4 + k]? := fun k => by
      rw [e, List.getElem?_append_right (by simp; omega)]
      congr 1; simp; omega
    obtain ⟨t0, t1, t2, t3⟩ := this
    have g0 := g 0
    simp only [Nat.add_zero] at g0
    exact ⟨by rw [g0]; exact t0, by rw [g 1]; exact t1, by rw [g 2]; exact t2, by rw [g 3]; exact t3⟩
theorem row_tok {w : World} {B e a c : Nat} {ad : Option Addr} {ts : List Tk} (h : Row w B e 4 (.slice ad ts.length c) ts.length (cellsT ts)) {i : Nat} {t : Tk} (ht : ts[i]? = some t) :
    ∃ b, ad = some ⟨b, 0, none⟩ ∧ B ≤ b ∧ w.cell? ⟨b, i * 4, none⟩ = some (.int .i64 (t.1.1 : Nat)) ∧ w.cell? ⟨b, i * 4 + 1, none⟩ = some (.string (bs t.1.2.1)) ∧ w.cell? ⟨b, i * 4 + 2, none⟩ = some (.int .i64 (t.1.2.2 : Nat)) ∧ w.cell? ⟨b, i * 4 + 3, none⟩ = some (.int .i64 (t.2 : Nat)) := by
  obtain ⟨g0, g1, g2, g3⟩ := cellsT_at ts i t ht
  have hi := (List.getElem?_eq_some_iff.1 ht).1
  rcases h.2 with ⟨hv, hn⟩ | ⟨g, cap, cur, hv, hb, _⟩
  · omega
  · cases hv
    have hl := h.1
    refine ⟨g, rfl, hb, ?_, ?_, ?_, ?_⟩
    · rw [World.ownsRow.cellAt h _ (by omega)]; exact g0
    · rw [World.ownsRow.cellAt h _ (by omega)]; exact g1
    · rw [World.ownsRow.cellAt h _ (by omega)]; exact g2
    · rw [World.ownsRow.cellAt h _ (by omega)]; exact g3
/-- tokens as they lie in a block -/
structure TKs (w : World) (b : Nat) (ts : List Tk) : Prop where
  at_ : ∀ (i : Nat) (t : Tk), ts[i]? = some t → w.cell? ⟨b, i * 4, none⟩ = some (.int .i64 (t.1.1 : Nat)) ∧ w.cell? ⟨b, i * 4 + 1, none⟩ = some (.string (bs t.1.2.1)) ∧ w.cell? ⟨b, i * 4 + 2, none⟩ = some (.int .i64 (t.1.2.2 : Nat)) ∧ w.cell? ⟨b, i * 4 + 3, none⟩ = some (.int .i64 (t.2 : Nat))
theorem TKs.below {w w' b ts} (h : TKs w b ts) (hb : Below w.heap.size w w') : TKs w' b ts :=
  ⟨fun i t ht => by
    obtain ⟨h0, h1, h2, h3⟩ := h.at_ i t ht
    exact ⟨below_cell hb h0, below_cell hb h1, below_cell hb h2, below_cell hb h3⟩⟩
/-- Tokens, of a formatted text -/
theorem toks_of {t : Ex} (hw : Well t) (hl : (txI (wI t)).length ≤ 4096) (S : ByteArray) (hS : S = bs (txI (wI t))) (w : World) : Calls Tryd.prog 17 #[.string S] w fun e w' => ∃ b c, e = .returned (.tuple #[.slice (some ⟨b, 0, none⟩) (atI 0 (wI t)).length c, .nilIface]) ∧ TKs w' b (atI 0 (wI t)) ∧ Below w.heap.size w w' := by
  have hs : S.size ≤ 4096 := by rw [hS, fm_size hw]; exact hl
  refine (tokens_any S w (by omega)).mono ?_
  rintro e w' ⟨h, hb⟩
  have ht : toksP (ns S) = some (atI 0 (wI t)) := by rw [hS, ns_fm hw]; exact toks_fm hw
  rcases h with ⟨h, -⟩ | ⟨-, h, -⟩ | ⟨-, ts, a, c, h, -, rfl, hr⟩
  · omega
  · rw [ht] at h; cases h
  · rw [ht] at h
    cases h
    obtain ⟨x, r, e0⟩ := wI_head hw
    have h0 : (atI 0 (wI t))[0]? = some (x, 0) := by rw [e0]; rfl
    obtain ⟨b, rfl, -, -⟩ := row_tok (a := 0) hr h0
    refine ⟨b, c, rfl, ⟨fun i y hy => ?_⟩, hb⟩
    obtain ⟨b', hb', -, h1, h2, h3, h4⟩ := row_tok (a := 0) hr hy
    cases hb'
    exact ⟨h1, h2, h3, h4⟩

/-- where a token stands -/
theorem atI_bd : ∀ (l : List It) (o : Nat) (y : Tk), y ∈ atI o l → o ≤ y.2 ∧ y.2 + (tb y.1).length ≤ o + (txI l).length
  | [], o, y, h => by cases h
  | none :: r, o, y, h => by
    have := atI_bd r (o + 1) y h
    have e : txI (none :: r) = 32 :: txI r := rfl
    rw [e, List.length_cons]; omega
  | some t :: r, o, y, h => by
    have e : txI (some t :: r) = tb t ++ txI r := rfl
    rw [e, List.length_append]
    rcases List.mem_cons.1 h with rfl | h
    · simp only; omega
    · have := atI_bd r (o + (tb t).length) y h
      omega
theorem at_mono {l : List It} {i : Nat} {x y : Tk} (hi : (atI 0 l)[i]? = some x) (hj : (atI 0 l)[i + 1]? = some y) : x.2 ≤ y.2 := by
  obtain ⟨A, R, h1, h2, h3, h4⟩ := at_split _ _ _ _ hi
  rw [h4, List.getElem?_append_right (by omega), h3, show i + 1 - i = 0 + 1 by omega, List.getElem?_cons_succ] at hj
  have := (atI_bd _ _ _ (List.mem_of_getElem? hj)).1
  omega

/-- the end of a token's piece of the text -/
def pend (T : List Nat) (ts : List Tk) (j : Nat) : Nat := match ts[j + 1]? with
  | some y => y.2
  | none => T.length
def pce (k : Nat) (T : List Nat) (ts : List Tk) (j : Nat) : List Nat := match ts[j]? with
  | some x => (T.drop x.2).take (pend T ts j - x.2) ++ blX (j + k)
  | none => []
def pcu (k : Nat) (T : List Nat) (ts : List Tk) : Nat → List Nat
  | 0 => []
  | i + 1 => pcu k T ts i ++ pce k T ts i
theorem pcs_pcu (k : Nat) (T : List Nat) (ts : List Tk) : ∀ (d j : Nat), j + d = ts.length → pcu k T ts j ++ pcs k T j (ts.drop j) = pcu k T ts ts.length
  | 0, j, h => by
    have : ts.drop j = [] := List.drop_eq_nil_of_le (by omega)
    rw [this]; simp only [pcs, List.append_nil]; rw [show j = ts.length by omega]
  | d + 1, j, h => by
    have hj : j < ts.length := by omega
    have ih := pcs_pcu k T ts d (j + 1) (by omega)
    have e1 : ts[j]? = some ts[j] := List.getElem?_eq_getElem hj
    have ed : ts.drop j = ts[j] :: ts.drop (j + 1) := List.drop_eq_getElem_cons hj
    rw [← ih]
    simp only [pcu, List.append_assoc]
    congr 1
    have e2 : pce k T ts j = (T.drop ts[j].2).take (pend T ts j - ts[j].2) ++ blX (j + k) := by unfold pce; rw [e1]
    rw [e2, ed]
    by_cases hn : j + 1 < ts.length
    · have e3 : ts[j + 1]? = some ts[j + 1] := List.getElem?_eq_getElem hn
      have e4 : ts.drop (j + 1) = ts[j + 1] :: ts.drop (j + 1 + 1) := List.drop_eq_getElem_cons hn
      have e5 : pend T ts j = ts[j + 1].2 := by unfold pend; rw [e3]
      rw [e5, e4]
      simp only [pcs, List.append_assoc]
    · have e3 : ts[j + 1]? = none := List.getElem?_eq_none (by omega)
      have e4 : ts.drop (j + 1) = [] := List.drop_eq_nil_of_le (by omega)
      have e5 : pend T ts j = T.length := by unfold pend; rw [e3]
      rw [e5, e4]
      simp only [pcs, List.append_nil]
      rw [List.take_of_length_le (by simp)]
theorem pcs_all' (k : Nat) (T : List Nat) (ts : List Tk) : pcs k T 0 ts = pcu k T ts ts.length := by
  have := pcs_pcu k T ts ts.length 0 (by omega)
  simpa [pcu] using this
theorem pcu_8 {k : Nat} {T : List Nat} (ts : List Tk) (hT : ∀ c ∈ T, c < 256) : ∀ i, ∀ c ∈ pcu k T ts i, c < 256
  | 0, c, h => by cases h
  | i + 1, c, h => by
    rcases List.mem_append.1 h with h | h
    · exact pcu_8 ts hT i c h
    · unfold pce at h
      split at h
      · rcases List.mem_append.1 h with h | h
        · exact hT c (List.mem_of_mem_drop (List.mem_of_mem_take h))
        · exact ((blX_ok _).2.2 c h).2.2
      · cases h
theorem pcu_len {k : Nat} {T : List Nat} (ts : List Tk) : ∀ i, (pcu k T ts i).length ≤ i * (T.length + 2)
  | 0 => by simp [pcu]
  | i + 1 => by
    have ih := pcu_len (k := k) (T := T) ts i
    have : (pce k T ts i).length ≤ T.length + 2 := by
      unfold pce
      split
      · have := (blX_ok (i + k)).2.1
        simp only [List.length_append, List.length_take, List.length_drop]; omega
      · simp
    simp only [pcu, List.length_append]
    have e : (i + 1) * (T.length + 2) = i * (T.length + 2) + (T.length + 2) := Nat.succ_mul ..
    omega
theorem atI_len : ∀ (l : List It) (o : Nat), (∀ t, some t ∈ l → tb t ≠ []) → (atI o l).length ≤ (txI l).length
  | [], _, _ => Nat.le_refl _
  | none :: r, o, h => by
    have := atI_len r (o + 1) (fun t ht => h t (List.mem_cons_of_mem _ ht))
    have e : txI (none :: r) = 32 :: txI r := rfl
    rw [e, List.length_cons]
    show (atI (o + 1) r).length ≤ _
    omega
  | some t :: r, o, h => by
    have := atI_len r (o + (tb t).length) (fun t ht => h t (List.mem_cons_of_mem _ ht))
    have e : txI (some t :: r) = tb t ++ txI r := rfl
    have h1 := List.length_pos_iff.2 (h t (List.mem_cons_self ..))
    rw [e, List.length_append]
    show ((t, o) :: atI (o + (tb t).length) r).length ≤ _
    rw [List.length_cons]; omega
theorem ntoks {t : Ex} (hw : Well t) : (atI 0 (wI t)).length ≤ (txI (wI t)).length :=
  atI_len _ _ (fun x hx => (tb_pos (OkI_gd (OkI_w t.size t (Nat.le_refl _) hw) x hx)).1)

end Go.Proofs.YtpabngicbfcdkaaDoor

/- name and closing of the laws: the walks. -/
namespace Go.Proofs.YtpabngicbfcdkaaDoor
open Go.RowKit
set_option linter.unusedVariables false
set_option linter.unusedSimpArgs false

theorem goodT_8 {t : TkK} (h : goodT t) : ∀ c ∈ t.2.1, c < 256 := by
  obtain ⟨k, l, n⟩ := t
  rcases h with ⟨h1, h2, h3⟩ | ⟨h1, h2, h3⟩ | ⟨h1, h2, h3, h4⟩ | ⟨h1, h2, h3, h4⟩ | ⟨h1, h2, h3⟩
  all_goals simp only at h1 h2 h3
  · rw [h2]; intro c hc; cases hc
  · exact h3
  · simp only at h4
    intro c hc
    have := List.all_eq_true.1 h4 c hc
    simp [refB, letB, digB] at this; omega
  · simp only at h4
    intro c hc
    have := List.all_eq_true.1 h4 c hc
    simp [letB] at this; omega
  · have : ∀ l ∈ [[43, 43], [61, 61], [33, 61], [60, 61], [43], [45], [42], [60], [40], [41], [91], [93], [58], [44]], ∀ c ∈ l, c < 256 := by decide
    exact this l h3
theorem goodT_5 {t : TkK} (h : goodT t) (h5 : t.1 = 5) : t = (5, t.2.1, 0) := by
  obtain ⟨k, l, n⟩ := t
  rcases h with ⟨h1, h2, h3⟩ | ⟨h1, h2, h3⟩ | ⟨h1, h2, h3, h4⟩ | ⟨h1, h2, h3, h4⟩ | ⟨h1, h2, h3⟩
  all_goals simp only at h1 h2 h3 h5
  all_goals first
    | omega
    | (subst h5; subst h2; rfl)
theorem bs_eq {l m : List Nat} (hl : ∀ c ∈ l, c < 256) (M : List UInt8) (hM : M.map (·.toNat) = m) : ((bs l).toList == M) = decide (l = m) := by
  rw [str_lit, ns_bs' hl, hM]
def nmB (x : TkK) : Bool := decide (x.1 = 4) && !decide (x.2.1 = [97, 110, 100]) && !decide (x.2.1 = [111, 114]) && !decide (x.2.1 = [110, 111, 116])

set_option maxRecDepth 100000 in
set_option maxHeartbeats 2000000 in
theorem nameL_any (x : Tk) (hg : goodT x.1) (w : World) : Calls Tryd.prog 18 #[.agg #[.int .i64 (x.1.1 : Nat), .string (bs x.1.2.1), .int .i64 (x.1.2.2 : Nat), .int .i64 (x.2 : Nat)]] w fun e w' => e = .returned (.bool (nmB x.1)) ∧ Below w.heap.size w w' := by
  obtain ⟨w1, hw1⟩ : ∃ w1, w1 = w.alloc (.cells #[.int .i64 (x.1.1 : Nat), .string (bs x.1.2.1), .int .i64 (x.1.2.2 : Nat), .int .i64 (x.2 : Nat)] 48) := ⟨_, rfl⟩
  obtain ⟨g, hgg⟩ : ∃ g, g = w.heap.size := ⟨_, rfl⟩
  have HB1 : Hid (Below w.heap.size w w1) := Lib.hid (by rw [hw1]; exact below_alloc _ _)
  obtain ⟨k, hk⟩ : ∃ k, k = x.1.1 := ⟨_, rfl⟩
  obtain ⟨s, hs⟩ : ∃ s, s = bs x.1.2.1 := ⟨_, rfl⟩
  have c0 : w1.cell? ⟨g, 0, none⟩ = some (.int .i64 (k : Nat)) := by rw [hw1, hgg, hk]; simp
  have c1 : w1.cell? ⟨g, 1, none⟩ = some (.string s) := by rw [hw1, hgg, hs]; simp
  have h8 := goodT_8 hg
  have s1 : (s.toList == [97, 110, 100]) = decide (x.1.2.1 = [97, 110, 100]) := by rw [hs]; exact bs_eq h8 _ rfl
  have s2 : (s.toList == [111, 114]) = decide (x.1.2.1 = [111, 114]) := by rw [hs]; exact bs_eq h8 _ rfl
  have s3 : (s.toList == [110, 111, 116]) = decide (x.1.2.1 = [110, 111, 116]) := by rw [hs]; exact bs_eq h8 _ rfl
  have HW1 := Lib.hid hw1
  have HGG := Lib.hid hgg
  rw [← hk, ← hs] at HW1 ⊢
  have HE : Hid (nmB x.1 = (decide (k = 4) && !decide (x.1.2.1 = [97, 110, 100]) && !decide (x.1.2.1 = [111, 114]) && !decide (x.1.2.1 = [110, 111, 116]))) := Lib.hid (by rw [hk]; rfl)
  clear hw1 hgg h8 hk hs
  by_cases k4 : k = 4
  rotate_left
  · have q0 : ((k : Int) == 4) = false := by rw [beq_eq_false_iff_ne]; omega
    have q00 : (k == 4) = false := by rw [beq_eq_false_iff_ne]; exact k4
    have HR : Hid (nmB x.1 = false) := Lib.hid (by rw [HE.out]; simp [k4])
    clear k4 s1 s2 s3
    go_enter Tryd.func18, Tryd.ntmps18
    go_upto_region 1 with fail
    rw [← HW1.out, ← HGG.out]
    go_wp2
    go_ret
    exact ⟨by rw [HR.out]; rfl, HB1.out⟩
  subst k4
  have HW1 : Hid (w1 = w.alloc (.cells #[.int .i64 4, .string s, .int .i64 (x.1.2.2 : Nat), .int .i64 (x.2 : Nat)] 48)) := Lib.hid HW1.out
  have c0 : w1.cell? ⟨g, 0, none⟩ = some (.int .i64 4) := c0
  by_cases e1 : x.1.2.1 = [97, 110, 100]
  · rw [decide_eq_true e1] at s1
    have r1 : (s.toList != [97, 110, 100]) = false := by unfold bne; rw [s1]; rfl
    have HR : Hid (nmB x.1 = false) := Lib.hid (by rw [HE.out]; simp [e1])
    clear e1 s2 s3
    go_enter Tryd.func18, Tryd.ntmps18
    go_upto_region 1 with fail
    rw [← HW1.out, ← HGG.out]
    go_wp2
    go_ret
    exact ⟨by rw [HR.out]; rfl, HB1.out⟩
  rw [decide_eq_false e1] at s1
  have r1 : (s.toList != [97, 110, 100]) = true := by unfold bne; rw [s1]; rfl
  by_cases e2 : x.1.2.1 = [111, 114]
  · rw [decide_eq_true e2] at s2
    have r2 : (s.toList != [111, 114]) = false := by unfold bne; rw [s2]; rfl
    have HR : Hid (nmB x.1 = false) := Lib.hid (by rw [HE.out]; simp [e2])
    clear e1 e2 s3
    go_enter Tryd.func18, Tryd.ntmps18
    go_upto_region 1 with fail
    rw [← HW1.out, ← HGG.out]
    go_wp2
    go_ret
    exact ⟨by rw [HR.out]; rfl, HB1.out⟩
  rw [decide_eq_false e2] at s2
  have r2 : (s.toList != [111, 114]) = true := by unfold bne; rw [s2]; rfl
  by_cases e3 : x.1.2.1 = [110, 111, 116]
  · rw [decide_eq_true e3] at s3
    have r3 : (s.toList != [110, 111, 116]) = false := by unfold bne; rw [s3]; rfl
    have HR : Hid (nmB x.1 = false) := Lib.hid (by rw [HE.out]; simp [e3])
    clear e1 e2 e3 
    go_enter Tryd.func18, Tryd.ntmps18
    go_upto_region 1 with fail
    rw [← HW1.out, ← HGG.out]
    go_wp2
    go_ret
    exact ⟨by rw [HR.out]; rfl, HB1.out⟩
  rw [decide_eq_false e3] at s3
  have r3 : (s.toList != [110, 111, 116]) = true := by unfold bne; rw [s3]; rfl
  have HR : Hid (nmB x.1 = true) := Lib.hid (by rw [HE.out]; simp [e1, e2, e3])
  clear e1 e2 e3
  go_enter Tryd.func18, Tryd.ntmps18
  go_upto_region 1 with fail
  rw [← HW1.out, ← HGG.out]
  go_wp2
  go_ret
  exact ⟨by rw [HR.out]; rfl, HB1.out⟩

theorem clP_cons (x : TkK) (r : List TkK) (j o : Nat) : clP (x :: r) j o = if x = (5, [40], 0) then clP r (j + 1) (o + 1) else if x = (5, [41], 0) then (if o = 1 then some j else clP r (j + 1) (o - 1)) else clP r (j + 1) o := rfl

set_option maxRecDepth 100000 in
set_option maxHeartbeats 4000000 in
theorem closing_any (ts : List Tk) (hl : ts.length ≤ 1000000) (b c : Nat) (w : World) (h : TKs w b ts) (hg : ∀ (i : Nat) (x : Tk), ts[i]? = some x → goodT x.1) (i k : Nat) (hi : (ts.map (·.1))[i]? = some (5, [40], 0)) (hk : clP ((ts.map (·.1)).drop i) i 0 = some k) :
    Calls Tryd.prog 19 #[.slice (some ⟨b, 0, none⟩) ts.length c, .int .i64 (i : Nat)] w fun e w' => e = .returned (.int .i64 (k : Nat)) ∧ w = w' := by
  obtain ⟨N, hN⟩ : ∃ N, N = ts.length := ⟨_, rfl⟩
  have HT := Lib.hid h
  have HG := Lib.hid hg
  have HI := Lib.hid hi
  have HN := Lib.hid hN
  have HK := Lib.hid hk
  rw [← hN]
  have hN9 : (N : Int) ≤ 1000000 := by omega
  have hiN : i ≤ N := by
    have := (List.getElem?_eq_some_iff.1 hi).1
    rw [List.length_map] at this; omega
  have HIN := Lib.hid hiN
  clear h hg hi hk hN hl hiN
  go_enter Tryd.func19, Tryd.ntmps19
  go_wp2
  go_loopw [1, 5] (fun jv ov wr => ∃ j o : Nat, jv = .int .i64 j ∧ ov = .int .i64 o ∧ i ≤ j ∧ j ≤ N ∧ o ≤ j ∧ (j = i ∧ o = 0 ∨ 1 ≤ o) ∧ clP ((ts.map (·.1)).drop j) j o = some k ∧ w = wr) (fun jv _ _ => N - (intOf jv).toNat)
  case atStart => exact ⟨i, 0, rfl, rfl, Nat.le_refl _, HIN.out, by omega, .inl ⟨rfl, rfl⟩, HK.out, rfl⟩
  case round =>
    obtain ⟨j, o, rfl, rfl, hij, hj, hoj, hst, hcl, rfl⟩ := hrel
    have hjN : j < N := by
      apply Nat.lt_of_le_of_ne hj
      intro e
      rw [List.drop_eq_nil_of_le (by rw [List.length_map]; have := HN.out; omega)] at hcl
      cases hcl
    obtain ⟨x, hx⟩ : ∃ x, ts[j]? = some x := ⟨_, List.getElem?_eq_getElem (by have := HN.out; omega)⟩
    have hxm : (ts.map (·.1))[j]? = some x.1 := by rw [List.getElem?_map, hx]; rfl
    have hd : (ts.map (·.1)).drop j = x.1 :: (ts.map (·.1)).drop (j + 1) := by
      obtain ⟨h1, h2⟩ := List.getElem?_eq_some_iff.1 hxm
      rw [List.drop_eq_getElem_cons h1, h2]
    rw [hd, clP_cons] at hcl
    obtain ⟨c0, c1, c2, c3⟩ := HT.out.at_ j x hx
    have hgx := HG.out j x hx
    have h8 := goodT_8 hgx
    have hji : (j : Int) < (N : Int) := by omega
    have hoi : (o : Int) ≤ 1000000 := by omega
    have hjI : (j : Int) ≤ 1000000 := by omega
    obtain ⟨kd, hkd⟩ : ∃ kd, kd = x.1.1 := ⟨_, rfl⟩
    obtain ⟨s, hs⟩ : ∃ s, s = bs x.1.2.1 := ⟨_, rfl⟩
    rw [← hkd] at c0
    rw [← hs] at c1
    have s1 : (s.toList == [40]) = decide (x.1.2.1 = [40]) := by rw [hs]; exact bs_eq h8 _ rfl
    have s2 : (s.toList == [41]) = decide (x.1.2.1 = [41]) := by rw [hs]; exact bs_eq h8 _ rfl
    have HJ : Hid (i ≤ j ∧ j < N ∧ o ≤ j) := Lib.hid ⟨hij, hjN, hoj⟩
    by_cases k5 : kd = 5
    · have hx5 := goodT_5 hgx (by omega)
      subst k5
      by_cases e1 : x.1.2.1 = [40]
      · have hc2 : clP ((ts.map (·.1)).drop (j + 1)) (j + 1) (o + 1) = some k := by
          rw [if_pos (by rw [hx5, e1])] at hcl; exact hcl
        have HC2 := Lib.hid hc2
        rw [decide_eq_true e1] at s1
        have s2' : (s.toList == [41]) = false := by rw [s2, e1]; rfl
        clear hcl hc2 hx hxm hd hgx h8 hkd hs e1 s2 hx5 hst hij hj hoj hjN
        go_wp2
        exact ⟨⟨j + 1, o + 1, by go_num, by go_num, by have := HJ.out; omega, by have := HJ.out; omega, by have := HJ.out; omega, .inr (by omega), HC2.out, trivial⟩, by have := HJ.out; simp only [intOf]; omega⟩
      · rw [if_neg (by intro e; rw [hx5] at e; exact e1 (by simpa using e))] at hcl
        by_cases e2 : x.1.2.1 = [41]
        · rw [if_pos (by rw [hx5, e2])] at hcl
          have ho1 : 1 ≤ o := by
            rcases hst with ⟨rfl, rfl⟩ | h
            · have h1 := HI.out
              rw [hxm, hx5] at h1
              exact absurd (by simpa using h1) e1
            · exact h
          rw [decide_eq_false e1] at s1
          rw [decide_eq_true e2] at s2
          have hsub : (o : Int) - 1 = ((o - 1 : Nat) : Int) := by omega
          by_cases h1 : o = 1
          · subst h1
            rw [if_pos rfl] at hcl
            cases hcl
            clear hx hxm hd hgx h8 hkd hs e1 e2 hx5 hst hij hj hoj hjN ho1
            go_wp2
            go_ret
            exact ⟨rfl, rfl⟩
          · rw [if_neg h1] at hcl
            have HC2 := Lib.hid hcl
            have HO : Hid (2 ≤ o) := Lib.hid (by omega)
            obtain ⟨o1, ho⟩ : ∃ o1, o1 = o - 1 := ⟨_, rfl⟩
            rw [← ho] at hsub HC2
            have HO1 : Hid (1 ≤ o1 ∧ o1 ≤ j) := Lib.hid (by omega)
            have z0 : ((o1 : Int) == 0) = false := by rw [beq_eq_false_iff_ne]; omega
            have z1 : (o1 == 0) = false := by rw [beq_eq_false_iff_ne]; omega
            have z2 : ¬ (o1 : Int) = 0 := by omega
            have z3 : (o1 : Int) ≤ 1000000 := by omega
            clear hcl hx hxm hd hgx h8 hkd hs e1 e2 hx5 hst hij hj hoj hjN ho1 ho h1
            go_wp2
            exact ⟨⟨j + 1, o1, by go_num, rfl, by have := HJ.out; omega, by have := HJ.out; omega, by have := HO1.out; omega, .inr HO1.out.1, HC2.out, trivial⟩, by have := HJ.out; simp only [intOf]; omega⟩
        · rw [if_neg (by intro e; rw [hx5] at e; exact e2 (by simpa using e))] at hcl
          have HC2 := Lib.hid hcl
          have HST : Hid (1 ≤ o) := Lib.hid (by
            rcases hst with ⟨rfl, rfl⟩ | h
            · have h1 := HI.out
              rw [hxm, hx5] at h1
              exact absurd (by simpa using h1) e1
            · exact h)
          rw [decide_eq_false e1] at s1
          rw [decide_eq_false e2] at s2
          clear hcl hx hxm hd hgx h8 hkd hs e1 e2 hx5 hst hij hj hoj hjN
          go_wp2
          exact ⟨⟨j + 1, o, by go_num, rfl, by have := HJ.out; omega, by have := HJ.out; omega, by have := HJ.out; omega, .inr HST.out, HC2.out, trivial⟩, by have := HJ.out; simp only [intOf]; omega⟩
    · have n1 : ¬ x.1 = (5, [40], 0) := fun e => k5 (by rw [hkd, e])
      have n2 : ¬ x.1 = (5, [41], 0) := fun e => k5 (by rw [hkd, e])
      rw [if_neg n1, if_neg n2] at hcl
      have HC2 := Lib.hid hcl
      have HST : Hid (1 ≤ o) := Lib.hid (by
        rcases hst with ⟨rfl, rfl⟩ | h
        · have h1 := HI.out
          rw [hxm] at h1
          exact absurd (by simpa using h1) n1
        · exact h)
      have q5 : ((kd : Int) == 5) = false := by rw [beq_eq_false_iff_ne]; omega
      have q6 : (kd == 5) = false := by rw [beq_eq_false_iff_ne]; exact k5
      clear hcl hx hxm hd hgx h8 hkd hs hst hij hj hoj hjN k5 n1 n2 s1 s2
      go_wp2
      exact ⟨⟨j + 1, o, by go_num, rfl, by have := HJ.out; omega, by have := HJ.out; omega, by have := HJ.out; omega, .inr HST.out, HC2.out, trivial⟩, by have := HJ.out; simp only [intOf]; omega⟩

end Go.Proofs.YtpabngicbfcdkaaDoor

/- SyntaxLeast: the walk. -/
namespace Go.Proofs.YtpabngicbfcdkaaDoor
open Go.RowKit
set_option linter.unusedVariables false
set_option linter.unusedSimpArgs false

set_option maxRecDepth 100000 in
set_option maxHeartbeats 4000000 in
theorem walk_SyntaxLeast (a0 : Option Addr) (len0 cap0 : Nat) (l0 : List Nd) (W : World) (h0 : RdN W (fun b => b < W.heap.size) a0 len0 l0) (s0 : ∀ x ∈ l0, x.2.1.size ≤ 1048576) (ht : TAB W.heap.size W) :
    Calls Tryd.prog 6 #[.slice a0 len0 cap0] W fun e W' => e = .returned (.bool true) ∧ Below W.heap.size W W' := by
  have HT := Lib.hid (Tree_box a0 len0 cap0 l0 W h0 s0)
  have HTAB := Lib.hid ht
  have HAW := Lib.hid (fun (w : World) => awake_any w)
  clear h0 s0 ht
  go_enter Tryd.func6, Tryd.ntmps6
  go_upto_region 2 with (go_at_call 8; refine HT.out.mono ?_; rintro e w1 ⟨t, k1, m1, x1, n1, a1, c1, ok, rfl, htb⟩)
  obtain ⟨w2, hw2⟩ : ∃ w2, w2 = w1.alloc (.cells #[.int .i64 k1, .string x1, .int .i64 m1, .slice a1 n1 c1] 25) := ⟨_, rfl⟩
  obtain ⟨be, hbe⟩ : ∃ be, be = w1.heap.size := ⟨_, rfl⟩
  have HTB := Lib.hid (htb w2 be hw2 hbe)
  rw [← hw2, ← hbe]
  clear hw2 hbe htb
  obtain ⟨y0, y1, y2, y3⟩ := HTB.out.cl (Below.refl _ _)
  cases ok with
  | false =>
    go_wp2_with (go_at_call 11; refine (HAW.out _).mono ?_; rintro e w3 ⟨rfl, hb3⟩; have HB3 : Hid (Below w2.heap.size w2 w3) := Lib.hid (hb3); clear hb3; clear y0 y1 y2 y3; obtain ⟨y0, y1, y2, y3⟩ := HTB.out.cl HB3.out)
    refine bodyPost_ret (v := .bool true) (by simp [results, Tryd.results6, go_sem]; try rfl) rfl ?_
    exact ⟨rfl, bthen HTB.out.bw HB3.out⟩
  | true =>
    obtain ⟨hsz, hwt⟩ := HTB.out.sz rfl
    have HSZ := Lib.hid hsz
    have HF : Hid (∀ wx, Below w2.heap.size w2 wx → Calls Tryd.prog 9 #[.agg #[.int .i64 k1, .string x1, .int .i64 m1, .slice a1 n1 c1]] wx fun e w' => e = .returned (.tuple #[.string (bs (fmtP t).2), errN (fmtP t).1]) ∧ Below wx.heap.size wx w') := Lib.hid (fun wx hb => (HTB.out.tv.below hb).fmt (by omega) (HTB.out.tab HTAB.out hb))
    rcases fmtP_cases t with ⟨hnw, hf⟩ | ⟨hw, hf⟩ | ⟨hw, hd, hl, hf⟩
    · rw [hf, show bs (4, ([] : List Nat)).2 = ⟨#[]⟩ from rfl, show errN (4, ([] : List Nat)).1 = .iface 39 (.int .i64 4) from rfl] at HF
      have hne : ∀ w, (binOp .neq 29 (.iface 39 (.int .i64 4)) .nilIface).run Tryd.prog w = .ok (.bool true) w := fun w => by kernel_rfl
      clear hf hnw hsz hwt
      go_wp2_with (first
        | (go_at_call 9; refine (HF.out _ HB3.out).mono ?_; rintro e w4 ⟨rfl, hb4⟩; have HB4 : Hid (Below w2.heap.size w2 w4) := Lib.hid (bthen HB3.out hb4); clear hb4; clear y0 y1 y2 y3; obtain ⟨y0, y1, y2, y3⟩ := HTB.out.cl HB4.out)
        | (go_at_call 11; refine (HAW.out _).mono ?_; rintro e w3 ⟨rfl, hb3⟩; have HB3 : Hid (Below w2.heap.size w2 w3) := Lib.hid (hb3); clear hb3; clear y0 y1 y2 y3; obtain ⟨y0, y1, y2, y3⟩ := HTB.out.cl HB3.out))
      refine bodyPost_ret (v := .bool true) (by simp [results, Tryd.results6, go_sem]; try rfl) rfl ?_
      exact ⟨rfl, bthen HTB.out.bw HB4.out⟩
    · rw [hf, show bs (9, ([] : List Nat)).2 = ⟨#[]⟩ from rfl, show errN (9, ([] : List Nat)).1 = .iface 39 (.int .i64 9) from rfl] at HF
      have hne : ∀ w, (binOp .neq 29 (.iface 39 (.int .i64 9)) .nilIface).run Tryd.prog w = .ok (.bool true) w := fun w => by kernel_rfl
      clear hf hw hsz hwt
      go_wp2_with (first
        | (go_at_call 9; refine (HF.out _ HB3.out).mono ?_; rintro e w4 ⟨rfl, hb4⟩; have HB4 : Hid (Below w2.heap.size w2 w4) := Lib.hid (bthen HB3.out hb4); clear hb4; clear y0 y1 y2 y3; obtain ⟨y0, y1, y2, y3⟩ := HTB.out.cl HB4.out)
        | (go_at_call 11; refine (HAW.out _).mono ?_; rintro e w3 ⟨rfl, hb3⟩; have HB3 : Hid (Below w2.heap.size w2 w3) := Lib.hid (hb3); clear hb3; clear y0 y1 y2 y3; obtain ⟨y0, y1, y2, y3⟩ := HTB.out.cl HB3.out))
      refine bodyPost_ret (v := .bool true) (by simp [results, Tryd.results6, go_sem]; try rfl) rfl ?_
      exact ⟨rfl, bthen HTB.out.bw HB4.out⟩
    · obtain ⟨T, hT⟩ : ∃ T, T = txI (wI t) := ⟨_, rfl⟩
      obtain ⟨S, hS⟩ : ∃ S, S = bs (txI (wI t)) := ⟨_, rfl⟩
      have hSz : S.size = T.length := by rw [hS, hT, fm_size hw]
      rw [hf, show errN (0, txI (wI t)).1 = .nilIface from rfl, show (0, txI (wI t)).2 = txI (wI t) from rfl, ← hS] at HF
      by_cases h8 : 400 < S.size
      · have h8i : (400 : Int) < (S.size : Int) := by omega
        clear hf hS hT hSz h8 hd hl hw hsz hwt
        go_wp2_with (first
          | (go_at_call 9; refine (HF.out _ HB3.out).mono ?_; rintro e w4 ⟨rfl, hb4⟩; have HB4 : Hid (Below w2.heap.size w2 w4) := Lib.hid (bthen HB3.out hb4); clear hb4; clear y0 y1 y2 y3; obtain ⟨y0, y1, y2, y3⟩ := HTB.out.cl HB4.out)
          | (go_at_call 11; refine (HAW.out _).mono ?_; rintro e w3 ⟨rfl, hb3⟩; have HB3 : Hid (Below w2.heap.size w2 w3) := Lib.hid (hb3); clear hb3; clear y0 y1 y2 y3; obtain ⟨y0, y1, y2, y3⟩ := HTB.out.cl HB3.out))
        refine bodyPost_ret (v := .bool true) (by simp [results, Tryd.results6, go_sem]; try rfl) rfl ?_
        exact ⟨rfl, bthen HTB.out.bw HB4.out⟩
      have h8i : decide ((400 : Int) < (S.size : Int)) = false := decide_eq_false (by omega)
      have h8m : (S.size : Int) ≤ 400 := by omega
      obtain ⟨ts, hts⟩ : ∃ ts, ts = atI 0 (wI t) := ⟨_, rfl⟩
      obtain ⟨N, hN⟩ : ∃ N, N = ts.length := ⟨_, rfl⟩
      have HTK : Hid (∀ w, Calls Tryd.prog 17 #[.string S] w fun e w' => ∃ b c, e = .returned (.tuple #[.slice (some ⟨b, 0, none⟩) N c, .nilIface]) ∧ TKs w' b ts ∧ Below w.heap.size w w') := Lib.hid (fun w => by rw [hN, hts]; exact toks_of hw hl S hS w)
      have hN9 : N ≤ 400 := by have := ntoks hw; rw [← hts, ← hT, ← hN] at this; omega
      have hN9i : (N : Int) ≤ 400 := by omega
      have HMON : Hid (∀ (i : Nat) (x y : Tk), ts[i]? = some x → ts[i + 1]? = some y → x.2 ≤ y.2) := Lib.hid (fun i x y h1 h2 => by rw [hts] at h1 h2; exact at_mono h1 h2)
      have HBD : Hid (∀ (i : Nat) (x : Tk), ts[i]? = some x → x.2 ≤ S.size ∧ goodT x.1) := Lib.hid (fun i x h => by
        rw [hts] at h
        refine ⟨by have := (atI_bd _ _ _ (List.mem_of_getElem? h)).2; rw [hSz, hT]; omega, ?_⟩
        have h2 : x.1 ∈ tkI (wI t) := by rw [← atI_map _ 0]; exact List.mem_map.2 ⟨x, List.mem_of_getElem? h, rfl⟩
        have h3 : some x.1 ∈ wI t := by
          obtain ⟨z, hz, hzx⟩ := List.mem_filterMap.1 h2
          simp only [id] at hzx; rw [← hzx]; exact hz
        exact OkI_gd (OkI_w t.size t (Nat.le_refl _) hw) x.1 h3)
      have HT8 : Hid (∀ c ∈ T, c < 256) := Lib.hid (by rw [hT]; exact txI8 _ (OkI_w t.size t (Nat.le_refl _) hw))
      have HNS : Hid (ns S = T) := Lib.hid (by rw [hS, hT]; exact ns_fm hw)
      have HSZT := Lib.hid hSz
      have HNN := Lib.hid hN
      have HG : Hid (∀ (i : Nat) (x : Tk), ts[i]? = some x → goodT x.1) := Lib.hid (fun i x h => (HBD.out i x h).2)
      have HMT : Hid (ts.map (·.1) = tkI (wI t)) := Lib.hid (by rw [hts]; exact atI_map _ _)
      have HCLO : Hid (∀ (i : Nat) (x : Tk), ts[i]? = some x → x.1 = (5, [40], 0) → ∃ (k : Nat) (y : Tk), i < k ∧ ts[k]? = some y ∧ y.1 = (5, [41], 0) ∧ x.2 < y.2 ∧ y.2 < S.size ∧ parseP (bs (lessX T x.2 y.2)) ≠ (0, t) ∧
          ∀ (w : World) (b c : Nat), TKs w b ts → Calls Tryd.prog 19 #[.slice (some ⟨b, 0, none⟩) N c, .int .i64 (i : Nat)] w fun e w' => e = .returned (.int .i64 (k : Nat)) ∧ w = w') := Lib.hid (fun i x hx hx1 => by
        have h1 : (tkI (wI t))[i]? = some (5, [40], 0) := by rw [← HMT.out, List.getElem?_map, hx]; simp [hx1]
        obtain ⟨k, g1, g2, g3⟩ := clP_w hw h1
        rw [← HMT.out, List.getElem?_map] at g3
        obtain ⟨y, hy, hy1⟩ := Option.map_eq_some_iff.1 g3
        have hx' := hx
        have hy' := hy
        rw [hts] at hx' hy'
        obtain ⟨p1, p2, p3⟩ := less_not hw hx' hy' g2 hx1 hy1
        refine ⟨k, y, g2, hy, hy1, p1, by rw [hSz, hT]; exact p2, by rw [hT]; exact p3, fun w b c htk => ?_⟩
        rw [hN]
        exact closing_any ts (by omega) b c w htk HG.out i k (by rw [HMT.out]; exact h1) (by rw [HMT.out]; exact g1))
      have HSM : Hid (∀ (w : World) (u : Ex) (ku mu : Int) (xu : ByteArray) (nu : Nat) aa cc aa' cc', u.size ≤ 4097 → TrV 0 w u ku mu xu nu aa cc → TrV 0 w t k1 m1 x1 n1 aa' cc' → u ≠ t → Calls Tryd.prog 16 #[.agg #[.int .i64 ku, .string xu, .int .i64 mu, .slice aa nu cc], .agg #[.int .i64 k1, .string x1, .int .i64 m1, .slice aa' n1 cc']] w fun e w' => e = .returned (.bool false) ∧ Below w.heap.size w w') := Lib.hid (fun w u ku mu xu nu aa cc aa' cc' hz h h' hne => by
        have h1 := h.same h' (by omega) (by have := HSZ.out; omega)
        have h2 : exq u t = false := by
          cases hq : exq u t with
          | false => rfl
          | true => exact absurd ((exq_iff u t).1 hq) hne
        rw [h2] at h1
        exact h1)
      have HN9 := Lib.hid hN9
      have HTL : Hid (T.length ≤ 400) := Lib.hid (by omega)
      clear hf hS hT hSz h8 hd hl hw hsz hwt hts hN hN9
      go_wp2_with (first
        | (go_at_call 17; refine (HTK.out _).mono ?_; rintro e w5 ⟨b, tc, rfl, htk, hb5⟩; have HB5 : Hid (Below w2.heap.size w2 w5) := Lib.hid (bthen HB4.out hb5); have HTS := Lib.hid htk; clear htk hb5 y0 y1 y2 y3; obtain ⟨y0, y1, y2, y3⟩ := HTB.out.cl HB5.out)
        | (go_at_call 9; refine (HF.out _ HB3.out).mono ?_; rintro e w4 ⟨rfl, hb4⟩; have HB4 : Hid (Below w2.heap.size w2 w4) := Lib.hid (bthen HB3.out hb4); clear hb4; clear y0 y1 y2 y3; obtain ⟨y0, y1, y2, y3⟩ := HTB.out.cl HB4.out)
        | (go_at_call 11; refine (HAW.out _).mono ?_; rintro e w3 ⟨rfl, hb3⟩; have HB3 : Hid (Below w2.heap.size w2 w3) := Lib.hid (hb3); clear hb3; clear y0 y1 y2 y3; obtain ⟨y0, y1, y2, y3⟩ := HTB.out.cl HB3.out))
      go_loopw [9] (fun iv wr => ∃ i : Nat, iv = .int .i64 i ∧ i ≤ N ∧ Below w5.heap.size w5 wr) (fun iv _ => N - (intOf iv).toNat)
      case atStart => exact ⟨0, rfl, by omega, Below.refl _ _⟩
      case round =>
        obtain ⟨i, rfl, hi, hb⟩ := hrel
        have HB := Lib.hid hb
        have HBW : Hid (Below w2.heap.size w2 wr) := Lib.hid (bthen HB5.out hb)
        clear y0 y1 y2 y3
        have hiI : (i : Int) ≤ (N : Int) := by omega
        by_cases hiN : i = N
        · subst hiN
          clear hi hb
          go_wp2
          refine bodyPost_ret (v := .bool true) (by simp [results, Tryd.results6, go_sem]; try rfl) rfl ?_
          exact ⟨rfl, bthen HTB.out.bw HBW.out⟩
        have hii : (i : Int) < (N : Int) := by omega
        have hil : i < ts.length := by have := HNN.out; omega
        have HIN : Hid (i < N) := Lib.hid (by omega)
        obtain ⟨x, hx⟩ : ∃ x, ts[i]? = some x := ⟨_, List.getElem?_eq_getElem hil⟩
        have HX := Lib.hid hx
        have HTR := Lib.hid (HTS.out.below hb)
        obtain ⟨c0, c1, c2, c3⟩ := HTR.out.at_ i x hx
        have hgx := HG.out i x hx
        have h8 := goodT_8 hgx
        obtain ⟨kd, hkd⟩ : ∃ kd, kd = x.1.1 := ⟨_, rfl⟩
        obtain ⟨s, hs⟩ : ∃ s, s = bs x.1.2.1 := ⟨_, rfl⟩
        rw [← hkd] at c0
        rw [← hs] at c1
        have s1 : (s.toList == [40]) = decide (x.1.2.1 = [40]) := by rw [hs]; exact bs_eq h8 _ rfl
        by_cases k5 : kd = 5
        rotate_left
        · have q5 : ((kd : Int) == 5) = false := by rw [beq_eq_false_iff_ne]; omega
          have q6 : (kd == 5) = false := by rw [beq_eq_false_iff_ne]; exact k5
          have q7 : ((kd : Int) != 5) = true := by unfold bne; rw [q5]; rfl
          clear k5 hx hgx h8 hkd hs s1 hi hb hiN hil
          go_wp2
          exact ⟨⟨i + 1, by go_num, HIN.out, HB.out⟩, by have := HIN.out; simp only [intOf]; omega⟩
        have hx5 := goodT_5 hgx (by omega)
        subst k5
        by_cases e1 : x.1.2.1 = [40]
        rotate_left
        · rw [decide_eq_false e1] at s1
          have s2 : (s.toList != [40]) = true := by unfold bne; rw [s1]; rfl
          clear e1 hx hgx h8 hkd hs hi hb hiN hil hx5
          go_wp2
          exact ⟨⟨i + 1, by go_num, HIN.out, HB.out⟩, by have := HIN.out; simp only [intOf]; omega⟩
        rw [decide_eq_true e1] at s1
        have s2 : (s.toList != [40]) = false := by unfold bne; rw [s1]; rfl
        rw [e1] at hx5
        obtain ⟨k, y, hik, hy, hy1, hpq, hqs, hpar, hclo⟩ := HCLO.out i x hx hx5
        obtain ⟨d0, d1, d2, d3⟩ := HTR.out.at_ k y hy
        have HCL := Lib.hid hclo
        obtain ⟨p, hp⟩ : ∃ p, p = x.2 := ⟨_, rfl⟩
        obtain ⟨q, hq⟩ : ∃ q, q = y.2 := ⟨_, rfl⟩
        rw [← hp] at c3 hpq hpar
        rw [← hq] at d3 hpq hqs hpar
        obtain ⟨u, hu⟩ : ∃ u, u = (parseP (bs (lessX T p q))).2 := ⟨_, rfl⟩
        obtain ⟨cd, hcd⟩ : ∃ cd, cd = (parseP (bs (lessX T p q))).1 := ⟨_, rfl⟩
        have hcu : cd = 0 → u ≠ t := fun h e => hpar (by
          have e0 : parseP (bs (lessX T p q)) = (cd, u) := by rw [hcd, hu]
          rw [e0, h, e])
        have hus : u.size ≤ 4097 := by rw [hu]; exact parseP_size _
        have hTl := HTL.out
        have hls : (bs (lessX T p q)).size ≤ 1000000 := by
          have h88 : ∀ c ∈ lessX T p q, c < 256 := fun c hc => by
            unfold lessX at hc
            simp only [List.mem_append, List.mem_singleton] at hc
            rcases hc with (((h | h) | h) | h) | h
            · exact HT8.out c (List.mem_of_mem_take h)
            · omega
            · exact HT8.out c (List.mem_of_mem_drop (List.mem_of_mem_take h))
            · omega
            · exact HT8.out c (List.mem_of_mem_drop h)
          rw [bs_sz h88]
          unfold lessX
          simp only [List.length_append, List.length_take, List.length_drop, List.length_singleton]; omega
        obtain ⟨L, hL⟩ : ∃ L, L = bs (lessX T p q) := ⟨_, rfl⟩
        have HPA : Hid (∀ w, Calls Tryd.prog 15 #[.string L] w fun e w' => ∃ (ku mu : Int) (xu : ByteArray) (nu : Nat) (aa : Option Addr) (cc : Nat), e = .returned (.tuple #[.agg #[.int .i64 ku, .string xu, .int .i64 mu, .slice aa nu cc], errN cd]) ∧ TrV 0 w' u ku mu xu nu aa cc ∧ Below w.heap.size w w') := Lib.hid (fun w => by
          rw [hL]
          refine (parse_any _ w (by omega)).mono ?_
          rintro e w' ⟨aa, cc, rfl, h1, h2, h3⟩
          rw [hcd]
          exact ⟨u.kind, u.num, u.text, u.args.length, aa, cc, by rw [hu]; rfl, ⟨rfl, rfl, rfl, rfl, ⟨_, by rw [hu]; exact h2⟩, by rw [hu]; exact h1⟩, h3⟩)
        obtain ⟨P1, hP1⟩ : ∃ P1, P1 = p + 1 := ⟨_, rfl⟩
        obtain ⟨Q1, hQ1⟩ : ∃ Q1, Q1 = q + 1 := ⟨_, rfl⟩
        have HL2 : Hid (S.extract 0 p ++ ⟨#[32]⟩ ++ S.extract P1 q ++ ⟨#[32]⟩ ++ S.extract Q1 S.size = L) := Lib.hid (by
          have h88 : ∀ (A : List Nat), (∀ c ∈ A, c ∈ T) → ∀ c ∈ A, c < 256 := fun A h c hc => HT8.out c (h c hc)
          have f1 : S.extract 0 p = bs (T.take p) := by rw [ext_bs, HNS.out]; rfl
          have f2 : S.extract P1 q = bs ((T.drop (p + 1)).take (q - (p + 1))) := by rw [ext_bs, HNS.out, hP1]
          have f3 : S.extract Q1 S.size = bs (T.drop (q + 1)) := by
            rw [ext_bs, HNS.out, hQ1, List.take_of_length_le (by rw [List.length_drop, HSZT.out]; exact Nat.le_refl _)]
          have g1 : ∀ c ∈ T.take p, c < 256 := h88 _ (fun c hc => List.mem_of_mem_take hc)
          have g2 : ∀ c ∈ (T.drop (p + 1)).take (q - (p + 1)), c < 256 := h88 _ (fun c hc => List.mem_of_mem_drop (List.mem_of_mem_take hc))
          have g3 : ∀ c ∈ T.drop (q + 1), c < 256 := h88 _ (fun c hc => List.mem_of_mem_drop hc)
          have m : ∀ (a b : List Nat), (∀ c ∈ a, c < 256) → (∀ c ∈ b, c < 256) → ∀ c ∈ a ++ b, c < 256 := fun a b ha hb c hc => by
            rcases List.mem_append.1 hc with h | h
            · exact ha c h
            · exact hb c h
          have d : ∀ c ∈ ([32] : List Nat), c < 256 := by decide
          rw [f1, f2, f3, hL]
          unfold lessX
          rw [← bs_app (m _ _ (m _ _ (m _ _ g1 d) g2) d) g3, ← bs_app (m _ _ (m _ _ g1 d) g2) d, ← bs_app (m _ _ g1 d) g2, ← bs_app g1 d]
          rfl)
        have HPQ : Hid (p < q ∧ q < S.size ∧ S.size ≤ 400) := Lib.hid (by have := HSZT.out; omega)
        have hp1 : (p : Int) + 1 = (P1 : Int) := by omega
        have hq1 : (q : Int) + 1 = (Q1 : Int) := by omega
        have hw1' : IntKind.i64.wrap (P1 : Int) = (P1 : Int) := IntWalk.i64_in _ (by omega)
        have hw2' : IntKind.i64.wrap (Q1 : Int) = (Q1 : Int) := IntWalk.i64_in _ (by omega)
        have hw3' : IntKind.i64.wrap ((p : Int) + 1) = (P1 : Int) := by rw [hp1]; exact hw1'
        have hw4' : IntKind.i64.wrap ((q : Int) + 1) = (Q1 : Int) := by rw [hq1]; exact hw2'
        have b1 : (p : Int) ≤ (S.size : Int) := by omega
        have b2 : p ≤ S.size := by omega
        have b3 : (P1 : Int) ≤ (q : Int) := by omega
        have b4 : P1 ≤ q := by omega
        have b5 : (q : Int) ≤ (S.size : Int) := by omega
        have b6 : q ≤ S.size := by omega
        have b7 : (Q1 : Int) ≤ (S.size : Int) := by omega
        have b8 : Q1 ≤ S.size := by omega
        have hki : (k : Int) < (N : Int) := by have := (List.getElem?_eq_some_iff.1 hy).1; have := HNN.out; omega
        have hk0 : decide ((k : Int) < 0) = false := decide_eq_false (by omega)
        have hcs : ∀ wx, Below wr.heap.size wr wx → wx.cell? ⟨b, i * 4 + 3, none⟩ = some (.int .i64 (p : Nat)) ∧ wx.cell? ⟨b, k * 4 + 3, none⟩ = some (.int .i64 (q : Nat)) := fun wx hbx => ⟨below_cell hbx c3, below_cell hbx d3⟩
        have HCS := Lib.hid hcs
        have hz : ∀ n : Nat, n ≤ 10000 → ¬ 9223372036854775807 < n := fun n hn => by omega
        have e1s : (S.extract 0 p).size = p := by rw [ByteArray.size_extract]; omega
        have e2s : (S.extract P1 q).size = q - P1 := by rw [ByteArray.size_extract]; omega
        have e3s : (S.extract Q1 S.size).size = S.size - Q1 := by rw [ByteArray.size_extract]; omega
        have t1 : ¬ 9223372036854775807 < p + 1 := by omega
        have t2 : ¬ 9223372036854775807 < p + 1 + (q - P1) := by omega
        have t3 : ¬ 9223372036854775807 < p + 1 + (q - P1) + 1 := by omega
        have t4 : ¬ 9223372036854775807 < p + 1 + (q - P1) + 1 + (S.size - Q1) := by omega
        have m1 : min p S.size = p := by omega
        have m2 : min q S.size = q := by omega
        have HUS := Lib.hid hus
        have HCU := Lib.hid hcu
        have hcd9 : cd = 0 ∨ cd = 4 ∨ cd = 9 := by
          by_cases h : cd = 0
          · exact .inl h
          · obtain ⟨c, hc, he⟩ := parseP_err (s := bs (lessX T p q)) (by rw [← hcd]; exact h)
            rw [he] at hcd
            simp only at hcd
            subst hcd
            rcases hc with h | h
            · exact .inr (.inl h)
            · exact .inr (.inr h)
        have HCD := Lib.hid hcd9
        by_cases hi0 : i = 0
        · have hi0' : decide ((0 : Int) < (i : Int)) = false := decide_eq_false (by omega)
          have hi0'' : decide (0 < i) = false := decide_eq_false (by omega)
          have HI0 := Lib.hid hi0
          clear hi0 hx hgx h8 hkd hs e1 hi hb hiN hil hx5 hik hy hy1 hpq hqs hpar hclo hp hq hu hcd hcu hus hTl hls hL hP1 hQ1 hcs hz hcd9
          go_upto_region 17 with (go_at_call 19; refine (HCL.out _ _ _ HTR.out).mono ?_; rintro e w6 ⟨rfl, rfl⟩)
          have hh1 : wr.cell? ⟨b, i * 4 + 3, none⟩ = some (.int .i64 (p : Nat)) := c3
          have hh2 : wr.cell? ⟨b, k * 4 + 3, none⟩ = some (.int .i64 (q : Nat)) := d3
          go_region_held3 (fun wx => wx.cell? ⟨b, i * 4 + 3, none⟩ = some (.int .i64 (p : Nat)) ∧ wx.cell? ⟨b, k * 4 + 3, none⟩ = some (.int .i64 (q : Nat))) (go_keep) (fail)
          rw [HL2.out]
          have HBX : Hid (Below w5.heap.size w5 wr.drew) := Lib.hid (HB.out.drew)
          clear hh1 hh2 c0 c1 c3 d0 d1 d2 d3
          go_upto_region 19 with (go_at_call 15; refine (HPA.out _).mono ?_; rintro e w8 ⟨ku, mu, xu, nu, ab, cb, rfl, hv8, hb8⟩; have HB8 : Hid (Below w5.heap.size w5 w8) := Lib.hid (bthen HBX.out hb8); have HV8 := Lib.hid hv8; clear hv8 hb8)
          obtain ⟨w9, hw9⟩ : ∃ w9, w9 = w8.alloc (.cells #[.int .i64 ku, .string xu, .int .i64 mu, .slice ab nu cb] 25) := ⟨_, rfl⟩
          obtain ⟨bf, hbf⟩ : ∃ bf, bf = w8.heap.size := ⟨_, rfl⟩
          have HB89 : Hid (Below w8.heap.size w8 w9) := Lib.hid (by rw [hw9]; exact below_alloc _ _)
          have HB9 : Hid (Below w5.heap.size w5 w9) := Lib.hid (bthen HB8.out HB89.out)
          have HV9 := Lib.hid (HV8.out.below HB89.out)
          have z0 : w9.cell? ⟨bf, 0, none⟩ = some (.int .i64 ku) := by rw [hw9, hbf]; simp
          have z1 : w9.cell? ⟨bf, 1, none⟩ = some (.string xu) := by rw [hw9, hbf]; simp
          have z2 : w9.cell? ⟨bf, 2, none⟩ = some (.int .i64 mu) := by rw [hw9, hbf]; simp
          have z3 : w9.cell? ⟨bf, 3, none⟩ = some (.slice ab nu cb) := by rw [hw9, hbf]; simp
          rw [← hw9, ← hbf]
          clear hw9 hbf
          have HB29 : Hid (Below w2.heap.size w2 w9) := Lib.hid (bthen HB5.out HB9.out)
          obtain ⟨y0, y1, y2, y3⟩ := HTB.out.cl HB29.out
          rcases HCD.out with h | h | h
          · subst h
            rw [errN_zero]
            have HCU0 := Lib.hid (HCU.out rfl)
            go_wp2_with (go_at_call 16; refine (HSM.out _ u ku mu xu nu _ _ _ _ HUS.out HV9.out (HTB.out.tv.below HB29.out) HCU0.out).mono ?_; rintro e w10 ⟨rfl, hb10⟩; have HB10 := Lib.hid (bthen HB9.out hb10); clear hb10)
            exact ⟨⟨i + 1, by go_num, HIN.out, HB10.out⟩, by have := HIN.out; simp only [intOf]; omega⟩
          · subst h
            rw [show errN 4 = .iface 39 (.int .i64 4) from rfl]
            have hne : ∀ w, (binOp .eql 29 (.iface 39 (.int .i64 4)) .nilIface).run Tryd.prog w = .ok (.bool false) w := fun w => by kernel_rfl
            go_wp2
            exact ⟨⟨i + 1, by go_num, HIN.out, HB9.out⟩, by have := HIN.out; simp only [intOf]; omega⟩
          · subst h
            rw [show errN 9 = .iface 39 (.int .i64 9) from rfl]
            have hne : ∀ w, (binOp .eql 29 (.iface 39 (.int .i64 9)) .nilIface).run Tryd.prog w = .ok (.bool false) w := fun w => by kernel_rfl
            go_wp2
            exact ⟨⟨i + 1, by go_num, HIN.out, HB9.out⟩, by have := HIN.out; simp only [intOf]; omega⟩
        · have hi0' : (0 : Int) < (i : Int) := by omega
          obtain ⟨i1, hi1⟩ : ∃ i1, i = i1 + 1 := ⟨i - 1, by omega⟩
          have hsb : (i : Int) - 1 = (i1 : Int) := by omega
          have hi1n : (i1 : Int) < (N : Int) := by omega
          obtain ⟨v, hv⟩ : ∃ v, ts[i1]? = some v := ⟨_, List.getElem?_eq_getElem (by omega)⟩
          obtain ⟨g0, g1, g2, g3⟩ := HTR.out.at_ i1 v hv
          have HNA : Hid (∀ w, Calls Tryd.prog 18 #[.agg #[.int .i64 (v.1.1 : Nat), .string (bs v.1.2.1), .int .i64 (v.1.2.2 : Nat), .int .i64 (v.2 : Nat)]] w fun e w' => e = .returned (.bool (nmB v.1)) ∧ Below w.heap.size w w') := Lib.hid (fun w => nameL_any v (HG.out i1 v hv) w)
          cases hnb : nmB v.1 with
          | true =>
            rw [hnb] at HNA
            clear hnb hi0 hi1 hv hx hgx h8 hkd hs e1 hi hb hiN hil hx5 hik hy hy1 hpq hqs hpar hclo hp hq hu hcd hcu hus hTl hls hL hP1 hQ1 hcs hz hcd9
            go_wp2_with (go_at_call 18; refine (HNA.out _).mono ?_; rintro e w6 ⟨rfl, hb6⟩; have HB6 : Hid (Below w5.heap.size w5 w6) := Lib.hid (bthen HB.out hb6); clear hb6)
            exact ⟨⟨i + 1, by go_num, HIN.out, HB6.out⟩, by have := HIN.out; simp only [intOf]; omega⟩
          | false =>
            rw [hnb] at HNA
            clear hnb hi0 hi1 hv hx hgx h8 hkd hs e1 hi hb hiN hil hx5 hik hy hy1 hpq hqs hpar hclo hp hq hu hcd hcu hus hTl hls hL hP1 hQ1 hcs hz hcd9
            go_upto_region 14 with (go_at_call 18; refine (HNA.out _).mono ?_; rintro e w6' ⟨rfl, hb6⟩; have HB6 : Hid (Below wr.heap.size wr w6') := Lib.hid hb6; clear hb6)
            go_upto_region 17 with (go_at_call 19; refine (HCL.out _ _ _ (HTR.out.below HB6.out)).mono ?_; rintro e w6 ⟨rfl, rfl⟩)
            obtain ⟨c3', d3'⟩ := HCS.out _ HB6.out
            clear c0 c1 c2 c3 d0 d1 d2 d3 g0 g1 g2 g3
            have hh1 : w6'.cell? ⟨b, i * 4 + 3, none⟩ = some (.int .i64 (p : Nat)) := c3'
            have hh2 : w6'.cell? ⟨b, k * 4 + 3, none⟩ = some (.int .i64 (q : Nat)) := d3'
            go_region_held3 (fun wx => wx.cell? ⟨b, i * 4 + 3, none⟩ = some (.int .i64 (p : Nat)) ∧ wx.cell? ⟨b, k * 4 + 3, none⟩ = some (.int .i64 (q : Nat))) (go_keep) (fail)
            rw [HL2.out]
            have HBX : Hid (Below w5.heap.size w5 w6'.drew) := Lib.hid ((bthen HB.out HB6.out).drew)
            clear hh1 hh2 c3' d3'
            go_upto_region 19 with (go_at_call 15; refine (HPA.out _).mono ?_; rintro e w8 ⟨ku, mu, xu, nu, ab, cb, rfl, hv8, hb8⟩; have HB8 : Hid (Below w5.heap.size w5 w8) := Lib.hid (bthen HBX.out hb8); have HV8 := Lib.hid hv8; clear hv8 hb8)
            obtain ⟨w9, hw9⟩ : ∃ w9, w9 = w8.alloc (.cells #[.int .i64 ku, .string xu, .int .i64 mu, .slice ab nu cb] 25) := ⟨_, rfl⟩
            obtain ⟨bf, hbf⟩ : ∃ bf, bf = w8.heap.size := ⟨_, rfl⟩
            have HB89 : Hid (Below w8.heap.size w8 w9) := Lib.hid (by rw [hw9]; exact below_alloc _ _)
            have HB9 : Hid (Below w5.heap.size w5 w9) := Lib.hid (bthen HB8.out HB89.out)
            have HV9 := Lib.hid (HV8.out.below HB89.out)
            have z0 : w9.cell? ⟨bf, 0, none⟩ = some (.int .i64 ku) := by rw [hw9, hbf]; simp
            have z1 : w9.cell? ⟨bf, 1, none⟩ = some (.string xu) := by rw [hw9, hbf]; simp
            have z2 : w9.cell? ⟨bf, 2, none⟩ = some (.int .i64 mu) := by rw [hw9, hbf]; simp
            have z3 : w9.cell? ⟨bf, 3, none⟩ = some (.slice ab nu cb) := by rw [hw9, hbf]; simp
            rw [← hw9, ← hbf]
            clear hw9 hbf
            have HB29 : Hid (Below w2.heap.size w2 w9) := Lib.hid (bthen HB5.out HB9.out)
            obtain ⟨y0, y1, y2, y3⟩ := HTB.out.cl HB29.out
            rcases HCD.out with h | h | h
            · subst h
              rw [errN_zero]
              have HCU0 := Lib.hid (HCU.out rfl)
              go_wp2_with (go_at_call 16; refine (HSM.out _ u ku mu xu nu _ _ _ _ HUS.out HV9.out (HTB.out.tv.below HB29.out) HCU0.out).mono ?_; rintro e w10 ⟨rfl, hb10⟩; have HB10 := Lib.hid (bthen HB9.out hb10); clear hb10)
              exact ⟨⟨i + 1, by go_num, HIN.out, HB10.out⟩, by have := HIN.out; simp only [intOf]; omega⟩
            · subst h
              rw [show errN 4 = .iface 39 (.int .i64 4) from rfl]
              have hne : ∀ w, (binOp .eql 29 (.iface 39 (.int .i64 4)) .nilIface).run Tryd.prog w = .ok (.bool false) w := fun w => by kernel_rfl
              go_wp2
              exact ⟨⟨i + 1, by go_num, HIN.out, HB9.out⟩, by have := HIN.out; simp only [intOf]; omega⟩
            · subst h
              rw [show errN 9 = .iface 39 (.int .i64 9) from rfl]
              have hne : ∀ w, (binOp .eql 29 (.iface 39 (.int .i64 9)) .nilIface).run Tryd.prog w = .ok (.bool false) w := fun w => by kernel_rfl
              go_wp2
              exact ⟨⟨i + 1, by go_num, HIN.out, HB9.out⟩, by have := HIN.out; simp only [intOf]; omega⟩

end Go.Proofs.YtpabngicbfcdkaaDoor

/- a list of nodes as an argument. -/
namespace Go.Proofs.YtpabngicbfcdkaaDoor
open Go.RowKit Go.ChangeShapes Go.WideShapes Go.Deep Go.Joins
set_option linter.unusedVariables false
set_option linter.unusedSimpArgs false

section
variable {H : Type} {enc : TypeId × Value → H} {W : World}

theorem open_rdi {n : Nat} {v : Value} {y : DataW H × List MemPlace} (h : DataW.trod enc Tryd.prog W 0 (fun _ => true) true n 81 [v] = some y) : ∃ aa l cc, v = .slice aa l.length cc ∧ RdI W (fun b => b < W.heap.size) aa l := by
  obtain ⟨a, len, cap, l, rfl, hr, h0⟩ := open_rd1 Tryd.underlying81 Tryd.underlying3 (by kernel_rfl) h
  refine ⟨a, l, cap, by rw [hr.len], ⟨by have := hr.max; have := hr.len; omega, fun j y hy => ?_, hr.wf⟩⟩
  have hj := (List.getElem?_eq_some_iff.1 hy).1
  obtain ⟨b, off, ha, hc⟩ := hr.cell j (by rw [← hr.len]; exact hj)
  have hg : l.getD j 0 = y := by simp [List.getD, hy]
  rw [hg] at hc
  exact ⟨b, off, ha, World.block_lt_of_cell? W _ hc, hc⟩

set_option maxRecDepth 100000 in
theorem cells_nd {n : Nat} {cs : List Value} {y : DataW H × List MemPlace} (h : DataW.trod enc Tryd.prog W 0 (fun _ => true) true n 83 cs = some y) :
    ∃ k s m aa gs cc, cs = [.int .i64 k, .string s, .int .i64 m, .slice aa (gs : List Int).length cc] ∧ RdI W (fun b => b < W.heap.size) aa gs ∧ (Lit.int .i64 k).wf = true ∧ (Lit.int .i64 m).wf = true ∧ s.size ≤ 9223372036854775807 := by
  obtain ⟨y0, y1, y2, y3, m, _, hlen, h0, h1, h2, h3⟩ := trod_struct4 Tryd.underlying83 h
  rw [show Tryd.prog.cellsOf 83 = 4 by kernel_rfl] at hlen
  match cs, hlen with
  | [c0, c1, c2, c3], _ =>
    rw [show Tryd.prog.cellsOf 3 = 1 by kernel_rfl] at h0 h2
    rw [show Tryd.prog.cellsOf 9 = 1 by kernel_rfl] at h1
    rw [show Tryd.prog.cellsOf 81 = 1 by kernel_rfl] at h3
    have h0 : DataW.trod enc Tryd.prog W 0 (fun _ => true) true m 3 [c0] = some y0 := h0
    have h1 : DataW.trod enc Tryd.prog W 0 (fun _ => true) true m 9 [c1] = some y1 := h1
    have h2 : DataW.trod enc Tryd.prog W 0 (fun _ => true) true m 3 [c2] = some y2 := h2
    have h3 : DataW.trod enc Tryd.prog W 0 (fun _ => true) true m 81 [c3] = some y3 := h3
    obtain ⟨k, e1, _, e3⟩ := DataW.trod_int Tryd.underlying3 h0
    obtain ⟨s, f1, _, f3⟩ := DataW.trod_string Tryd.underlying9 h1
    obtain ⟨q, g1, _, g3⟩ := DataW.trod_int Tryd.underlying3 h2
    obtain ⟨aa, gs, cc, k1, k2⟩ := open_rdi h3
    refine ⟨k, s, q, aa, gs, cc, ?_, k2, e3, g3, by unfold maxLen at f3; omega⟩
    simp only [List.cons.injEq, and_true] at e1 f1 g1
    rw [e1, f1, g1, k1]

theorem open_nds {a : Option Addr} {len cap : Nat} {d : DataW H} {p : List MemPlace} (h : DataW.Trod enc Tryd.prog W 0 (fun _ => true) true 22 (.slice a len cap) d p) :
    ∃ L, RdN W (fun i => i < W.heap.size) a len L ∧ len ≤ cap ∧ ∀ x ∈ L, x.2.1.size ≤ 9223372036854775807 := by
  obtain ⟨fuel, hf⟩ := h
  rcases open_slice Tryd.underlying22 hf with ⟨hcs, hx⟩ | ⟨x, l, c', m, n, D, Pl, hcs, _, hl, hm, hmm, hx, hel⟩
  · simp [Value.cells] at hcs
    obtain ⟨rfl, rfl, rfl⟩ := hcs
    exact ⟨[], ⟨rfl, by omega, fun i x hx => by simp at hx⟩, Nat.le_refl _, fun x hx => by simp at hx⟩
  · simp [Value.cells] at hcs
    obtain ⟨rfl, rfl, rfl⟩ := hcs
    simp only [if_true] at hmm
    subst hmm
    rw [show Tryd.prog.cellsOf 83 = 4 by kernel_rfl] at hel
    have each : ∀ i, i < len → ∃ y : Nd × Option Addr × Nat, W.cell? (x.add (i * 4)) = some (.int .i64 y.1.1) ∧ W.cell? ((x.add (i * 4)).add 1) = some (.string y.1.2.1) ∧ W.cell? ((x.add (i * 4)).add 2) = some (.int .i64 y.1.2.2.1) ∧ W.cell? ((x.add (i * 4)).add 3) = some (.slice y.2.1 y.1.2.2.2.length y.2.2) ∧ RdI W (fun b => b < W.heap.size) y.2.1 y.1.2.2.2 ∧ y.1.2.1.size ≤ 9223372036854775807 := by
      intro i hi
      obtain ⟨cs', hc, ht⟩ := hel i (by omega)
      obtain ⟨k, s, q, aa, gs, cc, rfl, h1, h2, h3, h4⟩ := cells_nd ht
      obtain ⟨_, _, hat⟩ := World.cells?_some hc
      have a0 := hat 0 (by omega)
      rw [show (x.add (i * 4)).add 0 = x.add (i * 4) from rfl] at a0
      exact ⟨((k, s, q, gs), aa, cc), a0, hat 1 (by omega), hat 2 (by omega), hat 3 (by omega), h1, h4⟩
    obtain ⟨f, hf⟩ := choose_lt each
    refine ⟨(List.range len).map fun i => (f i).1, ⟨by simp, by unfold maxLen at hm; omega, fun i z hz => ?_⟩, hl, fun z hz => ?_⟩
    · rw [List.getElem?_map, Option.map_eq_some_iff] at hz
      obtain ⟨j, hj, rfl⟩ := hz
      have hil : i < len := by have := (List.getElem?_eq_some_iff.1 hj).1; simpa using this
      have : j = i := by simpa [hil] using hj.symm
      subst this
      obtain ⟨b, off, rfl⟩ := spot_none (show W.cell? (x.add 0) = some (.int .i64 (f 0).1.1) from (hf 0 (by omega)).1)
      obtain ⟨c0, c1, c2, c3, hI, _⟩ := hf j hil
      rw [Addr.add_lit] at c0 c1 c2 c3
      rw [Addr.add_lit] at c1 c2 c3
      exact ⟨b, off, _, _, rfl, World.block_lt_of_cell? W _ c0, c0, c1, c2, c3, hI⟩
    · obtain ⟨i, hi, rfl⟩ := List.mem_map.1 hz
      exact (hf i (by simpa using hi)).2.2.2.2.2
end

end Go.Proofs.YtpabngicbfcdkaaDoor

/- a list of nodes as an argument: its texts are no longer than its bulk. -/
namespace Go.Proofs.YtpabngicbfcdkaaDoor
open Go.RowKit Go.ChangeShapes Go.WideShapes Go.Deep Go.Joins
set_option linter.unusedVariables false
set_option linter.unusedSimpArgs false

section
variable {H : Type} {enc : TypeId × Value → H} {W : World}

set_option maxRecDepth 100000 in
theorem cells_ndu {n : Nat} {cs : List Value} {y : DataW H × List MemPlace} (h : DataW.trod enc Tryd.prog W 0 (fun _ => true) true n 83 cs = some y) :
    ∃ k s m aa gs cc, cs = [.int .i64 k, .string s, .int .i64 m, .slice aa (gs : List Int).length cc] ∧ RdI W (fun b => b < W.heap.size) aa gs ∧ s.size ≤ Rows.uptoBulk y.1 := by
  obtain ⟨y0, y1, y2, y3, m, hy, hlen, h0, h1, h2, h3⟩ := trod_struct4 Tryd.underlying83 h
  rw [show Tryd.prog.cellsOf 83 = 4 by kernel_rfl] at hlen
  match cs, hlen with
  | [c0, c1, c2, c3], _ =>
    rw [show Tryd.prog.cellsOf 3 = 1 by kernel_rfl] at h0 h2
    rw [show Tryd.prog.cellsOf 9 = 1 by kernel_rfl] at h1
    rw [show Tryd.prog.cellsOf 81 = 1 by kernel_rfl] at h3
    have h0 : DataW.trod enc Tryd.prog W 0 (fun _ => true) true m 3 [c0] = some y0 := h0
    have h1 : DataW.trod enc Tryd.prog W 0 (fun _ => true) true m 9 [c1] = some y1 := h1
    have h2 : DataW.trod enc Tryd.prog W 0 (fun _ => true) true m 3 [c2] = some y2 := h2
    have h3 : DataW.trod enc Tryd.prog W 0 (fun _ => true) true m 81 [c3] = some y3 := h3
    obtain ⟨k, e1, _, e3⟩ := DataW.trod_int Tryd.underlying3 h0
    obtain ⟨s, f1, f2, f3⟩ := DataW.trod_string Tryd.underlying9 h1
    obtain ⟨q, g1, _, g3⟩ := DataW.trod_int Tryd.underlying3 h2
    obtain ⟨aa, gs, cc, k1, k2⟩ := open_rdi h3
    refine ⟨k, s, q, aa, gs, cc, ?_, k2, ?_⟩
    · simp only [List.cons.injEq, and_true] at e1 f1 g1
      rw [e1, f1, g1, k1]
    · have hs : s.data.toList.length = s.size := rfl
      rw [hy, f2]
      simp only [Rows.uptoBulk, Rows.uptoBulkAll]
      omega

theorem open_ndsu {a : Option Addr} {len cap : Nat} {d : DataW H} {p : List MemPlace} (h : DataW.Trod enc Tryd.prog W 0 (fun _ => true) true 22 (.slice a len cap) d p) :
    ∃ L, RdN W (fun i => i < W.heap.size) a len L ∧ len ≤ cap ∧ ∀ x ∈ L, x.2.1.size ≤ Rows.uptoBulk d := by
  obtain ⟨fuel, hf⟩ := h
  rcases open_slice Tryd.underlying22 hf with ⟨hcs, hx⟩ | ⟨x, l, c', m, n, D, Pl, hcs, _, hl, hm, hmm, hx, hel⟩
  · simp [Value.cells] at hcs
    obtain ⟨rfl, rfl, rfl⟩ := hcs
    exact ⟨[], ⟨rfl, by omega, fun i x hx => by simp at hx⟩, Nat.le_refl _, fun x hx => by simp at hx⟩
  · simp [Value.cells] at hcs
    obtain ⟨rfl, rfl, rfl⟩ := hcs
    simp only [if_true] at hmm
    subst hmm
    rw [show Tryd.prog.cellsOf 83 = 4 by kernel_rfl] at hel
    have each : ∀ i, i < len → ∃ y : Nd × Option Addr × Nat, W.cell? (x.add (i * 4)) = some (.int .i64 y.1.1) ∧ W.cell? ((x.add (i * 4)).add 1) = some (.string y.1.2.1) ∧ W.cell? ((x.add (i * 4)).add 2) = some (.int .i64 y.1.2.2.1) ∧ W.cell? ((x.add (i * 4)).add 3) = some (.slice y.2.1 y.1.2.2.2.length y.2.2) ∧ RdI W (fun b => b < W.heap.size) y.2.1 y.1.2.2.2 ∧ y.1.2.1.size ≤ Rows.uptoBulk (D i) := by
      intro i hi
      obtain ⟨cs', hc, ht⟩ := hel i (by omega)
      obtain ⟨k, s, q, aa, gs, cc, rfl, h1, h4⟩ := cells_ndu ht
      obtain ⟨_, _, hat⟩ := World.cells?_some hc
      have a0 := hat 0 (by omega)
      rw [show (x.add (i * 4)).add 0 = x.add (i * 4) from rfl] at a0
      exact ⟨((k, s, q, gs), aa, cc), a0, hat 1 (by omega), hat 2 (by omega), hat 3 (by omega), h1, h4⟩
    have hd : d = .slice ((List.range len).map D) ((List.range (m - len)).map fun j => D (len + j)) := congrArg Prod.fst hx
    obtain ⟨f, hf⟩ := choose_lt each
    refine ⟨(List.range len).map fun i => (f i).1, ⟨by simp, by unfold maxLen at hm; omega, fun i z hz => ?_⟩, hl, fun z hz => ?_⟩
    · rw [List.getElem?_map, Option.map_eq_some_iff] at hz
      obtain ⟨j, hj, rfl⟩ := hz
      have hil : i < len := by have := (List.getElem?_eq_some_iff.1 hj).1; simpa using this
      have : j = i := by simpa [hil] using hj.symm
      subst this
      obtain ⟨b, off, rfl⟩ := spot_none (show W.cell? (x.add 0) = some (.int .i64 (f 0).1.1) from (hf 0 (by omega)).1)
      obtain ⟨c0, c1, c2, c3, hI, _⟩ := hf j hil
      rw [Addr.add_lit] at c0 c1 c2 c3
      rw [Addr.add_lit] at c1 c2 c3
      exact ⟨b, off, _, _, rfl, World.block_lt_of_cell? W _ c0, c0, c1, c2, c3, hI⟩
    · obtain ⟨i, hi, rfl⟩ := List.mem_map.1 hz
      have h1 := (hf i (by simpa using hi)).2.2.2.2.2
      have h2 : Rows.uptoBulk (D i) ≤ Rows.uptoBulkAll ((List.range len).map D) := bulks.part_le (List.mem_map.2 ⟨i, hi, rfl⟩)
      have h3 := bulks.slice_elems ((List.range len).map D) ((List.range (m - len)).map fun j => D (len + j))
      rw [hd]
      omega
end

end Go.Proofs.YtpabngicbfcdkaaDoor

/- SyntaxLeast, for every input of bulk at most 1048576: the frame round its walk: what the arguments are read as, the call, what is read behind it; the tied card. The condition: the listed package variables hold what the program lays (the card ties this to the program's text). -/
namespace Go.Proofs.YtpabngicbfcdkaaDoor.syntaxLeast
open Go.ChangeShapes Go.WideShapes Go.ChangeAt Go.RowKit
open Go.ChangeMaps (open_string shut_string)
set_option linter.unusedVariables false
set_option linter.unusedSimpArgs false

theorem own : ownKnob Tryd.prog.godebug = none := by kernel_rfl
theorem laidOut : laidOutB Tryd.prog = true := by kernel_rfl

set_option maxRecDepth 100000 in
theorem contract (H : Type) (enc : TypeId × Value → H) (W : World) (base : Nat) (args : Array Value) (ds gs : List (DataW H)) (before : List MemPlace)
    (hval0 : ∀ (j : Nat) t v, Tryd.f6.params[j]? = some t → args[j]? = some v → Value.okWide Tryd.prog W .any base t v)
    (hW : DataW.Whole enc Tryd.prog Tryd.f6.params.toList Rows.syntaxLeastSpec.vars false W args.toList ds gs before) (hk : Rows.uptoSmall H (ds ++ gs) = true) (hL : laidMetH Tryd.prog Rows.syntaxLeastUptoRow.laid W) :
    Calls Tryd.prog 6 args W fun e W' => ∃ v, e = .returned v ∧ Rows.syntaxLeastSpec.post enc Tryd.prog Tryd.f6 false true false false W args v W' := by
  have hval : ∀ (j : Nat) t v, Tryd.f6.params[j]? = some t → args[j]? = some v → Value.okWide Tryd.prog W .any base t v := hval0
  have hW' := hW
  obtain ⟨p, q, hA0, hV, rfl, hfz, hnd⟩ := hW
  have hA : DataW.TrodAll enc Tryd.prog W 0 (fun _ => true) true Tryd.f6.params.toList args.toList ds p := hA0
  rw [Tryd.params6] at hA hval
  obtain ⟨v0, vs0, d0, ds0, p0, q0, hargs, rfl, rfl, h0, r0⟩ := trodAll_cons hA
  obtain ⟨rfl, rfl, rfl⟩ := trodAll_nil r0
  obtain rfl : args = #[v0] := by cases args; simp_all
  obtain ⟨rfl, rfl⟩ := trodVars_none hV
  have hbk := bulks.bound hk
  rw [List.append_nil] at hbk
  have k0 := h0
  have lt0 : ∀ x ∈ p0, x.block < W.heap.size := by obtain ⟨m, hm⟩ := k0; exact DataW.trod_lt m _ _ _ hm
  obtain ⟨a0, len0, cap0, rfl⟩ := okWide_slice Tryd.underlying22 (hval 0 22 v0 rfl rfl)
  obtain ⟨l0, w0, c0, s0⟩ := open_ndsu h0
  have b0 : ∀ x ∈ l0, x.2.1.size ≤ 1048576 := fun x hx => by
    have h1 := s0 x hx
    have h3 := bulks.part_le (l := [d0]) (d := d0) (by simp)
    have h5 := hbk
    omega
  clear hA0 hval0
  refine (walk_SyntaxLeast a0 len0 cap0 l0 W w0 b0 (tab_of hL (tab_lt hL))).mono fun e W' ⟨he, bel⟩ => ?_
  subst he
  exact ⟨_, rfl, _, _, _, [], _, [], hW', trodAll_mk1 (shut_bool Tryd.underlying4 _), (trodAll_cons_mk (Below.trod laidOut (by kernel_rfl) (of_decide_eq_true (by kernel_rfl)) k0 bel lt0) trodAll_mk0), rfl, bel.frame _, fun h => by cases h⟩

theorem reads (os : Os) {H : Type} (enc : TypeId × Value → H) : ∃ places, DataW.whole enc Tryd.prog ((World.doorLaid Tryd.prog 24 os).forCall (fun _ _ => 0) ⟨#[], #[.slice none 0 0], []⟩).memory Tryd.f6.params.toList Rows.syntaxLeastSpec.vars false (#[.slice none 0 0] : Array Value).toList 8 = some ([.nil], [], places) :=
  ⟨[], by kernel_rfl⟩

set_option maxRecDepth 100000 in
theorem lifted (os : Os) (started : os.Started) (H : Type) (enc : TypeId × Value → H) (F : Stop.Interp) :
    ReturnsInHanded {} Tryd.checked os 6 .any ((Rows.OpenSpec.upto Rows.syntaxLeastSpec).preRow enc Tryd.prog Tryd.f6 Rows.syntaxLeastUptoRow.domain false Rows.syntaxLeastUptoRow.laid) (((Rows.OpenSpec.upto Rows.syntaxLeastSpec).at F).post enc Tryd.prog Tryd.f6 false true false false) := by
  obtain ⟨places, hx⟩ := reads os enc
  refine returnsInHanded_of_row (C := Tryd.checked) (s := (Rows.OpenSpec.upto Rows.syntaxLeastSpec)) own started (by kernel_rfl) Tryd.func6
    (witness_row_at (enc := enc) (C := Tryd.checked) false (World.doorLaid Tryd.prog 24 os) #[.slice none 0 0] rfl (by kernel_rfl) (by kernel_rfl) (by kernel_rfl)
      (OpenSpec.preRow_of_cond 8 hx (by kernel_rfl) (fun k hk => by cases hk; kernel_rfl) (by kernel_rfl) (laid_met os _))) ?_
  intro W base args ds gs before hval hW _ hcond hsz hL _ _
  exact contract H enc W base args ds gs before hval hW (hcond _ rfl) hL

theorem over : Rows.syntaxLeastUptoRow.holds Tryd.pinned (Rows.OpenSpec.upto Rows.syntaxLeastSpec) :=
  OpenClaim.holds_of_cond 6 Tryd.f6 rfl rfl rfl rfl rfl rfl rfl ⟨rfl, rfl, rfl, rfl, rfl⟩ rfl rfl rfl rfl rfl (by kernel_rfl) Tryd.func6 (by kernel_rfl)
    (of_decide_eq_true (by kernel_rfl)) (by unfold Func.isWrapper; first | (rw [if_pos (by decide +kernel)]; kernel_rfl) | (rw [if_neg (by decide +kernel)]; exact ⟨rfl, rfl⟩))
    (fun os started H enc _ F => by rw [OpenClaim.pre_eq_preRow]; exact lifted os started H enc F)

/-- No parameter wants a stand-in; the program's own looks: what the card asks. -/
theorem plain (f : FuncId) (fn : Func) (hf : Tryd.pinned.checked.prog.funcNamed "evergreen/evergreenlaw54.SyntaxLeast" = some f) (hfn : Tryd.pinned.checked.prog.funcs[f]? = some fn) :
    true = Tryd.pinned.checked.prog.looks [] ∧ ∀ (j : Nat) t, fn.params[j]? = some t → Tryd.pinned.checked.prog.wantsStandIn t = false := by
  obtain rfl : f = 6 := Option.some.inj ((show Tryd.prog.funcNamed "evergreen/evergreenlaw54.SyntaxLeast" = some 6 by kernel_rfl).symm.trans hf) |>.symm
  obtain rfl : fn = Tryd.f6 := (Option.some.inj (Tryd.func6.symm.trans hfn)).symm
  refine ⟨by kernel_rfl, fun j t ht => ?_⟩
  rw [Tryd.params6] at ht
  have hm : t ∈ [22] := by simpa using Array.mem_of_getElem? ht
  have hall : ([22].all fun u => !Tryd.prog.wantsStandIn u) = true := by kernel_rfl
  exact (show Tryd.prog.wantsStandIn t = false by simpa using List.all_eq_true.1 hall t hm)
theorem card : Rows.SyntaxLeastUptoCardSaid :=
  Claim7.holds_tied_plain_at .later [] _ _ _ _ over (fun _ h => by cases h) (by kernel_rfl) (fun _ h => by cases h) syntaxLeastUpto_row_tie rfl ⟨rfl, rfl⟩ (by kernel_rfl) rfl plain (by kernel_rfl)

end Go.Proofs.YtpabngicbfcdkaaDoor.syntaxLeast
namespace Go.Proofs.YtpabngicbfcdkaaDoor
theorem syntaxLeast_upto_card_proved : Rows.SyntaxLeastUptoCardSaid := syntaxLeast.card
#print axioms syntaxLeast_upto_card_proved
end Go.Proofs.YtpabngicbfcdkaaDoor
