/-
  the reference of chapter 39: a tree as a value; New, Do, Undo, Redo, RedoTo.
-/
import Derived.Test.YtjajlnhobchkgaaURefG
namespace Go.Proofs.Ytjajlnhobchkgaa
open Go.RowKit
set_option linter.unusedVariables false
set_option linter.unusedSimpArgs false

/-- a tree of the reference, its rows readable in blocks of T -/
structure RT (w : World) (T : Nat → Prop) (v : Value) (l : List Nd) (now : Int) : Prop where
  ex : ∃ ta tc pa pc fa fc, v = .agg #[.slice ta l.length tc, .slice pa l.length pc, .slice fa l.length fc, .int .i64 now] ∧ RdF w T .i64 ta l.length (l.map (·.text)) ∧ RdF w T .i64 pa l.length (l.map (·.parent)) ∧ RdF w T .i64 fa l.length (l.map (·.pref))
theorem RT.fr {w w' : World} {S T : Nat → Prop} {v l now} (h : RT w T v l now) (hf : Fr S w w') (hd : ∀ i, T i → ¬ S i) : RT w' T v l now := by
  obtain ⟨ta, tc, pa, pc, fa, fc, rfl, h1, h2, h3⟩ := h.ex
  exact ⟨⟨ta, tc, pa, pc, fa, fc, rfl, h1.fr hf hd, h2.fr hf hd, h3.fr hf hd⟩⟩
theorem RT.below {w w' : World} {T : Nat → Prop} {v l now} (h : RT w T v l now) (hb : Below w.heap.size w w') : RT w' T v l now := by
  obtain ⟨ta, tc, pa, pc, fa, fc, rfl, h1, h2, h3⟩ := h.ex
  exact ⟨⟨ta, tc, pa, pc, fa, fc, rfl, h1.below hb, h2.below hb, h3.below hb⟩⟩
theorem RT.mono {w : World} {T T' : Nat → Prop} {v l now} (h : RT w T v l now) (hT : ∀ i, T i → T' i) : RT w T' v l now := by
  obtain ⟨ta, tc, pa, pc, fa, fc, rfl, h1, h2, h3⟩ := h.ex
  exact ⟨⟨ta, tc, pa, pc, fa, fc, rfl, h1.mono hT, h2.mono hT, h3.mono hT⟩⟩
theorem RT.lt {w : World} {T : Nat → Prop} {v l now} (h : RT w T v l now) : RT w (fun i => T i ∧ i < w.heap.size) v l now := by
  obtain ⟨ta, tc, pa, pc, fa, fc, rfl, h1, h2, h3⟩ := h.ex
  exact ⟨⟨ta, tc, pa, pc, fa, fc, rfl, h1.lt, h2.lt, h3.lt⟩⟩

theorem prefs_wf {l : List Nd} (hw : WfT l) (hlen : l.length ≤ 1000) : ∀ x ∈ l.map (·.pref), (Lit.int .i64 x).wf = true := by
  intro x hx
  obtain ⟨nd, hm, rfl⟩ := List.mem_map.1 hx
  obtain ⟨i, hi, rfl⟩ := List.getElem_of_mem hm
  rcases hw.pref i _ (List.getElem?_eq_getElem hi) with e | ⟨c, y, e, hy, _⟩
  · rw [e]; exact WalkArith.wf_i64 (by omega)
  · rw [e]; have := WfT.lt hy; exact WalkArith.wf_i64 (by omega)
theorem Own.rdF {w : World} {B e a n c l} (h : Own w B e .i64 (.slice a n c) l) (hwf : ∀ x ∈ l, (Lit.int .i64 x).wf = true) : RdF w (fun b => B ≤ b) .i64 a n l := by
  refine ⟨h.rd hwf, fun x hx hn => ?_⟩
  rcases h.2 with ⟨hv, _⟩ | ⟨g, cap, cur, hv, hb, _⟩
  · cases hv; cases hx
  · cases hv; cases hx; exact hb

/-- the calls of the reference give a tree and a number -/
def RPost (T : Nat → Prop) (l : List Nd) (now : Int) (w : World) (v : Value) (w' : World) : Prop :=
  RT w' (fun b => T b ∨ w.heap.size ≤ b) v l now ∧ Below w.heap.size w w'

theorem rgo_list (T : Nat → Prop) (l l2 : List Nd) (L : List Int) (k : Nat) (us : List Nat) (ta pa fa : Option Addr) (tc pc fc : Nat) (now : Int) (w : World) (hp : IsPath l k us) (hw : WfT l) (hk : k < l.length) (hlen : l.length ≤ 1000)
    (h1 : RdF w T .i64 ta l.length (l.map (·.text))) (h2 : RdF w T .i64 pa l.length (l.map (·.parent))) (h3 : Rd w .i64 fa l.length L)
    (e0 : l2.length = l.length) (e1 : l2.map (·.text) = l.map (·.text)) (e2 : l2.map (·.parent) = l.map (·.parent)) (e3 : l2.map (·.pref) = goL us L) (hw2 : WfT l2) :
    Calls Try.prog 39 #[.agg #[.slice ta l.length tc, .slice pa l.length pc, .slice fa l.length fc, .int .i64 now], .int .i64 k] w fun e w' => ∃ v', e = .returned v' ∧ RPost T l2 k w v' w' := by
  refine (rgoto_any ta pa fa l.length tc pc fc now l L k us w hp hw hk hlen h2.rd h3).mono ?_
  rintro e w' ⟨fa', fc', rfl, ho, hl, hb⟩
  refine ⟨_, rfl, ⟨⟨ta, tc, pa, pc, fa', fc', by rw [e0], ?_, ?_, ?_⟩⟩, hb⟩
  · rw [e0, e1]; exact (h1.below hb).mono fun i hi => .inl hi
  · rw [e0, e2]; exact (h2.below hb).mono fun i hi => .inl hi
  · rw [e0, e3]; exact (Own.rdF ho (by rw [← e3]; exact prefs_wf hw2 (by omega))).mono fun i hi => .inr hi

theorem rgo_rt (T : Nat → Prop) (v : Value) (l : List Nd) (now : Int) (k : Nat) (w : World) (h : RT w T v l now) (hw : WfT l) (hk : k < l.length) (hlen : l.length ≤ 1000) :
    Calls Try.prog 39 #[v, .int .i64 k] w fun e w' => ∃ v', e = .returned v' ∧ RPost T (gotoP k l k) k w v' w' := by
  obtain ⟨ta, tc, pa, pc, fa, fc, rfl, h1, h2, h3⟩ := h.ex
  obtain ⟨us, hp⟩ := path_ex hw k hk
  obtain ⟨g1, g2⟩ := gotoP_wf k hw k hk
  obtain ⟨r1, r2⟩ := gotoP_rest k hw k hk
  exact rgo_list T l _ _ k us ta pa fa tc pc fc now w hp hw hk hlen h1 h2 h3.rd g2 r1 r2 (gotoP_prefs k hw k us hp hk (Nat.le_refl _)) g1

theorem goL_twice (zs : List Nat) (p v : Nat) (L : List Int) (h : ∀ u ∈ zs, u ≠ p) : goL (zs ++ [p] ++ [v]) (L.set p (v : Int)) = goL (zs ++ [p] ++ [v]) L := by
  rw [goL_snoc, goL_snoc, goL_comm zs p v L h, List.set_set]
theorem doN_texts {l : List Nd} {now : Nat} {x : Nd} (hx : l[now]? = some x) (id : Int) : (doN l now id).map (·.text) = l.map (·.text) ++ [id] := by
  rw [doN_eq hx, List.map_append, List.map_set]
  congr 1
  refine List.ext_getElem? fun j => ?_
  rw [List.getElem?_set]
  split
  · rename_i e; subst e
    rw [List.getElem?_map, hx]
    simp [WfT.lt hx]
  · rfl
theorem doN_parents {l : List Nd} {now : Nat} {x : Nd} (hx : l[now]? = some x) (id : Int) : (doN l now id).map (·.parent) = l.map (·.parent) ++ [(now : Int)] := by
  rw [doN_eq hx, List.map_append, List.map_set]
  congr 1
  refine List.ext_getElem? fun j => ?_
  rw [List.getElem?_set]
  split
  · rename_i e; subst e
    rw [List.getElem?_map, hx]
    simp [WfT.lt hx]
  · rfl
theorem doN_prefs {l : List Nd} {now : Nat} {x : Nd} (hx : l[now]? = some x) (id : Int) : (doN l now id).map (·.pref) = (l.map (fun x => x.pref) ++ [(-1 : Int)]).set now (l.length : Int) := by
  rw [doN_eq hx, List.map_append, List.map_set, List.set_append_left _ _ (by simpa using WfT.lt hx)]
  rfl
theorem lead_goL {l : List Nd} (hw : WfT l) {v : Nat} (h : Lead l v) (hv : v < l.length) {us : List Nat} (hp : IsPath l v us) : goL us (l.map (·.pref)) = l.map (·.pref) := by
  rw [← gotoP_prefs v hw v us hp hv (Nat.le_refl _), lead_goto v hw v h]
/-- Goto of the new node, on the list that has it without its parent's preferred child -/
theorem do_goL {l : List Nd} (hw : WfT l) {now : Nat} {x : Nd} (hx : l[now]? = some x) (hl : Lead l now) (id : Int) {us : List Nat} (hp : IsPath (doN l now id) l.length us) : goL us (l.map (·.pref) ++ [-1]) = (doN l now id).map (·.pref) := by
  have h1 := lead_goL (doN_wf hw hx id) (doN_lead hw hx id hl) (by rw [doN_len hx]; omega) hp
  have hn := doN_new hx id
  have h1u : 1 < us.length := by
    refine Classical.byContradiction fun hc => ?_
    have := hp.one (by omega)
    have := WfT.lt hx
    omega
  obtain ⟨p, ws, y, rfl, k4, k1, k2, k3⟩ := hp.back h1u
  rw [hn] at k1
  cases k1
  have hpn : now = p := by have e : (now : Int) = (p : Int) := k2; omega
  subst hpn
  obtain ⟨zs, rfl, hz⟩ := k4.last
  rw [doN_prefs hx] at h1 ⊢
  rw [goL_twice zs now l.length _ (fun u hu => by have := hz u hu; omega)] at h1
  exact h1

theorem two_ct (v0 v1 v2 : Value) (k : Int) (T : TypeId) (w : World) :
    CT ((w.alloc (.cells #[v0, v1, v2, .int .i64 k] T)).alloc (.cells #[.slice none 0 0, .slice none 0 0, .slice none 0 0, .int .i64 0] T)) w.heap.size v0 v1 v2 k ∧
    CT ((w.alloc (.cells #[v0, v1, v2, .int .i64 k] T)).alloc (.cells #[.slice none 0 0, .slice none 0 0, .slice none 0 0, .int .i64 0] T)) (w.heap.size + 1) (.slice none 0 0) (.slice none 0 0) (.slice none 0 0) 0 ∧
    Below w.heap.size w ((w.alloc (.cells #[v0, v1, v2, .int .i64 k] T)).alloc (.cells #[.slice none 0 0, .slice none 0 0, .slice none 0 0, .int .i64 0] T)) ∧
    ((w.alloc (.cells #[v0, v1, v2, .int .i64 k] T)).alloc (.cells #[.slice none 0 0, .slice none 0 0, .slice none 0 0, .int .i64 0] T)).heap.size = w.heap.size + 2 := by
  obtain ⟨w1, hw1⟩ : ∃ w1, w1 = w.alloc (.cells #[v0, v1, v2, .int .i64 k] T) := ⟨_, rfl⟩
  have h0 : CT w1 w.heap.size v0 v1 v2 k := by rw [hw1]; exact ⟨by simp, by simp, by simp, by simp, fun j => by simp⟩
  have hs : w1.heap.size = w.heap.size + 1 := by rw [hw1]; simp
  have hb : Below w.heap.size w w1 := by rw [hw1]; exact below_alloc _ _
  rw [← hw1]
  refine ⟨h0.below (below_alloc _ _), ?_, bthen hb (below_alloc _ _), by simp [hs]⟩
  rw [← hs]; exact ⟨by simp, by simp, by simp, by simp, fun j => by simp⟩

/-- the store of the answer -/
def st4 (w : World) (b : Nat) (v0 v1 v2 : Value) (k : Int) : World := (((w.setCell ⟨b, 0, none⟩ v0).setCell ⟨b, 1, none⟩ v1).setCell ⟨b, 2, none⟩ v2).setCell ⟨b, 3, none⟩ (.int .i64 k)
theorem st4_fr (w : World) (b : Nat) (v0 v1 v2 : Value) (k : Int) : Fr (fun g => g = b) w (st4 w b v0 v1 v2 k) := by
  have h4 : ∀ (x : World) (j : Nat) (u : Value), Fr (fun g => g = b) x (x.setCell ⟨b, j, none⟩ u) := fun x j u => (Fr.refl (fun g => g = b) x).setCell (p := ⟨b, j, none⟩) rfl u
  exact (((h4 w 0 v0).trans (h4 _ 1 v1)).trans (h4 _ 2 v2)).trans (h4 _ 3 (.int .i64 k))

theorem rpost_end {T : Nat → Prop} {w w2 w5 : World} {l : List Nd} {k k' : Int} {v v0 v1 v2 : Value} (hb : Below w.heap.size w w2) (hs : w2.heap.size = w.heap.size + 2) (h : RPost (fun i => T i ∧ i < w.heap.size) l k w2.drew v w5) :
    RPost T l k w v (st4 w5 (w.heap.size + 1) v0 v1 v2 k') := by
  obtain ⟨h1, h2⟩ := h
  have hf := st4_fr w5 (w.heap.size + 1) v0 v1 v2 k'
  have hs2 : w2.drew.heap.size = w.heap.size + 2 := hs
  refine ⟨(h1.fr hf (fun i hi e => ?_)).mono (fun i hi => ?_), (hb.trans ((Below.refl _ _).drew.trans (h2.mono (by omega)))).trans (hf.below (fun b hb => by omega) (by have := h2.size; omega))⟩
  · rcases hi with hi | hi <;> omega
  · rcases hi with hi | hi
    · exact .inl hi.1
    · exact .inr (by omega)

set_option maxRecDepth 100000 in
set_option maxHeartbeats 1000000 in
theorem rundo_root (T : Nat → Prop) (v : Value) (l : List Nd) (w : World) (h : RT w T v l 0) :
    Calls Try.prog 36 #[v] w fun e w' => ∃ v', e = .returned (.tuple #[v', .int .i64 7]) ∧ RPost T l 0 w v' w' := by
  have H := Lib.hid h
  obtain ⟨ta, tc, pa, pc, fa, fc, rfl, h1, h2, h3⟩ := h.ex
  obtain ⟨w2, hw2⟩ : ∃ w2, w2 = (w.alloc (.cells #[.slice ta l.length tc, .slice pa l.length pc, .slice fa l.length fc, .int .i64 0] 36)).alloc (.cells #[.slice none 0 0, .slice none 0 0, .slice none 0 0, .int .i64 0] 36) := ⟨_, rfl⟩
  have HTW := two_ct (.slice ta l.length tc) (.slice pa l.length pc) (.slice fa l.length fc) 0 36 w
  rw [← hw2] at HTW
  have HW2 := Lib.hid hw2
  have HT := Lib.hid HTW
  have hn4 : w.heap.size + 1 = w.heap.size + 1 := rfl
  obtain ⟨⟨z0, z1, z2, z3, zf⟩, ⟨y0, y1, y2, y3, yf⟩, _, _⟩ := HTW
  have yf0 := yf 0
  have yf1 := yf 1
  have yf2 := yf 2
  have yf3 := yf 3
  clear h h1 h2 h3 hw2 zf yf hn4
  go_enter Try.func36, Try.ntmps36
  go_upto_region 1 with fail
  rw [← HW2.out]
  go_wp2
  have hf := st4_fr w2 (w.heap.size + 1) (.slice ta l.length tc) (.slice pa l.length pc) (.slice fa l.length fc) 0
  exact bodyPost_ret (v := .tuple #[.agg #[.slice ta l.length tc, .slice pa l.length pc, .slice fa l.length fc, .int .i64 0], .int .i64 7]) (by simp [results, Try.results36, go_sem, y0, y1, y2, y3]) rfl ⟨_, rfl, ((H.out.lt.below HT.out.2.2.1).fr hf (fun i hi e => by have := hi.2; omega)).mono (fun i hi => .inl hi.1), HT.out.2.2.1.trans (hf.below (fun b hb => by omega) HT.out.2.2.1.size)⟩

set_option maxRecDepth 100000 in
set_option maxHeartbeats 2000000 in
theorem rundo_ok (T : Nat → Prop) (v : Value) (l : List Nd) (now p : Nat) (w : World) (h : RT w T v l now) (hw : WfT l) (x : Nd) (hx : l[now]? = some x) (h0 : now ≠ 0) (hp : x.parent = (p : Nat)) (hpl : p < l.length) (hlen : l.length ≤ 1000) :
    Calls Try.prog 36 #[v] w fun e w' => ∃ v', e = .returned (.tuple #[v', .int .i64 0]) ∧ RPost T (gotoP p l p) p w v' w' := by
  have H := Lib.hid h
  obtain ⟨ta, tc, pa, pc, fa, fc, rfl, h1, h2, h3⟩ := h.ex
  obtain ⟨w2, hw2⟩ : ∃ w2, w2 = (w.alloc (.cells #[.slice ta l.length tc, .slice pa l.length pc, .slice fa l.length fc, .int .i64 now] 36)).alloc (.cells #[.slice none 0 0, .slice none 0 0, .slice none 0 0, .int .i64 0] 36) := ⟨_, rfl⟩
  have HTW := two_ct (.slice ta l.length tc) (.slice pa l.length pc) (.slice fa l.length fc) now 36 w
  rw [← hw2] at HTW
  have HW2 := Lib.hid hw2
  have HT := Lib.hid HTW
  obtain ⟨⟨z0, z1, z2, z3, zf⟩, ⟨y0, y1, y2, y3, yf⟩, hb2, _⟩ := HTW
  have HGO := Lib.hid (rgo_rt (fun i => T i ∧ i < w.heap.size) _ l now p w2.drew (H.out.lt.below hb2.drew) hw hpl hlen)
  have hnl := WfT.lt hx
  obtain ⟨b, off, rfl, hc⟩ := ((h2.rd.below hb2)).cell now hnl
  rw [show (l.map (·.parent)).getD now 0 = (p : Int) by simp [List.getD, hx, hp]] at hc
  have d0 : w2.drew.cell? ⟨w.heap.size, 0, none⟩ = _ := z0
  have d1 : w2.drew.cell? ⟨w.heap.size, 1, none⟩ = _ := z1
  have d2 : w2.drew.cell? ⟨w.heap.size, 2, none⟩ = _ := z2
  have d3 : w2.drew.cell? ⟨w.heap.size, 3, none⟩ = _ := z3
  have dc : w2.drew.cell? ⟨b, off + now, none⟩ = _ := hc
  have hnz : ((now : Int) == 0) = false := by simpa using h0
  have hni : (now : Int) < (l.length : Int) := by omega
  obtain ⟨l2, hl2⟩ : ∃ l2, l2 = gotoP p l p := ⟨_, rfl⟩
  rw [← hl2] at HGO ⊢
  clear h h1 h2 h3 hw2 zf yf y0 y1 y2 y3 hb2 hc hx hp hw hpl hlen hl2 h0
  go_enter Try.func36, Try.ntmps36
  go_upto_region 1 with fail
  rw [← HW2.out]
  go_wp2_with fail
  go_region_law (first
    | (go_simp; go_at_call 39; refine HGO.out.mono ?_; rintro e w5 ⟨v5, rfl, hrt, hb5⟩; have HRT := Lib.hid hrt; have HB5 := Lib.hid hb5; obtain ⟨ta5, tc5, pa5, pc5, fa5, fc5, rfl, _, _, _⟩ := hrt; obtain ⟨y0, y1, y2, y3, yf⟩ := (HT.out.2.1.below (Below.refl _ _).drew).below hb5; have yf0 := yf 0; have yf1 := yf 1; have yf2 := yf 2; have yf3 := yf 3; clear yf hb5))
  all_goals
    try go_wp2
    exact bodyPost_ret (v := .tuple #[.agg #[.slice ta5 l2.length tc5, .slice pa5 l2.length pc5, .slice fa5 l2.length fc5, .int .i64 p], .int .i64 0]) (by simp [results, Try.results36, go_sem, y0, y1, y2, y3]) rfl ⟨_, rfl, rpost_end HT.out.2.2.1 HT.out.2.2.2 ⟨HRT.out, HB5.out⟩⟩

set_option maxRecDepth 100000 in
set_option maxHeartbeats 1000000 in
theorem rredo_no (T : Nat → Prop) (v : Value) (l : List Nd) (now : Nat) (w : World) (h : RT w T v l now) (x : Nd) (hx : l[now]? = some x) (hp : x.pref < 0) :
    Calls Try.prog 37 #[v] w fun e w' => ∃ v', e = .returned (.tuple #[v', .int .i64 7]) ∧ RPost T l now w v' w' := by
  have H := Lib.hid h
  obtain ⟨ta, tc, pa, pc, fa, fc, rfl, h1, h2, h3⟩ := h.ex
  obtain ⟨w2, hw2⟩ : ∃ w2, w2 = (w.alloc (.cells #[.slice ta l.length tc, .slice pa l.length pc, .slice fa l.length fc, .int .i64 now] 36)).alloc (.cells #[.slice none 0 0, .slice none 0 0, .slice none 0 0, .int .i64 0] 36) := ⟨_, rfl⟩
  have HTW := two_ct (.slice ta l.length tc) (.slice pa l.length pc) (.slice fa l.length fc) now 36 w
  rw [← hw2] at HTW
  have HW2 := Lib.hid hw2
  have HT := Lib.hid HTW
  obtain ⟨⟨z0, z1, z2, z3, zf⟩, ⟨y0, y1, y2, y3, yf⟩, hb2, _⟩ := HTW
  have yf0 := yf 0
  have yf1 := yf 1
  have yf2 := yf 2
  have yf3 := yf 3
  have hnl := WfT.lt hx
  obtain ⟨b, off, rfl, hc⟩ := ((h3.rd.below hb2)).cell now hnl
  rw [show (l.map (·.pref)).getD now 0 = x.pref by simp [List.getD, hx]] at hc
  obtain ⟨q, hq⟩ : ∃ q, q = x.pref := ⟨_, rfl⟩
  rw [← hq] at hc hp
  have hni : (now : Int) < (l.length : Int) := by omega
  clear h h1 h2 h3 hw2 zf yf hb2 hx hq
  go_enter Try.func37, Try.ntmps37
  go_upto_region 1 with fail
  rw [← HW2.out]
  go_wp2
  have hf := st4_fr w2 (w.heap.size + 1) (.slice ta l.length tc) (.slice pa l.length pc) (.slice (some ⟨b, off, none⟩) l.length fc) now
  exact bodyPost_ret (v := .tuple #[.agg #[.slice ta l.length tc, .slice pa l.length pc, .slice (some ⟨b, off, none⟩) l.length fc, .int .i64 now], .int .i64 7]) (by simp [results, Try.results37, go_sem, y0, y1, y2, y3]) rfl ⟨_, rfl, ((H.out.lt.below HT.out.2.2.1).fr hf (fun i hi e => by have := hi.2; omega)).mono (fun i hi => .inl hi.1), HT.out.2.2.1.trans (hf.below (fun g hb => by omega) HT.out.2.2.1.size)⟩

set_option maxRecDepth 100000 in
set_option maxHeartbeats 2000000 in
theorem rredo_ok (T : Nat → Prop) (v : Value) (l : List Nd) (now p : Nat) (w : World) (h : RT w T v l now) (hw : WfT l) (x : Nd) (hx : l[now]? = some x) (hp : x.pref = (p : Nat)) (hpl : p < l.length) (hlen : l.length ≤ 1000) :
    Calls Try.prog 37 #[v] w fun e w' => ∃ v', e = .returned (.tuple #[v', .int .i64 0]) ∧ RPost T (gotoP p l p) p w v' w' := by
  have H := Lib.hid h
  obtain ⟨ta, tc, pa, pc, fa, fc, rfl, h1, h2, h3⟩ := h.ex
  obtain ⟨w2, hw2⟩ : ∃ w2, w2 = (w.alloc (.cells #[.slice ta l.length tc, .slice pa l.length pc, .slice fa l.length fc, .int .i64 now] 36)).alloc (.cells #[.slice none 0 0, .slice none 0 0, .slice none 0 0, .int .i64 0] 36) := ⟨_, rfl⟩
  have HTW := two_ct (.slice ta l.length tc) (.slice pa l.length pc) (.slice fa l.length fc) now 36 w
  rw [← hw2] at HTW
  have HW2 := Lib.hid hw2
  have HT := Lib.hid HTW
  obtain ⟨⟨z0, z1, z2, z3, zf⟩, ⟨y0, y1, y2, y3, yf⟩, hb2, _⟩ := HTW
  have HGO := Lib.hid (rgo_rt (fun i => T i ∧ i < w.heap.size) _ l now p w2.drew (H.out.lt.below hb2.drew) hw hpl hlen)
  have hnl := WfT.lt hx
  obtain ⟨b, off, rfl, hc⟩ := ((h3.rd.below hb2)).cell now hnl
  rw [show (l.map (·.pref)).getD now 0 = (p : Int) by simp [List.getD, hx, hp]] at hc
  have d0 : w2.drew.cell? ⟨w.heap.size, 0, none⟩ = _ := z0
  have d1 : w2.drew.cell? ⟨w.heap.size, 1, none⟩ = _ := z1
  have d2 : w2.drew.cell? ⟨w.heap.size, 2, none⟩ = _ := z2
  have d3 : w2.drew.cell? ⟨w.heap.size, 3, none⟩ = _ := z3
  have dc : w2.drew.cell? ⟨b, off + now, none⟩ = _ := hc
  have hni : (now : Int) < (l.length : Int) := by omega
  obtain ⟨l2, hl2⟩ : ∃ l2, l2 = gotoP p l p := ⟨_, rfl⟩
  rw [← hl2] at HGO ⊢
  clear h h1 h2 h3 hw2 zf yf y0 y1 y2 y3 hb2 hx hp hw hpl hlen hl2
  go_enter Try.func37, Try.ntmps37
  go_upto_region 1 with fail
  rw [← HW2.out]
  go_wp2_with fail
  go_region_law (first
    | (go_simp; go_at_call 39; refine HGO.out.mono ?_; rintro e w5 ⟨v5, rfl, hrt, hb5⟩; have HRT := Lib.hid hrt; have HB5 := Lib.hid hb5; obtain ⟨ta5, tc5, pa5, pc5, fa5, fc5, rfl, _, _, _⟩ := hrt; obtain ⟨y0, y1, y2, y3, yf⟩ := (HT.out.2.1.below (Below.refl _ _).drew).below hb5; have yf0 := yf 0; have yf1 := yf 1; have yf2 := yf 2; have yf3 := yf 3; clear yf hb5))
  all_goals
    try go_wp2
    exact bodyPost_ret (v := .tuple #[.agg #[.slice ta5 l2.length tc5, .slice pa5 l2.length pc5, .slice fa5 l2.length fc5, .int .i64 p], .int .i64 0]) (by simp [results, Try.results37, go_sem, y0, y1, y2, y3]) rfl ⟨_, rfl, rpost_end HT.out.2.2.1 HT.out.2.2.2 ⟨HRT.out, HB5.out⟩⟩

end Go.Proofs.Ytjajlnhobchkgaa
