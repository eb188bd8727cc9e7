/-
  Do of a tree.
-/
import Derived.Test.YtjajlnhobchkgaaUStep
import Derived.Deep.RegionLaw
import Derived.BigRegion
import Derived.IntWalk
namespace Go.Proofs.Ytjajlnhobchkgaa
open Go.RowKit
set_option linter.unusedVariables false
set_option linter.unusedSimpArgs false

theorem EIG : EltG Try.prog 26 3 (.int .i64 0) 1 8 := ⟨Try.underlying26, info_parts (by kernel_rfl), rfl, by decide⟩
theorem EN : EltG Try.prog 67 71 (.agg #[.int .i64 0, .int .i64 0, .int .i64 0, .int .i64 0, .slice none 0 0]) 5 56 := ⟨Try.underlying67, info_parts (by kernel_rfl), rfl, by decide⟩

/-- the nodes after Do -/
def doN (l : List Nd) (now : Nat) (id : Int) : List Nd :=
  match l[now]? with
  | some x => l.set now { x with kids := x.kids ++ [(l.length : Int)], pref := l.length } ++ [⟨id, now, -1, x.depth + 1, []⟩]
  | none => l

/-- a new node's cells: no children yet -/
def leaf (id now d : Int) : Value × Nd := (.slice none 0 0, ⟨id, now, -1, d, []⟩)

def DoPost (S : Nat → Prop) (bt : Nat) (l : List Nd) (now : Nat) (id : Int) (w : World) (e : Ending) (w' : World) : Prop :=
  e = .returned (.int .i64 l.length) ∧ ∃ S', TI w' S' bt (doN l now id) l.length ∧ Fr S w w' ∧ ∀ i, S' i → S i ∨ w.heap.size ≤ i

set_option maxRecDepth 100000 in
set_option maxHeartbeats 4000000 in
theorem do_any (S : Nat → Prop) (bt : Nat) (l : List Nd) (now : Nat) (id : Int) (w : World) (ht : TI w S bt l now) (x : Nd) (hx : l[now]? = some x) (hlen : l.length ≤ 1000) (hd0 : 0 ≤ x.depth) (hd1 : x.depth ≤ 1000) (hk : x.kids.length ≤ 1000) :
    Calls Try.prog 30 #[.pointer (some ⟨bt, 0, none⟩), .int .i64 id] w (DoPost S bt l now id w) := by
  obtain ⟨g, n, c, vs, hT, rfl, hSg, hSo⟩ := ht.ex
  have hSb := ht.foot
  have hnow : now < vs.length := by have := (List.getElem?_eq_some_iff.1 hx).1; simpa using this
  obtain ⟨⟨v, nd⟩, hvx⟩ : ∃ y, vs[now]? = some y := ⟨_, List.getElem?_eq_getElem hnow⟩
  obtain rfl : nd = x := by rw [List.getElem?_map, hvx] at hx; simpa using hx
  have hn : n = vs.length := hT.hn
  have HT := Lib.hid hT
  have HX := Lib.hid hvx
  have HSG := Lib.hid hSg
  have HSO := Lib.hid hSo
  have HSB := Lib.hid hSb
  have HN := Lib.hid hn
  have HNOW := Lib.hid hnow
  have HLEN : Hid (n ≤ 1000) := Lib.hid (by rw [hn]; simpa using hlen)
  have hnn : (now : Int) < (n : Int) := by omega
  have hn9 : (n : Int) ≤ 1000 := by have := HLEN.out; omega
  have hn0 : 0 < n := by omega
  have HNONE := Lib.hid (none_no bt g n c w hT.c0 (by omega))
  have hc0 := hT.c0
  have hc1 := hT.c1
  have HFIN : Hid (DoPost S bt (vs.map (·.2)) now id w = DoPost S bt (vs.map (·.2)) now id w) := Lib.hid rfl
  have HDON : Hid (doN (vs.map (·.2)) now id = (vs.map (·.2)).set now { nd with kids := nd.kids ++ [(n : Int)], pref := n } ++ [⟨id, now, -1, nd.depth + 1, []⟩]) := Lib.hid (by unfold doN; rw [hx]; simp [hn])
  have HLN : Hid ((vs.map (·.2)).length = n) := Lib.hid (by simp [hn])
  clear ht hT hx hvx hSg hSo hSb hn hlen hnow
  obtain ⟨hN1, hN2, hN3, hN4, hN5⟩ := HT.out.node HX.out
  have hown := HT.out.own _ (List.mem_of_getElem? HX.out)
  simp only at hN1 hN2 hN3 hN4 hN5 hown
  obtain ⟨ka, kc, rfl⟩ := hown.form
  have HOWN := Lib.hid hown
  have HNODE := Lib.hid (And.intro hN3 (And.intro hN4 hN5))
  clear hown hN1 hN2 hN3 hN4 hN5
  go_enter Try.func30, Try.ntmps30
  go_wp2_with fail
  refine HNONE.out.mono ?_
  rintro e w1 ⟨rfl, rfl⟩
  go_wp2_with fail
  go_quiet (fail)
  obtain ⟨wq, hwq⟩ : ∃ wq, wq = w.drewN nq := ⟨_, rfl⟩
  rw [← hwq]
  have hbq : Below w.heap.size w wq := by rw [hwq]; exact ⟨rfl, rfl, rfl, Nat.le_refl _, fun _ _ => rfl⟩
  have HTQ := Lib.hid (HT.out.below hbq)
  have HBQ := Lib.hid hbq
  have hN5 := below_cell hbq HNODE.out.2.2
  have HOQ : Hid (Row wq 0 3 1 (.slice ka nd.kids.length kc) nd.kids.length (nd.kids.map (Value.int .i64))) := Lib.hid (Row.below HOWN.out hbq)
  clear hc0 hc1 hbq hwq
  have hgx := below_cell (below_alloc wq (.cells #[.int .i64 (n : Int)] 3)) hN5
  have hob := HTQ.out.ob _ (List.mem_of_getElem? HX.out)
  simp only at hob
  have HOB := Lib.hid hob
  clear hob
  have hgl : g < wq.heap.size := (Row.block_lt HTQ.out.row rfl).1
  have HGL := Lib.hid hgl
  have HPR : Hid (∀ j v, wq.cell? ⟨g, j, none⟩ = some v → (wq.alloc (.cells #[.int .i64 (n : Int)] 3)).cell? ⟨g, j, none⟩ = some v) := Lib.hid fun j v h => below_cell (below_alloc _ _) h
  have HQ2 := Lib.hid (below_cell HBQ.out HNODE.out.1)
  clear hgl
  go_wp2_with (at_builtin; refine app_row_at (.tmp 27) (.tmp 29) EIG rfl rfl 0 (.slice ka nd.kids.length kc) nd.kids.length _ rfl (Row.alloc HOQ.out _) _ 1 _ [.int .i64 (n : Int)] rfl (RdG.lits wq 1 3 1 [.int .i64 (n : Int)] rfl) (by simp [Value.oneCell']) (by omega) (by decide) (Nat.zero_le _) ?_; intro a7 c7 w7 hr7 hg7 hat7; have hc7 := hg7.cell hgx (fun e => HOB.out.2 e.symm); have hc8 := hg7.cell (HPR.out _ _ HQ2.out) (fun e => HOB.out.2 e.symm); have hf7 : ∀ j, w7.frozen? ⟨g, j, none⟩ = false := fun j => (World.frozen?_of_block (w := wq.alloc (.cells #[.int .i64 (n : Int)] 3)) (hg7.block g (by have := HGL.out; simp; omega) (fun e => HOB.out.2 e.symm))).trans (((below_alloc wq _).frozen (p := ⟨g, j, none⟩) HGL.out).trans (HTQ.out.nfz _)); have HK := Lib.hid (HTQ.out.kid HX.out hr7 hg7 hat7); clear hr7 hg7 hat7 hgx hN5)
  obtain ⟨w8, hw8⟩ : ∃ w8, w8 = w7.setCell ⟨g, now * 5 + 4, none⟩ (.slice a7 (nd.kids.length + 1) c7) := ⟨_, rfl⟩
  rw [← hw8] at HK ⊢
  have hlk : (vs.set now (.slice a7 (nd.kids.length + 1) c7, { nd with kids := nd.kids ++ [(n : Int)] }))[now]? = some (.slice a7 (nd.kids.length + 1) c7, { nd with kids := nd.kids ++ [(n : Int)] }) := by
    rw [List.getElem?_set, if_pos rfl, if_pos HNOW.out]
  have hset := HK.out.1.set (k := 2) (nd := { nd with kids := nd.kids ++ [(n : Int)], pref := n }) (u := .int .i64 n) hlk (by omega) rfl rfl
  rw [List.set_set] at hset
  obtain ⟨w9, hw9⟩ : ∃ w9, w9 = w8.setCell ⟨g, now * 5 + 2, none⟩ (.int .i64 n) := ⟨_, rfl⟩
  rw [← hw9] at hset ⊢
  have HS := Lib.hid hset
  have hlk9 : (vs.set now (.slice a7 (nd.kids.length + 1) c7, { nd with kids := nd.kids ++ [(n : Int)], pref := n }))[now]? = some (.slice a7 (nd.kids.length + 1) c7, { nd with kids := nd.kids ++ [(n : Int)], pref := n }) := by
    rw [List.getElem?_set, if_pos rfl, if_pos HNOW.out]
  have hdep := (hset.1.node hlk9).2.2.2.1
  simp only at hdep
  have hb0 := hset.1.c0
  have hb1 := hset.1.c1
  have HMAP : Hid ((vs.set now (.slice a7 (nd.kids.length + 1) c7, { nd with kids := nd.kids ++ [(n : Int)], pref := n }) ++ [leaf id now (nd.depth + 1)]).map (·.2) = doN (vs.map (·.2)) now id) := Lib.hid (by
    rw [HDON.out, List.map_append, List.map_set]; rfl)
  have HS1 : Hid (∀ y ∈ vs.set now (.slice a7 (nd.kids.length + 1) c7, { nd with kids := nd.kids ++ [(n : Int)], pref := n }) ++ [leaf id now (nd.depth + 1)], ∀ k, y.1.ownBlock = some k → S k ∨ w.heap.size ≤ k) := Lib.hid (by
    intro y hy k hk
    rcases List.mem_append.1 hy with hy | hy
    · rcases set_mem hy with hy | rfl
      · exact .inl (HSO.out y hy k hk)
      · rcases HK.out.2.2 k hk with h | h
        · exact .inl (HSO.out _ (List.mem_of_getElem? HX.out) k h)
        · exact .inr (by have := HBQ.out.size; omega)
    · rw [List.mem_singleton] at hy; subst hy
      simp [leaf, Value.ownBlock] at hk)
  have HF9 : Hid (Fr S w w9) := Lib.hid (((Fr.of_below HBQ.out).then (HK.out.2.1.mono (T := S) (by
    rintro i (rfl | hi)
    · exact HSG.out
    · exact HSO.out _ (List.mem_of_getElem? HX.out) i hi)) fun i hi => .inl hi).then (hset.2.mono (T := S) fun i hi => hi ▸ HSG.out) fun i hi => .inl hi)
  have HROW := Lib.hid hset.1.row
  clear hw8 hw9 hset hlk hlk9 hc7 hc8 hf7
  generalize vs.set now (.slice a7 (nd.kids.length + 1) c7, { nd with kids := nd.kids ++ [(n : Int)], pref := n }) = vs2 at *
  have HBT : Hid (bt < w9.heap.size) := Lib.hid (World.block_lt_of_cell? w9 _ hb0)
  have hb0a := below_cell (below_alloc w9 (.cells #[.int .i64 id, .int .i64 now, .int .i64 (-1), .int .i64 (nd.depth + 1), .slice none 0 0] 71)) hb0
  have hwr : IntKind.i64.wrap (nd.depth + 1) = nd.depth + 1 := IntWalk.i64_in _ (by omega)
  go_region_law (refine step_app_row_at (.tmp 41) (.tmp 53) EN rfl rfl 0 (.slice (some ⟨g, 0, none⟩) n c) n (cellsN vs2) rfl (Row.alloc HROW.out _).drew _ 1 _ [.int .i64 id, .int .i64 now, .int .i64 (-1), .int .i64 (nd.depth + 1), .slice none 0 0] rfl (RdG.lits _ 5 71 1 [.int .i64 id, .int .i64 now, .int .i64 (-1), .int .i64 (nd.depth + 1), .slice none 0 0] rfl).drew (by simp [Value.oneCell']) (by have := HLEN.out; omega) (by decide) (Nat.zero_le _) ?_; intro a4 c4 w4 hr4 hg4 hat4; have gg4 := hg4.cell (a := ⟨bt, 0, none⟩) (show (w9.alloc (.cells #[.int .i64 id, .int .i64 now, .int .i64 (-1), .int .i64 (nd.depth + 1), .slice none 0 0] 71)).drew.cell? ⟨bt, 0, none⟩ = _ from hb0a) (fun e => HT.out.gb (Option.some.inj e).symm); have hf4 : w4.frozen? ⟨bt, 0, none⟩ = false := (World.frozen?_of_block (w := (w9.alloc (.cells #[.int .i64 id, .int .i64 now, .int .i64 (-1), .int .i64 (nd.depth + 1), .slice none 0 0] 71)).drew) (hg4.block bt (by have := HBT.out; simp; omega) (fun e => HT.out.gb (Option.some.inj e).symm))).trans (((below_alloc w9 _).frozen HBT.out).trans (HS.out.1.fz 0)))
  all_goals
    clear hwr
    obtain ⟨g', ha4, hg', hT5, hF5⟩ := HS.out.1.push (nd := ⟨id, now, -1, nd.depth + 1, []⟩) rfl hr4 hg4 hat4
    obtain ⟨w5, hw5⟩ : ∃ w5, w5 = w4.setCell ⟨bt, 0, none⟩ (.slice a4 (n + 1) c4) := ⟨_, rfl⟩
    rw [← hw5] at hT5 hF5 ⊢
    have HT5 := Lib.hid hT5
    have HF5 := Lib.hid hF5
    have HG5 := Lib.hid hg'
    have hc15 := hT5.c1
    have hf15 := hT5.fz 1
    have HSZ9 : Hid (w.heap.size ≤ w9.heap.size) := Lib.hid HF9.out.size
    clear hr4 hg4 hat4 gg4 hf4 hw5 hT5 hF5 hg' ha4 hb0 hb0a hb1 hdep
    go_wp2
    go_ret
    have hgo := HT5.out.goto (n : Int)
    refine ⟨ret_eq (by rw [HLN.out]; rfl), fun i => S i ∨ w.heap.size ≤ i, ⟨⟨g', n + 1, c4, vs2 ++ [leaf id now (nd.depth + 1)], by rw [HLN.out]; exact hgo.1, HMAP.out.symm, ?_, HS1.out⟩, .inl HSB.out⟩, ?_, fun i hi => hi⟩
    · rcases HG5.out with e | e
      · exact .inl (e ▸ HSG.out)
      · exact .inr (by have := HSZ9.out; omega)
    · exact (HF9.out.then (HF5.out.mono (T := S) (by
        rintro i (rfl | rfl)
        · exact HSG.out
        · exact HSB.out)) fun i hi => .inl hi).then (hgo.2.mono (T := S) fun i hi => hi ▸ HSB.out) fun i hi => .inl hi

end Go.Proofs.Ytjajlnhobchkgaa
