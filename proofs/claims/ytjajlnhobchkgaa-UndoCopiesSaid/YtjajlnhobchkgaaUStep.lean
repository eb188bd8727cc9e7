/-
  how the tree changes in memory: a field of a node, a child more, a node more, the current node.
-/
import Derived.Test.YtjajlnhobchkgaaUBase
namespace Go.Proofs.Ytjajlnhobchkgaa
open Go.RowKit
set_option linter.unusedVariables false
set_option linter.unusedSimpArgs false

theorem set_mem {α : Type} {l : List α} {i : Nat} {x y : α} (h : y ∈ l.set i x) : y ∈ l ∨ y = x := by
  rcases List.mem_or_eq_of_mem_set h with h | h
  · exact .inl h
  · exact .inr h
theorem set_at {α : Type} {l : List α} {i j : Nat} {x y : α} (h : (l.set i x)[j]? = some y) : (j = i ∧ y = x) ∨ (j ≠ i ∧ l[j]? = some y) := by
  rw [List.getElem?_set] at h
  by_cases hij : i = j
  · rw [if_pos hij] at h
    split at h
    · exact .inl ⟨hij.symm, (Option.some.inj h).symm⟩
    · cases h
  · rw [if_neg hij] at h; exact .inr ⟨fun e => hij e.symm, h⟩

/-- a field of a node, not the children -/
theorem TN.set {w : World} {bt g n c vs now} (h : TN w bt g n c vs now) {i k : Nat} {x : Value × Nd} {nd : Nd} {u : Value} (hx : vs[i]? = some x) (hk : k < 5) (he : cell5 (x.1, nd) = (cell5 x).set k u) (hki : nd.kids = x.2.kids) :
    TN (w.setCell ⟨g, i * 5 + k, none⟩ u) bt g n c (vs.set i (x.1, nd)) now ∧ Fr (fun j => j = g) w (w.setCell ⟨g, i * 5 + k, none⟩ u) := by
  have hf : Fr (fun j => j = g) w (w.setCell ⟨g, i * 5 + k, none⟩ u) := (Fr.refl (fun j => j = g) w).setCell (p := ⟨g, i * 5 + k, none⟩) rfl u
  have hst := World.ownsRow.stored h.row (i * 5 + k) u
  have hxm := List.mem_of_getElem? hx
  refine ⟨⟨by rw [List.length_set]; exact h.hn, hf.cell h.c0 (Ne.symm h.gb), hf.cell h.c1 (Ne.symm h.gb), fun j => (hf.frozen (x := ⟨bt, j, none⟩) (show bt < _ from World.block_lt_of_cell? w _ h.c0) (Ne.symm h.gb)).trans (h.fz j), ?_, ?_, h.gb, ?_, ?_⟩, hf⟩
  · rw [← cellsN_set vs i k x (x.1, nd) u hx hk he]; exact hst.1
  · intro y hy
    rcases set_mem hy with hy | rfl
    · exact Row.fr (h.own y hy) hf fun b hb e => (h.ob y hy).2 (e ▸ hb)
    · show Own _ 0 _ _ x.1 nd.kids
      rw [hki]; exact Row.fr (h.own x hxm) hf fun b hb e => (h.ob x hxm).2 (e ▸ hb)
  · intro y hy
    rcases set_mem hy with hy | rfl
    · exact h.ob y hy
    · exact h.ob x hxm
  · intro a b y z hy hz hab q hq
    rcases set_at hy with ⟨rfl, rfl⟩ | ⟨_, hy2⟩ <;> rcases set_at hz with ⟨rfl, rfl⟩ | ⟨_, hz2⟩
    · exact absurd rfl hab
    · exact h.ap _ _ x z hx hz2 hab q hq
    · exact h.ap _ _ y x hy2 hx hab q hq
    · exact h.ap _ _ y z hy2 hz2 hab q hq

/-- the current node -/
theorem TN.goto {w : World} {bt g n c vs now} (h : TN w bt g n c vs now) (k : Int) :
    TN (w.setCell ⟨bt, 1, none⟩ (.int .i64 k)) bt g n c vs k ∧ Fr (fun j => j = bt) w (w.setCell ⟨bt, 1, none⟩ (.int .i64 k)) := by
  have hf : Fr (fun j => j = bt) w (w.setCell ⟨bt, 1, none⟩ (.int .i64 k)) := (Fr.refl (fun j => j = bt) w).setCell (p := ⟨bt, 1, none⟩) rfl _
  exact ⟨⟨h.hn, set_other (by simp) h.c0, set_same h.c1, fun j => (World.frozen?_setCell ..).trans (h.fz j), Row.fr h.row hf (fun b hb e => by cases hb; exact h.gb e), fun x hx => Row.fr (h.own x hx) hf (fun b hb e => (h.ob x hx).1 (e ▸ hb)), h.gb, h.ob, h.ap⟩, hf⟩

/-- a child more -/
theorem TN.kid {w w1 : World} {bt g n c vs now} (h : TN w bt g n c vs now) {i : Nat} {x : Value × Nd} (hx : vs[i]? = some x) {ka : Option Addr} {kc : Nat} {q : Int} {o : Obj}
    (hr : Row w1 0 3 1 (.slice ka (x.2.kids.length + 1) kc) (x.2.kids.length + 1) (x.2.kids.map (Value.int .i64) ++ [.int .i64 q]))
    (hg : (w.alloc o).grownBy w1 x.1.ownBlock) (hat : (Value.slice ka (x.2.kids.length + 1) kc).ownBlock = x.1.ownBlock ∨ (Value.slice ka (x.2.kids.length + 1) kc).ownBlock = some (w.alloc o).heap.size) :
    TN (w1.setCell ⟨g, i * 5 + 4, none⟩ (.slice ka (x.2.kids.length + 1) kc)) bt g n c (vs.set i (.slice ka (x.2.kids.length + 1) kc, { x.2 with kids := x.2.kids ++ [q] })) now ∧
      Fr (fun j => j = g ∨ x.1.ownBlock = some j) w (w1.setCell ⟨g, i * 5 + 4, none⟩ (.slice ka (x.2.kids.length + 1) kc)) ∧ (∀ k, (Value.slice ka (x.2.kids.length + 1) kc).ownBlock = some k → x.1.ownBlock = some k ∨ w.heap.size ≤ k) := by
  have hxm := List.mem_of_getElem? hx
  have hf1 : Fr (fun j => x.1.ownBlock = some j) w w1 := ((Fr.refl _ w).alloc o).then (.of_grown hg fun k hk => hk) fun i hi => .inl hi
  have hf2 : Fr (fun j => j = g) w1 (w1.setCell ⟨g, i * 5 + 4, none⟩ (.slice ka (x.2.kids.length + 1) kc)) := (Fr.refl (fun j => j = g) w1).setCell (p := ⟨g, i * 5 + 4, none⟩) rfl _
  have hsz : (w.alloc o).heap.size = w.heap.size + 1 := by simp
  have hbt : bt < w.heap.size := World.block_lt_of_cell? w _ h.c0
  have hgl : g < w.heap.size := (Row.block_lt h.row rfl).1
  have hol : ∀ y ∈ vs, ∀ k, y.1.ownBlock = some k → k < w.heap.size := fun y hy k hk => (Row.block_lt (h.own y hy) hk).1
  have hnb : ∀ k, (Value.slice ka (x.2.kids.length + 1) kc).ownBlock = some k → x.1.ownBlock = some k ∨ w.heap.size ≤ k := by
    intro k hk
    rcases hat with e | e
    · exact .inl (e ▸ hk)
    · rw [e, hsz] at hk; have := Option.some.inj hk; exact .inr (by omega)
  have hst := World.ownsRow.stored (Row.fr h.row hf1 (fun k hk e => by cases hk; exact (h.ob x hxm).2 e)) (i * 5 + 4) (.slice ka (x.2.kids.length + 1) kc)
  have hown : ∀ y ∈ vs, (∀ k, y.1.ownBlock = some k → x.1.ownBlock ≠ some k) → Own (w1.setCell ⟨g, i * 5 + 4, none⟩ (.slice ka (x.2.kids.length + 1) kc)) 0 3 .i64 y.1 y.2.kids := fun y hy hd =>
    Row.fr (Row.fr (h.own y hy) hf1 fun k hk e => hd k hk e) hf2 fun k hk e => (h.ob y hy).2 (e ▸ hk)
  refine ⟨⟨by rw [List.length_set]; exact h.hn, hf2.cell (hf1.cell h.c0 (h.ob x hxm).1) (Ne.symm h.gb), hf2.cell (hf1.cell h.c1 (h.ob x hxm).1) (Ne.symm h.gb), fun j => ?_, ?_, ?_, h.gb, ?_, ?_⟩, (hf1.mono fun j hj => .inr hj).then (hf2.mono (T := fun j => j = g ∨ x.1.ownBlock = some j) fun j hj => .inl hj) fun j hj => .inl hj, hnb⟩
  · exact (World.frozen?_setCell ..).trans ((hf1.frozen (x := ⟨bt, j, none⟩) hbt (h.ob x hxm).1).trans (h.fz j))
  · rw [← cellsN_set vs i 4 x (.slice ka (x.2.kids.length + 1) kc, { x.2 with kids := x.2.kids ++ [q] }) (.slice ka (x.2.kids.length + 1) kc) hx (by omega) rfl]; exact hst.1
  · intro y hy
    obtain ⟨j, hj⟩ := List.getElem?_of_mem hy
    rcases set_at hj with ⟨rfl, rfl⟩ | ⟨hji, hj⟩
    · show Own _ 0 _ _ _ (x.2.kids ++ [q])
      unfold Own
      rw [List.length_append, List.map_append]
      refine Row.fr hr hf2 fun k hk e => ?_
      rcases hnb k hk with e2 | e2
      · exact (h.ob x hxm).2 (e ▸ e2)
      · omega
    · exact hown y (List.mem_of_getElem? hj) fun k hk => h.ap j i y x hj hx hji k hk
  · intro y hy
    rcases set_mem hy with hy | rfl
    · exact h.ob y hy
    · refine ⟨fun e => ?_, fun e => ?_⟩
      · rcases hnb _ e with e2 | e2
        · exact (h.ob x hxm).1 e2
        · omega
      · rcases hnb _ e with e2 | e2
        · exact (h.ob x hxm).2 e2
        · omega
  · intro a b y z hy hz hab q2 hq2
    rcases set_at hy with ⟨rfl, rfl⟩ | ⟨_, hy2⟩ <;> rcases set_at hz with ⟨rfl, rfl⟩ | ⟨_, hz2⟩
    · exact absurd rfl hab
    · intro hzq
      rcases hnb _ hq2 with e2 | e2
      · exact h.ap _ _ x z hx hz2 hab q2 e2 hzq
      · have := hol z (List.mem_of_getElem? hz2) q2 hzq; omega
    · intro hzq
      rcases hnb _ hzq with e2 | e2
      · exact h.ap _ _ y x hy2 hx hab q2 hq2 e2
      · have := hol y (List.mem_of_getElem? hy2) q2 hq2; omega
    · exact h.ap _ _ y z hy2 hz2 hab q2 hq2

/-- a node more -/
theorem TN.push {w w4 : World} {bt g n c vs now} (h : TN w bt g n c vs now) {a4 : Option Addr} {c4 : Nat} {nd : Nd} {o : Obj} (hk : nd.kids = [])
    (hr : Row w4 0 71 5 (.slice a4 (n + 1) c4) (n + 1) (cellsN vs ++ cell5 (.slice none 0 0, nd)))
    (hg : (w.alloc o).drew.grownBy w4 (some g)) (hat : (Value.slice a4 (n + 1) c4).ownBlock = some g ∨ (Value.slice a4 (n + 1) c4).ownBlock = some (w.alloc o).drew.heap.size) :
    ∃ g', a4 = some ⟨g', 0, none⟩ ∧ (g' = g ∨ w.heap.size ≤ g') ∧ TN (w4.setCell ⟨bt, 0, none⟩ (.slice a4 (n + 1) c4)) bt g' (n + 1) c4 (vs ++ [(.slice none 0 0, nd)]) now ∧ Fr (fun j => j = g ∨ j = bt) w (w4.setCell ⟨bt, 0, none⟩ (.slice a4 (n + 1) c4)) := by
  have hf1 : Fr (fun j => j = g) w w4 := ((Fr.refl _ w).alloc o).drew.then (.of_grown hg fun k hk => (Option.some.inj hk).symm) fun i hi => .inl hi
  have hf2 : Fr (fun j => j = bt) w4 (w4.setCell ⟨bt, 0, none⟩ (.slice a4 (n + 1) c4)) := (Fr.refl (fun j => j = bt) w4).setCell (p := ⟨bt, 0, none⟩) rfl _
  have hsz : (w.alloc o).drew.heap.size = w.heap.size + 1 := by simp
  have hbt : bt < w.heap.size := World.block_lt_of_cell? w _ h.c0
  have hgl : g < w.heap.size := (Row.block_lt h.row rfl).1
  have hol : ∀ y ∈ vs, ∀ k, y.1.ownBlock = some k → k < w.heap.size := fun y hy k hk => (Row.block_lt (h.own y hy) hk).1
  obtain ⟨g', rfl⟩ : ∃ g', a4 = some ⟨g', 0, none⟩ := by
    rcases hr.2 with ⟨hv, _⟩ | ⟨g', cap, cur, hv, _⟩
    · simp at hv
    · simp only [Value.slice.injEq] at hv; exact ⟨g', hv.1⟩
  have hg' : g' = g ∨ w.heap.size ≤ g' := by
    rcases hat with e | e
    · exact .inl (Option.some.inj e)
    · rw [hsz] at e; have := Option.some.inj e; simp at this; exact .inr (by omega)
  have hgb : g' ≠ bt := by rcases hg' with e | e; · rw [e]; exact h.gb
                           · omega
  refine ⟨g', rfl, hg', ⟨by rw [List.length_append, ← h.hn]; rfl, set_same (hf1.cell h.c0 (Ne.symm h.gb)), set_other (by simp) (hf1.cell h.c1 (Ne.symm h.gb)), fun j => (World.frozen?_setCell ..).trans ((hf1.frozen (x := ⟨bt, j, none⟩) hbt (Ne.symm h.gb)).trans (h.fz j)), ?_, ?_, hgb, ?_, ?_⟩, (hf1.mono fun j hj => .inl hj).then (hf2.mono (T := fun j => j = g ∨ j = bt) fun j hj => .inr hj) fun j hj => .inl hj⟩
  · rw [cellsN_append]
    exact Row.fr hr hf2 fun k hk e => by cases hk; exact hgb e
  · intro y hy
    rcases List.mem_append.1 hy with hy | hy
    · exact Row.fr (Row.fr (h.own y hy) hf1 fun k hk e => (h.ob y hy).2 (e ▸ hk)) hf2 fun k hk e => (h.ob y hy).1 (e ▸ hk)
    · rw [List.mem_singleton] at hy; subst hy
      show Own _ 0 _ _ _ nd.kids
      rw [hk]; exact Own.nil _ _ _ _
  · intro y hy
    rcases List.mem_append.1 hy with hy | hy
    · refine ⟨(h.ob y hy).1, fun e => ?_⟩
      rcases hg' with e2 | e2
      · exact (h.ob y hy).2 (e2 ▸ e)
      · have := hol y hy _ e; omega
    · rw [List.mem_singleton] at hy; subst hy
      exact ⟨by simp [Value.ownBlock], by simp [Value.ownBlock]⟩
  · intro a b y z hy hz hab q hq
    have hsp : ∀ (j : Nat) (x : Value × Nd), (vs ++ [(Value.slice none 0 0, nd)])[j]? = some x → vs[j]? = some x ∨ x.1 = .slice none 0 0 := by
      intro j x hx
      by_cases hj : j < vs.length
      · rw [List.getElem?_append_left hj] at hx; exact .inl hx
      · rw [List.getElem?_append_right (by omega)] at hx
        have := List.mem_of_getElem? hx
        rw [List.mem_singleton] at this; subst this; exact .inr rfl
    rcases hsp a y hy with hy | hy
    · rcases hsp b z hz with hz | hz
      · exact h.ap a b y z hy hz hab q hq
      · rw [hz]; simp [Value.ownBlock]
    · rw [hy] at hq; simp [Value.ownBlock] at hq

end Go.Proofs.Ytjajlnhobchkgaa
