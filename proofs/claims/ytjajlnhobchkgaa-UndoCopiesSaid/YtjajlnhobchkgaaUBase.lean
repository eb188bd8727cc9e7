/-
  a tree of texts as it lies in memory; the small methods.
-/
import Derived.Test.YtjajlnhobchkgaaFrame
import Derived.Test.YtjajlnhobchkgaaSmall
namespace Go.Proofs.Ytjajlnhobchkgaa
open Go.RowKit
set_option linter.unusedVariables false
set_option linter.unusedSimpArgs false

/-- a node: its text, parent, preferred child, depth, children -/
structure Nd where
  text : Int
  parent : Int
  pref : Int
  depth : Int
  kids : List Int

def cell5 (x : Value × Nd) : List Value := [.int .i64 x.2.text, .int .i64 x.2.parent, .int .i64 x.2.pref, .int .i64 x.2.depth, x.1]
def cellsN (vs : List (Value × Nd)) : List Value := vs.flatMap cell5

theorem cellsN_len (vs : List (Value × Nd)) : (cellsN vs).length = vs.length * 5 := by
  induction vs with
  | nil => rfl
  | cons x r ih => simp only [cellsN, List.flatMap_cons, List.length_append, List.length_cons, cell5, List.length_nil] at *; omega
theorem cellsN_append (vs : List (Value × Nd)) (x : Value × Nd) : cellsN (vs ++ [x]) = cellsN vs ++ cell5 x := by simp [cellsN]

theorem cellsN_get : ∀ (vs : List (Value × Nd)) (i k : Nat) (x : Value × Nd), vs[i]? = some x → k < 5 → (cellsN vs)[i * 5 + k]? = (cell5 x)[k]?
  | [], _, _, _, h, _ => by simp at h
  | y :: r, 0, k, x, h, hk => by
    simp only [List.getElem?_cons_zero, Option.some.injEq] at h
    subst h
    show (cell5 y ++ cellsN r)[0 * 5 + k]? = _
    rw [List.getElem?_append_left (by simp [cell5]; omega)]; simp
  | y :: r, i + 1, k, x, h, hk => by
    simp only [List.getElem?_cons_succ] at h
    show (cell5 y ++ cellsN r)[(i + 1) * 5 + k]? = _
    rw [List.getElem?_append_right (by simp [cell5]; omega), show (i + 1) * 5 + k - (cell5 y).length = i * 5 + k by simp [cell5]; omega]
    exact cellsN_get r i k x h hk

theorem cellsN_set : ∀ (vs : List (Value × Nd)) (i k : Nat) (x x' : Value × Nd) (u : Value), vs[i]? = some x → k < 5 → cell5 x' = (cell5 x).set k u → (cellsN vs).set (i * 5 + k) u = cellsN (vs.set i x')
  | [], _, _, _, _, _, h, _, _ => by simp at h
  | y :: r, 0, k, x, x', u, h, hk, he => by
    simp only [List.getElem?_cons_zero, Option.some.injEq] at h
    subst h
    show (cell5 y ++ cellsN r).set (0 * 5 + k) u = cell5 x' ++ cellsN r
    rw [List.set_append_left _ _ (by simp [cell5]; omega), he]; simp
  | y :: r, i + 1, k, x, x', u, h, hk, he => by
    simp only [List.getElem?_cons_succ] at h
    show (cell5 y ++ cellsN r).set ((i + 1) * 5 + k) u = cell5 y ++ cellsN (r.set i x')
    rw [List.set_append_right _ _ (by simp [cell5]; omega), show (i + 1) * 5 + k - (cell5 y).length = i * 5 + k by simp [cell5]; omega, cellsN_set r i k x x' u h hk he]

/-- the nodes of a tree behind the pointer to block bt; the row of nodes lies in block g -/
structure TN (w : World) (bt g n c : Nat) (vs : List (Value × Nd)) (now : Int) : Prop where
  hn : n = vs.length
  c0 : w.cell? ⟨bt, 0, none⟩ = some (.slice (some ⟨g, 0, none⟩) n c)
  c1 : w.cell? ⟨bt, 1, none⟩ = some (.int .i64 now)
  fz : ∀ j, w.frozen? ⟨bt, j, none⟩ = false
  row : Row w 0 71 5 (.slice (some ⟨g, 0, none⟩) n c) n (cellsN vs)
  own : ∀ x ∈ vs, Own w 0 3 .i64 x.1 x.2.kids
  gb : g ≠ bt
  ob : ∀ x ∈ vs, x.1.ownBlock ≠ some bt ∧ x.1.ownBlock ≠ some g
  ap : ∀ (i j : Nat) (x y : Value × Nd), vs[i]? = some x → vs[j]? = some y → i ≠ j → ∀ k, x.1.ownBlock = some k → y.1.ownBlock ≠ some k

/-- the tree, all of whose blocks are in S -/
structure TI (w : World) (S : Nat → Prop) (bt : Nat) (l : List Nd) (now : Int) : Prop where
  ex : ∃ g n c vs, TN w bt g n c vs now ∧ l = vs.map (·.2) ∧ S g ∧ ∀ x ∈ vs, ∀ k, x.1.ownBlock = some k → S k
  foot : S bt

theorem TN.fr {w w' : World} {F : Nat → Prop} {bt g n c vs now} (h : TN w bt g n c vs now) (hf : Fr F w w') (h1 : ¬ F bt) (h2 : ¬ F g) (h3 : ∀ x ∈ vs, ∀ k, x.1.ownBlock = some k → ¬ F k) : TN w' bt g n c vs now :=
  ⟨h.hn, hf.cell h.c0 h1, hf.cell h.c1 h1, fun j => (hf.frozen (x := ⟨bt, j, none⟩) (show bt < _ from World.block_lt_of_cell? w _ h.c0) h1).trans (h.fz j), Row.fr h.row hf (fun k hk => by cases hk; exact h2), fun x hx => Row.fr (h.own x hx) hf (h3 x hx), h.gb, h.ob, h.ap⟩
theorem TN.below {w w' : World} {bt g n c vs now} (h : TN w bt g n c vs now) (hb : Below w.heap.size w w') : TN w' bt g n c vs now := h.fr (F := fun _ => False) (.of_below hb) id id (fun _ _ _ _ h => h)
theorem TI.fr {w w' : World} {S F : Nat → Prop} {bt l now} (h : TI w S bt l now) (hf : Fr F w w') (hd : ∀ i, S i → ¬ F i) : TI w' S bt l now := by
  obtain ⟨g, n, c, vs, h1, h2, h3, h4⟩ := h.ex
  exact ⟨⟨g, n, c, vs, h1.fr hf (hd _ h.foot) (hd _ h3) (fun x hx k hk => hd _ (h4 x hx k hk)), h2, h3, h4⟩, h.foot⟩
theorem TI.below {w w' : World} {S : Nat → Prop} {bt l now} (h : TI w S bt l now) (hb : Below w.heap.size w w') : TI w' S bt l now := h.fr (F := fun _ => False) (.of_below hb) (fun _ _ h => h)

/-- the five cells of a node -/
theorem TN.node {w : World} {bt g n c vs now} (h : TN w bt g n c vs now) {i : Nat} {x : Value × Nd} (hx : vs[i]? = some x) :
    w.cell? ⟨g, i * 5, none⟩ = some (.int .i64 x.2.text) ∧ w.cell? ⟨g, i * 5 + 1, none⟩ = some (.int .i64 x.2.parent) ∧ w.cell? ⟨g, i * 5 + 2, none⟩ = some (.int .i64 x.2.pref) ∧ w.cell? ⟨g, i * 5 + 3, none⟩ = some (.int .i64 x.2.depth) ∧ w.cell? ⟨g, i * 5 + 4, none⟩ = some x.1 := by
  have hi : i < vs.length := (List.getElem?_eq_some_iff.1 hx).1
  have hn := h.hn
  have hr := h.row
  have e := fun k (hk : k < 5) => (World.ownsRow.cellAt hr (i * 5 + k) (by omega)).trans (cellsN_get vs i k x hx hk)
  exact ⟨e 0 (by omega), e 1 (by omega), e 2 (by omega), e 3 (by omega), e 4 (by omega)⟩
theorem TN.nfz {w : World} {bt g n c vs now} (h : TN w bt g n c vs now) (j : Nat) : w.frozen? ⟨g, j, none⟩ = false := World.ownsRow.frozenAt h.row j

theorem none_no (bt g n c : Nat) (w : World) (h : w.cell? ⟨bt, 0, none⟩ = some (.slice (some ⟨g, 0, none⟩) n c)) (hn : 0 < n) :
    Calls Try.prog 33 #[.pointer (some ⟨bt, 0, none⟩)] w fun e w' => e = .returned (.bool false) ∧ w = w' := by
  have h1 : ((n : Int) == 0) = false := by simp; omega
  go_enter Try.func33, Try.ntmps33
  go_wp2
  go_ret
  exact ⟨ret_eq (by simp), rfl⟩
theorem none_nil (w : World) : Calls Try.prog 33 #[.pointer none] w fun e w' => e = .returned (.bool true) ∧ w = w' := by
  go_enter Try.func33, Try.ntmps33
  go_wp2
  go_ret
  exact ⟨ret_eq (by simp), rfl⟩

theorem now_any (bt g n c : Nat) (now : Int) (w : World) (h : w.cell? ⟨bt, 0, none⟩ = some (.slice (some ⟨g, 0, none⟩) n c)) (h1 : w.cell? ⟨bt, 1, none⟩ = some (.int .i64 now)) (hn : 0 < n) :
    Calls Try.prog 9 #[.pointer (some ⟨bt, 0, none⟩)] w fun e w' => e = .returned (.int .i64 now) ∧ w = w' := by
  have H := Lib.hid (none_no bt g n c w h hn)
  clear h hn
  go_enter Try.func9, Try.ntmps9
  go_wp2_with fail
  refine H.out.mono ?_
  rintro e w' ⟨rfl, rfl⟩
  go_wp2
  go_ret
  exact ⟨rfl, rfl⟩
theorem len_any (bt g n c : Nat) (w : World) (h : w.cell? ⟨bt, 0, none⟩ = some (.slice (some ⟨g, 0, none⟩) n c)) (hn : 0 < n) :
    Calls Try.prog 21 #[.pointer (some ⟨bt, 0, none⟩)] w fun e w' => e = .returned (.int .i64 n) ∧ w = w' := by
  have H := Lib.hid (none_no bt g n c w h hn)
  clear hn
  go_enter Try.func21, Try.ntmps21
  go_wp2_with fail
  refine H.out.mono ?_
  rintro e w' ⟨rfl, rfl⟩
  go_wp2
  go_ret
  exact ⟨rfl, rfl⟩

theorem row_lits {w : World} {e : TypeId} {size n : Nat} (cs : Array Value) (hl : cs.size = n * size) (hn : n ≤ 1000) : Row (w.alloc (.cells cs e)) 0 e size (.slice (some ⟨w.heap.size, 0, none⟩) n n) n cs.toList :=
  World.ownsRow_lit w cs n (Nat.zero_le _) (by unfold maxLen; omega) hl

theorem new_any (id : Int) (w : World) : Calls Try.prog 12 #[.int .i64 id] w fun e w' => e = .returned (.pointer (some ⟨w.heap.size + 1, 0, none⟩)) ∧ TI w' (fun i => w.heap.size ≤ i) (w.heap.size + 1) [⟨id, -1, -1, 0, []⟩] 0 ∧ Below w.heap.size w w' := by
  go_enter Try.func12, Try.ntmps12
  go_wp2
  go_ret
  refine ⟨rfl, ⟨⟨w.heap.size, 1, 1, [(.slice none 0 0, ⟨id, -1, -1, 0, []⟩)], ⟨rfl, by simp, by simp, fun j => by simp, ?_, ?_, by omega, ?_, ?_⟩, rfl, Nat.le_refl _, ?_⟩, by omega⟩, (below_alloc _ _).trans ((below_alloc _ _).mono (by simp))⟩
  · exact Row.alloc (row_lits (size := 5) (n := 1) _ rfl (by omega)) _
  · intro x hx
    rw [List.mem_singleton] at hx; subst hx
    exact Own.nil _ _ _ _
  · intro x hx
    rw [List.mem_singleton] at hx; subst hx
    exact ⟨by simp [Value.ownBlock], by simp [Value.ownBlock]⟩
  · intro i j x y hx hy hne
    have h1 := (List.getElem?_eq_some_iff.1 hx).1
    have h2 := (List.getElem?_eq_some_iff.1 hy).1
    simp at h1 h2; omega
  · intro x hx k hk
    rw [List.mem_singleton] at hx; subst hx
    simp [Value.ownBlock] at hk

end Go.Proofs.Ytjajlnhobchkgaa
