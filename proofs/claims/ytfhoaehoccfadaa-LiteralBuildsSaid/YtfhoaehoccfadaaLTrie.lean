/-
  the trie in memory; (*trie).add: the walk.
-/
import Derived.Test.YtfhoaehoccfadaaLKey
import Derived.Deep.RegionLaw
import Derived.BigRegion
import Derived.IntWalk
import Derived.WalkLawsBesides
namespace Go.Proofs.Ytfhoaehoccfadaa
open Go.RowKit Go.Maps
set_option linter.unusedVariables false
set_option linter.unusedSimpArgs false

theorem EI : Elt Try.prog 24 3 .i64 8 := ⟨Try.underlying24, info_parts (by kernel_rfl)⟩

theorem EIG : EltG Try.prog 24 3 (.int .i64 0) 1 8 := ⟨Try.underlying24, info_parts (by kernel_rfl), rfl, by decide⟩

theorem Row.addr {w : World} {base e size a n c m xs} (h : Row w base e size (.slice a n c) m xs) (hn : 0 < n) : ∃ g, a = some ⟨g, 0, none⟩ ∧ base ≤ g := by
  rcases h.2 with ⟨hv, h0⟩ | ⟨g, cap, cur, hv, hb, _⟩
  · cases hv; omega
  · cases hv; exact ⟨g, rfl, hb⟩
theorem Own.cellAt {w : World} {base e g n c} {k : IntKind} {l : List Int} (h : Own w base e k (.slice (some ⟨g, 0, none⟩) n c) l) (hn : n = l.length) {i : Nat} {x : Int} (hx : l[i]? = some x) : w.cell? ⟨g, i, none⟩ = some (.int k x) := by
  subst hn
  have hi : i < l.length := (List.getElem?_eq_some_iff.1 hx).1
  rw [World.ownsRow.cellAt h i (by simpa using hi), List.getElem?_map, hx]; rfl
/-- a row of integers behind an append, and where it lies -/
theorem own_app {w' : World} {base e g c n a' c' : _} {k : IntKind} {l : List Int} {x : Int} {B0 : Nat} (hn : n = l.length) (hr : Row w' base e 1 (.slice a' (n + 1) c') (n + 1) (l.map (Value.int k) ++ [.int k x]))
    (hat : (Value.slice a' (n + 1) c').ownBlock = (Value.slice (some ⟨g, 0, none⟩) n c).ownBlock ∨ (Value.slice a' (n + 1) c').ownBlock = some B0) :
    Own w' base e k (.slice a' (l ++ [x]).length c') (l ++ [x]) ∧ ∃ g', a' = some ⟨g', 0, none⟩ ∧ (g' = g ∨ g' = B0) := by
  subst hn
  refine ⟨by unfold Own; simpa using hr, ?_⟩
  obtain ⟨g', rfl, _⟩ := Row.addr hr (by omega)
  refine ⟨g', rfl, ?_⟩
  rcases hat with h | h
  · exact .inl (by simpa [Value.ownBlock] using h)
  · exact .inr (by simpa [Value.ownBlock] using h)

theorem bow {B : Nat} {a b : World} (h : Below B a b) (hB : B ≤ a.heap.size) {c : World} (k : Below a.heap.size b c) : Below B a c := h.trans (k.mono hB)

theorem ownsMap_fr {H : Type} {P : Program} {k : TypeId} {R : Value → Option (DataW H × List MemPlace)} {w w' : World} {b n : Nat} {D : DataW H} {S : Nat → Prop} (h : w.ownsMap P k R b n D) (hf : Fr S w w') (hn : ¬ S b) : w'.ownsMap P k R b n D := by
  obtain ⟨es, clock, hb, r⟩ := h
  exact ⟨es, clock, (hf.block b (Array.getElem?_eq_some_iff.1 hb).1 hn).trans hb, r⟩

/-- a store into a row of integers of the call's own -/
theorem store_int {P : Program} {w : World} {ops : Array Oper} {rest : List Oper} {o : Oper} {a : Act} {Q : Exit → Act → World → Prop} (hgd : o.guard = none) (ty : TypeId) (k : IntKind) (x y : Operand) (ho : o.op = .store ty x y)
    (g j : Nat) (hx : a.eval x = .pointer (some ⟨g, j, none⟩)) (u : Int) (hy : a.eval y = .int k u) (hi : (P.info? ty).map (·.size) = some 1)
    (base : Nat) (e : TypeId) (n cap : Nat) (l : List Int) (hown : Own w base e k (.slice (some ⟨g, 0, none⟩) n cap) l) (hn : n = l.length) (hj : j < l.length)
    (h : ∀ w', Own w' base e k (.slice (some ⟨g, 0, none⟩) n cap) (l.set j u) → w.grownBy w' (some g) → wpList P ops Q rest (a.put o.dst undef) w') : wpList P ops Q (o :: rest) a w := by
  subst hn
  refine store_row hgd ty x y ho g j hx (.int k u) hy [.int k u] rfl hi (by simp [Value.oneCell']) base e 1 l.length cap _ hown (by simp; omega) ?_
  intro w' hw' hg
  refine h w' ?_ hg
  unfold Own
  rw [List.length_set, List.map_set, List.set_eq_take_append_cons_drop, if_pos (by simpa using hj)]
  simpa using hw'

/-- the trie at block bt: its map at bm, how many patterns each word is at g, which letters occur -/
structure TM (B : Nat) (w : World) (bt bm g c : Nat) (W : List (List Int)) (E : List Int) (U : Nat → Bool) : Prop where
  c0 : w.cell? ⟨bt, 0, none⟩ = some (.map (some bm))
  c1 : w.cell? ⟨bt, 1, none⟩ = some (.slice (some ⟨g, 0, none⟩) E.length c)
  cu : ∀ b, b < 256 → w.cell? ⟨bt, 2 + b, none⟩ = some (.bool (U b))
  fz : ∀ j, w.frozen? ⟨bt, j, none⟩ = false
  own : Own w B 3 .i64 (.slice (some ⟨g, 0, none⟩) E.length c) E
  el : E.length = W.length
  map : ∃ D : DataW Unit, w.ownsMap Try.prog 69 (plainElem Try.prog 3) bm W.length D ∧ MapIs D W
  gb : g ≠ bt
  gm : g ≠ bm
  mb : bm ≠ bt
  bB : B ≤ bt
  mB : B ≤ bm

theorem TM.gB {B w bt bm g c W E U} (h : TM B w bt bm g c W E U) : B ≤ g ∧ g < w.heap.size := by
  have := Row.block_lt h.own (g := g) rfl
  omega
theorem TM.lt {B w bt bm g c W E U} (h : TM B w bt bm g c W E U) : bt < w.heap.size := World.block_lt_of_cell? w _ h.c0
theorem TM.mlt {B w bt bm g c W E U} (h : TM B w bt bm g c W E U) : bm < w.heap.size := by obtain ⟨D, h1, _⟩ := h.map; exact h1.lt

theorem TM.fr {B w w' bt bm g c W E U} {S : Nat → Prop} (h : TM B w bt bm g c W E U) (hf : Fr S w w') (h1 : ¬ S bt) (h2 : ¬ S bm) (h3 : ¬ S g) : TM B w' bt bm g c W E U := by
  obtain ⟨D, m1, m2⟩ := h.map
  exact ⟨hf.cell h.c0 h1, hf.cell h.c1 h1, fun b hb => hf.cell (h.cu b hb) h1, fun j => (hf.frozen (x := ⟨bt, j, none⟩) h.lt h1).trans (h.fz j), Row.fr h.own hf (fun k hk => by cases hk; exact h3), h.el, ⟨D, ownsMap_fr m1 hf h2, m2⟩, h.gb, h.gm, h.mb, h.bB, h.mB⟩
theorem TM.below {B w w' bt bm g c W E U} (h : TM B w bt bm g c W E U) (hb : Below w.heap.size w w') : TM B w' bt bm g c W E U :=
  h.fr (S := fun _ => False) (.of_below hb) (fun h => h) (fun h => h) (fun h => h)

theorem fr_set {w : World} {b j : Nat} {u : Value} : Fr (fun i => i = b) w (w.setCell ⟨b, j, none⟩ u) := Fr.setCell (S := fun i => i = b) (Fr.refl _ w) (p := ⟨b, j, none⟩) rfl u

/-- a letter is marked -/
theorem TM.mark {B w bt bm g c W E U} (h : TM B w bt bm g c W E U) {b : Nat} (hb : b < 256) : TM B (w.setCell ⟨bt, 2 + b, none⟩ (.bool true)) bt bm g c W E (fun x => U x || x == b) := by
  obtain ⟨D, m1, m2⟩ := h.map
  have hf := fr_set (w := w) (b := bt) (j := 2 + b) (u := .bool true)
  refine ⟨set_other (by simp) h.c0, set_other (by simp only [ne_eq, Addr.mk.injEq]; omega) h.c1, fun x hx => ?_, fun j => by rw [World.frozen?_setCell]; exact h.fz j, Row.fr h.own hf (fun k hk => by cases hk; exact h.gb), h.el, ⟨D, ownsMap_fr m1 hf h.mb, m2⟩, h.gb, h.gm, h.mb, h.bB, h.mB⟩
  by_cases e : x = b
  · subst e
    rw [set_same (h.cu x hx)]; simp
  · rw [set_other (by simp [Ne.symm e]) (h.cu x hx)]
    simp [e]

/-- a word is added: the map is written, the row of numbers has grown, its new place is stored -/
theorem TM.push {B w w1 w2 w3 bt bm g c W E U} (h : TM B w bt bm g c W E U) {D' : DataW Unit} {x : List Int} (hm : w1.ownsMap Try.prog 69 (plainElem Try.prog 3) bm (W.length + 1) D') (hg : w.grownBy w1 (some bm)) (hD : MapIs D' (W ++ [x]))
    (hb : Below w1.heap.size w1 w2) {a' c'} (ho : Own w3 B 3 .i64 (.slice a' (E ++ [0]).length c') (E ++ [0])) (hg3 : w2.grownBy w3 (some g)) (hat : ∃ g', a' = some ⟨g', 0, none⟩ ∧ (g' = g ∨ g' = w2.heap.size)) :
    ∃ g', a' = some ⟨g', 0, none⟩ ∧ TM B (w3.setCell ⟨bt, 1, none⟩ (.slice a' (E ++ [0]).length c')) bt bm g' c' (W ++ [x]) (E ++ [0]) U ∧ Fr (fun i => i = bm ∨ i = g ∨ i = bt) w (w3.setCell ⟨bt, 1, none⟩ (.slice a' (E ++ [0]).length c')) := by
  obtain ⟨g', rfl, hg'⟩ := hat
  have hlt := h.lt
  have hml := h.mlt
  have hgl := h.gB
  have h12 := hb.size
  have h01 := hg.size
  have hf1 : Fr (fun i => i = bm) w w1 := Fr.of_grown hg (fun k hk => by cases hk; rfl)
  have hf2 : Fr (fun i => i = bm) w w2 := hf1.trans (.of_below hb)
  have hf3 : Fr (fun i => i = bm ∨ i = g) w w3 := (hf2.mono fun i hi => .inl hi).trans ((Fr.of_grown hg3 (S := fun i => i = bm ∨ i = g) (fun k hk => by cases hk; exact .inr rfl)))
  have hbt : ¬ (bt = bm ∨ bt = g) := by have := h.mb; have := h.gb; omega
  have hg'b : g' ≠ bt := by rcases hg' with e | e; rw [e]; exact h.gb; omega
  have hg'm : g' ≠ bm := by rcases hg' with e | e; rw [e]; exact h.gm; omega
  have hfs := fr_set (w := w3) (b := bt) (j := 1) (u := .slice (some ⟨g', 0, none⟩) (E ++ [0]).length c')
  have hmap2 := hm.kept (row := none) (w' := w2) ⟨hb.os, hb.tape, hb.output, hb.size, fun k hk _ => hb.block k hk⟩ (by simp)
  have hmap3 := hmap2.kept hg3 (by have := h.gm; simp; omega)
  refine ⟨g', rfl, ⟨set_other (by simp) (hf3.cell h.c0 hbt), set_same (hf3.cell h.c1 hbt), fun b hb => set_other (by simp only [ne_eq, Addr.mk.injEq]; omega) (hf3.cell (h.cu b hb) hbt), fun j => by rw [World.frozen?_setCell]; exact (hf3.frozen (x := ⟨bt, j, none⟩) hlt hbt).trans (h.fz j),
    Row.fr ho hfs (fun k hk => by cases hk; exact hg'b), by simp [h.el], ⟨D', ?_, hD⟩, hg'b, hg'm, h.mb, h.bB, h.mB⟩, ?_⟩
  · have := ownsMap_fr hmap3 hfs h.mb
    rw [show (W ++ [x]).length = W.length + 1 by simp]; exact this
  · exact (hf3.mono (T := fun i => i = bm ∨ i = g ∨ i = bt) fun i hi => by rcases hi with e | e; exact .inl e; exact .inr (.inl e)).trans (hfs.mono fun i hi => .inr (.inr hi))

/-- a number is written -/
theorem TM.inc {B w w' bt bm g c W E U} (h : TM B w bt bm g c W E U) {E' : List Int} (hl : E'.length = E.length) (ho : Own w' B 3 .i64 (.slice (some ⟨g, 0, none⟩) E.length c) E') (hg : w.grownBy w' (some g)) : TM B w' bt bm g c W E' U := by
  obtain ⟨D, m1, m2⟩ := h.map
  have hf : Fr (fun i => i = g) w w' := Fr.of_grown hg (fun k hk => by cases hk; rfl)
  have h1 : ¬ bt = g := fun e => h.gb e.symm
  have h2 : ¬ bm = g := fun e => h.gm e.symm
  refine ⟨hf.cell h.c0 h1, by rw [hl]; exact hf.cell h.c1 h1, fun b hb => hf.cell (h.cu b hb) h1, fun j => (hf.frozen (x := ⟨bt, j, none⟩) h.lt h1).trans (h.fz j), by rw [hl]; exact ho, by rw [hl]; exact h.el, ⟨D, ownsMap_fr m1 hf h2, m2⟩, h.gb, h.gm, h.mb, h.bB, h.mB⟩

section
variable {w : World} {ops : Array Oper} {rest : List Oper} {o : Oper} {a : Act} {Q : Exit → Act → World → Prop}
/-- a look-up of a word that is there -/
theorem look_hit (hg : o.guard = none) (m x : Operand) (hop : o.op = Op.lookup 58 m x true) {bm : Nat} {W : List (List Int)} (hmap : ∃ D : DataW Unit, w.ownsMap Try.prog 69 (plainElem Try.prog 3) bm W.length D ∧ MapIs D W)
    (hm : a.eval m = .map (some bm)) (i : Nat) (b : Int) (hx : a.eval x = .agg #[.int .i64 i, .int .u8 b]) (hi : i < W.length) (hl : W.length < 4294967296) (h0 : 0 ≤ b) (h1 : b ≤ 255) (xw : List Int) (hxw : W.getD i [] ++ [b] = xw) (hmem : xw ∈ W)
    (hK : wpList Try.prog ops Q rest (a.put o.dst (.tuple #[.int .i64 (W.idxOf xw : Nat), .bool true])) w) : wpList Try.prog ops Q (o :: rest) a w := by
  subst hxw
  obtain ⟨D, hown, hM⟩ := hmap
  obtain ⟨g1, g2⟩ := hM i b (by omega) h0 h1
  refine wpList_lookup_own_ok_int w hg m x _ hop 69 3 .i64 klaw Try.underlying58 Try.underlying3 (zeroI _) bm _ D hm hown _ _ hx (keyOf_edge (wf_nat (by omega)) (wf_u8 h0 h1)) ?_
  intro c hat _
  rw [g2 hi hmem] at hat
  have hc : (W.idxOf (W.getD i [] ++ [b]) : Nat) = c := by simpa using hat
  rw [← hc, g1, decide_eq_true ⟨hi, hmem⟩]
  exact hK
theorem look_miss (hg : o.guard = none) (m x : Operand) (hop : o.op = Op.lookup 58 m x true) {bm : Nat} {W : List (List Int)} (hmap : ∃ D : DataW Unit, w.ownsMap Try.prog 69 (plainElem Try.prog 3) bm W.length D ∧ MapIs D W)
    (hm : a.eval m = .map (some bm)) (i : Nat) (b : Int) (hx : a.eval x = .agg #[.int .i64 i, .int .u8 b]) (hi : i < W.length) (hl : W.length < 4294967296) (h0 : 0 ≤ b) (h1 : b ≤ 255) (xw : List Int) (hxw : W.getD i [] ++ [b] = xw) (hmem : xw ∉ W)
    (hK : wpList Try.prog ops Q rest (a.put o.dst (.tuple #[.int .i64 0, .bool false])) w) : wpList Try.prog ops Q (o :: rest) a w := by
  subst hxw
  obtain ⟨D, hown, hM⟩ := hmap
  obtain ⟨g1, _⟩ := hM i b (by omega) h0 h1
  refine wpList_lookup_own_ok_int w hg m x _ hop 69 3 .i64 klaw Try.underlying58 Try.underlying3 (zeroI _) bm _ D hm hown _ _ hx (keyOf_edge (wf_nat (by omega)) (wf_u8 h0 h1)) ?_
  intro c hat _
  have hno : Maps.has D (kd i b) = false := by rw [g1, decide_eq_false_iff_not]; exact fun h => hmem h.2
  rw [atKey_of_not_has hno] at hat
  have hc : (0 : Int) = c := by simpa using hat
  rw [← hc, hno]
  exact hK
/-- a new word is written -/
theorem upd_edge (hg : o.guard = none) (m x v : Operand) (hop : o.op = Op.mapUpdate 58 m x v) {bm : Nat} {W : List (List Int)} (hmap : ∃ D : DataW Unit, w.ownsMap Try.prog 69 (plainElem Try.prog 3) bm W.length D ∧ MapIs D W) (hn : W.Nodup) (hc : Closed W)
    (hm : a.eval m = .map (some bm)) (i : Nat) (b : Int) (hx : a.eval x = .agg #[.int .i64 i, .int .u8 b]) (hv : a.eval v = .int .i64 (W.length : Nat)) (hi : i < W.length) (hl : W.length < 4294967296) (h0 : 0 ≤ b) (h1 : b ≤ 255) (xw : List Int) (hxw : W.getD i [] ++ [b] = xw) (hmem : xw ∉ W)
    (hK : ∀ w' D', w'.ownsMap Try.prog 69 (plainElem (H := Unit) Try.prog 3) bm (W.length + 1) D' → w.grownBy w' (some bm) → MapIs D' (W ++ [xw]) → wpList Try.prog ops Q rest (a.put o.dst undef) w') : wpList Try.prog ops Q (o :: rest) a w := by
  subst hxw
  obtain ⟨D, hown, hM⟩ := hmap
  refine wpList_mapUpdate_own w hg m x v _ hop 69 3 klaw Try.underlying58 _ bm _ D hm hown (by unfold maxLen; omega) _ _ _ hx hv (keyOf_edge (wf_nat (by omega)) (wf_u8 h0 h1)) _ [] (plainElem_int Try.underlying3 (wf_nat hl)) ?_
  intro w' ho hgr
  exact hK w' _ ho hgr (hM.put hown.isMap hn hc hl hi h0 h1 hmem)
end

end Go.Proofs.Ytfhoaehoccfadaa
